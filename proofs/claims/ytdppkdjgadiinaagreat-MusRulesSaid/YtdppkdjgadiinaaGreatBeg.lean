/- Package cycle: a class is begun. -/
import Derived.Test.YtdppkdjgadiinaaGreatCyc
set_option linter.unusedVariables false
set_option linter.unusedSimpArgs false
namespace Go.Proofs.YtdppkdjgadiinaaGreat
open Go.RowKit

/-- What 'begin' leaves. -/
def BeginPost (w : World) (F : Nat → Prop) (c : Nat) (s : Cl) (wk m0 m1 m2 m3 : Nat) (st : List (Int × Int)) (steps : Int) (bad : Bool) (r : Nat) (e : Ending) (w' : World) : Prop :=
  ∃ v, e = .returned (.agg #[.int .i64 r, v, .int .i64 0]) ∧ GRow (PartK c) w' v (s.parts r) ∧ (∀ k, v.ownBlock = some k → w.heap.size ≤ k) ∧ ClAt w' F c s ∧ WkP w' wk m0 m1 m2 m3 (mput st r 1) (tick64 steps) bad ∧ Chg (fun k => F k ∨ wkF wk m0 m1 m2 m3 k) w w'
set_option maxRecDepth 100000 in
set_option maxHeartbeats 1000000 in
theorem Wk_begin (w : World) (F : Nat → Prop) (c : Nat) (s : Cl) (wk m0 m1 m2 m3 : Nat) (st : List (Int × Int)) (steps : Int) (bad : Bool) (r : Nat) (h : ClAt w F c s) (hk : Cok s) (hr : r < s.whole.length) (hl : s.whole.length ≤ 1000000)
    (hw : WkP w wk m0 m1 m2 m3 st steps bad) (hd : ∀ k, wkF wk m0 m1 m2 m3 k → ¬ F k) :
    Calls Tryz.prog 106 #[.pointer (some ⟨wk, 0, none⟩), .agg #[.pointer (some ⟨c, 0, none⟩), .int .i64 r]] w (BeginPost w F c s wk m0 m1 m2 m3 st steps bad r) := by
  obtain ⟨w0, hw0⟩ : ∃ w0, w0 = (w.alloc (.cells #[.pointer (some ⟨c, 0, none⟩), .int .i64 r] 137)).alloc (.cells #[.int .i64 0, .slice none 0 0, .int .i64 0] 155) := ⟨_, rfl⟩
  have hB0 : Below w.heap.size w w0 := by rw [hw0]; exact ((Below.refl w.heap.size w).alloc (Nat.le_refl _) _).alloc (by simp) _
  have hx : Blk w0 w.heap.size 137 [.pointer (some ⟨c, 0, none⟩), .int .i64 r] := by rw [hw0]; exact (Blk.new _ _ _).alloc _
  have hy : Blk w0 (w.heap.size + 1) 155 [.int .i64 0, .slice none 0 0, .int .i64 0] := by rw [hw0]; exact Blk.new' _ _ _ (by simp)
  have hw1 := hw.keep hB0
  have hc1 := h.keep hB0
  have k4 := hw1.blk.cell 4
  have f4 := hw1.blk.frozen 4
  simp only [List.getElem?_cons_zero, List.getElem?_cons_succ] at k4
  have HW0 := Sh.mk hw0
  have H := Sh.mk h
  have HW := Sh.mk hw
  have HW1 := Sh.mk hw1
  have HC1 := Sh.mk hc1
  have HB0 := Sh.mk hB0
  have HX := Sh.mk hx
  have HY := Sh.mk hy
  have HK := Sh.mk hk
  have HRL := Sh.mk (And.intro hr hl)
  have HD := Sh.mk hd
  clear hw0 h hw hw1 hc1 hB0 hx hy hk hr hl hd
  go_enter Tryz.func106, Tryz.ntmps106
  go_upto_region 1 with (fail)
  rw [← HW0.out]
  clear HW0
  go_upto_region 2 with (fail)
  obtain ⟨w1, hw1⟩ : ∃ w1, w1 = w0.setCell ⟨wk, 4, none⟩ (.int .i64 (wrap64 (steps + 1))) := ⟨_, rfl⟩
  have HWK1 : Sh (WkP w1 wk m0 m1 m2 m3 st (tick64 steps) bad) := ⟨by rw [hw1]; exact HW1.out.set4 _⟩
  have HNW : Sh (∀ k, w.heap.size ≤ k → k ≠ wk) := ⟨fun k hk e => by have := HW.out.blk.lt; omega⟩
  have HX1 : Sh (Blk w1 w.heap.size 137 [.pointer (some ⟨c, 0, none⟩), .int .i64 r]) := ⟨by rw [hw1]; exact HX.out.far (HNW.out _ (Nat.le_refl _)) _⟩
  have HY1 : Sh (Blk w1 (w.heap.size + 1) 155 [.int .i64 0, .slice none 0 0, .int .i64 0]) := ⟨by rw [hw1]; exact HY.out.far (HNW.out _ (by omega)) _⟩
  have HCL1 : Sh (ClAt w1 F c s) := ⟨by rw [hw1]; exact HC1.out.step (fun k hk => Below.heap_setCell _ _ _ _ (fun e => HD.out wk (.inl rfl) (by subst e; exact hk))) (by simp)⟩
  have HG1 : Sh (Chg (wkF wk m0 m1 m2 m3) w w1) := ⟨by rw [hw1]; exact (Chg.of_below HB0.out).setCell (.inl (.inl rfl)) _⟩
  have HW1' := Sh.mk hw1
  rw [← hw1]
  clear hw1
  clear HW1' k4 f4
  have q0 := HWK1.out.blk.cell 0
  have b0 := HX1.out.cell 0
  have b1 := HX1.out.cell 1
  simp only [List.getElem?_cons_zero, List.getElem?_cons_succ] at q0 b0 b1
  go_region_held3 (fun w' => w'.cell? ⟨wk, 0, none⟩ = some (.map (some m0)) ∧ w'.cell? ⟨w.heap.size, 0, none⟩ = some (.pointer (some ⟨c, 0, none⟩)) ∧ w'.cell? ⟨w.heap.size, 1, none⟩ = some (.int .i64 r)) (first | exact ⟨q0, b0, b1⟩ | exact ⟨p0, p1, p2⟩) (first
    | (go_at_call 105; refine (Part_Id _ c r).mono ?_; rintro e w2 ⟨rfl, hw2⟩; have hB2 : Below w1.heap.size w1 w2 := (by rw [hw2]; exact ((Below.refl w1.heap.size w1).drew).alloc (Nat.le_refl _) _); have hk2 := HWK1.out.keep hB2; have hx2 := HX1.out.keep hB2; have q0 := hk2.blk.cell 0; have b0 := hx2.cell 0; have b1 := hx2.cell 1; (simp only [List.getElem?_cons_zero, List.getElem?_cons_succ] at q0 b0 b1); obtain ⟨w3, hr3, hM3, hC3, hs3⟩ := mapUpdate_run (P := Tryz.prog) hk2.a0 Tryz.underlying105 Tryz.underlying3 r 1; have hk3 := hk2.put0 hC3 hM3; have hx3 : Blk w3 w.heap.size 137 [.pointer (some ⟨c, 0, none⟩), .int .i64 r] := (hC3.block _ hx2.lt (fun e => hk2.a0.ne_blk hx2 e.symm)).trans hx2; have p0 := hk3.blk.cell 0; have p1 := hx3.cell 0; have p2 := hx3.cell 1; (simp only [List.getElem?_cons_zero, List.getElem?_cons_succ] at p0 p1 p2); have HB2 := Sh.mk hB2; have HC3 := Sh.mk hC3; have HS3 := Sh.mk hs3; have HK3 := Sh.mk hk3; have HX3 := Sh.mk hx3; have HK2 := Sh.mk hk2; clear hw2 hB2 hk2 hx2 hM3 hC3 hs3 hk3 hx3)
    | fail)
  go_upto_region 3 with (fail)
  have hlow : ∀ k, k < w1.heap.size → k ≠ m0 → w3.heap[k]? = w1.heap[k]? := fun k hk hn => (HC3.out.block k (by have := HB2.out.size; omega) hn).trans (HB2.out.block k hk)
  have hs13 : w1.heap.size ≤ w3.heap.size := by have := HB2.out.size; have := HS3.out; omega
  have hm0 : m0 < w.heap.size := HW.out.lt m0 (.inr (.inl rfl))
  have HY3 : Sh (Blk w3 (w.heap.size + 1) 155 [.int .i64 0, .slice none 0 0, .int .i64 0]) := ⟨(hlow _ HY1.out.lt (by omega)).trans HY1.out⟩
  have HCL3 : Sh (ClAt w3 F c s) := ⟨HCL1.out.step (fun k hk => hlow k (HCL1.out.lt k hk) (fun e => HD.out m0 (.inr (.inl rfl)) (e ▸ hk))) hs13⟩
  have HG3 : Sh (Chg (wkF wk m0 m1 m2 m3) w w3) := ⟨(HG1.out.thenBelow HB2.out).trans HC3.out (fun k hk _ => .inl (.inr (.inl hk)))⟩
  have HWS : Sh (w.heap.size + 1 < w1.heap.size ∧ w1.heap.size ≤ w3.heap.size) := ⟨HY1.out.lt, hs13⟩
  clear hlow hs13 hm0 HB2 HC3 HS3 HK2 HWK1 HX1 HY1 HCL1 HG1 hr3 q0 b0 b1 HW1 HC1 HB0 HX HY
  go_region_held3 (fun w' => w'.cell? ⟨w.heap.size, 0, none⟩ = some (.pointer (some ⟨c, 0, none⟩)) ∧ w'.cell? ⟨w.heap.size, 1, none⟩ = some (.int .i64 r)) (first | exact ⟨p1, p2⟩ | exact ⟨b0, b1⟩ | exact ⟨x0, x1⟩ | (constructor <;> (rw [World.cell?_setCell_far _ _ _ _ (by simp), World.cell?_setCell_far _ _ _ _ (by simp), World.cell?_setCell_far _ _ _ _ (by simp)]; assumption))) (first
    | (go_at_call 105; refine (Part_Id _ c r).mono ?_; rintro e w4 ⟨rfl, hw4⟩; have hB4 := (show Below w3.heap.size w3 w4 from (by rw [hw4]; exact ((Below.refl w3.heap.size w3).drew).alloc (Nat.le_refl _) _)); have hx4 := HX3.out.keep hB4; have b0 := hx4.cell 0; have b1 := hx4.cell 1; (simp only [List.getElem?_cons_zero, List.getElem?_cons_succ] at b0 b1); have HB4 := Sh.mk hB4; have HX4 := Sh.mk hx4; have HY4 := Sh.mk (HY3.out.keep hB4); have HCL4 := Sh.mk (HCL3.out.keep hB4); have HK4 := Sh.mk (HK3.out.keep hB4); clear hw4 hB4 hx4)
    | (go_at_call 113; refine (Part_Parts _ F c s r HCL4.out HK.out HRL.out.1 HRL.out.2).mono ?_; rintro e w5 ⟨v5, rfl, hg5, hv5, hc5, hd5⟩; have hx5 : Blk w5 w.heap.size 137 [.pointer (some ⟨c, 0, none⟩), .int .i64 r] := (hd5.block _ HX4.out.lt (fun e => by have := H.out.lt _ e; omega)).trans HX4.out; have hy5 : Blk w5 (w.heap.size + 1) 155 [.int .i64 0, .slice none 0 0, .int .i64 0] := (hd5.block _ HY4.out.lt (fun e => by have := H.out.lt _ e; omega)).trans HY4.out; have x0 := hx5.cell 0; have x1 := hx5.cell 1; have y0 := hy5.cell 0; have y1 := hy5.cell 1; have y2 := hy5.cell 2; have z0 := hy5.frozen 0; have z1 := hy5.frozen 1; have z2 := hy5.frozen 2; (simp only [List.getElem?_cons_zero, List.getElem?_cons_succ] at x0 x1 y0 y1 y2); have HG5 := Sh.mk hg5; have HV5 := Sh.mk hv5; have HC5 := Sh.mk hc5; have HD5 := Sh.mk hd5; have HX5 := Sh.mk hx5; have HY5 := Sh.mk hy5; clear hg5 hv5 hc5 hd5 hx5 hy5; obtain ⟨A5, c5, rfl⟩ := HG5.out.shape)
    | fail)
  go_wp2
  have hs4 := HB4.out.size
  have hs5 := HD5.out.size
  have hws := HWS.out
  have hF5 : ∀ k, F k → k ≠ w.heap.size + 1 := fun k hk e => by have := H.out.lt k hk; omega
  have hW5 : ∀ k, wkF wk m0 m1 m2 m3 k → k ≠ w.heap.size + 1 := fun k hk e => by have := HW.out.lt k hk; omega
  have hV : ∀ k, (Value.slice A5 (s.parts r).length c5).ownBlock = some k → w.heap.size + 1 < k := fun k hk => by have := (HV5.out k hk).1; omega
  have far3 : ∀ k, k ≠ w.heap.size + 1 → (((w5.setCell ⟨w.heap.size + 1, 0, none⟩ (.int .i64 r)).setCell ⟨w.heap.size + 1, 1, none⟩ (.slice A5 (s.parts r).length c5)).setCell ⟨w.heap.size + 1, 2, none⟩ (.int .i64 0)).heap[k]? = w5.heap[k]? := fun k hk => by
    rw [Below.heap_setCell _ _ _ _ hk, Below.heap_setCell _ _ _ _ hk, Below.heap_setCell _ _ _ _ hk]
  refine bodyPost_ret (v := .agg #[.int .i64 r, .slice A5 (s.parts r).length c5, .int .i64 0]) (by simp [results, Tryz.results106, go_sem, *]) rfl ⟨_, rfl, ?_, fun k hk => by have := hV k hk; omega, ?_, ?_, ?_⟩
  · exact HG5.out.step (fun k hk => far3 k (fun e => by have := hV k hk; omega))
  · exact HC5.out.step (fun k hk => far3 k (hF5 k hk)) (by simp)
  · exact (HK4.out.chg HD5.out HD.out).step (fun k hk => far3 k (hW5 k hk))
  · refine ((((((HG3.out.mono (F' := fun k => F k ∨ wkF wk m0 m1 m2 m3 k) (fun k hk _ => .inr hk)).thenBelow HB4.out).trans HD5.out (fun k hk _ => .inl (.inl hk))).setCell (p := ⟨w.heap.size + 1, 0, none⟩) (.inr (by simp)) _).setCell (p := ⟨w.heap.size + 1, 1, none⟩) (.inr (by simp)) _).setCell (p := ⟨w.heap.size + 1, 2, none⟩) (.inr (by simp)) _)
end Go.Proofs.YtdppkdjgadiinaaGreat
