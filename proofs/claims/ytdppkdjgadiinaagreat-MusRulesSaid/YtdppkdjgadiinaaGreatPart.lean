/- Package unify: what is asked of a closure. -/
import Derived.Test.YtdppkdjgadiinaaGreatRow
set_option linter.unusedVariables false
set_option linter.unusedSimpArgs false
namespace Go.Proofs.YtdppkdjgadiinaaGreat
open Go.RowKit

theorem Clo_Steps (w : World) (F : Nat → Prop) (c : Nat) (s : Cl) (h : ClAt w F c s) :
    Calls Tryz.prog 50 #[.pointer (some ⟨c, 0, none⟩)] w fun e w' => e = .returned (.int .i64 s.steps) ∧ w' = w := by
  obtain ⟨FG, FF, g, m, f, vw, h, hF⟩ := h.is
  have c0 := h.blk.cell 0
  simp only [List.getElem?_cons_zero, List.getElem?_cons_succ] at c0
  clear h hF
  go_enter Tryz.func50, Tryz.ntmps50
  go_wp2
  go_ret
  exact ⟨rfl, rfl⟩
theorem Clo_node (w : World) (F : Nat → Prop) (c : Nat) (s : Cl) (v : Int) (h : ClAt w F c s) (hc : s.clash = false) :
    Calls Tryz.prog 112 #[.pointer (some ⟨c, 0, none⟩), .int .i64 v] w fun e w' => e = .returned (.tuple #[.int .i64 (((mget s.G.2 v).getD 0 : Nat) : Int), .bool (mget s.G.2 v).isSome]) ∧ w' = w := by
  have HE := Clo_Err w F c s h
  rw [hc] at HE
  have HE := Sh.mk HE
  obtain ⟨FG, FF, g, m, f, vw, h, hF⟩ := h.is
  have c1 := h.blk.cell 1
  simp only [List.getElem?_cons_zero, List.getElem?_cons_succ] at c1
  have HV := Sh.mk (Graph_Var w FG g m s.G.1 s.G.2 v h.gr)
  clear h hF hc
  go_enter Tryz.func112, Tryz.ntmps112
  go_wp2_with (first | (go_at_call 65; refine HE.out.mono ?_; rintro e w3 ⟨rfl, rfl⟩) | (go_at_call 115; refine HV.out.mono ?_; rintro e w3 ⟨rfl, rfl⟩))
  go_ret2
  exact ⟨rfl, rfl⟩
theorem Clo_Part (w : World) (F : Nat → Prop) (c : Nat) (s : Cl) (v : Int) (i r : Nat) (h : ClAt w F c s) (hc : s.clash = false) (hi : mget s.G.2 v = some i) (hr : s.rt[i]? = some (r : Int)) :
    Calls Tryz.prog 104 #[.pointer (some ⟨c, 0, none⟩), .int .i64 v] w fun e w' => e = .returned (.tuple #[.agg #[.pointer (some ⟨c, 0, none⟩), .int .i64 r], .bool true]) ∧ ClAt w' F c s ∧ Chg F w w' := by
  obtain ⟨w0, hw0⟩ : ∃ w0, w0 = w.alloc (.cells #[.pointer none, .int .i64 0] 137) := ⟨_, rfl⟩
  have hb : Below w.heap.size w w0 := by rw [hw0]; exact (Below.refl _ _).alloc (Nat.le_refl _) _
  have hx : Blk w0 w.heap.size 137 [.pointer none, .int .i64 0] := by rw [hw0]; exact Blk.new _ _ _
  have hk := h.keep hb
  have HN := Clo_node w0 F c s v hk hc
  rw [hi] at HN
  simp only [Option.getD_some, Option.isSome_some] at HN
  have HN := Sh.mk HN
  have HK := Sh.mk hk
  have HB := Sh.mk hb
  have HR := Sh.mk hr
  have HX := Sh.mk hx
  have H := Sh.mk h
  rw [hw0] at HN HK HB HX
  clear h hc hi hr hb hx hk hw0
  go_enter Tryz.func104, Tryz.ntmps104
  go_wp2_with (first | (go_at_call 112; refine HN.out.mono ?_; rintro e w3 ⟨rfl, rfl⟩) | (go_at_call 86; refine (Clo_root _ F c s i r HK.out HR.out).mono ?_; rintro e w4 ⟨rfl, hc4, hd4⟩; have hnf : ¬ F w.heap.size := fun e => (by have := H.out.lt _ e; omega); have hx4 := (show Blk w4 _ _ _ from (hd4.block _ HX.out.lt hnf).trans HX.out); have x0 := hx4.cell 0; have x1 := hx4.cell 1; have f0 := hx4.frozen 0; have f1 := hx4.frozen 1; (simp only [List.getElem?_cons_zero, List.getElem?_cons_succ] at x0 x1); have KC := Sh.mk hc4; have KD := Sh.mk hd4; have KX := Sh.mk hx4; have KN := Sh.mk hnf; clear hc4 hd4 hx4 hnf))
  have hf := (KX.out.set_ 0 (.pointer (some ⟨c, 0, none⟩))).set_ 1 (.int .i64 r)
  have z0 := hf.cell 0
  have z1 := hf.cell 1
  simp only [List.set_cons_zero, List.set_cons_succ, List.getElem?_cons_zero, List.getElem?_cons_succ] at z0 z1
  refine bodyPost_ret (v := .tuple #[.agg #[.pointer (some ⟨c, 0, none⟩), .int .i64 r], .bool true]) (by simp [results, Tryz.results104, go_sem, *]) rfl ⟨rfl, ?_, ?_⟩
  · have u1 : ClAt (w4.setCell ⟨w.heap.size, 0, none⟩ (.pointer (some ⟨c, 0, none⟩))) F c s := KC.out.step (fun k hk => Below.heap_setCell w4 ⟨w.heap.size, 0, none⟩ _ k (fun e => KN.out ((show k = w.heap.size from e) ▸ hk))) (by simp)
    exact u1.step (fun k hk => Below.heap_setCell _ ⟨w.heap.size, 1, none⟩ _ k (fun e => KN.out ((show k = w.heap.size from e) ▸ hk))) (by simp)
  · exact (((Chg.of_below HB.out).trans KD.out (fun k hk _ => .inl hk)).setCell (p := ⟨w.heap.size, 0, none⟩) (.inr (Nat.le_refl _)) _).setCell (p := ⟨w.heap.size, 1, none⟩) (.inr (Nat.le_refl _)) _
theorem Part_Id (w : World) (c r : Nat) : Calls Tryz.prog 105 #[.agg #[.pointer (some ⟨c, 0, none⟩), .int .i64 r]] w fun e w' => e = .returned (.int .i64 r) ∧ w' = w.alloc (.cells #[.pointer (some ⟨c, 0, none⟩), .int .i64 r] 137) := by
  go_enter Tryz.func105, Tryz.ntmps105
  go_wp2
  go_ret
  exact ⟨rfl, rfl⟩
/-- A part's kind. -/
def Cl.kind (s : Cl) (r : Nat) : Int := if s.whole.getD r 0 < 0 then 0 else kindOf s.G.1 (s.whole.getD r 0).toNat
def Cl.parts (s : Cl) (r : Nat) : List Nat := if s.kind r = 0 then [] else (partsOf s.G.1 (s.whole.getD r 0).toNat).map (rtN s)
theorem Part_Kind (w : World) (F : Nat → Prop) (c : Nat) (s : Cl) (r : Nat) (h : ClAt w F c s) (hk : Cok s) (hr : r < s.whole.length) (hl : s.whole.length ≤ 1000000) :
    Calls Tryz.prog 116 #[.agg #[.pointer (some ⟨c, 0, none⟩), .int .i64 r]] w fun e w' => e = .returned (.int .i64 (s.kind r)) ∧ Below w.heap.size w w' := by
  have hal := (Below.refl w.heap.size w).alloc (Nat.le_refl _) (.cells #[.pointer (some ⟨c, 0, none⟩), .int .i64 r] 137)
  obtain ⟨FG, FF, g, m, f, vw, h, hF⟩ := (h.keep hal).is
  have hx : s.whole[r]? = some (s.whole.getD r 0) := by rw [List.getD_eq_getElem?_getD, List.getElem?_eq_getElem hr]; rfl
  have hw := hk.whole hx
  obtain ⟨x, hxx⟩ : ∃ x, x = s.whole.getD r 0 := ⟨_, rfl⟩
  have HS : Sh (s.kind r = if x < 0 then 0 else kindOf s.G.1 x.toNat) := ⟨by rw [hxx]; rfl⟩
  rw [← hxx] at hx hw
  obtain ⟨bw, cw, rfl, hca, hfa⟩ := h.wh.at hx
  have c1 := h.blk.cell 1
  have c3 := h.blk.cell 3
  simp only [List.getElem?_cons_zero, List.getElem?_cons_succ] at c1 c3
  have b := Blk.new w 137 [.pointer (some ⟨c, 0, none⟩), .int .i64 r]
  have b0 := b.cell 0
  have b1 := b.cell 1
  simp only [List.getElem?_cons_zero, List.getElem?_cons_succ] at b0 b1
  have H := Sh.mk h
  have HAL := Sh.mk hal
  rcases hw with rfl | ⟨n, nd, rfl, hn, _⟩
  · clear hal hF hk hxx hx hfa b h
    go_enter Tryz.func116, Tryz.ntmps116
    go_wp2_with fail
    go_quiet (fail)
    go_wp2
    go_ret
    rw [HS.out]
    exact ⟨rfl, Below.drewN' HAL.out nq⟩
  · have HK : Sh (s.kind r = nd.kind) := ⟨by rw [HS.out, if_neg (by omega)]; simp [kindOf, hn]⟩
    have hnn : ¬ (n : Int) < 0 := by omega
    have HG := Sh.mk h.gr
    have HN := Sh.mk hn
    clear hal hF hk hxx hx hfa b h hn
    go_enter Tryz.func116, Tryz.ntmps116
    go_wp2_with fail
    go_quiet (fail)
    go_wp2_with fail
    obtain ⟨W, hW⟩ : ∃ W, W = (w.alloc (.cells #[.pointer (some ⟨c, 0, none⟩), .int .i64 r] 137)).drewN nq := ⟨_, rfl⟩
    have d1 : W.cell? ⟨c, 1, none⟩ = some (.pointer (some ⟨g, 0, none⟩)) := by rw [hW]; exact c1
    have d3 : W.cell? ⟨c, 3, none⟩ = some (.slice (some ⟨bw, 0, none⟩) s.whole.length cw) := by rw [hW]; exact c3
    have d4 : W.cell? ⟨bw, r, none⟩ = some (.int .i64 n) := by rw [hW]; exact hca
    have d5 : W.cell? ⟨w.heap.size, 0, none⟩ = some (.pointer (some ⟨c, 0, none⟩)) := by rw [hW]; exact b0
    have d6 : W.cell? ⟨w.heap.size, 1, none⟩ = some (.int .i64 r) := by rw [hW]; exact b1
    have HKX := Sh.mk (fun q : Nat => Graph_Kind (W.drewN q) FG g m _ _ n nd (HG.out.step (w' := W.drewN q) (fun _ _ => by rw [hW]; rfl) (by rw [hW]; exact Nat.le_refl _)) HN.out)
    have HB := Sh.mk (show Below w.heap.size w W by rw [hW]; exact Below.drewN' HAL.out nq)
    rw [← hW]
    clear hW c1 c3 hca b0 b1
    go_quiet (first | (go_at_call 85; exact Calls.quiet_of_same (HKX.out _)))
    go_wp2
    go_ret
    rw [HK.out]
    exact ⟨rfl, Below.drewN' HB.out _⟩
end Go.Proofs.YtdppkdjgadiinaaGreat
