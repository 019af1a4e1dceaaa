/- Package cycle: the walk from a class. -/
import Derived.Test.YtdppkdjgadiinaaGreatWstep
set_option linter.unusedVariables false
set_option linter.unusedSimpArgs false
namespace Go.Proofs.YtdppkdjgadiinaaGreat
open Go.RowKit

theorem parts_lt {s : Cl} (hk : Cok s) {r q : Nat} (hr : r < s.whole.length) (hq : q ∈ s.parts r) : q < s.whole.length := by
  unfold Cl.parts at hq
  split at hq
  · simp at hq
  · rename_i hk0
    obtain ⟨p, hp, rfl⟩ := List.mem_map.1 hq
    have e : s.whole[r]? = some (s.whole.getD r 0) := by rw [List.getD_eq_getElem?_getD, List.getElem?_eq_getElem hr]; rfl
    have hw := hk.wh r _ e
    have hx : ¬ s.whole.getD r 0 < 0 := fun hn => hk0 (by unfold Cl.kind; rw [if_pos hn])
    rcases hw with e1 | ⟨n, e1, e2⟩
    · omega
    · have h1 := (partsOf_wf hk.nodes (x := (s.whole.getD r 0).toNat) (by omega)).2 p hp
      have h2 := (hk.rtN h1).2.1
      have := hk.whl
      omega
theorem cell_alloc {w : World} {a : Addr} {x : Value} (h : w.cell? a = some x) (hb : a.block < w.heap.size) (o : Obj) : (w.alloc o).cell? a = some x := by
  rw [← h]
  unfold World.cell?
  rw [Below.heap_alloc w o a.block hb]
/-- The frames, and the machine's state. -/
structure WkS (w : World) (F : Nat → Prop) (c : Nat) (s : Cl) (wk m0 m1 m2 m3 : Nat) (y : Wk) (x : Wk) (steps : Int) (fs : List Fr) (v : Value) (wr : World) : Prop where
  mem : WkL w F c s wk m0 m1 m2 m3 x.st steps x.bad fs v wr
  stk : x.stack = fs.map fun f => (f.id, f.next)
  ends : x.Ends s.parts
  fin : x.finish s.parts = y
  inv : x.Inv
/-- At the outer loop's head: so many steps are to come. -/
def WkO (w : World) (F : Nat → Prop) (c : Nat) (s : Cl) (wk m0 m1 m2 m3 : Nat) (y : Wk) (v : Value) (wr : World) (m : Nat) : Prop :=
  ∃ x steps fs, WkS w F c s wk m0 m1 m2 m3 y x steps fs v wr ∧ x.steps = (if fs = [] then steps else tick64 steps) ∧ x.todo s.parts = m
/-- At the inner loop's head. -/
def WkI (w : World) (F : Nat → Prop) (c : Nat) (s : Cl) (wk m0 m1 m2 m3 : Nat) (y : Wk) (rest : List Fr) (M : Nat) (v : Value) (wr : World) (m : Nat) : Prop :=
  ∃ x f, WkS w F c s wk m0 m1 m2 m3 y x x.steps (f :: rest) v wr ∧ x.todo s.parts ≤ M ∧ x.todo s.parts = m
def WalkPost (w : World) (F : Nat → Prop) (c : Nat) (s : Cl) (wk m0 m1 m2 m3 : Nat) (y : Wk) (e : Ending) (w' : World) : Prop :=
  e = .returned (.tuple #[]) ∧ ClAt w' F c s ∧ WkP w' wk m0 m1 m2 m3 y.st y.steps y.bad ∧ Chg (fun k => F k ∨ wkF wk m0 m1 m2 m3 k) w w'
set_option maxRecDepth 100000 in
set_option maxHeartbeats 1000000 in
theorem Wk_walk (w : World) (F : Nat → Prop) (c : Nat) (s : Cl) (wk m0 m1 m2 m3 : Nat) (x : Wk) (r : Nat) (h : ClAt w F c s) (hk : Cok s) (hr : r < s.whole.length) (hl : s.whole.length ≤ 1000000)
    (hw : WkP w wk m0 m1 m2 m3 x.st x.steps x.bad) (hd : ∀ k, wkF wk m0 m1 m2 m3 k → ¬ F k) (hE : (x.enter r).Ends s.parts) :
    Calls Tryz.prog 91 #[.pointer (some ⟨wk, 0, none⟩), .agg #[.pointer (some ⟨c, 0, none⟩), .int .i64 r]] w (WalkPost w F c s wk m0 m1 m2 m3 (x.goes s.parts r)) := by
  obtain ⟨w0, hw0⟩ : ∃ w0, w0 = w.alloc (.cells #[.pointer (some ⟨c, 0, none⟩), .int .i64 r] 137) := ⟨_, rfl⟩
  have hB0 : Below w.heap.size w w0 := by rw [hw0]; exact (Below.refl w.heap.size w).alloc (Nat.le_refl _) _
  have hx : Blk w0 w.heap.size 137 [.pointer (some ⟨c, 0, none⟩), .int .i64 r] := by rw [hw0]; exact Blk.new _ _ _
  have hF : ∀ k, F k ∨ wkF wk m0 m1 m2 m3 k → k < w.heap.size := fun k hk => hk.elim (h.lt k) (hw.lt k)
  have k0 := (hw.keep hB0).blk.cell 0
  have b0 := hx.cell 0
  have b1 := hx.cell 1
  simp only [List.getElem?_cons_zero, List.getElem?_cons_succ] at k0 b0 b1
  have HW0 := Sh.mk hw0
  have HB0 := Sh.mk hB0
  have HX := Sh.mk hx
  have HC0 := Sh.mk (h.keep hB0)
  have HK0 := Sh.mk (hw.keep hB0)
  have HK := Sh.mk hk
  have HRL := Sh.mk (And.intro hr hl)
  have HD := Sh.mk hd
  have HE := Sh.mk hE
  have HF := Sh.mk hF
  obtain ⟨a, ha⟩ : ∃ a, a = x.at r := ⟨_, rfl⟩
  have HA := Sh.mk ha
  clear ha h hk hr hl hw hd hE hw0 hB0 hx hF
  go_enter Tryz.func91, Tryz.ntmps91
  go_upto_region 1 with (fail)
  rw [← HW0.out]
  clear HW0
  by_cases ha0 : a = 0
  · have hne : (a != 0) = false := by simp [ha0]
    have HA0 := Sh.mk ha0
    clear ha0
    go_step3
    go_wp2
    go_region_held3 (fun w' => w'.cell? ⟨wk, 0, none⟩ = some (.map (some m0)) ∧ w'.cell? ⟨w.heap.size, 0, none⟩ = some (.pointer (some ⟨c, 0, none⟩)) ∧ w'.cell? ⟨w.heap.size, 1, none⟩ = some (.int .i64 r)) (first | exact ⟨k0, b0, b1⟩) (first
      | (go_at_call 105; refine (Part_Id _ c r).mono ?_; rintro e w4 ⟨rfl, hw4⟩; have hB4 := (show Below w0.heap.size w0 w4 from (by rw [hw4]; exact ((Below.refl w0.heap.size w0).drew).alloc (Nat.le_refl _) _)); have hk4 := HK0.out.keep hB4; have hx4 := HX.out.keep hB4; have hlk := look_state hk4.a0 r; rw [show (mget x.st (r : Int)).getD 0 = a from HA.out.symm] at hlk; have k0 := hk4.blk.cell 0; have b0 := hx4.cell 0; have b1 := hx4.cell 1; (simp only [List.getElem?_cons_zero, List.getElem?_cons_succ] at k0 b0 b1); have HC4 := Sh.mk (HC0.out.keep hB4); have HB4 := Sh.mk (below_then HB0.out hB4); have HK4 := Sh.mk hk4; have HX4 := Sh.mk hx4; clear hw4 hB4 hk4 hx4)
      | fail)
    clear k0 b0 b1 hlk hne HX HB0 HC0 HK0
    go_wp2_with (first
      | (go_at_call 106; refine (Wk_begin _ F c s wk m0 m1 m2 m3 _ _ _ r (HC4.out) HK.out HRL.out.1 HRL.out.2 HK4.out HD.out).mono ?_; rintro e w5 ⟨v5, rfl, n1, n2, n3, n4, n5⟩; have N1 := Sh.mk n1; have N2 := Sh.mk n2; have N3 := Sh.mk n3; have N4 := Sh.mk n4; have N5 := Sh.mk n5; (obtain ⟨A5, c5, rfl⟩ := n1.shape); clear n1 n2 n3 n4 n5))
    obtain ⟨n5, hn5⟩ : ∃ n5, n5 = (s.parts r).length := ⟨_, rfl⟩
    rw [← hn5] at N1 N2 ⊢
    obtain ⟨w6, hw6⟩ : ∃ w6, w6 = w5.alloc (.cells #[.int .i64 r, .slice A5 n5 c5, .int .i64 0] 155) := ⟨_, rfl⟩
    rw [← hw6]
    obtain ⟨y, hy⟩ : ∃ y, y = x.goes s.parts r := ⟨_, rfl⟩
    rw [← hy]
    have hB6 : Below w5.heap.size w5 w6 := by rw [hw6]; exact (Below.refl w5.heap.size w5).alloc (Nat.le_refl _) _
    have hrow : GRow FrameK w6 (.slice (some ⟨w5.heap.size, 0, none⟩) 1 1) [⟨r, A5, n5, c5, 0⟩] := by rw [hw6]; exact GRow.lit FrameK_ok w5 ⟨r, A5, n5, c5, 0⟩
    have HST : Sh (∃ m, WkO w F c s wk m0 m1 m2 m3 y (.slice (some ⟨w5.heap.size, 0, none⟩) 1 1) w6 m) := by
      have z1 := HX4.out.lt
      have z2 := N5.out.size
      refine ⟨⟨_, x.enter r, tick64 x.steps, [⟨r, A5, n5, c5, 0⟩], ⟨⟨N3.out.keep hB6, N4.out.keep hB6, hrow, fun b hb => ?_, fun f hf => ?_, ((Chg.of_below HB4.out).trans N5.out (fun k hk _ => .inl hk)).thenBelow hB6⟩, rfl, HE.out, ?_, ?_⟩, rfl, rfl⟩⟩
      · have : w5.heap.size = b := by simpa [Value.ownBlock] using hb
        omega
      · simp only [List.mem_singleton] at hf
        subst hf
        refine ⟨N1.out.keep hB6, hn5, HRL.out.1, fun b hb => ⟨?_, fun e => ?_⟩⟩
        · have := N2.out b hb
          omega
        · have e2 : w5.heap.size = b := by simpa [Value.ownBlock] using e
          have := N1.out.lt b hb
          omega
      · rw [hy, Wk.goes, if_pos (by rw [← HA.out, HA0.out])]
      · exact Wk.Inv.enter x r
    have HY := Sh.mk hy
    clear hn5 hw6 hy hB6 hrow N1 N2 N3 N4 N5 HX4 HK4 HB4 HC4
    go_step3
    go_wp2
    go_loopw [4] (fun v4 wr => ∃ A n cp, v4 = .slice A n cp ∧ Sh (∃ m, WkO w F c s wk m0 m1 m2 m3 y (.slice A n cp) wr m)) (fun v4 wr => leastOf (WkO w F c s wk m0 m1 m2 m3 y v4 wr))
    case atStart => exact ⟨_, _, _, rfl, HST⟩
    case round =>
      obtain ⟨A, n, cp, rfl, hex⟩ := hrel
      obtain ⟨x1, steps1, fs1, hS1, hst1, hm1⟩ := leastOf_spec hex.out
      clear hex HST
      cases fs1 with
      | nil =>
        obtain ⟨A', c', e⟩ := hS1.mem.row.shape
        simp only [Value.slice.injEq, List.reverse_nil, List.length_nil] at e
        have hn := e.2.1
        clear e A' c'
        subst hn
        have HS := Sh.mk hS1
        have HST1 := Sh.mk hst1
        clear hS1 hst1 hm1
        go_wp2
        refine bodyPost_end (results_none rfl _ _ _) rfl ?_
        have hy2 : x1 = y := by rw [← HS.out.fin, Wk.finish_nil HS.out.stk]
        have hst2 : steps1 = x1.steps := by rw [HST1.out]; simp
        rw [← HY.out, ← hy2]
        exact ⟨rfl, HS.out.mem.cl, by rw [← hst2]; exact HS.out.mem.k, HS.out.mem.chg⟩
      | cons f fs =>
        obtain ⟨g, cp', e, _, _, _, t4, t5, _⟩ := FrameK.top hS1.mem.row
        simp only [Value.slice.injEq] at e
        obtain ⟨e1, e2, e3⟩ := e
        subst e1 e2 e3
        obtain ⟨k, hk⟩ : ∃ k, k = fs.length := ⟨_, rfl⟩
        rw [← hk] at t4 hS1 hm1 ⊢
        obtain ⟨M, hM⟩ : ∃ M, M = x1.todo s.parts := ⟨_, rfl⟩
        rw [← hM] at hm1
        have q4 := hS1.mem.k.blk.cell 4
        have f4 := hS1.mem.k.blk.frozen 4
        simp only [List.getElem?_cons_zero, List.getElem?_cons_succ] at q4
        obtain ⟨W1, hW1⟩ : ∃ W1, W1 = wr.setCell ⟨wk, 4, none⟩ (.int .i64 (wrap64 (steps1 + 1))) := ⟨_, rfl⟩
        have hI : WkS w F c s wk m0 m1 m2 m3 y x1 x1.steps (f :: fs) (.slice (some ⟨g, 0, none⟩) (k + 1) cp) W1 := by
          rw [if_neg (by simp)] at hst1
          refine ⟨hS1.mem.move HF.out HD.out ?_ ?_, hS1.stk, hS1.ends, hS1.fin, hS1.inv⟩
          · rw [hW1]; exact (Chg.refl _ _).setCell (p := ⟨wk, 4, none⟩) (.inl (.inl rfl)) _
          · rw [hW1, hst1]; exact hS1.mem.k.set4 _
        have HI := Sh.mk hI
        have HW1 := Sh.mk hW1
        have HM := Sh.mk hM
        have HM1 := Sh.mk hm1
        have HKK := Sh.mk hk
        clear hI hW1 hM hm1 hk hS1 hst1 k0 b0 b1
        go_wp2
        rw [← HW1.out]
        clear HW1 q4 f4
        go_loopw [4] (fun v4 wr => v4 = .slice (some ⟨g, 0, none⟩) (k + 1) cp ∧ Sh (∃ m, WkI w F c s wk m0 m1 m2 m3 y fs M (.slice (some ⟨g, 0, none⟩) (k + 1) cp) wr m)) (fun v4 wr => leastOf (WkI w F c s wk m0 m1 m2 m3 y fs M (.slice (some ⟨g, 0, none⟩) (k + 1) cp) wr))
        case atStart => exact ⟨rfl, ⟨_, x1, f, HI.out, by rw [HM.out]; exact Nat.le_refl _, rfl⟩⟩
        case round =>
          obtain ⟨rfl, hex⟩ := hrel
          obtain ⟨x2, ⟨id2, A2, n2, ca2, j2⟩, hS2, hle2, hm2⟩ := leastOf_spec hex.out
          clear hex HI
          obtain ⟨g', cp', e, t0, t1, t2, _, _, t6⟩ := FrameK.top hS2.mem.row
          simp only [Value.slice.injEq, Option.some.injEq, Addr.mk.injEq, and_true] at e
          obtain ⟨e1, e2, e3⟩ := e
          clear e2
          subst e1 e3
          simp only at t0 t1 t2
          rw [← HKK.out] at t0 t1 t2 t6
          have hfr := hS2.mem.fr ⟨id2, A2, n2, ca2, j2⟩ List.mem_cons_self
          simp only at hfr
          have HFR := Sh.mk hfr
          have HS2 := Sh.mk hS2
          have HLE := Sh.mk hle2
          have HM2 := Sh.mk hm2
          have T6 := Sh.mk t6
          have HTOP := Sh.mk hS2.stk
          clear hS2 hle2 hm2 t6 hfr
          by_cases hlt : j2 < n2
          · obtain ⟨q, hq⟩ : ∃ q, (s.parts id2)[j2]? = some q := ⟨_, List.getElem?_eq_getElem (by have := HFR.out.2.1; omega)⟩
            obtain ⟨gp, kp, e, p0, p1⟩ := PartK.cells HFR.out.1 hq
            simp only [Value.slice.injEq] at e
            have e1 := e.1
            clear e
            subst e1
            have HQ := Sh.mk hq
            have HQL := Sh.mk (parts_lt HK.out HFR.out.2.2.1 (List.mem_of_getElem? hq))
            have f2 := T6.out 2 (by omega)
            clear hq
            go_wp2
            go_region
            go_wp2
            have HGL : Sh (g < wr.heap.size ∧ gp < wr.heap.size) := ⟨HS2.out.mem.row.lt g (by simp [Value.ownBlock]), HFR.out.1.lt gp (by simp [Value.ownBlock])⟩
            have HT := Sh.mk (fun o => And.intro (cell_alloc t1 HGL.out.1 o) (And.intro (cell_alloc t2 HGL.out.1 o) (And.intro (cell_alloc p0 HGL.out.2 o) (cell_alloc p1 HGL.out.2 o))))
            obtain ⟨t1', t2', p0', p1'⟩ := HT.out (.cells #[.pointer none, .int .i64 0] 137)
            obtain ⟨t1'', t2'', p0'', p1''⟩ := HT.out (.cells #[.pointer (some ⟨c, 0, none⟩), .int .i64 q] 137)
            go_region_held3 (fun w' => w'.cell? ⟨g, k * 3 + 1, none⟩ = some (.slice (some ⟨gp, 0, none⟩) n2 ca2) ∧ w'.cell? ⟨g, k * 3 + 2, none⟩ = some (.int .i64 j2) ∧ w'.cell? ⟨gp, j2 * 2, none⟩ = some (.pointer (some ⟨c, 0, none⟩)) ∧ w'.cell? ⟨gp, j2 * 2 + 1, none⟩ = some (.int .i64 q)) (first | exact ⟨t1, t2, p0, p1⟩ | exact ⟨t1', t2', p0', p1'⟩ | exact ⟨t1'', t2'', p0'', p1''⟩) (fail)
            go_upto_region 8 with (fail)
            obtain ⟨W2, hW2⟩ : ∃ W2, W2 = (wr.alloc (.cells #[.pointer (some ⟨c, 0, none⟩), .int .i64 q] 137)).drew.drew := ⟨_, rfl⟩
            have hb2 : Below wr.heap.size wr W2 := by rw [hW2]; exact ((Below.refl wr.heap.size wr).alloc (Nat.le_refl _) _).drew.drew
            have HX2 : Sh (Blk W2 wr.heap.size 137 [.pointer (some ⟨c, 0, none⟩), .int .i64 q]) := ⟨by rw [hW2]; exact (Blk.new _ _ _).drew.drew⟩
            have HS3 := Sh.mk (HS2.out.mem.keep hb2)
            have u2 : W2.cell? ⟨g, k * 3 + 2, none⟩ = some (.int .i64 j2) := by rw [hW2]; exact t2''
            have uf : W2.frozen? ⟨g, k * 3 + 2, none⟩ = false := by
              obtain ⟨_, _, ee, _, _, _, _, _, tf⟩ := FrameK.top HS3.out.row
              simp only [Value.slice.injEq, Option.some.injEq, Addr.mk.injEq, and_true] at ee
              rw [← ee.1, ← HKK.out] at tf
              exact tf 2 (by omega)
            have hj63 : j2 + 1 ≤ 9223372036854775807 := by have := HFR.out.1.len; have := HFR.out.2.1; omega
            have HWS : Sh (w.heap.size < wr.heap.size ∧ wr.heap.size < W2.heap.size) := ⟨by have := HS2.out.mem.row.lt g (by simp [Value.ownBlock]); have := HS2.out.mem.own g (by simp [Value.ownBlock]); omega, HX2.out.lt⟩
            have HW2 := Sh.mk hW2
            rw [← hW2]
            clear hW2 hb2 t1' t2' p0' p1' t1'' t2'' p0'' p1'' HT p0 p1 t0 t1 t2 f2
            go_upto_region 9 with (fail)
            obtain ⟨W3, hW3⟩ : ∃ W3, W3 = W2.setCell ⟨g, k * 3 + 2, none⟩ (.int .i64 (j2 + 1)) := ⟨_, rfl⟩
            have HS4 : Sh (WkL w F c s wk m0 m1 m2 m3 x2.st x2.steps x2.bad (⟨id2, some ⟨gp, 0, none⟩, n2, ca2, j2 + 1⟩ :: fs) (.slice (some ⟨g, 0, none⟩) (k + 1) cp) W3) := ⟨by
              rw [hW3]
              exact HS3.out.next HF.out (j2 + 1) (by rw [HKK.out])⟩
            have HX3 : Sh (Blk W3 wr.heap.size 137 [.pointer (some ⟨c, 0, none⟩), .int .i64 q]) := ⟨by rw [hW3]; exact HX2.out.far (by have := HGL.out.1; simp; omega) _⟩
            have HW3S : Sh (W3.heap.size = W2.heap.size) := ⟨by rw [hW3]; simp⟩
            have v4 := HS4.out.k.blk.cell 4
            have vf := HS4.out.k.blk.frozen 4
            simp only [List.getElem?_cons_zero, List.getElem?_cons_succ] at v4
            rw [← hW3]
            clear hW3 u2 uf HS3 HX2
            go_upto_region 10 with (fail)
            obtain ⟨W4, hW4⟩ : ∃ W4, W4 = W3.setCell ⟨wk, 4, none⟩ (.int .i64 (wrap64 (x2.steps + 1))) := ⟨_, rfl⟩
            have HS5 : Sh (WkL w F c s wk m0 m1 m2 m3 x2.st (tick64 x2.steps) x2.bad (⟨id2, some ⟨gp, 0, none⟩, n2, ca2, j2 + 1⟩ :: fs) (.slice (some ⟨g, 0, none⟩) (k + 1) cp) W4) := ⟨by
              rw [hW4]
              exact HS4.out.move HF.out HD.out ((Chg.refl _ _).setCell (p := ⟨wk, 4, none⟩) (.inl (.inl rfl)) _) (HS4.out.k.set4 _)⟩
            have HX4 : Sh (Blk W4 wr.heap.size 137 [.pointer (some ⟨c, 0, none⟩), .int .i64 q]) := ⟨by rw [hW4]; exact HX3.out.far (by have := HF.out wk (.inr (.inl rfl)); have := HWS.out.1; simp; omega) _⟩
            have HW4S : Sh (W4.heap.size = W2.heap.size) := ⟨by rw [hW4, ← HW3S.out]; simp⟩
            rw [← hW4]
            clear hW4 v4 vf HS4 HX3 HW3S
            have k0 := HS5.out.k.blk.cell 0
            have b0 := HX4.out.cell 0
            have b1 := HX4.out.cell 1
            simp only [List.getElem?_cons_zero, List.getElem?_cons_succ] at k0 b0 b1
            obtain ⟨b, hb⟩ : ∃ b, b = x2.at q := ⟨_, rfl⟩
            have HBQ := Sh.mk hb
            clear hb
            go_region_held3 (fun w' => w'.cell? ⟨wk, 0, none⟩ = some (.map (some m0)) ∧ w'.cell? ⟨wr.heap.size, 0, none⟩ = some (.pointer (some ⟨c, 0, none⟩)) ∧ w'.cell? ⟨wr.heap.size, 1, none⟩ = some (.int .i64 q)) (first | exact ⟨k0, b0, b1⟩) (first
              | (go_at_call 105; refine (Part_Id _ c q).mono ?_; rintro e w7 ⟨rfl, hw7⟩; have hB7 := (show Below W4.heap.size W4 w7 from (by rw [hw7]; exact ((Below.refl W4.heap.size W4).drew).alloc (Nat.le_refl _) _)); have hs7 := HS5.out.keep hB7; have hx7 := HX4.out.keep hB7; have hlk := look_state hs7.k.a0 q; rw [show (mget x2.st (q : Int)).getD 0 = b from HBQ.out.symm] at hlk; have k0 := hs7.k.blk.cell 0; have b0 := hx7.cell 0; have b1 := hx7.cell 1; (simp only [List.getElem?_cons_zero, List.getElem?_cons_succ] at k0 b0 b1); have HW7 := Sh.mk (Nat.le_trans (by have := HW4S.out; have := HWS.out.2; omega : wr.heap.size + 1 ≤ W4.heap.size) hB7.size); have HS7 := Sh.mk hs7; have HX7 := Sh.mk hx7; clear hw7 hB7 hs7 hx7)
              | fail)
            clear k0 hlk HS5 HX4
            have HTD := Sh.mk (Wk.todo_step HS2.out.ends (by rw [HTOP.out]; simp))
            by_cases hb0 : b = 0
            · have hbe : (b == 0) = true := by simp [hb0]
              have HSTEP : Sh (x2.step s.parts = ⟨mput x2.st q 1, (q, 0) :: (id2, j2 + 1) :: fs.map (fun f => (f.id, f.next)), tick64 (tick64 (tick64 x2.steps)), x2.bad⟩) := ⟨by unfold Wk.step; rw [HTOP.out]; simp only [List.map_cons, HQ.out]; rw [if_pos (by rw [← HBQ.out, hb0])]⟩
              clear hb0
              have hlenS : fs.length + 1 ≤ s.whole.length := by
                have h1 := nodup_len s.whole.length _ HS2.out.inv.1 (fun z hz => by
                  rw [HTOP.out] at hz
                  simp only [List.map_map, List.mem_map, Function.comp] at hz
                  obtain ⟨f', hf', rfl⟩ := hz
                  exact (HS2.out.mem.fr f' hf').2.2.1)
                rw [HTOP.out] at h1
                simpa using h1
              have HLN : Sh (fs.length + 1 ≤ 1000000) := ⟨Nat.le_trans hlenS HRL.out.2⟩
              clear hlenS
              go_wp2_with (first
                | (go_at_call 106; refine (Wk_begin w7 F c s wk m0 m1 m2 m3 x2.st (tick64 x2.steps) x2.bad q HS7.out.cl HK.out HQL.out HRL.out.2 HS7.out.k HD.out).mono ?_; rintro e w8 ⟨v8, rfl, n1, n2', n3, n4, n5'⟩; have N1 := Sh.mk n1; have N2 := Sh.mk n2'; have N3 := Sh.mk n3; have N4 := Sh.mk n4; have N5 := Sh.mk n5'; (obtain ⟨A8, c8, rfl⟩ := n1.shape); have NR := Sh.mk (show GRow FrameK w8 (.slice (some ⟨g, 0, none⟩) (k + 1) cp) (⟨id2, some ⟨gp, 0, none⟩, n2, ca2, j2 + 1⟩ :: fs).reverse from HS7.out.row.step (fun b hb => n5'.block b (HS7.out.row.lt b hb) (fun e => by have := HS7.out.own b hb; have := HF.out b e; omega))); have NB := Sh.mk ((Below.refl w8.heap.size w8).alloc (Nat.le_refl _) (.cells #[.int .i64 q, .slice A8 (s.parts q).length c8, .int .i64 0] 155)); clear n1 n2' n3 n4 n5')
                | (at_builtin; refine append_row FrameK_ok rfl (.tmp 77) (.tmp 81) rfl (.slice (some ⟨g, 0, none⟩) (k + 1) cp) (⟨id2, some ⟨gp, 0, none⟩, n2, ca2, j2 + 1⟩ :: fs).reverse [⟨q, A8, (s.parts q).length, c8, 0⟩] (.slice (some ⟨w8.heap.size, 0, none⟩) 1 1) rfl rfl (NR.out.keep NB.out) (GRow.lit FrameK_ok w8 ⟨q, A8, (s.parts q).length, c8, 0⟩) (by have := HLN.out; simp; omega) (by have := HLN.out; simp [FrameK]; omega) ?_; intro A9 c9 w9 hI hg hv; have I9 := Sh.mk hI; have G9 := Sh.mk hg; have V9 := Sh.mk hv; clear hI hg hv))
              have e9 : (⟨id2, some ⟨gp, 0, none⟩, n2, ca2, j2 + 1⟩ :: fs : List Fr).reverse.length + [(⟨q, A8, (s.parts q).length, c8, 0⟩ : Fr)].length = fs.length + 1 + 1 := by simp
              have i9 := I9.out
              have v9 := V9.out
              rw [e9] at i9 v9
              have hL := HS7.out.push HF.out N3.out N4.out N1.out N2.out N5.out HQL.out rfl NB.out G9.out i9 v9 (by have := HWS.out.1; have := HW7.out; omega)
              have hnew : WkO w F c s wk m0 m1 m2 m3 y (.slice A9 (fs.length + 1 + 1) c9) w9 ((x2.step s.parts).todo s.parts) :=
                ⟨x2.step s.parts, tick64 (tick64 x2.steps), _, ⟨by rw [HSTEP.out]; exact hL, by rw [HSTEP.out]; rfl, HS2.out.ends.step, by rw [Wk.finish_step HS2.out.ends]; exact HS2.out.fin, HS2.out.inv.step _⟩, by rw [HSTEP.out]; rfl, rfl⟩
              refine ⟨⟨_, _, _, rfl, ⟨_, hnew⟩⟩, ?_⟩
              rw [← HM1.out]
              exact Nat.lt_of_le_of_lt (leastOf_le hnew) (Nat.lt_of_lt_of_le HTD.out HLE.out)
            · have hbe : (b == 0) = false := by simp [hb0]
              by_cases hb1 : b = 1
              · have hbf : (b == 1) = true := by simp [hb1]
                have HSTEP : Sh (x2.step s.parts = ⟨x2.st, (id2, j2 + 1) :: fs.map (fun f => (f.id, f.next)), tick64 x2.steps, true⟩) := ⟨by unfold Wk.step; rw [HTOP.out]; simp only [List.map_cons, HQ.out]; rw [if_neg (by rw [← HBQ.out]; exact hb0), if_pos (by rw [← HBQ.out]; exact hb1)]⟩
                clear hb0 hb1
                have q5 := HS7.out.k.blk.cell 5
                have qf := HS7.out.k.blk.frozen 5
                simp only [List.getElem?_cons_zero, List.getElem?_cons_succ] at q5
                go_upto_region 15 with (fail)
                obtain ⟨w8, hw8⟩ : ∃ w8, w8 = w7.setCell ⟨wk, 5, none⟩ (.bool true) := ⟨_, rfl⟩
                have HS8 : Sh (WkL w F c s wk m0 m1 m2 m3 x2.st (tick64 x2.steps) true (⟨id2, some ⟨gp, 0, none⟩, n2, ca2, j2 + 1⟩ :: fs) (.slice (some ⟨g, 0, none⟩) (k + 1) cp) w8) := ⟨by
                  rw [hw8]
                  exact HS7.out.move HF.out HD.out ((Chg.refl _ _).setCell (p := ⟨wk, 5, none⟩) (.inl (.inl rfl)) _) (HS7.out.k.set5 _)⟩
                have HX8 : Sh (Blk w8 wr.heap.size 137 [.pointer (some ⟨c, 0, none⟩), .int .i64 q]) := ⟨by rw [hw8]; exact HX7.out.far (by have := HF.out wk (.inr (.inl rfl)); have := HWS.out.1; simp; omega) _⟩
                rw [← hw8]
                clear hw8 q5 qf b0 b1
                have b0 := HX8.out.cell 0
                have b1 := HX8.out.cell 1
                simp only [List.getElem?_cons_zero, List.getElem?_cons_succ] at b0 b1
                go_wp2_with (first
                  | (go_at_call 105; refine (Part_Id _ c q).mono ?_; rintro e w9 ⟨rfl, hw9⟩; have hs9 := HS8.out.keep (show Below w8.heap.size w8 w9 from (by rw [hw9]; exact (Below.refl w8.heap.size w8).alloc (Nat.le_refl _) _)); have HS9 := Sh.mk hs9; clear hw9 hs9)
                  | (go_at_call 107; refine (Wk_loop w9 wk m0 m1 m2 m3 x2.st (tick64 x2.steps) true _ _ q HS9.out.k HS9.out.row).mono ?_; rintro e w10 ⟨rfl, e1, e2⟩; have HS10 := Sh.mk (HS9.out.move HF.out HD.out (e2.mono (fun b hb _ => .inr (.inr (.inl hb)))) e1); clear e1 e2))
                have hnew : WkI w F c s wk m0 m1 m2 m3 y fs M (.slice (some ⟨g, 0, none⟩) (k + 1) cp) w10 ((x2.step s.parts).todo s.parts) :=
                  ⟨x2.step s.parts, ⟨id2, some ⟨gp, 0, none⟩, n2, ca2, j2 + 1⟩, ⟨by rw [HSTEP.out]; exact HS10.out, by rw [HSTEP.out]; rfl, HS2.out.ends.step, by rw [Wk.finish_step HS2.out.ends]; exact HS2.out.fin, HS2.out.inv.step _⟩, Nat.le_trans (Nat.le_of_lt HTD.out) HLE.out, rfl⟩
                exact ⟨⟨rfl, ⟨_, hnew⟩⟩, Nat.lt_of_le_of_lt (leastOf_le hnew) (by rw [← HM2.out]; exact HTD.out)⟩
              · have hbf : (b == 1) = false := by simp [hb1]
                have HSTEP : Sh (x2.step s.parts = ⟨x2.st, (id2, j2 + 1) :: fs.map (fun f => (f.id, f.next)), tick64 x2.steps, x2.bad⟩) := ⟨by unfold Wk.step; rw [HTOP.out]; simp only [List.map_cons, HQ.out]; rw [if_neg (by rw [← HBQ.out]; exact hb0), if_neg (by rw [← HBQ.out]; exact hb1)]⟩
                clear hb0 hb1
                go_wp2
                have hnew : WkI w F c s wk m0 m1 m2 m3 y fs M (.slice (some ⟨g, 0, none⟩) (k + 1) cp) w7 ((x2.step s.parts).todo s.parts) :=
                  ⟨x2.step s.parts, ⟨id2, some ⟨gp, 0, none⟩, n2, ca2, j2 + 1⟩, ⟨by rw [HSTEP.out]; exact HS7.out, by rw [HSTEP.out]; rfl, HS2.out.ends.step, by rw [Wk.finish_step HS2.out.ends]; exact HS2.out.fin, HS2.out.inv.step _⟩, Nat.le_trans (Nat.le_of_lt HTD.out) HLE.out, rfl⟩
                exact ⟨⟨rfl, ⟨_, hnew⟩⟩, Nat.lt_of_le_of_lt (leastOf_le hnew) (by rw [← HM2.out]; exact HTD.out)⟩
          · have hnone : (s.parts id2)[j2]? = none := List.getElem?_eq_none (by have := HFR.out.2.1; omega)
            have HSTEP : Sh (x2.step s.parts = ⟨mput x2.st id2 2, fs.map (fun f => (f.id, f.next)), if fs.map (fun f => (f.id, f.next)) = [] then x2.steps else tick64 x2.steps, x2.bad⟩) := ⟨by unfold Wk.step; rw [HTOP.out]; simp only [List.map_cons, hnone]⟩
            have HTD := Sh.mk (Wk.todo_step HS2.out.ends (by rw [HTOP.out]; simp))
            clear hnone
            go_wp2
            go_region
            go_wp2_with (first
              | (go_at_call 108; refine (Wk_end wr.drew c wk m0 m1 m2 m3 _ _ _ id2 A2 n2 ca2 j2 (s.parts id2) (HS2.out.mem.k.step (fun _ _ => rfl)) (HFR.out.1.step (fun _ _ => rfl)) HFR.out.2.1 (fun b hb e => by have := (HFR.out.2.2.2 b hb).1; have := HF.out b (.inr e); omega)).mono ?_; rintro e w7 ⟨rfl, e1, e2⟩; have E1 := Sh.mk e1; have E2 := Sh.mk e2; clear e1 e2))
            have hnew : WkO w F c s wk m0 m1 m2 m3 y (.slice (some ⟨g, 0, none⟩) k cp) w7 ((x2.step s.parts).todo s.parts) := by
              refine ⟨x2.step s.parts, x2.steps, fs, ⟨?_, by rw [HSTEP.out], HS2.out.ends.step, by rw [Wk.finish_step HS2.out.ends]; exact HS2.out.fin, HS2.out.inv.step _⟩, by rw [HSTEP.out]; simp, rfl⟩
              rw [HSTEP.out]
              exact ((HS2.out.mem.keep (Below.refl _ _).drew).move HF.out HD.out E2.out E1.out).pop HKK.out
            refine ⟨⟨_, k, cp, rfl, ⟨_, hnew⟩⟩, ?_⟩
            rw [← HM1.out]
            exact Nat.lt_of_le_of_lt (leastOf_le hnew) (Nat.lt_of_lt_of_le HTD.out HLE.out)
  · have hne : (a != 0) = true := by simp [ha0]
    have HA0 := Sh.mk ha0
    clear ha0
    go_step3
    go_wp2
    go_region_held3 (fun w' => w'.cell? ⟨wk, 0, none⟩ = some (.map (some m0)) ∧ w'.cell? ⟨w.heap.size, 0, none⟩ = some (.pointer (some ⟨c, 0, none⟩)) ∧ w'.cell? ⟨w.heap.size, 1, none⟩ = some (.int .i64 r)) (first | exact ⟨k0, b0, b1⟩) (first
      | (go_at_call 105; refine (Part_Id _ c r).mono ?_; rintro e w4 ⟨rfl, hw4⟩; have hB4 := (show Below w0.heap.size w0 w4 from (by rw [hw4]; exact ((Below.refl w0.heap.size w0).drew).alloc (Nat.le_refl _) _)); have hk4 := HK0.out.keep hB4; have hx4 := HX.out.keep hB4; have hlk := look_state hk4.a0 r; rw [show (mget x.st (r : Int)).getD 0 = a from HA.out.symm] at hlk; have k0 := hk4.blk.cell 0; have b0 := hx4.cell 0; have b1 := hx4.cell 1; (simp only [List.getElem?_cons_zero, List.getElem?_cons_succ] at k0 b0 b1); have HC4 := Sh.mk (HC0.out.keep hB4); have HB4 := Sh.mk (below_then HB0.out hB4); have HK4 := Sh.mk hk4; have HX4 := Sh.mk hx4; clear hw4 hB4 hk4 hx4)
      | fail)
    go_wp2
    refine bodyPost_ret (v := .tuple #[]) (results_none rfl _ _ _) rfl ?_
    have e1 : x.goes s.parts r = x := by rw [Wk.goes, if_neg (by rw [← HA.out]; exact HA0.out)]
    rw [e1]
    exact ⟨rfl, HC4.out, HK4.out, Chg.of_below HB4.out⟩
end Go.Proofs.YtdppkdjgadiinaaGreat
