/- Package mus: all sides right; numbers; a filter. -/
import Derived.Test.YtdppkdjgadiinaaGreatPick
set_option linter.unusedVariables false
set_option linter.unusedSimpArgs false
namespace Go.Proofs.YtdppkdjgadiinaaGreat
open Go.RowKit

theorem fnv_right1 : Fnv Tryz.prog (.func (.func 43) #[] #[]) 43 #[] := ⟨rfl, _, Tryz.func43, by kernel_rfl, rfl⟩
theorem right1_calls (w : World) (S : Nat → Prop) (x : Eqn) (u0 u1 u2 u3 u4 u5 u6 u7 : Value) (h : CellsAt w S x.enc [u0, u1, u2, u3, u4, u5, u6, u7]) :
    Calls Tryz.prog 43 #[.agg #[u0, u1, u2, u3, u4, u5, u6, u7]] w fun e w' => e = .returned (.bool (!x.right)) ∧ Below w.heap.size w w' := by
  obtain ⟨s, t, he, hl, hr⟩ := Eqn.cells.1 h
  simp only [List.cons.injEq, and_true] at he
  obtain ⟨rfl, rfl, rfl, rfl, rfl, rfl, rfl, rfl⟩ := he
  obtain ⟨As, cs, rfl, _⟩ := hl.shape
  obtain ⟨At, ct, rfl, _⟩ := hr.shape
  obtain ⟨w2, hw2⟩ : ∃ w2, w2 = w.alloc (.cells #[.int .i64 x.l.kind, .int .i64 x.l.n, .slice As x.l.parts.length cs, .int .i64 x.r.kind, .int .i64 x.r.n, .slice At x.r.parts.length ct, .int .i64 x.a, .int .i64 x.b] 40) := ⟨_, rfl⟩
  have HW2 := Sh.mk hw2
  have HB2 : Sh (Below w.heap.size w w2) := ⟨by rw [hw2]; exact (Below.refl _ _).alloc (Nat.le_refl _) _⟩
  have HX2 : Sh (Blk w2 w.heap.size 40 [.int .i64 x.l.kind, .int .i64 x.l.n, .slice As x.l.parts.length cs, .int .i64 x.r.kind, .int .i64 x.r.n, .slice At x.r.parts.length ct, .int .i64 x.a, .int .i64 x.b]) := ⟨by rw [hw2]; exact Blk.new _ _ _⟩
  have x0 := HX2.out.cell 0
  have x1 := HX2.out.cell 1
  have x2 := HX2.out.cell 2
  simp only [List.getElem?_cons_zero, List.getElem?_cons_succ] at x0 x1 x2
  have HL := Sh.mk (Right_calls x.l _ _ _ (hl.below HB2.out))
  have HR := Sh.mk (hr.below HB2.out)
  clear hl hr hw2 h
  go_enter Tryz.func43, Tryz.ntmps43
  go_upto_region 1 with (fail)
  rw [← HW2.out]
  clear HW2
  cases hl : x.l.right with
  | false =>
    have HXR : Sh (x.right = false) := ⟨by unfold Eqn.right; rw [hl]; rfl⟩
    rw [hl] at HL
    clear hl
    go_wp2_with (first | (go_at_call 44; refine HL.out.mono ?_; rintro e w3 ⟨rfl, hb3⟩; have HB3 := Sh.mk hb3; clear hb3))
    go_ret
    exact ⟨by rw [HXR.out]; rfl, below_then HB2.out HB3.out⟩
  | true =>
    have HXR : Sh (x.right = x.r.right) := ⟨by unfold Eqn.right; rw [hl]; rfl⟩
    rw [hl] at HL
    clear hl
    have TOK : Sh True := ⟨trivial⟩
    obtain ⟨b, hb⟩ : ∃ b, b = x.r.right := ⟨_, rfl⟩
    rw [← hb] at HXR
    have HRR := Sh.mk hb.symm
    clear hb
    go_wp2_with (first
      | (go_at_call 44; clear TOK; refine HL.out.mono ?_; rintro e w3 ⟨rfl, hb3⟩; have hx3 := HX2.out.keep hb3; have x3 := hx3.cell 3; have x4 := hx3.cell 4; have x5 := hx3.cell 5; (simp only [List.getElem?_cons_zero, List.getElem?_cons_succ] at x3 x4 x5); have HB3 := Sh.mk hb3; clear hb3 hx3)
      | (go_at_call 44; refine (Right_calls x.r _ _ _ (HR.out.below HB3.out)).mono ?_; rw [HRR.out]; rintro e w4 ⟨rfl, hb4⟩; have HB4 := Sh.mk hb4; clear hb4))
    go_ret
    exact ⟨by rw [HXR.out]; rfl, below_then (below_then HB2.out HB3.out) HB4.out⟩
theorem right_calls (w : World) (S : Nat → Prop) (es : List Eqn) (v : Value) (h : EqsAt w S es v) :
    Calls Tryz.prog 26 #[v] w fun e w' => e = .returned (.bool (es.all Eqn.right)) ∧ Below w.heap.size w w' := by
  have HC := Sh.mk (ContainsFunc_Eq Eqn.enc es (fun x => !x.right) S _ _ _ fnv_right1 v w h (fun x u0 u1 u2 u3 u4 u5 u6 u7 w1 hx hb hc => right1_calls w1 S x u0 u1 u2 u3 u4 u5 u6 u7 hc))
  have HA : Sh (es.all Eqn.right = !es.any fun x => !x.right) := ⟨by rw [List.all_eq_not_any_not]⟩
  clear h
  obtain ⟨b, hb⟩ : ∃ b, b = es.any fun x => !x.right := ⟨_, rfl⟩
  rw [← hb] at HA HC
  clear hb
  go_enter Tryz.func26, Tryz.ntmps26
  go_wp2_with (first | (go_at_call 42; refine HC.out.mono ?_; rintro e w1 ⟨rfl, hb1⟩; have HB1 := Sh.mk hb1; clear hb1))
  go_ret
  exact ⟨by rw [HA.out]; rfl, HB1.out⟩
/-- All numbers. -/
def nums (n : Nat) : List Int := (List.range n).map fun i : Nat => (i : Int)
theorem nums_succ (n : Nat) : nums (n + 1) = nums n ++ [(n : Int)] := by unfold nums; rw [List.range_succ, List.map_append]; rfl
theorem nums_len (n : Nat) : (nums n).length = n := by simp [nums]
theorem numbers_calls (w : World) (n : Nat) (hn : n ≤ 1000000) :
    Calls Tryz.prog 18 #[.int .i64 n] w fun e w' => ∃ v, e = .returned v ∧ IRow w' v (nums n) ∧ (∀ k, v.ownBlock = some k → w.heap.size ≤ k) ∧ Below w.heap.size w w' := by
  go_enter Tryz.func18, Tryz.ntmps18
  go_wp2
  go_loopw [3, 6] (fun v3 v6 wr => ∃ (j c : Nat) (A : Option Addr), v3 = .slice A j c ∧ v6 = .int .i64 j ∧ j ≤ n ∧ Sh (IRow wr (.slice A j c) (nums j) ∧ (∀ k, (Value.slice A j c).ownBlock = some k → w.heap.size ≤ k) ∧ Below w.heap.size w wr)) (fun _ v6 _ => n - (intOf v6).toNat)
  case atStart => exact ⟨0, 0, none, rfl, rfl, Nat.zero_le _, ⟨IRow.nil _, fun k hk => by simp [Value.ownBlock] at hk, Below.refl _ _⟩⟩
  case round =>
    obtain ⟨j, c, A, rfl, rfl, hj, HR⟩ := hrel
    by_cases hlt : j < n
    · have HBA := Sh.mk ((Below.refl wr.heap.size wr).alloc (Nat.le_refl _) (.cells (IntK.enc (j : Int)).toArray 3))
      have HLJ := Sh.mk (nums_len j)
      go_wp2_with (first | (at_builtin; refine append_row IntK_ok rfl (.tmp 9) (.tmp 11) rfl (.slice A j c) (nums j) [(j : Int)] (.slice (some ⟨wr.heap.size, 0, none⟩) 1 1) rfl rfl ((grow_int.2 HR.out.1).keep HBA.out) (GRow.lit IntK_ok wr (j : Int)) (by have := HLJ.out; simp only [List.length_singleton]; omega) (by have := HLJ.out; simp only [List.length_singleton, IntK]; omega) ?_; intro A9 c9 w9 hI hg hv; have I9 := Sh.mk hI; have G9 := Sh.mk hg; have V9 := Sh.mk hv; clear hI hg hv))
      have e9 : (nums j).length + [(j : Int)].length = j + 1 := by rw [HLJ.out]; rfl
      have i9 := grow_int.1 I9.out
      have v9 := V9.out
      rw [e9, ← nums_succ] at i9
      rw [e9] at v9
      have HL9 : Sh (IRow w9 (.slice A9 (j + 1) c9) (nums (j + 1)) ∧ (∀ k, (Value.slice A9 (j + 1) c9).ownBlock = some k → w.heap.size ≤ k) ∧ Below w.heap.size w w9) := by
        have z := HR.out.2.2.size
        refine ⟨i9, fun k hk => ?_, ?_⟩
        · rcases v9 with e | e
          · exact HR.out.2.1 k (e ▸ hk)
          · have e2 := hk.symm.trans e
            injection e2 with e2
            simp at e2
            omega
        · refine ⟨?_, ?_, ?_, ?_, ?_⟩
          · exact G9.out.os.trans (HBA.out.os.trans HR.out.2.2.os)
          · exact G9.out.tape.trans (HBA.out.tape.trans HR.out.2.2.tape)
          · exact G9.out.output.trans (HBA.out.output.trans HR.out.2.2.output)
          · exact Nat.le_trans z (Nat.le_trans HBA.out.size G9.out.size)
          · intro b hb
            have hb1 : b < wr.heap.size := Nat.lt_of_lt_of_le hb z
            rw [G9.out.block b (Nat.lt_of_lt_of_le hb1 HBA.out.size) (fun e => by have := HR.out.2.1 _ e.symm; omega)]
            exact (HBA.out.block b hb1).trans (HR.out.2.2.block b hb)
      have hlj := HLJ.out
      clear e9 i9 v9
      go_wp2
      go_roundw
      case rel => exact ⟨j + 1, c9, A9, by simp [hlj], by simp, by omega, HL9⟩
      case measure => simp [intOf]; omega
    · obtain rfl : j = n := by omega
      go_wp2
      go_ret
      exact ⟨_, rfl, HR.out.1, HR.out.2.1, HR.out.2.2⟩
theorem sizes_sublist {a b : List Eqn} (h : a.Sublist b) : sizes a ≤ sizes b := by
  unfold sizes
  induction h with
  | slnil => exact Nat.le_refl _
  | cons x _ ih => simp only [List.map_cons, List.sum_cons]; omega
  | cons_cons x _ ih => simp only [List.map_cons, List.sum_cons]; omega
theorem pickE_sublist {es : List Eqn} {a b : List Int} (h : a.Sublist b) : (pickE es a).Sublist (pickE es b) := h.filterMap _
theorem pickE_right {es : List Eqn} (h : es.all Eqn.right = true) (ns : List Int) : (pickE es ns).all Eqn.right = true := by
  rw [List.all_eq_true] at h ⊢
  intro x hx
  unfold pickE at hx
  obtain ⟨n, hn, h1⟩ := List.mem_filterMap.1 hx
  unfold pick1 at h1
  split at h1
  · exact h x (List.mem_of_getElem? h1)
  · cases h1
/-- A filter of equations, in memory. -/
structure FilAt (w : World) (S : Nat → Prop) (fb : Nat) (es : List Eqn) (v : Value) (n : Int) : Prop where
  blk : Blk w fb 51 [v, .int .i64 n]
  eqs : EqsAt w S es v
  s : ∀ k, S k → k < fb
theorem FilAt.keep {w w' : World} {S : Nat → Prop} {fb : Nat} {es : List Eqn} {v : Value} {n : Int} (h : FilAt w S fb es v n) (hb : Below w.heap.size w w') : FilAt w' S fb es v n := ⟨h.blk.keep hb, h.eqs.below hb, h.s⟩
/-- Whether equations of some numbers can be solved. -/
def SatB (es : List Eqn) (sb : List Int → Bool) : Prop := ∀ ns code, SatIs (pickE es ns) code → (code == 0) = sb ns
theorem sat_calls (w : World) (S : Nat → Prop) (fb : Nat) (es : List Eqn) (sb : List Int → Bool) (v : Value) (n : Int) (ns : List Int) (vn : Value) (h : FilAt w S fb es v n) (hr : es.all Eqn.right = true) (hsb : SatB es sb) (hn : IRow w vn ns) (hl : ns.length ≤ 1000000) (hle : es.length ≤ 1000000)
    (hsz : sizes (pickE es ns) ≤ 1000000) (hvn : vn.ownBlock ≠ some fb) :
    Calls Tryz.prog 27 #[.pointer (some ⟨fb, 0, none⟩), vn] w fun e w' => e = .returned (.bool (sb ns)) ∧ (∃ n', FilAt w' S fb es v n') ∧ Chg (fun k => k = fb) w w' := by
  obtain ⟨A, c, rfl, _⟩ := h.eqs.shape
  have q1 := h.blk.cell 1
  have f1 := h.blk.frozen 1
  simp only [List.getElem?_cons_zero, List.getElem?_cons_succ] at q1
  obtain ⟨w1, hw1⟩ : ∃ w1, w1 = w.setCell ⟨fb, 1, none⟩ (.int .i64 (wrap64 (n + 1))) := ⟨_, rfl⟩
  have hfar : ∀ k, k ≠ fb → w1.heap[k]? = w.heap[k]? := fun k hk => by rw [hw1]; exact Below.heap_setCell _ _ _ _ hk
  have hF1 : FilAt w1 S fb es (.slice A es.length c) (wrap64 (n + 1)) := ⟨by rw [hw1]; exact h.blk.set_ 1 _, Dat.at_step (fun k hk _ => ⟨hk, hfar k (Nat.ne_of_lt (h.s k hk))⟩) _ _ h.eqs, h.s⟩
  have hN1 : IRow w1 vn ns := hn.step (fun k hk => hfar k (fun e => hvn (e ▸ hk)))
  have q0 := hF1.blk.cell 0
  simp only [List.getElem?_cons_zero, List.getElem?_cons_succ] at q0
  have HW1 := Sh.mk hw1
  have HF1 := Sh.mk hF1
  have HN1 := Sh.mk hN1
  have HC1 : Sh (Chg (fun k => k = fb) w w1) := ⟨by rw [hw1]; exact (Chg.refl (fun k => k = fb) w).setCell (p := ⟨fb, 1, none⟩) (.inl rfl) _⟩
  have HSB := Sh.mk hsb
  have HSZ := Sh.mk hsz
  have HR := Sh.mk hr
  have HPK := Sh.mk (Pick_calls w1 S es _ ns vn hF1.eqs hr hN1 hl hle)
  clear h hr hsb hn hl hle hsz hvn hw1 hfar hF1 hN1
  go_enter Tryz.func27, Tryz.ntmps27
  go_upto_region 2 with (fail)
  rw [← HW1.out]
  clear HW1 q1 f1
  go_wp2_with (first
    | (go_at_call 45; refine HPK.out.mono ?_; rintro e w2 ⟨v2, rfl, p1, p2⟩; have P1 := Sh.mk p1; have P2 := Sh.mk p2; clear p1 p2)
    | (go_at_call 10; refine (Sat_calls w2 _ _ _ P1.out HSZ.out).mono ?_; rintro e w3 ⟨code, p1, rfl, p2⟩; have P3 := Sh.mk p1; have P4 := Sh.mk p2; clear p1 p2))
  go_ret
  exact ⟨by rw [← HSB.out ns code P3.out]; rfl, ⟨_, (HF1.out.keep P2.out).keep P4.out⟩, (HC1.out.thenBelow P2.out).thenBelow P4.out⟩
/-- What is left. -/
def reduceP (sb : List Int → Bool) (all order : List Int) : List Int := order.foldl (fun left n => if sb (kept (fun k => k == n) left) then left else kept (fun k => k == n) left) all
theorem kept_sublist (p : Int → Bool) (xs : List Int) : (kept p xs).Sublist xs := List.filter_sublist
theorem reduceP_sublist (sb : List Int → Bool) : ∀ (order all : List Int), (reduceP sb all order).Sublist all
  | [], all => List.Sublist.refl _
  | n :: order, all => by
    unfold reduceP
    rw [List.foldl_cons]
    split
    · exact reduceP_sublist sb order all
    · exact (reduceP_sublist sb order _).trans (kept_sublist _ _)
theorem reduceP_take {sb : List Int → Bool} {all order : List Int} {j : Nat} {n : Int} (h : order[j]? = some n) :
    reduceP sb all (order.take (j + 1)) = if sb (kept (fun k => k == n) (reduceP sb all (order.take j))) then reduceP sb all (order.take j) else kept (fun k => k == n) (reduceP sb all (order.take j)) := by
  unfold reduceP
  rw [List.take_add_one, h, Option.toList_some, List.foldl_append]
  rfl
theorem fnv_reduce1 (p : Value) : Fnv Tryz.prog (.func (.func 46) #[] #[p]) 46 #[p] := ⟨rfl, _, Tryz.func46, by kernel_rfl, rfl⟩
theorem reduce1_pred (w : World) (b : Nat) (n : Int) (h : Blk w b 3 [.int .i64 n]) : Pred w (fun k => k = b) 46 #[.pointer (some ⟨b, 0, none⟩)] (fun k => k == n) := by
  intro u w1 hs hb
  have h1 : Blk w1 b 3 [.int .i64 n] := (hb b rfl h.lt).trans h
  have c0 := h1.cell 0
  simp only [List.getElem?_cons_zero] at c0
  clear h h1 hb hs
  show Calls _ _ #[.int .i64 u, .pointer (some ⟨b, 0, none⟩)] _ _
  go_enter Tryz.func46, Tryz.ntmps46
  go_wp2
  go_ret
  exact ⟨rfl, rfl⟩
/-- What a round knows. -/
structure RedL (w : World) (S : Nat → Prop) (fb : Nat) (es : List Eqn) (sb : List Int → Bool) (v : Value) (all order : List Int) (vo v7 : Value) (j : Nat) (wr : World) : Prop where
  fil : ∃ n, FilAt wr S fb es v n
  left : IRow wr v7 (reduceP sb all (order.take j))
  own : ∀ k, v7.ownBlock = some k → w.heap.size ≤ k
  ord : IRow wr vo order
  chg : Chg (fun k => k = fb) w wr
set_option maxRecDepth 100000 in
set_option maxHeartbeats 1000000 in
theorem reduce_calls (w : World) (S : Nat → Prop) (fb : Nat) (es : List Eqn) (sb : List Int → Bool) (v : Value) (n0 : Int) (all order : List Int) (va vo : Value) (h : FilAt w S fb es v n0) (hr : es.all Eqn.right = true) (hsb : SatB es sb) (ha : IRow w va all) (ho : IRow w vo order)
    (hl : all.length ≤ 1000000) (hlo : order.length ≤ 1000000) (hle : es.length ≤ 1000000) (hsz : sizes (pickE es all) ≤ 1000000) (hvo : vo.ownBlock ≠ some fb) :
    Calls Tryz.prog 33 #[.pointer (some ⟨fb, 0, none⟩), va, vo] w fun e w' => ∃ v', e = .returned v' ∧ IRow w' v' (reduceP sb all order) ∧ (∀ k, v'.ownBlock = some k → w.heap.size ≤ k) ∧ (∃ n', FilAt w' S fb es v n') ∧ Chg (fun k => k = fb) w w' := by
  obtain ⟨Ao, co, rfl⟩ := ho.shape
  have hfl := h.blk.lt
  obtain ⟨m, hm⟩ : ∃ m, m = order.length := ⟨_, rfl⟩
  rw [← hm] at ho hvo hlo ⊢
  have HCL := Sh.mk (Clone_row w va all ha hl)
  have H := Sh.mk h
  have HR := Sh.mk hr
  have HSB := Sh.mk hsb
  have HO := Sh.mk ho
  have HL := Sh.mk hl
  have HLE := Sh.mk hle
  have HSZ := Sh.mk hsz
  have HVO := Sh.mk hvo
  have HM := Sh.mk hm
  have HFL := Sh.mk hfl
  clear h hr hsb ha ho hl hle hsz hvo hm hfl
  go_enter Tryz.func33, Tryz.ntmps33
  go_wp2_with (first | (go_at_call 20; refine HCL.out.mono ?_; rintro e w1 ⟨v1, rfl, i1, i2, i3⟩; have I1 := Sh.mk i1; have I2 := Sh.mk i2; have I3 := Sh.mk i3; clear i1 i2 i3))
  have HL0 : Sh (RedL w S fb es sb v all order (.slice Ao m co) v1 0 w1) := ⟨⟨⟨_, H.out.keep I3.out⟩, I1.out, I2.out, HO.out.keep I3.out, Chg.of_below I3.out⟩⟩
  clear I1 I2 I3 HCL HO
  go_loopw [7, 15] (fun v7 v15 wr => ∃ j : Nat, v15 = .int .i64 j ∧ j ≤ m ∧ Sh (RedL w S fb es sb v all order (.slice Ao m co) v7 j wr)) (fun _ v15 _ => m - (intOf v15).toNat)
  case atStart => exact ⟨0, rfl, Nat.zero_le _, HL0⟩
  case round =>
    obtain ⟨j, rfl, hj, HRR⟩ := hrel
    clear HL0
    by_cases hlt : j < m
    · obtain ⟨n, hn⟩ : ∃ n, order[j]? = some n := ⟨_, List.getElem?_eq_getElem (by have := HM.out; omega)⟩
      obtain ⟨g, c', e, t0, _⟩ := HRR.out.ord.at hn
      simp only [Value.slice.injEq] at e
      have e1 := e.1
      clear e
      subst e1
      obtain ⟨L, hL⟩ : ∃ L, L = reduceP sb all (order.take j) := ⟨_, rfl⟩
      have hsub : L.Sublist all := by rw [hL]; exact reduceP_sublist _ _ _
      have HT := Sh.mk (reduceP_take (sb := sb) (all := all) hn)
      rw [← hL] at HT
      have hleft := HRR.out.left
      rw [← hL] at hleft
      obtain ⟨w2, hw2⟩ : ∃ w2, w2 = wr.alloc (.cells #[.int .i64 n] 3) := ⟨_, rfl⟩
      have HB2 : Sh (Below wr.heap.size wr w2) := ⟨by rw [hw2]; exact (Below.refl _ _).alloc (Nat.le_refl _) _⟩
      have HX2 : Sh (Blk w2 wr.heap.size 3 [.int .i64 n]) := ⟨by rw [hw2]; exact Blk.new _ _ _⟩
      have HW2 := Sh.mk hw2
      have HSUB := Sh.mk hsub
      have hlL : L.length ≤ 1000000 := Nat.le_trans hsub.length_le HL.out
      have HLL := Sh.mk hlL
      have HLF := Sh.mk hleft
      clear hn hL hsub hw2 hleft hlL
      go_upto_region 5 with (fail)
      rw [← HW2.out]
      clear HW2 t0
      go_wp2_with (first
        | (go_at_call 20; refine (Clone_row w2 u7 L (HLF.out.keep HB2.out) HLL.out).mono ?_; rintro e w3 ⟨v3, rfl, i1, i2, i3⟩; have I1 := Sh.mk i1; have I2 := Sh.mk i2; have I3 := Sh.mk i3; have HX3 := Sh.mk (HX2.out.keep i3); clear i1 i2 i3)
        | (go_at_call 19; refine (Delete_row w3 (fun k => k = wr.heap.size) _ _ _ _ (fnv_reduce1 (.pointer (some ⟨wr.heap.size, 0, none⟩))) (reduce1_pred w3 wr.heap.size n HX3.out) v3 L I1.out (fun k hk e => by have := I2.out k hk; have := HX2.out.lt; omega)).mono ?_; rintro e w4 ⟨v4, rfl, i1, i2, i3⟩; have I4 := Sh.mk i1; have I5 := Sh.mk i2; have I6 := Sh.mk i3; clear i1 i2 i3)
        | fail)
      have HB4 : Sh (Below wr.heap.size wr w4) := ⟨HB2.out.trans ((I3.out.mono HB2.out.size).trans (I6.out.below (fun k hk => Nat.le_trans HB2.out.size (I2.out k hk)) (Nat.le_trans HB2.out.size I3.out.size)))⟩
      have HOW4 : Sh (∀ k, v4.ownBlock = some k → wr.heap.size ≤ k) := ⟨fun k hk => Nat.le_trans HB2.out.size (I2.out k (by rw [← I5.out]; exact hk))⟩
      have HWW : Sh (fb < w.heap.size ∧ w.heap.size ≤ wr.heap.size) := ⟨HFL.out, HRR.out.chg.size⟩
      obtain ⟨nf, hnf⟩ := HRR.out.fil
      have hsub2 : (kept (fun k => k == n) L).Sublist all := (kept_sublist _ _).trans HSUB.out
      have HST := Sh.mk (sat_calls w4 S fb es sb v nf _ v4 (hnf.keep HB4.out) HR.out HSB.out I4.out (Nat.le_trans hsub2.length_le HL.out) HLE.out (Nat.le_trans (sizes_sublist (pickE_sublist hsub2)) HSZ.out) (fun e => by have := HOW4.out fb e; have := HWW.out; omega))
      have HO4 := Sh.mk (HRR.out.ord.keep HB4.out)
      have HU4 := Sh.mk (HLF.out.keep HB4.out)
      have HCH4 := Sh.mk (HRR.out.chg.thenBelow HB4.out)
      have HOWN := Sh.mk HRR.out.own
      clear hnf hsub2
      obtain ⟨b, hb⟩ : ∃ b, b = sb (kept (fun k => k == n) L) := ⟨_, rfl⟩
      rw [← hb] at HST HT
      clear hb
      cases b with
      | true =>
        go_wp2_with (first | (go_at_call 27; refine HST.out.mono ?_; rintro e w5 ⟨rfl, s1, s2⟩; have S1 := Sh.mk s1; have S2 := Sh.mk s2; clear s1 s2) | fail)
        go_roundw
        case rel =>
          refine ⟨j + 1, by simp, by omega, ⟨S1.out, ?_, HOWN.out, ?_, HCH4.out.trans S2.out (fun k hk _ => .inl hk)⟩⟩
          · rw [HT.out]
            exact HU4.out.step (fun k hk => S2.out.block k (HU4.out.lt k hk) (fun e => by have := HOWN.out k hk; have := HWW.out; omega))
          · exact HO4.out.step (fun k hk => S2.out.block k (HO4.out.lt k hk) (fun e => HVO.out (e ▸ hk)))
        case measure => simp [intOf]; omega
      | false =>
        go_wp2_with (first | (go_at_call 27; refine HST.out.mono ?_; rintro e w5 ⟨rfl, s1, s2⟩; have S1 := Sh.mk s1; have S2 := Sh.mk s2; clear s1 s2) | fail)
        go_roundw
        case rel =>
          refine ⟨j + 1, by simp, by omega, ⟨S1.out, ?_, fun k hk => Nat.le_trans HWW.out.2 (HOW4.out k hk), ?_, HCH4.out.trans S2.out (fun k hk _ => .inl hk)⟩⟩
          · rw [HT.out]
            exact I4.out.step (fun k hk => S2.out.block k (I4.out.lt k hk) (fun e => by have := HOW4.out k hk; have := HWW.out; omega))
          · exact HO4.out.step (fun k hk => S2.out.block k (HO4.out.lt k hk) (fun e => HVO.out (e ▸ hk)))
        case measure => simp [intOf]; omega
    · go_wp2
      go_ret
      have := HRR.out.left
      rw [show j = order.length by have := HM.out; omega, List.take_length] at this
      exact ⟨_, rfl, this, HRR.out.own, HRR.out.fil, HRR.out.chg⟩
theorem fnv_same : Fnv Tryz.prog (.func (.func 16) #[] #[]) 16 #[] := ⟨rfl, _, Tryz.func16, by kernel_rfl, rfl⟩
theorem same_calls (w : World) (v : Value) : Calls Tryz.prog 16 #[v] w fun e w' => e = .returned v ∧ w' = w := by
  go_enter Tryz.func16, Tryz.ntmps16
  go_wp2
  go_ret
  exact ⟨rfl, rfl⟩
theorem pickE_nums (es : List Eqn) : pickE es (nums es.length) = es := by
  unfold pickE nums
  rw [List.filterMap_map]
  have h : ∀ n, n ≤ es.length → (List.range n).filterMap (pick1 es ∘ fun i : Nat => (i : Int)) = es.take n := by
    intro n
    induction n with
    | zero => intro _; simp
    | succ n ih =>
      intro hn
      rw [List.range_succ, List.filterMap_append, ih (by omega), List.take_add_one]
      congr 1
      have h1 : pick1 es (n : Int) = es[n]? := by unfold pick1; rw [if_pos (by omega)]; simp
      simp only [List.filterMap_cons, List.filterMap_nil, Function.comp, h1]
      cases es[n]? <;> rfl
  rw [h _ (Nat.le_refl _), List.take_length]
/-- The core, or why there is none. -/
def coreP (es : List Eqn) (sb : List Int → Bool) : List Int × Int :=
  if es.all Eqn.right then (if sb (nums es.length) then ([], 9) else (reduceP sb (nums es.length) (nums es.length), 0)) else ([], 1)
set_option maxRecDepth 100000 in
set_option maxHeartbeats 1000000 in
theorem core_calls (w : World) (S : Nat → Prop) (es : List Eqn) (sb : List Int → Bool) (v : Value) (h : EqsAt w S es v) (hsb : SatB es sb) (hle : es.length ≤ 1000000) (hsz : sizes es ≤ 1000000) :
    Calls Tryz.prog 15 #[v, .func (.func 16) #[] #[]] w fun e w' => ∃ v' n, e = .returned (.tuple #[v', .int .i64 n, .int .i64 (coreP es sb).2]) ∧ IRow w' v' (coreP es sb).1 ∧ (∀ k, v'.ownBlock = some k → w.heap.size ≤ k) ∧ Below w.heap.size w w' := by
  obtain ⟨A, c, rfl, _⟩ := h.shape
  have h' : EqsAt w (fun k => k < w.heap.size) es (.slice A es.length c) := Dat.at_mono h (fun k _ hk => hk)
  obtain ⟨w1, hw1⟩ : ∃ w1, w1 = w.alloc (.cells #[.slice A es.length c, .int .i64 0] 51) := ⟨_, rfl⟩
  have HB1 : Sh (Below w.heap.size w w1) := ⟨by rw [hw1]; exact (Below.refl _ _).alloc (Nat.le_refl _) _⟩
  have HF1 : Sh (FilAt w1 (fun k => k < w.heap.size) w.heap.size es (.slice A es.length c) 0) := ⟨by rw [hw1]; exact Blk.new _ _ _, h'.below HB1.out, fun k hk => hk⟩
  have HNUM := Sh.mk (numbers_calls w1 es.length hle)
  have HW1 := Sh.mk hw1
  have HSB := Sh.mk hsb
  have HSZ : Sh (sizes (pickE es (nums es.length)) ≤ 1000000) := ⟨by rw [pickE_nums]; exact hsz⟩
  have HC1 : Sh (es.all Eqn.right = false → coreP es sb = ([], 1)) := ⟨fun h => by unfold coreP; rw [h]; rfl⟩
  have HC2 : Sh (es.all Eqn.right = true → sb (nums es.length) = true → coreP es sb = ([], 9)) := ⟨fun h h2 => by unfold coreP; rw [h, h2]; rfl⟩
  have HC3 : Sh (es.all Eqn.right = true → sb (nums es.length) = false → coreP es sb = (reduceP sb (nums es.length) (nums es.length), 0)) := ⟨fun h h2 => by unfold coreP; rw [h, h2]; rfl⟩
  obtain ⟨cp, hcp⟩ : ∃ cp, cp = coreP es sb := ⟨_, rfl⟩
  rw [← hcp] at HC1 HC2 HC3 ⊢
  obtain ⟨cv, cc⟩ := cp
  simp only
  clear hcp
  obtain ⟨ne, hne⟩ : ∃ ne, ne = es.length := ⟨_, rfl⟩
  rw [← hne] at hle HF1 HNUM HW1 HSZ HC2 HC3 ⊢
  have HLE := Sh.mk hle
  have HNE := Sh.mk hne
  have hlen63 : ne ≤ 9223372036854775807 := by omega
  clear h h' hw1 hsb hsz hne
  go_enter Tryz.func15, Tryz.ntmps15
  go_upto_region 2 with (fail)
  rw [← HW1.out]
  clear HW1
  go_upto_region 3 with (first | (go_at_call 18; refine HNUM.out.mono ?_; rintro e w2 ⟨v2, rfl, i1, i2, i3⟩; have I1 := Sh.mk i1; have I2 := Sh.mk i2; have I3 := Sh.mk i3; clear i1 i2 i3))
  have HRT := Sh.mk (right_calls w2 _ es _ (HF1.out.eqs.below I3.out))
  have HF2 := Sh.mk (HF1.out.keep I3.out)
  have HB2 := Sh.mk (below_then HB1.out I3.out)
  obtain ⟨rb, hrb⟩ : ∃ rb, rb = es.all Eqn.right := ⟨_, rfl⟩
  rw [← hrb] at HRT HC1 HC2 HC3
  have HRB := Sh.mk hrb
  clear hrb
  cases rb with
  | false =>
    have HCC := Sh.mk (HC1.out rfl)
    go_wp2_with (first | (go_at_call 26; refine HRT.out.mono ?_; rintro e w3 ⟨rfl, b3⟩; have B3 := Sh.mk b3; clear b3))
    have hcc := HCC.out
    simp only [Prod.mk.injEq] at hcc
    obtain ⟨rfl, rfl⟩ := hcc
    refine bodyPost_ret (v := .tuple #[.slice none 0 0, .int .i64 0, .int .i64 1]) (by simp [results, Tryz.results15, go_sem, *]) rfl ⟨.slice none 0 0, 0, rfl, IRow.nil _, fun k hk => by simp [Value.ownBlock] at hk, below_then HB2.out B3.out⟩
  | true =>
    have hwl : w.heap.size < w1.heap.size := HF1.out.blk.lt
    have HOWN2 : Sh (∀ k, v2.ownBlock = some k → w.heap.size < k) := ⟨fun k hk => Nat.lt_of_lt_of_le hwl (I2.out k hk)⟩
    have HNL := Sh.mk (nums_len ne)
    clear hwl
    go_upto_region 5 with (first | (go_at_call 26; refine HRT.out.mono ?_; rintro e w3 ⟨rfl, b3⟩; have B3 := Sh.mk b3; clear b3))
    have HI3 := Sh.mk (I1.out.keep B3.out)
    have HF3 := Sh.mk (HF2.out.keep B3.out)
    have HB3 := Sh.mk (below_then HB2.out B3.out)
    have HST := Sh.mk (sat_calls w3 _ _ es sb _ _ (nums ne) v2 HF3.out HRB.out.symm HSB.out HI3.out (by rw [HNL.out]; exact HLE.out) (by rw [← HNE.out]; exact HLE.out) HSZ.out (fun e => by have := HOWN2.out _ e; omega))
    obtain ⟨b, hb⟩ : ∃ b, b = sb (nums ne) := ⟨_, rfl⟩
    rw [← hb] at HST HC2 HC3
    clear hb
    cases b with
    | true =>
      have HCC := Sh.mk (HC2.out (by first | trivial | rfl) (by first | trivial | rfl))
      go_wp2_with (first | (go_at_call 27; refine HST.out.mono ?_; rintro e w4 ⟨rfl, ⟨n4, s1⟩, s2⟩; have S1 := Sh.mk s1; have S2 := Sh.mk (HB3.out.trans (s2.below (fun k hk => by omega) HB3.out.size)); have q1 := s1.blk.cell 1; (simp only [List.getElem?_cons_zero, List.getElem?_cons_succ] at q1); clear s1 s2))
      go_region
      have hcc := HCC.out
      simp only [Prod.mk.injEq] at hcc
      obtain ⟨rfl, rfl⟩ := hcc
      go_wp2
      refine bodyPost_ret (v := .tuple #[.slice none 0 0, .int .i64 n4, .int .i64 9]) (by simp [results, Tryz.results15, go_sem, *]) rfl ⟨.slice none 0 0, ⟨n4, rfl⟩, IRow.nil _, fun k hk => by simp [Value.ownBlock] at hk, S2.out.drew⟩
    | false =>
      have HCC := Sh.mk (HC3.out (by first | trivial | rfl) (by first | trivial | rfl))
      go_wp2_with (first
        | (go_at_call 27; refine HST.out.mono ?_; rintro e w4 ⟨rfl, ⟨n4, s1⟩, s2⟩; have S1 := Sh.mk s1; have S2 := Sh.mk (HB3.out.trans (s2.below (fun k hk => by omega) HB3.out.size)); have S3 := Sh.mk (HI3.out.step (w' := w4) (fun k hk => s2.block k (HI3.out.lt k hk) (fun e => by have := HOWN2.out k hk; omega))); clear s1 s2)
        | (go_at_call 16; refine (same_calls _ _).mono ?_; rintro e w5 ⟨rfl, rfl⟩)
        | (go_at_call 33; refine (reduce_calls _ _ _ es sb _ _ (nums ne) (nums ne) v2 v2 S1.out HRB.out.symm HSB.out S3.out S3.out (by rw [HNL.out]; exact HLE.out) (by rw [HNL.out]; exact HLE.out) (by rw [← HNE.out]; exact HLE.out) HSZ.out (fun e => by have := HOWN2.out _ e; omega)).mono ?_; rintro e w6 ⟨v6, rfl, i1, i2, ⟨n6, i3⟩, i4⟩; have K1 := Sh.mk i1; have K2 := Sh.mk i2; have K4 := Sh.mk (S2.out.trans (i4.below (fun k hk => by omega) S2.out.size)); have q1 := i3.blk.cell 1; (simp only [List.getElem?_cons_zero, List.getElem?_cons_succ] at q1); clear i1 i2 i3 i4)
        | fail)
      go_region
      have hcc := HCC.out
      simp only [Prod.mk.injEq] at hcc
      obtain ⟨rfl, rfl⟩ := hcc
      go_wp2
      refine bodyPost_ret (v := .tuple #[v6, .int .i64 n6, .int .i64 0]) (by simp [results, Tryz.results15, go_sem, *]) rfl ⟨v6, ⟨n6, rfl⟩, K1.out.keep (Below.refl _ _).drew, fun k hk => Nat.le_trans S2.out.size (K2.out k hk), K4.out.drew⟩
theorem Core_calls (w : World) (S : Nat → Prop) (es : List Eqn) (sb : List Int → Bool) (v : Value) (h : EqsAt w S es v) (hsb : SatB es sb) (hle : es.length ≤ 1000000) (hsz : sizes es ≤ 1000000) :
    Calls Tryz.prog 7 #[v] w fun e w' => ∃ v', e = .returned (.tuple #[v', .int .i64 (coreP es sb).2]) ∧ IRow w' v' (coreP es sb).1 ∧ (∀ k, v'.ownBlock = some k → w.heap.size ≤ k) ∧ Below w.heap.size w w' := by
  have HC := Sh.mk (core_calls w S es sb v h hsb hle hsz)
  obtain ⟨cp, hcp⟩ : ∃ cp, cp = coreP es sb := ⟨_, rfl⟩
  rw [← hcp] at HC ⊢
  clear h hsb hle hsz hcp
  go_enter Tryz.func7, Tryz.ntmps7
  go_wp2_with (first | (go_at_call 15; refine HC.out.mono ?_; rintro e w1 ⟨v1, n1, rfl, i1, i2, i3⟩; have I1 := Sh.mk i1; have I2 := Sh.mk i2; have I3 := Sh.mk i3; clear i1 i2 i3))
  go_ret2
  exact ⟨v1, rfl, I1.out, I2.out, I3.out⟩
end Go.Proofs.YtdppkdjgadiinaaGreat
