/- The law of a core: picked equations in new rows. The law of a core: it cannot be solved, but each fewer of it can; it rises. -/
import Derived.Test.YtdppkdjgadiinaaGreatMinl
import Derived.Test.YtdppkdjgadiinaaGreatAwake
import Derived.Deep.RegionHeldLaw
set_option linter.unusedVariables false
set_option linter.unusedSimpArgs false
namespace Go.Proofs.YtdppkdjgadiinaaGreat
open Go.RowKit

theorem pickE_append (es : List Eqn) (a b : List Int) : pickE es (a ++ b) = pickE es a ++ pickE es b := by
  unfold pickE
  rw [List.filterMap_append]
theorem pickE_length {es : List Eqn} : ∀ {c : List Int}, (∀ k, k ∈ c → 0 ≤ k ∧ k < es.length) → (pickE es c).length = c.length
  | [], _ => rfl
  | k :: c, h => by
    have h1 := h k (by simp)
    have h2 := pickE_length (es := es) (c := c) fun k hk => h k (by simp [hk])
    have h3 : pick1 es k = some (es[k.toNat]'(by omega)) := by
      unfold pick1
      rw [if_pos h1, List.getElem?_eq_getElem (by omega)]
    unfold pickE at h2 ⊢
    rw [List.filterMap_cons, h3]
    simp [h2]
theorem pickE_but {es : List Eqn} {c : List Int} (h : ∀ k, k ∈ c → 0 ≤ k ∧ k < es.length) (hn : c.Nodup) {i : Nat} {k : Int} (hk : c[i]? = some k) : (pickE es c).take i ++ (pickE es c).drop (i + 1) = pickE es (but k c) := by
  have hi : i < c.length := (List.getElem?_eq_some_iff.1 hk).1
  have e1 : c = c.take i ++ k :: c.drop (i + 1) := by
    conv => lhs; rw [← List.take_append_drop i c]
    congr 1
    rw [List.drop_eq_getElem_cons hi]
    congr 1
    exact (List.getElem?_eq_some_iff.1 hk).2
  have e2 : but k c = c.take i ++ c.drop (i + 1) := by
    unfold but kept
    conv => lhs; rw [e1]
    have hn' := hn
    rw [e1, List.nodup_append] at hn'
    obtain ⟨_, h2, h3⟩ := hn'
    rw [List.nodup_cons] at h2
    rw [List.filter_append, List.filter_cons]
    simp only [beq_self_eq_true, Bool.not_true, Bool.false_eq_true, if_false]
    congr 1
    · rw [List.filter_eq_self]
      intro a ha
      have := h3 a ha k (by simp)
      simpa using this
    · rw [List.filter_eq_self]
      intro a ha
      have : a ≠ k := fun e => h2.1 (e ▸ ha)
      simpa using this
  have l1 : (pickE es (c.take i)).length = i := by
    rw [pickE_length fun k hk => h k (List.mem_of_mem_take hk), List.length_take]
    omega
  have e3 : pickE es c = pickE es (c.take i) ++ (pickE es [k] ++ pickE es (c.drop (i + 1))) := by
    conv => lhs; rw [e1]
    rw [pickE_append, show k :: c.drop (i + 1) = [k] ++ c.drop (i + 1) from rfl, pickE_append]
  have l2 : (pickE es [k]).length = 1 := pickE_length fun a ha => h a (by rw [List.mem_singleton] at ha; rw [ha]; exact List.mem_of_getElem? hk)
  rw [e2, pickE_append, e3]
  congr 1
  · rw [List.take_append_of_le_length (by omega), List.take_of_length_le (by omega)]
  · rw [List.drop_append, List.drop_of_length_le (by omega), List.nil_append, l1, show i + 1 - i = 1 by omega, List.drop_append, List.drop_of_length_le (by omega), List.nil_append, l2]
    rfl
/-- A row of picked equations: the sides' parts lie where they were. -/
structure Some8 (w1 wr : World) (v : Value) (os : List E8) (xs : List Eqn) : Prop where
  row : GRow EqK wr v os
  own : ∀ k, v.ownBlock = some k → w1.heap.size ≤ k
  parts : ∀ o, o ∈ os → PartsAt w1 (fun k => k < w1.heap.size) o.e.l (.slice o.As o.e.l.parts.length o.cs) ∧ PartsAt w1 (fun k => k < w1.heap.size) o.e.r (.slice o.At o.e.r.parts.length o.ct)
  is : os.map (·.e) = xs
theorem Some8.at {w1 wr : World} {v : Value} {os : List E8} {xs : List Eqn} (h : Some8 w1 wr v os xs) (hb : Below w1.heap.size w1 wr) : EqsAt wr (fun k => 0 ≤ k) xs v := by
  rw [← h.is]
  refine E8s.at ⟨h.row, fun k _ => Nat.zero_le k, fun o ho => ?_⟩
  obtain ⟨p1, p2⟩ := h.parts o ho
  exact ⟨Dat.at_mono (p1.below hb) (fun k hk _ => ⟨Nat.zero_le k, fun e => by have := h.own k e; omega⟩), Dat.at_mono (p2.below hb) (fun k hk _ => ⟨Nat.zero_le k, fun e => by have := h.own k e; omega⟩)⟩
theorem Some8.keep {w1 wr w' : World} {v : Value} {os : List E8} {xs : List Eqn} (h : Some8 w1 wr v os xs) (hb : Below wr.heap.size wr w') : Some8 w1 w' v os xs := ⟨h.row.keep hb, h.own, h.parts, h.is⟩
theorem run_row_src {α : Type} {K : RK α} (hK : RKok K) {W : World} (v : Value) (a : Addr) (cap : Nat) (ps qs : List α) (ty : TypeId) (HO : GRow K W v ps) (HX : ∀ j u, (K.cells qs)[j]? = some u → W.cell? (a.add j) = some u) (h63 : ps.length + qs.length ≤ 140737488355328) (hl : (ps.length + qs.length) * K.bytes ≤ 140737488355328) :
    ∃ A1 c1 w1, (Builtin.append_ #[K.st, K.st] ty #[v, .slice (some a) qs.length cap]).run Tryz.prog W = .ok (.slice A1 (ps.length + qs.length) c1) w1 ∧ GRow K w1 (.slice A1 (ps.length + qs.length) c1) (ps ++ qs) ∧ W.grownBy w1 v.ownBlock ∧
      ((Value.slice A1 (ps.length + qs.length) c1).ownBlock = v.ownBlock ∨ (Value.slice A1 (ps.length + qs.length) c1).ownBlock = some W.heap.size) := by
  obtain ⟨i0, hi, hzz⟩ := Option.map_eq_some_iff.1 hK.info
  simp only [Prod.mk.injEq] at hzz
  obtain ⟨hz0, hz1, hz2⟩ := hzz
  obtain ⟨v', w', hr, h2, h3, _, h5⟩ := run_append_own_at (P := Tryz.prog) W 0 K.st ty K.t i0 _ K.sz K.bytes hK.st hi hz0 hz1 hz2 hK.zsz hK.pos v ps.length _ HO a qs.length cap (K.cells qs) (RK.cells_len hK qs) HX (RK.cells_cell hK qs) (by simp only [maxLen]; omega) hl (Nat.zero_le _)
  have hI : GRow K w' v' (ps ++ qs) := by unfold GRow; rw [RK.cells_append]; simpa using h2
  obtain ⟨A1, c1, rfl⟩ := hI.shape
  simp only [List.length_append] at *
  exact ⟨A1, c1, w', hr, hI, h3, h5⟩
section
variable {α : Type} {k : RK α} {W : World} {ops : Array Oper} {rest : List Oper} {o : Oper} {a : Act} {K : Act → World → Prop} {Q : Exit → Act → World → Prop} {E : Prop}
theorem step_src (hK : RKok k) (hgd : o.guard = none) (s x : Operand) (ho : o.op = .call { callee := .builtin .append, args := #[s, x], argTypes := #[k.st, k.st] })
    (v : Value) (ad : Addr) (cap p q r : Nat) (ps qs : List α) (hp : ps.length = p) (hq : qs.length = q) (hr : p + q = r) (hs : a.eval s = v) (hx : a.eval x = .slice (some ad) q cap) (HO : GRow k W v ps) (HX : ∀ j u, (k.cells qs)[j]? = some u → W.cell? (ad.add j) = some u) (h63 : r ≤ 140737488355328) (hl : r * k.bytes ≤ 140737488355328)
    (h : ∀ A1 c1 w1, GRow k w1 (.slice A1 r c1) (ps ++ qs) → W.grownBy w1 v.ownBlock → ((Value.slice A1 r c1).ownBlock = v.ownBlock ∨ (Value.slice A1 r c1).ownBlock = some W.heap.size) → K (a.put o.dst (.slice A1 r c1)) w1) :
    if Region.wanted o (yielded ops a.tmps) = true then Oper.wp Tryz.prog o a W K Q else E := by
  subst hp hq hr
  have hw : Region.wanted o (yielded ops a.tmps) = true := by simp [Region.wanted, hgd]
  rw [if_pos hw]
  obtain ⟨A1, c1, w1, hr, h1, h2, h3⟩ := run_row_src hK v ad cap ps qs o.type HO HX h63 hl
  unfold Oper.wp execOp
  simp only [ho, resolve, invoke, builtin, Sem.run_bind, Sem.run_pure, Result.andThen_ok, List.map_toArray, List.map_cons, List.map_nil, hs, hx, hr]
  exact h A1 c1 w1 h1 h2 h3
end
theorem Eq_empty (w : World) : GRow EqK (w.alloc (.cells #[] 40)) (.slice (some ⟨w.heap.size, 0, none⟩) 0 0) [] := by
  unfold GRow
  exact World.ownsRow_lit w #[] 0 (Nat.zero_le _) (by simp [maxLen]) rfl
theorem RK.cells_part {α : Type} {K : RK α} (hK : RKok K) (xs : List α) {i j : Nat} {u : Value} (h : (K.cells (xs.drop i))[j]? = some u) (hi : i ≤ xs.length) : (K.cells xs)[i * K.sz + j]? = some u := by
  conv => lhs; rw [← List.take_append_drop i xs]
  rw [RK.cells_append, List.getElem?_append_right (by rw [RK.cells_len hK, List.length_take, Nat.min_eq_left hi]; omega), RK.cells_len hK, List.length_take, Nat.min_eq_left hi]
  rw [← h]
  congr 1
  omega
theorem RK.cells_head {α : Type} {K : RK α} (xs : List α) {i j : Nat} {u : Value} (h : (K.cells (xs.take i))[j]? = some u) : (K.cells xs)[j]? = some u := by
  conv => lhs; rw [← List.take_append_drop i xs]
  rw [RK.cells_append, List.getElem?_append_left (List.getElem?_eq_some_iff.1 h).1]
  exact h
theorem Some8.len {w1 wr : World} {A : Option Addr} {n c : Nat} {os : List E8} {xs : List Eqn} (h : Some8 w1 wr (.slice A n c) os xs) : os.length = n := by
  obtain ⟨A', c', e⟩ := h.row.shape
  simp only [Value.slice.injEq] at e
  exact e.2.1.symm
theorem Some8.cell {w1 wr : World} {g n c : Nat} {os : List E8} {xs : List Eqn} (h : Some8 w1 wr (.slice (some ⟨g, 0, none⟩) n c) os xs) {j : Nat} {u : Value} (hu : (EqK.cells os)[j]? = some u) : wr.cell? ⟨g, j, none⟩ = some u := by
  have hl := h.len
  have hj : j < os.length * EqK.sz := by
    have := (List.getElem?_eq_some_iff.1 hu).1
    rw [RK.cells_len EqK_ok] at this
    exact this
  have hr := h.row
  unfold GRow at hr
  rw [← hl] at hr
  rw [World.ownsRow.cellAt hr j hj]
  exact hu
theorem Some8.head {w1 wr : World} {g n c : Nat} {os : List E8} {xs : List Eqn} (h : Some8 w1 wr (.slice (some ⟨g, 0, none⟩) n c) os xs) (i : Nat) : ∀ j u, (EqK.cells (os.take i))[j]? = some u → wr.cell? ((⟨g, 0, none⟩ : Addr).add j) = some u := fun j u hu => by
  rw [add_zero]
  exact h.cell (RK.cells_head os hu)
theorem Some8.tail {w1 wr : World} {g n c : Nat} {os : List E8} {xs : List Eqn} (h : Some8 w1 wr (.slice (some ⟨g, 0, none⟩) n c) os xs) (i : Nat) (hi : i ≤ n) : ∀ j u, (EqK.cells (os.drop i))[j]? = some u → wr.cell? ((⟨g, i * 8, none⟩ : Addr).add j) = some u := fun j u hu => by
  have e : (⟨g, i * 8, none⟩ : Addr).add j = ⟨g, i * 8 + j, none⟩ := by
    unfold Addr.add
    split
    · rename_i h0; rw [h0]; rfl
    · rfl
  rw [e]
  exact h.cell (RK.cells_part EqK_ok os hu (by have := h.len; omega))
theorem Some8.grown {w1 wr w' : World} {v : Value} {os : List E8} {xs : List Eqn} (h : Some8 w1 wr v os xs) {row : Option Nat} (hg : wr.grownBy w' row) (hr : ∀ k, v.ownBlock = some k → row ≠ some k) : Some8 w1 w' v os xs :=
  ⟨h.row.grown hg hr, h.own, h.parts, h.is⟩
/-- One append more to a row of the call's own that lies beyond a bound. -/
theorem Some8.step {w2 W w5 : World} {v u u' : Value} {os : List E8} {xs : List Eqn} {B : Nat} (h : Some8 w2 W v os xs) (hb : Below w2.heap.size w2 W) (hB : w2.heap.size ≤ B) (hBW : B ≤ W.heap.size) (hv : ∀ k, v.ownBlock = some k → k < B) (hu : ∀ k, u.ownBlock = some k → B ≤ k)
    (hg : W.grownBy w5 u.ownBlock) (hu' : u'.ownBlock = u.ownBlock ∨ u'.ownBlock = some W.heap.size) : Some8 w2 w5 v os xs ∧ (∀ k, u'.ownBlock = some k → B ≤ k) ∧ Below w2.heap.size w2 w5 ∧ B ≤ w5.heap.size := by
  refine ⟨h.grown hg (fun k hk e => by have := hv k hk; have := hu k e; omega), fun k hk => ?_, hb.grown hg hb.size (fun k hk => Nat.le_trans hB (hu k hk)), Nat.le_trans hBW hg.size⟩
  rcases hu' with e | e
  · exact hu k (by rw [← e]; exact hk)
  · rw [e] at hk
    simp only [Option.some.injEq] at hk
    omega
/-- A row without one of its equations. -/
theorem Some8.less {w2 w6 : World} {v v' : Value} {os : List E8} {xs ys : List Eqn} {j : Nat} (h : Some8 w2 w6 v os xs) (hr : GRow EqK w6 v' (([] ++ os.take j) ++ os.drop (j + 1))) (ho : ∀ k, v'.ownBlock = some k → w2.heap.size ≤ k) (hy : xs.take j ++ xs.drop (j + 1) = ys) : Some8 w2 w6 v' (([] ++ os.take j) ++ os.drop (j + 1)) ys :=
  ⟨hr, ho, fun o hm => by
    rw [List.nil_append] at hm
    rcases List.mem_append.1 hm with e | e
    · exact h.parts o (List.mem_of_mem_take e)
    · exact h.parts o (List.mem_of_mem_drop e), by
    rw [List.nil_append, List.map_append, List.map_take, List.map_drop, h.is]
    exact hy⟩
end Go.Proofs.YtdppkdjgadiinaaGreat
set_option linter.unusedVariables false
set_option linter.unusedSimpArgs false
namespace Go.Proofs.YtdppkdjgadiinaaGreat
open Go.RowKit

/-- What the first loop has so far. -/
structure RulL (w1 wr : World) (es : List Eqn) (cv : List Int) (v : Value) (os : List E8) (i : Nat) : Prop where
  row : Some8 w1 wr v os (pickE es (cv.take i))
  len : os.length = i
  below : Below w1.heap.size w1 wr
set_option maxRecDepth 100000 in
set_option maxHeartbeats 2000000 in
theorem MusRules_calls (w : World) (S : Nat → Prop) (es : List Eqn) (v : Value) (h : EqsAt w S es v) :
    Calls Tryz.prog 4 #[v] w fun e w' => e = .returned (.bool true) ∧ Below w.heap.size w w' := by
  obtain ⟨A, ca, rfl, hlen⟩ := h.shape
  obtain ⟨n, hn⟩ : ∃ n, n = es.length := ⟨_, rfl⟩
  rw [← hn] at h hlen ⊢
  have HN := Sh.mk hn
  have H := Sh.mk h
  have HGR := Sh.mk (Great_calls w S es _ h)
  clear h hn
  go_enter Tryz.func4, Tryz.ntmps4
  go_wp2_with (first | (go_at_call 5; refine HGR.out.mono ?_; rintro e w1 ⟨b, rfl, h1, hb1⟩; have HB1 := Sh.mk hb1; have H1 := Sh.mk h1; clear hb1 h1; cases b) | (go_at_call 6; refine (awake_calls _).mono ?_; rintro e w9 ⟨rfl, hb9⟩; have HB9 := Sh.mk hb9; clear hb9) | fail)
  rotate_left
  · go_ret
    exact ⟨rfl, below_then HB1.out HB9.out⟩
  have HSM := Sh.mk (H1.out trivial)
  have hn20 : n ≤ 20 := by have := HN.out; have := HSM.out.1; omega
  have HE1 := Sh.mk (H.out.below HB1.out)
  have HC := Sh.mk (Core_calls w1 S es (satP es) _ HE1.out (satP_is es) (by have := HN.out; omega) (by have := HSM.out.2; omega))
  have HZ : Sh ((coreP es (satP es)).2 = 0 → es.all Eqn.right = true ∧ satP es (nums es.length) = false ∧ (coreP es (satP es)).1 = reduceP (satP es) (nums es.length) (nums es.length)) := ⟨by
    unfold coreP
    cases hr : es.all Eqn.right with
    | false => simp
    | true =>
      cases hb : satP es (nums es.length) with
      | true => simp
      | false => simp⟩
  have HZ2 : Sh ((coreP es (satP es)).2 ≠ 0 → ∀ code, SatIs es code → ((coreP es (satP es)).2 == 9) = (code == 0)) := ⟨by
    intro hne code hcode
    have hs := satP_is es (nums es.length) code (by rw [pickE_nums]; exact hcode)
    unfold coreP at hne ⊢
    cases hr : es.all Eqn.right with
    | false =>
      have h0 : satP es (nums es.length) = false := by unfold satP; rw [pickE_nums, hr, Bool.false_and]
      rw [hs, h0]
      rfl
    | true =>
      cases hb : satP es (nums es.length) with
      | true => rw [hs, hb]; rfl
      | false => rw [hr, hb] at hne; exact absurd rfl hne⟩
  obtain ⟨cp, hcp⟩ : ∃ cp, cp = coreP es (satP es) := ⟨_, rfl⟩
  rw [← hcp] at HC HZ HZ2
  obtain ⟨cv, cc⟩ := cp
  simp only at HC HZ HZ2
  clear hcp HGR H1 H
  go_upto_region 4 with (first | (go_at_call 7; refine HC.out.mono ?_; rintro e w2 ⟨v2, rfl, i1, i2, i3⟩; have I1 := Sh.mk i1; have I3 := Sh.mk i3; clear i1 i2 i3))
  clear HC
  by_cases hcc : cc = 0
  · subst hcc
    obtain ⟨hr, hbf, hcv⟩ := HZ.out rfl
    have hls : Least (satP es) n cv := by rw [hcv, HN.out]; exact least_of (satP_down hr) (List.Sublist.refl _) hbf
    have HLS := Sh.mk hls
    have HR := Sh.mk hr
    have HCR : Sh (∀ k, k ∈ cv → 0 ≤ k ∧ k < es.length) := ⟨fun k hk => by have := nums_in (hls.sub.subset hk); rw [← HN.out]; exact this⟩
    have HRI : Sh (cv.Pairwise fun a b => a < b) := ⟨(nums_rise n).sublist hls.sub⟩
    obtain ⟨Ac, cc, rfl⟩ := I1.out.shape
    obtain ⟨m, hm⟩ : ∃ m, m = cv.length := ⟨_, rfl⟩
    have hm20 : m ≤ 20 := by have := hls.sub.length_le; rw [nums_len] at this; omega
    have hm0 : 0 < m := by
      rcases Nat.eq_zero_or_pos m with h | h
      · have e : cv = [] := List.eq_nil_of_length_eq_zero (by omega)
        have h1 := hls.not
        rw [e] at h1
        have h2 : satP es [] = true := (satP_iff hr []).2 ⟨fun _ => exInt, fun e he => by simp [pickE] at he⟩
        rw [h2] at h1
        cases h1
      · exact h
    have HM := Sh.mk hm
    rw [← hm] at I1 ⊢
    have HE2 : Sh (EqsAt w2 (fun k => k < w2.heap.size) es (.slice A n ca)) := ⟨Dat.at_mono (HE1.out.below I3.out) (fun k _ hk => hk)⟩
    have HB2 := Sh.mk (below_then HB1.out I3.out)
    clear hr hbf hcv hls hm HZ HZ2 HE1 I3 HB1
    go_wp2
    go_loopw [5, 6] (fun v5 v6 wr => ∃ (A5 : Option Addr) (i c5 : Nat), v5 = .slice A5 i c5 ∧ v6 = .int .i64 i ∧ i ≤ m ∧ Sh (∃ os, RulL w2 wr es cv (.slice A5 i c5) os i)) (fun _ v6 _ => m - (intOf v6).toNat)
    case atStart => exact ⟨none, 0, 0, rfl, rfl, Nat.zero_le _, ⟨[], ⟨GRow.nil _ _, fun k hk => by simp [Value.ownBlock] at hk, fun o ho => by simp at ho, by simp [pickE]⟩, rfl, Below.refl _ _⟩⟩
    case round =>
      obtain ⟨A5, i, c5, rfl, rfl, hi, HL⟩ := hrel
      by_cases hlt : i < m
      · obtain ⟨os, hL⟩ := HL.out
        obtain ⟨k, hk⟩ : ∃ k, cv[i]? = some k := ⟨_, List.getElem?_eq_getElem (by have := HM.out; omega)⟩
        have hkr := HCR.out k (List.mem_of_getElem? hk)
        obtain ⟨kk, rfl⟩ : ∃ kk : Nat, k = kk := ⟨k.toNat, by omega⟩
        have hkn : kk < n := by have := HN.out; omega
        obtain ⟨gc, x, rfl, hx, tx⟩ := (I1.out.keep hL.below).here hlt
        rw [hk] at hx
        simp only [Option.some.injEq] at hx
        subst hx
        have HK := Sh.mk hk
        have HLL := Sh.mk hL
        have hd1 : decide ((kk : Int) < 0) = false := by simp
        have hd2 : decide ((kk : Int) ≥ (n : Int)) = false := by simp; omega
        have hd2n : decide (n ≤ kk) = false := by simp; omega
        clear hkr HL hL hk
        go_upto_region 10 with (fail)
        go_cut [62] from 33 to 63 (fun s62 wx => s62 = .bool false ∧ Sh (Below wr.heap.size wr wx))
        case first =>
          by_cases hi0 : i = 0
          · have g1 : decide ((i : Int) > 0) = false := by simp; omega
            have g2 : decide (0 < i) = false := by simp; omega
            clear hi0
            go_quiet (fail)
            all_goals (go_wp2; go_meet)
            all_goals exact ⟨rfl, ⟨Below.drewN' (Below.refl _ _) _⟩⟩
          · obtain ⟨i', hi'⟩ : ∃ i', i = i' + 1 := ⟨i - 1, by omega⟩
            obtain ⟨gc', y, e, hy, ty⟩ := (I1.out.keep HLL.out.below).here (i := i') (by omega)
            simp only [Option.some.injEq, Addr.mk.injEq, and_true] at e
            subst e
            have hyx : y < (kk : Int) := by
              have hk := HK.out
              obtain ⟨a1, a2⟩ := List.getElem?_eq_some_iff.1 hk
              obtain ⟨b1, b2⟩ := List.getElem?_eq_some_iff.1 hy
              have := (List.pairwise_iff_getElem.1 HRI.out) i' i b1 a1 (by omega)
              rw [a2, b2] at this
              exact this
            have g1 : decide ((i : Int) > 0) = true := by simp; omega
            have g2 : decide (0 < i) = true := by simp; omega
            have hlt' : i' < m := by omega
            have hi1 : IntKind.i64.wrap ((i : Int) - 1) = (i' : Int) := by rw [IntWalk.i64_in _ (by omega)]; omega
            have hd3 : decide ((kk : Int) ≤ y) = false := by simp; omega
            clear hyx hy hi0 hi'
            go_quiet (fail)
            all_goals (go_wp2; go_meet)
            all_goals exact ⟨rfl, ⟨Below.drewN' (Below.refl _ _) _⟩⟩
        case rest =>
          obtain ⟨rfl, HBC⟩ := hcut
          have HWC := Sh.mk (below_then HLL.out.below HBC.out)
          obtain ⟨x, hx⟩ : ∃ x, es[kk]? = some x := ⟨_, List.getElem?_eq_getElem (by have := HN.out; omega)⟩
          obtain ⟨ad, As, cs, At, ct, rfl, hS, hbl, c0, c1, c2, c3, c4, c5', c6, c7, hpl, hpr⟩ := eqRow_elem HE2.out hx
          have hbl8 : (ad.add (kk * 8)).block < w2.heap.size := by rw [add_block]; exact hbl
          have c0 := cell_on HWC.out c0 hbl8
          have c1 := cell_on HWC.out c1 hbl8
          have c2 := cell_on HWC.out c2 hbl8
          have c3 := cell_on HWC.out c3 hbl8
          have c4 := cell_on HWC.out c4 hbl8
          have c5' := cell_on HWC.out c5' hbl8
          have c6 := cell_on HWC.out c6 hbl8
          have c7 := cell_on HWC.out c7 hbl8
          have HPL := Sh.mk hpl
          have HPR := Sh.mk hpr
          have HROW := Sh.mk ((HLL.out.row.keep HBC.out).keep ((Below.refl wc.heap.size wc).alloc (Nat.le_refl _) (.cells (EqK.enc ⟨x, As, cs, At, ct⟩).toArray 40)))
          have HOL : Sh (os.length = i) := ⟨HLL.out.len⟩
          have HPK : Sh (pickE es (cv.take (i + 1)) = pickE es (cv.take i) ++ [x]) := ⟨by
            rw [pickE_take HK.out]
            have : pick1 es (kk : Int) = some x := by
              unfold pick1
              rw [if_pos (by have := HN.out; omega)]
              simpa using hx
            rw [this]
            rfl⟩
          have tx := cell_on HBC.out tx (by have := (HLL.out.below).size; have := I1.out.lt gc (by simp [Value.ownBlock]); simp; omega)
          have HSZ0 : Sh (w2.heap.size ≤ wc.heap.size) := ⟨HWC.out.size⟩
          clear hx hS hbl hbl8 hpl hpr hd1 hd2 hd2n
          go_wp2_with (at_builtin; refine append_row EqK_ok rfl (.tmp 63) (.tmp 71) rfl (.slice A5 i c5) os [⟨x, As, cs, At, ct⟩] (.slice (some ⟨wc.heap.size, 0, none⟩) 1 1) rfl rfl HROW.out.row (GRow.lit EqK_ok wc ⟨x, As, cs, At, ct⟩) (by { have := HOL.out; simp only [List.length_singleton]; omega }) (by { have := HOL.out; simp only [List.length_singleton, EqK]; omega }) ?_; intro A9 c9 w9 hI hg hv; have I9 := Sh.mk hI; have G9 := Sh.mk hg; have V9 := Sh.mk hv; clear hI hg hv)
          have e9 : os.length + [(⟨x, As, cs, At, ct⟩ : E8)].length = i + 1 := by rw [HOL.out]; rfl
          have i9 := I9.out
          have v9 := V9.out
          rw [e9] at i9 v9
          have HB9 : Sh (Below w2.heap.size w2 w9) := ⟨(HWC.out.alloc HSZ0.out _).grown G9.out (by have := HSZ0.out; simp; omega) (fun k hk => HROW.out.own k hk)⟩
          have HL9 : Sh (∃ os, RulL w2 w9 es cv (.slice A9 (i + 1) c9) os (i + 1)) := ⟨_, ⟨i9, fun k hk => by
            rcases v9 with e | e
            · exact HROW.out.own k (by rw [← e]; exact hk)
            · rw [e] at hk
              simp at hk
              have := HSZ0.out
              omega, fun o ho => by
            rcases List.mem_append.1 ho with h | h
            · exact HROW.out.parts o h
            · rw [List.mem_singleton] at h
              subst h
              exact ⟨HPL.out, HPR.out⟩, by rw [List.map_append, HROW.out.is, HPK.out]; rfl⟩, by simp [HOL.out], HB9.out⟩
          have HOL' := HOL.out
          clear i9 v9 e9
          go_wp2
          go_roundw
          case rel => exact ⟨A9, i + 1, c9, by simp [HOL'], by simp, by omega, HL9⟩
          case measure => simp [intOf]; omega
      · obtain ⟨os, hL⟩ := HL.out
        have him : i = m := by omega
        have hs8 : Some8 w2 wr (.slice A5 m c5) os (pickE es cv) := by
          have := hL.row
          rw [him, show cv.take m = cv by rw [HM.out, List.take_length]] at this
          exact this
        rw [him] at hi hlt ⊢
        have HOL : Sh (os.length = m) := ⟨by rw [hL.len, him]⟩
        have HWR := Sh.mk hL.below
        obtain ⟨g, hg⟩ : ∃ g, A5 = some ⟨g, 0, none⟩ := by
          obtain ⟨g, k, e, _⟩ := hs8.row.at EqK_ok (i := 0) (x := os[0]'(by have := HOL.out; omega)) (List.getElem?_eq_getElem _)
          simp only [Value.slice.injEq] at e
          exact ⟨g, e.1⟩
        subst hg
        have hcap := hs8.row.cap
        have HS8 := Sh.mk hs8
        have hm00 : ((m : Int) == 0) = false := by simp; omega
        have HSAT := Sh.mk (Sat_calls wr _ (pickE es cv) _ (hs8.at hL.below) (by have := sizes_sublist (pickE_sublist (es := es) HLS.out.sub); rw [HN.out, pickE_nums] at this; have := HSM.out.2; omega))
        clear hs8 hL HL him hlt
        go_upto_region 15 with (first
          | (go_at_call 10; refine HSAT.out.mono ?_; rintro e w3 ⟨code, hcd, rfl, hb3⟩; have HB3 := Sh.mk (below_then HWR.out hb3); have hq := satP_is es cv code hcd; rw [HLS.out.not] at hq; have HS83 := Sh.mk (HS8.out.keep hb3); clear hb3 hcd)
          | (go_at_call 11; refine (Minimal_calls w3 _ es _ _ cv (HE2.out.below HB3.out) HR.out (I1.out.keep HB3.out) (by rw [← HN.out]; exact HLS.out) (by have := HN.out; omega) (by have := HSM.out.2; omega)).mono ?_; rintro e w4 ⟨rfl, hb4⟩; have HB4 := Sh.mk (below_then HB3.out hb4); have HS84 := Sh.mk (HS83.out.keep hb4); clear hb4))
        clear HSAT HS8 HS83 HB3 HWR hq
        go_wp2
        go_loopw [7] (fun v7 wr => ∃ j : Nat, v7 = .int .i64 j ∧ j ≤ m ∧ Sh (Below w2.heap.size w2 wr) ∧ Sh (Some8 w2 wr (.slice (some ⟨g, 0, none⟩) m c5) os (pickE es cv))) (fun v7 _ => m - (intOf v7).toNat)
        case atStart => exact ⟨0, rfl, Nat.zero_le _, HB4, HS84⟩
        case round =>
          clear HB4 HS84
          obtain ⟨j, rfl, hj, HBR, HSR⟩ := hrel
          by_cases hlt : j < m
          · obtain ⟨k, hk⟩ : ∃ k, cv[j]? = some k := ⟨_, List.getElem?_eq_getElem (by have := HM.out; omega)⟩
            have HK := Sh.mk hk
            have hsat : satP es (but k cv) = true := HLS.out.but k (List.mem_of_getElem? hk)
            have HST := Sh.mk hsat
            have HPB := Sh.mk (pickE_but HCR.out (HLS.out.sub.nodup (nums_nodup n)) hk)
            clear hk hsat
            have HS1 : Sh (Some8 w2 (wr.drew.alloc (.cells #[] 40)) (.slice (some ⟨g, 0, none⟩) m c5) os (pickE es cv)) := ⟨(HSR.out.keep (Below.refl _ _).drew).keep ((Below.refl _ _).alloc (Nat.le_refl _) _)⟩
            have HE1 : Sh (GRow EqK (wr.drew.alloc (.cells #[] 40)) (.slice (some ⟨wr.heap.size, 0, none⟩) 0 0) []) := ⟨Eq_empty wr.drew⟩
            have HBW : Sh (Below w2.heap.size w2 (wr.drew.alloc (.cells #[] 40))) := ⟨(HBR.out.drew).alloc (show w2.heap.size ≤ wr.drew.heap.size from HBR.out.size) _⟩
            have HGL : Sh (g < wr.heap.size ∧ w2.heap.size ≤ wr.heap.size) := ⟨HSR.out.row.lt g (by simp [Value.ownBlock]), HBR.out.size⟩
            have HJL : Sh ((os.take j).length = j ∧ (os.drop (j + 1)).length = m - (j + 1) ∧ j + (m - (j + 1)) = m - 1) := ⟨by rw [List.length_take, List.length_drop]; have := HOL.out; omega⟩
            have HJB : Sh (j ≤ 140737488355328 ∧ j * EqK.bytes ≤ 140737488355328 ∧ m - 1 ≤ 140737488355328 ∧ (m - 1) * EqK.bytes ≤ 140737488355328 ∧ j + 1 ≤ m) := ⟨by simp only [EqK]; omega⟩
            have HVG : Sh (∀ k, (Value.slice (some ⟨g, 0, none⟩) m c5).ownBlock = some k → k < wr.heap.size) := ⟨fun k hk => HSR.out.row.lt k hk⟩
            have HUG : Sh (∀ k, (Value.slice (some ⟨wr.heap.size, 0, none⟩) 0 0).ownBlock = some k → wr.heap.size ≤ k) := ⟨fun k hk => by simp [Value.ownBlock] at hk; omega⟩
            have HWZ : Sh (wr.heap.size ≤ (wr.drew.alloc (.cells #[] 40)).heap.size) := ⟨by rw [World.size_alloc]; exact Nat.le_succ _⟩
            have HZB : Sh (sizes (pickE es (but k cv)) ≤ 1000000) := ⟨by have := sizes_sublist (pickE_sublist (es := es) ((but_sublist k cv).trans HLS.out.sub)); rw [HN.out, pickE_nums] at this; have := HSM.out.2; omega⟩
            obtain ⟨ad, hif, had⟩ : ∃ ad : Addr, (if c5 = j + 1 then some (⟨g, 0, none⟩ : Addr) else some ⟨g, (j + 1) * 8, none⟩) = some ad ∧ ∀ W', Some8 w2 W' (.slice (some ⟨g, 0, none⟩) m c5) os (pickE es cv) → ∀ i u, (EqK.cells (os.drop (j + 1)))[i]? = some u → W'.cell? (ad.add i) = some u := by
              by_cases hcj : c5 = j + 1
              · refine ⟨⟨g, 0, none⟩, by rw [if_pos hcj], fun W' _ i u hu => ?_⟩
                rw [List.drop_of_length_le (by have := HOL.out; omega)] at hu
                simp [RK.cells] at hu
              · exact ⟨⟨g, (j + 1) * 8, none⟩, by rw [if_neg hcj], fun W' h => h.tail (j + 1) (by omega)⟩
            have HAD := Sh.mk had
            clear had
            have hw0 : (j : Int) ≤ (c5 : Int) := by omega
            have hw4 : (j : Int) + 1 ≤ (m : Int) := by omega
            have hw1 : IntKind.i64.wrap ((j : Int) + 1) = (j : Int) + 1 := IntWalk.i64_in _ (by omega)
            have hw2 : (0 : Int) ≤ (j : Int) + 1 := by omega
            have hw3 : ((j : Int) + 1).toNat = j + 1 := by omega
            go_upto_region 18 with (fail)
            go_region_held_law (fun w' => True) (first | exact trivial) (first
              | (refine step_src EqK_ok rfl (.tmp 93) (.tmp 96) rfl (.slice (some ⟨wr.heap.size, 0, none⟩) 0 0) ⟨g, 0, none⟩ c5 0 j j [] (os.take j) rfl HJL.out.1 (Nat.zero_add _) rfl rfl HE1.out (HS1.out.head j) HJB.out.1 HJB.out.2.1 ?_; intro A2 c2 w5 hI hg hv; have I2 := Sh.mk hI; have X2 := Sh.mk (HS1.out.step HBW.out HGL.out.2 HWZ.out HVG.out HUG.out hg hv); clear hI hg hv)
              | (refine step_src EqK_ok rfl (.tmp 97) (.tmp 101) rfl (.slice A2 j c2) ad (c5 - (j + 1)) j (m - (j + 1)) (m - 1) ([] ++ os.take j) (os.drop (j + 1)) (by { rw [List.nil_append]; exact HJL.out.1 }) HJL.out.2.1 HJL.out.2.2 rfl rfl I2.out (HAD.out _ X2.out.1) HJB.out.2.2.1 HJB.out.2.2.2.1 ?_; intro A3 c3 w6 hI hg hv; have I3 := Sh.mk hI; have X3 := Sh.mk (X2.out.1.step X2.out.2.2.1 HGL.out.2 X2.out.2.2.2 HVG.out X2.out.2.1 hg hv); clear hI hg hv)
              | (go_at_call 10; refine (Sat_calls w6 _ (pickE es (but k cv)) _ ((X3.out.1.less I3.out (fun q hq => Nat.le_trans HGL.out.2 (X3.out.2.1 q hq)) HPB.out).at X3.out.2.2.1) HZB.out).mono ?_; rintro e w7 ⟨code, hcd, rfl, hb7⟩; have hq := satP_is es (but k cv) code hcd; rw [HST.out] at hq; have hq2 : code = 0 := eq_of_beq hq; subst hq2; have HB7 := Sh.mk (below_then X3.out.2.2.1 hb7); have HS7 := Sh.mk (X3.out.1.keep hb7); clear hb7 hcd hq)
              | fail)
            clear hw0 hw1 hw2 hw3 hw4 hif
            go_wp2
            go_roundw
            case rel => exact ⟨j + 1, by go_num, by omega, HB7, HS7⟩
            case measure => simp [intOf]; omega
          · go_wp2_with (first | (go_at_call 6; refine (awake_calls _).mono ?_; rintro e w9 ⟨rfl, hb9⟩; have HB9 := Sh.mk hb9; clear hb9))
            go_ret
            exact ⟨rfl, below_then HB2.out (below_then HBR.out HB9.out)⟩
  · have hc0 : (cc == 0) = false := by simpa using hcc
    have hcn : (cc != 0) = true := by simpa using hcc
    have HSAT := Sh.mk (Sat_calls w2 S es _ (HE1.out.below I3.out) (by have := HSM.out.2; omega))
    have HQ := Sh.mk (HZ2.out hcc)
    clear hcc HZ HZ2
    obtain ⟨q9, hq9⟩ : ∃ q9, q9 = (cc == 9) := ⟨_, rfl⟩
    rw [← hq9] at HQ
    have hq9' := hq9.symm
    clear hq9
    go_wp2_with (first
      | (go_at_call 10; refine HSAT.out.mono ?_; rintro e w3 ⟨code, hcd, rfl, hb3⟩; have HB3 := Sh.mk hb3; have hq0 := (HQ.out code hcd).symm; have hqq : (q9 == q9) = true := (by simp); clear hb3 hcd)
      | (go_at_call 6; refine (awake_calls _).mono ?_; rintro e w9 ⟨rfl, hb9⟩; have HB9 := Sh.mk hb9; clear hb9))
    go_ret
    exact ⟨rfl, below_then HB1.out (below_then I3.out (below_then HB3.out HB9.out))⟩
end Go.Proofs.YtdppkdjgadiinaaGreat
