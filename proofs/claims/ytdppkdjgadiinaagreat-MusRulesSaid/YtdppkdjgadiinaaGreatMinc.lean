/- Plain: which picked equations can be solved. Plain: what is left over by deletion is a least core; least cores that are unlike have each a number of its own. -/
import Derived.Test.YtdppkdjgadiinaaGreatSatc
import Derived.Test.YtdppkdjgadiinaaGreatMus
import Derived.Test.YtdppkdjgadiinaaGreatCores
set_option linter.unusedVariables false
set_option linter.unusedSimpArgs false
namespace Go.Proofs.YtdppkdjgadiinaaGreat
open Go.RowKit

open Classical in
/-- Whether equations of some numbers can be solved. -/
noncomputable def satP (es : List Eqn) (ns : List Int) : Bool := (pickE es ns).all Eqn.right && decide (Solvable (pickE es ns))
theorem satP_is (es : List Eqn) : SatB es (satP es) := by
  intro ns code h
  unfold satP
  cases hr : (pickE es ns).all Eqn.right with
  | false =>
    unfold SatIs at h
    rw [hr] at h
    have : code = 1 := h
    rw [this]
    rfl
  | true =>
    have := sat_iff hr h
    rw [Bool.true_and, Bool.eq_iff_iff]
    simp [this]
theorem satP_iff {es : List Eqn} (hr : es.all Eqn.right = true) (ns : List Int) : satP es ns = true ↔ Solvable (pickE es ns) := by
  unfold satP
  rw [pickE_right hr ns, Bool.true_and]
  simp
end Go.Proofs.YtdppkdjgadiinaaGreat
set_option linter.unusedVariables false
set_option linter.unusedSimpArgs false
namespace Go.Proofs.YtdppkdjgadiinaaGreat
open Go.RowKit

/-- A number is left out. -/
def but (n : Int) (xs : List Int) : List Int := kept (fun k => k == n) xs
def Down (sb : List Int → Bool) : Prop := ∀ a b : List Int, a.Sublist b → sb b = true → sb a = true
theorem satP_down {es : List Eqn} (hr : es.all Eqn.right = true) : Down (satP es) := by
  intro a b h hb
  rw [satP_iff hr] at hb ⊢
  exact hb.mono fun e he => (pickE_sublist h).subset he
theorem mem_but {n k : Int} {xs : List Int} : k ∈ but n xs ↔ k ∈ xs ∧ k ≠ n := by
  unfold but kept
  simp
theorem but_sublist (n : Int) (xs : List Int) : (but n xs).Sublist xs := kept_sublist _ _
theorem but_mono {n : Int} {a b : List Int} (h : a.Sublist b) : (but n a).Sublist (but n b) := h.filter _
theorem reduceP_law {sb : List Int → Bool} (hd : Down sb) : ∀ (order all : List Int), sb all = false →
    sb (reduceP sb all order) = false ∧ ∀ n, n ∈ order → n ∈ reduceP sb all order → sb (but n (reduceP sb all order)) = true
  | [], all, h => ⟨h, fun n hn => by simp at hn⟩
  | m :: order, all, h => by
    have e : reduceP sb all (m :: order) = reduceP sb (if sb (but m all) then all else but m all) order := rfl
    rw [e]
    cases hb : sb (but m all) with
    | true =>
      rw [if_pos rfl]
      obtain ⟨h1, h2⟩ := reduceP_law hd order all h
      refine ⟨h1, fun n hn hm => ?_⟩
      rcases List.mem_cons.1 hn with rfl | hn
      · exact hd _ _ (but_mono (reduceP_sublist sb order all)) hb
      · exact h2 n hn hm
    | false =>
      rw [if_neg (by simp)]
      obtain ⟨h1, h2⟩ := reduceP_law hd order (but m all) hb
      refine ⟨h1, fun n hn hm => ?_⟩
      rcases List.mem_cons.1 hn with rfl | hn
      · exact absurd rfl (mem_but.1 ((reduceP_sublist sb order _).subset hm)).2
      · exact h2 n hn hm
/-- A least list of numbers that cannot be solved. -/
structure Least (sb : List Int → Bool) (n : Nat) (c : List Int) : Prop where
  sub : c.Sublist (nums n)
  not : sb c = false
  but : ∀ k, k ∈ c → sb (but k c) = true
theorem least_of {sb : List Int → Bool} (hd : Down sb) {n : Nat} {x : List Int} (hx : x.Sublist (nums n)) (hb : sb x = false) : Least sb n (reduceP sb x x) := by
  obtain ⟨h1, h2⟩ := reduceP_law hd x x hb
  exact ⟨(reduceP_sublist sb x x).trans hx, h1, fun k hk => h2 k ((reduceP_sublist sb x x).subset hk) hk⟩
theorem nums_nodup (n : Nat) : (nums n).Nodup := by
  unfold nums
  unfold List.Nodup
  rw [List.pairwise_map]
  exact (List.nodup_range (n := n)).imp fun h e => h (by omega)
theorem sub_filter {c l : List Int} (h : c.Sublist l) (hl : l.Nodup) : c = l.filter fun k => decide (k ∈ c) := by
  induction h with
  | slnil => rfl
  | cons a h ih =>
    rw [List.nodup_cons] at hl
    have := ih hl.2
    rename_i c l
    rw [List.filter_cons, if_neg (by simpa using fun e => hl.1 (h.subset e))]
    exact this
  | cons_cons a h ih =>
    rw [List.nodup_cons] at hl
    have := ih hl.2
    rename_i c l
    rw [List.filter_cons, if_pos (by simp)]
    congr 1
    rw [this]
    apply List.filter_congr
    intro x hx
    rw [← this]
    have : x ≠ a := fun e => hl.1 (e ▸ hx)
    simp [this]
theorem sub_of_subset {a b l : List Int} (ha : a.Sublist l) (hb : b.Sublist l) (hl : l.Nodup) (h : ∀ k, k ∈ a → k ∈ b) : a.Sublist b := by
  have h1 := sub_filter ha hl
  have h2 : a = b.filter fun k => decide (k ∈ a) := by
    conv => rhs; rw [sub_filter hb hl]
    rw [List.filter_filter]
    conv => lhs; rw [h1]
    apply List.filter_congr
    intro x _
    by_cases hx : x ∈ a
    · simp [hx, h x hx]
    · simp [hx]
  rw [h2]
  exact List.filter_sublist
theorem least_apart {sb : List Int → Bool} (hd : Down sb) {n : Nat} {a b : List Int} (ha : Least sb n a) (hb : Least sb n b) (hab : a ≠ b) : ∃ k, k ∈ a ∧ k ∉ b := by
  apply Classical.byContradiction
  intro hn
  have h : ∀ k, k ∈ a → k ∈ b := fun k hk => Classical.byContradiction fun hkb => hn ⟨k, hk, hkb⟩
  have hs := sub_of_subset ha.sub hb.sub (nums_nodup n) h
  have hm : ∃ m, m ∈ b ∧ m ∉ a := by
    apply Classical.byContradiction
    intro h2
    have h3 : ∀ k, k ∈ b → k ∈ a := fun k hk => Classical.byContradiction fun hka => h2 ⟨k, hk, hka⟩
    exact hab (hs.eq_of_length_le (sub_of_subset hb.sub ha.sub (nums_nodup n) h3).length_le)
  obtain ⟨m, h1, h2⟩ := hm
  have h3 : a.Sublist (Go.Proofs.YtdppkdjgadiinaaGreat.but m b) := by
    have := but_mono (n := m) hs
    have e : Go.Proofs.YtdppkdjgadiinaaGreat.but m a = a := by
      unfold Go.Proofs.YtdppkdjgadiinaaGreat.but kept
      rw [List.filter_eq_self]
      intro k hk
      simp
      intro e
      exact h2 (e ▸ hk)
    rw [e] at this
    exact this
  have := hd _ _ h3 (hb.but m h1)
  rw [ha.not] at this
  simp at this
/-- How often a number of one list is one of another's. -/
def common (a b : List Int) : Nat := (a.map fun x => b.countP (x == ·)).sum
theorem countP_le {b : List Int} (hb : b.Nodup) (x : Int) : b.countP (x == ·) ≤ if x ∈ b then 1 else 0 := by
  induction b with
  | nil => simp
  | cons y b ih =>
    rw [List.nodup_cons] at hb
    have := ih hb.2
    rw [List.countP_cons]
    by_cases h : x = y
    · subst h
      rw [if_neg hb.1] at this
      simp
      simpa using this
    · simp [h]
      simpa using this
theorem common_le {b : List Int} (hb : b.Nodup) : ∀ a : List Int, common a b ≤ a.length
  | [] => by simp [common]
  | x :: a => by
    have h1 := common_le hb a
    have h2 := countP_le hb x
    unfold common at h1 ⊢
    simp only [List.map_cons, List.sum_cons, List.length_cons]
    split at h2 <;> omega
theorem common_lt {b : List Int} (hb : b.Nodup) : ∀ (a : List Int) (k : Int), k ∈ a → k ∉ b → common a b < a.length
  | [], k, h, _ => by simp at h
  | x :: a, k, h, hk => by
    have h1 := common_le hb a
    have h2 := countP_le hb x
    rcases List.mem_cons.1 h with rfl | h
    · rw [if_neg hk] at h2
      unfold common at h1 ⊢
      simp only [List.map_cons, List.sum_cons, List.length_cons]
      omega
    · have h3 := common_lt hb a k h hk
      unfold common at h3 ⊢
      simp only [List.map_cons, List.sum_cons, List.length_cons]
      split at h2 <;> omega
/-- What a law asks of cores. -/
structure CoresOk (sb : List Int → Bool) (n : Nat) (cs : List (List Int)) : Prop where
  least : ∀ c, c ∈ cs → Least sb n c
  unlike : cs.Nodup
theorem cores_ok {sb : List Int → Bool} (hd : Down sb) {most : Int} {n : Nat} {s : Sea} (h : Found sb most n s) : CoresOk sb n s.cores := by
  have hi := h.inv
  exact ⟨fun c hc => by
    obtain ⟨x, h1, h2, rfl⟩ := hi.cores c hc
    exact least_of hd h1 h2, hi.unlike⟩
theorem cores_common {sb : List Int → Bool} (hd : Down sb) {n : Nat} {cs : List (List Int)} (h : CoresOk sb n cs) {i k : Nat} {a b : List Int} (hik : i ≠ k) (ha : cs[i]? = some a) (hb : cs[k]? = some b) : common a b < a.length := by
  have hab : a ≠ b := by
    intro e
    subst e
    exact hik ((List.getElem?_inj (List.getElem?_eq_some_iff.1 ha).1 h.unlike).1 (ha.trans hb.symm))
  obtain ⟨x, h1, h2⟩ := least_apart hd (h.least a (List.mem_of_getElem? ha)) (h.least b (List.mem_of_getElem? hb)) hab
  exact common_lt ((h.least b (List.mem_of_getElem? hb)).sub.nodup (nums_nodup n)) a x h1 h2
end Go.Proofs.YtdppkdjgadiinaaGreat
