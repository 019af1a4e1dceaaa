/- Plain: the walk comes to its end. -/
import Derived.Test.YtdppkdjgadiinaaGreatWalk
set_option linter.unusedVariables false
set_option linter.unusedSimpArgs false
namespace Go.Proofs.YtdppkdjgadiinaaGreat
open Go.RowKit

/-- How many classes are fresh. -/
def Wk.fresh (N : Nat) (x : Wk) : Nat := (List.range N).countP fun i : Nat => x.at i == 0
def leftOver (l : List (Nat × Nat)) : Nat := (l.map fun p => (8 - p.2) + 1).sum
def Wk.size (N : Nat) (x : Wk) : Nat := 10 * x.fresh N + leftOver x.stack
theorem Wk.fresh_put (N : Nat) (x : Wk) (stack : List (Nat × Nat)) (n v : Int) (b : Bool) (q : Nat) (hv : v ≠ 0) : Wk.fresh N ⟨mput x.st q v, stack, n, b⟩ ≤ x.fresh N := by
  unfold Wk.fresh
  refine List.countP_mono_left (fun i _ hi => ?_)
  simp only [beq_iff_eq] at hi ⊢
  rw [Wk.at_put] at hi
  split at hi
  · exact absurd hi hv
  · exact hi
theorem Wk.fresh_push (N : Nat) (x : Wk) (stack : List (Nat × Nat)) (n v : Int) (b : Bool) (q : Nat) (hv : v ≠ 0) (hq : q < N) (h0 : x.at q = 0) : Wk.fresh N ⟨mput x.st q v, stack, n, b⟩ < x.fresh N := by
  unfold Wk.fresh
  refine countP_lt (fun i _ hi => ?_) (List.mem_range.2 hq) (by simp [h0]) ?_
  · simp only [beq_iff_eq] at hi ⊢
    rw [Wk.at_put] at hi
    split at hi
    · exact absurd hi hv
    · exact hi
  · rw [Wk.at_put, if_pos rfl]
    simp [hv]
theorem Wk.size_step {P : Nat → List Nat} {N : Nat} (h8 : ∀ r, r < N → (P r).length ≤ 8) (hP : ∀ r, r < N → ∀ q, q ∈ P r → q < N) {x : Wk} (hx : ∀ p, p ∈ x.stack → p.1 < N) (hs : x.stack ≠ []) : (x.step P).size N < x.size N ∧ ∀ p, p ∈ (x.step P).stack → p.1 < N := by
  unfold Wk.step
  split
  · rename_i h; exact absurd h hs
  · rename_i r j rest h
    rw [h] at hx
    have hr : r < N := hx (r, j) List.mem_cons_self
    have hsz : x.size N = 10 * x.fresh N + ((8 - j) + 1 + leftOver rest) := by unfold Wk.size; rw [h]; simp [leftOver]
    rw [hsz]
    split
    · rename_i q hq
      have hqN : q < N := hP r hr q (List.mem_of_getElem? hq)
      have hj : j < 8 := Nat.lt_of_lt_of_le (List.getElem?_eq_some_iff.1 hq).1 (h8 r hr)
      have hmem : ∀ p, p ∈ (r, j + 1) :: rest → p.1 < N := fun p hp => by
        rcases List.mem_cons.1 hp with e | hp
        · rw [e]; exact hr
        · exact hx p (List.mem_cons_of_mem _ hp)
      have same : ∀ (n : Int) (b : Bool), Wk.size N ⟨x.st, (r, j + 1) :: rest, n, b⟩ < 10 * x.fresh N + ((8 - j) + 1 + leftOver rest) := fun n b => by
        have e1 : Wk.fresh N ⟨x.st, (r, j + 1) :: rest, n, b⟩ = x.fresh N := rfl
        unfold Wk.size
        rw [e1]
        simp only [leftOver, List.map_cons, List.sum_cons]
        omega
      split
      · rename_i h0
        have h1 := Wk.fresh_push N x ((q, 0) :: (r, j + 1) :: rest) (tick64 (tick64 (tick64 x.steps))) 1 x.bad q (by omega) hqN h0
        refine ⟨?_, fun p hp => ?_⟩
        · unfold Wk.size
          simp only [leftOver, List.map_cons, List.sum_cons] at *
          omega
        · rcases List.mem_cons.1 hp with e | hp
          · rw [e]; exact hqN
          · exact hmem p hp
      · split
        · exact ⟨same _ _, hmem⟩
        · exact ⟨same _ _, hmem⟩
    · have h1 := Wk.fresh_put N x rest (if rest = [] then x.steps else tick64 x.steps) 2 x.bad r (by omega)
      refine ⟨?_, fun p hp => hx p (List.mem_cons_of_mem _ hp)⟩
      unfold Wk.size
      simp only
      omega
theorem Wk.ends_of {P : Nat → List Nat} {N : Nat} (h8 : ∀ r, r < N → (P r).length ≤ 8) (hP : ∀ r, r < N → ∀ q, q ∈ P r → q < N) : ∀ (m : Nat) (x : Wk), (∀ p, p ∈ x.stack → p.1 < N) → x.size N ≤ m → x.Ends P
  | 0, x, hx, hm => by
    refine ⟨0, ?_⟩
    cases hs : x.stack with
    | nil => exact hs
    | cons p r => unfold Wk.size at hm; rw [hs] at hm; simp [leftOver] at hm
  | m + 1, x, hx, hm => by
    by_cases hs : x.stack = []
    · exact ⟨0, hs⟩
    · obtain ⟨h1, h2⟩ := Wk.size_step h8 hP hx hs
      obtain ⟨n, hn⟩ := Wk.ends_of h8 hP m (x.step P) h2 (by omega)
      exact ⟨n + 1, hn⟩
theorem parts_len {s : Cl} (hk : Cok s) {r : Nat} (hr : r < s.whole.length) : (s.parts r).length ≤ 8 := by
  unfold Cl.parts
  split
  · simp
  · rename_i hk0
    have e : s.whole[r]? = some (s.whole.getD r 0) := by rw [List.getD_eq_getElem?_getD, List.getElem?_eq_getElem hr]; rfl
    have hx : ¬ s.whole.getD r 0 < 0 := fun hn => hk0 (by unfold Cl.kind; rw [if_pos hn])
    rcases hk.wh r _ e with e1 | ⟨n, e1, e2⟩
    · omega
    · rw [List.length_map]
      exact (partsOf_wf hk.nodes (x := (s.whole.getD r 0).toNat) (by omega)).1
theorem enter_ends {s : Cl} (hk : Cok s) (x : Wk) {r : Nat} (hr : r < s.whole.length) : (x.enter r).Ends s.parts :=
  Wk.ends_of (N := s.whole.length) (fun r hr => parts_len hk hr) (fun r hr q hq => parts_lt hk hr hq) _ _ (fun p hp => by simp only [Wk.enter, List.mem_singleton] at hp; rw [hp]; exact hr) (Nat.le_refl _)
end Go.Proofs.YtdppkdjgadiinaaGreat
