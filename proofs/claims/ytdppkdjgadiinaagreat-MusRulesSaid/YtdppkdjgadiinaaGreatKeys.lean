/- Plain: a graph's variables are numbers of variables, no more than nodes. -/
import Derived.Test.YtdppkdjgadiinaaGreatCvars
set_option linter.unusedVariables false
namespace Go.Proofs.YtdppkdjgadiinaaGreat
open Go.RowKit
def KeysOk (G : GSt) : Prop := (∀ p, p ∈ G.2 → 0 ≤ p.1 ∧ p.1 < 1073741824) ∧ G.2.length ≤ G.1.length
theorem mput_mem {α : Type} (k : Int) (v : α) : ∀ (l : List (Int × α)) (p : Int × α), p ∈ mput l k v → p = (k, v) ∨ p ∈ l
  | [], p, h => by simp [mput] at h; exact .inl h
  | q :: l, p, h => by
    rw [mput] at h
    split at h
    · rcases List.mem_cons.1 h with h | h
      · exact .inl h
      · exact .inr (List.mem_cons_of_mem _ h)
    · rcases List.mem_cons.1 h with h | h
      · exact .inr (by rw [h]; exact List.mem_cons_self)
      · rcases mput_mem k v l p h with h | h
        · exact .inl h
        · exact .inr (List.mem_cons_of_mem _ h)
theorem mput_len {α : Type} (k : Int) (v : α) : ∀ (l : List (Int × α)), (mput l k v).length ≤ l.length + 1
  | [] => by simp [mput]
  | q :: l => by
    rw [mput]
    split
    · simp
    · have := mput_len k v l
      simp only [List.length_cons]
      omega
theorem Ty.right_var {n : Int} {ps : List Ty} (h : (Ty.mk 1 n ps).right = true) : 0 ≤ n ∧ n < 1073741824 := by
  rw [Ty.right_eq] at h
  simp only [Ty.kind, Ty.n, Ty.parts, Bool.and_eq_true] at h
  have h1 := h.1
  unfold Ty.plainB at h1
  rw [if_pos rfl] at h1
  simp only [Ty.knownB, Bool.and_eq_true, decide_eq_true_eq] at h1
  omega
theorem addAll_keys : ∀ (ps : List Ty), (∀ p, p ∈ ps → ∀ G : GSt, p.right = true → KeysOk G → KeysOk (p.addTo G).1) → (∀ p, p ∈ ps → p.right = true) → ∀ G : GSt, KeysOk G → KeysOk (Ty.addAll ps G).1
  | [], _, _, G, h => by rw [Ty.addAll]; exact h
  | p :: ps, ih, hr, G, h => by
    rw [Ty.addAll]
    exact addAll_keys ps (fun q hq => ih q (List.mem_cons_of_mem _ hq)) (fun q hq => hr q (List.mem_cons_of_mem _ hq)) _ (ih p List.mem_cons_self G (hr p List.mem_cons_self) h)
theorem add_keys : ∀ (t : Ty) (G : GSt), t.right = true → KeysOk G → KeysOk (t.addTo G).1 := by
  apply Ty.ind_
  intro k n ps ih G hr hG
  rw [Ty.addTo]
  split
  · rename_i hk
    subst hk
    split
    · exact hG
    · refine ⟨fun p hp => ?_, ?_⟩
      · rcases mput_mem _ _ _ p hp with h | h
        · rw [h]; exact Ty.right_var hr
        · exact hG.1 p h
      · have := mput_len n G.1.length G.2
        have := hG.2
        simp only [List.length_append, List.length_singleton]
        omega
  · have h := addAll_keys ps ih (Ty.right_cases hr).2 G hG
    exact ⟨h.1, by have := h.2; simp only [List.length_append, List.length_singleton]; omega⟩
end Go.Proofs.YtdppkdjgadiinaaGreat
