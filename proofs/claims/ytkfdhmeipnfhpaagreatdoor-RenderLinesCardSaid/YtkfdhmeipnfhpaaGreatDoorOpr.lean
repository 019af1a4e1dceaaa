/- Arguments read out of memory: rows, element by element; a verdict. -/
import Derived.Test.YtkfdhmeipnfhpaaGreatDoorMem
import Derived.ProofKit
import Derived.WideShapes
import Derived.ChangeMaps5
set_option linter.unusedVariables false
set_option linter.unusedSimpArgs false
namespace Go.Proofs.YtkfdhmeipnfhpaaGreatDoor
open Go.RowKit Go.ChangeShapes Go.WideShapes

theorem cell_lt {w : World} {a : Addr} {v : Value} (h : w.cell? a = some v) : a.block < w.heap.size := by
  apply Classical.byContradiction
  intro hn
  unfold World.cell? at h
  rw [Array.getElem?_eq_none (by omega)] at h
  simp at h
theorem list_of {α : Type} {P : Nat → α → Prop} : ∀ n : Nat, (∀ i, i < n → ∃ x, P i x) → ∃ l : List α, l.length = n ∧ ∀ i x, l[i]? = some x → P i x
  | 0, _ => ⟨[], rfl, fun i x h => by simp at h⟩
  | n + 1, h => by
    obtain ⟨l, h1, h2⟩ := list_of n fun i hi => h i (by omega)
    obtain ⟨x, hx⟩ := h n (by omega)
    refine ⟨l ++ [x], by simp [h1], fun i y hy => ?_⟩
    rcases Nat.lt_or_ge i n with hi | hi
    · rw [List.getElem?_append_left (by omega)] at hy
      exact h2 i y hy
    · rw [List.getElem?_append_right (by omega), h1] at hy
      obtain ⟨e, he⟩ : ∃ e, e = i - n := ⟨_, rfl⟩
      rw [← he] at hy
      cases e with
      | zero =>
        simp only [List.getElem?_cons_zero, Option.some.injEq] at hy
        subst hy
        have : i = n := by omega
        subst this
        exact hx
      | succ e => simp at hy
section
variable {H : Type} {enc : TypeId × Value → H} {w : World} {base : Nat} {spare : Nat → Bool} {held : Bool}
/-- A row in memory, its elements opened one by one. -/
theorem open_rows {α : Type} {ty e : TypeId} {sz fuel : Nat} {cs : List Value} {x : DataW H × List MemPlace} {f : α → List Dat} (ht : Tryz.prog.underlying ty = some (.slice e)) (hC : Tryz.prog.cellsOf e = sz) (hsz : 0 < sz)
    (h : DataW.trod enc Tryz.prog w base spare held fuel ty cs = some x)
    (hel : ∀ n us y, n < fuel → DataW.trod enc Tryz.prog w base spare held n e us = some y → ∃ t : α, CellsAt w (fun _ => True) (f t) us) :
    ∃ (l : List α) (v : Value), cs = [v] ∧ (Dat.row sz (l.map f)).at w (fun _ => True) v := by
  rcases DataW.trod_slice ht h with ⟨rfl, _⟩ | ⟨a, len, cap, elems, rest, n, rfl, rfl, _, _, hl, hm, hlen, hget, _⟩
  · exact ⟨[], _, rfl, Dat.nil_at _ _ _⟩
  · obtain ⟨l, h1, h2⟩ := list_of (P := fun i (t : α) => ElemAt w (fun _ => True) sz (some a) i (f t)) len fun i hi => by
      have hg := hget i hi
      rw [List.getElem?_eq_getElem (by omega), Option.bind_eq_some_iff] at hg
      obtain ⟨us, hu, ht2⟩ := hg
      obtain ⟨t, hct⟩ := hel n us _ (Nat.lt_succ_self n) ht2
      obtain ⟨_, hul, hcell⟩ := World.cells?_some hu
      rw [hC] at hul hcell
      refine ⟨t, a, us, rfl, trivial, ?_, hul, fun j u hj => ?_, hct⟩
      · have h0 := hcell 0 hsz
        rw [List.getElem?_eq_getElem (by omega)] at h0
        have := cell_lt h0
        rw [add_block, add_block] at this
        exact this
      · have hjl : j < us.length := (List.getElem?_eq_some_iff.1 hj).1
        rw [← add_add, hcell j (by omega), hj]
    refine ⟨l, _, rfl, Dat.row_at.2 ⟨_, _, by rw [List.length_map, h1], by rw [List.length_map, h1]; exact hl, hm, fun j e hj => ?_⟩⟩
    rw [List.getElem?_map] at hj
    obtain ⟨t, ht3, rfl⟩ := Option.map_eq_some_iff.1 hj
    exact h2 j t ht3
end
end Go.Proofs.YtkfdhmeipnfhpaaGreatDoor
