/- The argument: equations, read out of memory. -/
import Derived.Test.YtdppkdjgadiinaaGreatEqn
import Derived.ProofKit
set_option linter.unusedVariables false
set_option linter.unusedSimpArgs false
namespace Go.Proofs.YtdppkdjgadiinaaGreat
open Go.RowKit Go.ChangeShapes Go.WideShapes

theorem cell_lt {w : World} {a : Addr} {v : Value} (h : w.cell? a = some v) : a.block < w.heap.size := by
  apply Classical.byContradiction
  intro hn
  unfold World.cell? at h
  rw [Array.getElem?_eq_none (by omega)] at h
  simp at h
theorem list_of {α : Type} {P : Nat → α → Prop} : ∀ n : Nat, (∀ i, i < n → ∃ x, P i x) → ∃ l : List α, l.length = n ∧ ∀ i x, l[i]? = some x → P i x
  | 0, _ => ⟨[], rfl, fun i x h => by simp at h⟩
  | n + 1, h => by
    obtain ⟨l, h1, h2⟩ := list_of n fun i hi => h i (by omega)
    obtain ⟨x, hx⟩ := h n (by omega)
    refine ⟨l ++ [x], by simp [h1], fun i y hy => ?_⟩
    rcases Nat.lt_or_ge i n with hi | hi
    · rw [List.getElem?_append_left (by omega)] at hy
      exact h2 i y hy
    · rw [List.getElem?_append_right (by omega), h1] at hy
      obtain ⟨e, he⟩ : ∃ e, e = i - n := ⟨_, rfl⟩
      rw [← he] at hy
      cases e with
      | zero =>
        simp only [List.getElem?_cons_zero, Option.some.injEq] at hy
        subst hy
        have : i = n := by omega
        subst this
        exact hx
      | succ e => simp at hy
section
variable {H : Type} {enc : TypeId × Value → H} {w : World} {base : Nat} {spare : Nat → Bool} {held : Bool}
/-- A row in memory, its elements opened one by one. -/
theorem open_rows {α : Type} {ty e : TypeId} {sz fuel : Nat} {cs : List Value} {x : DataW H × List MemPlace} {f : α → List Dat} (ht : Tryz.prog.underlying ty = some (.slice e)) (hC : Tryz.prog.cellsOf e = sz) (hsz : 0 < sz)
    (h : DataW.trod enc Tryz.prog w base spare held fuel ty cs = some x)
    (hel : ∀ n us y, n < fuel → DataW.trod enc Tryz.prog w base spare held n e us = some y → ∃ t : α, CellsAt w (fun _ => True) (f t) us) :
    ∃ (l : List α) (v : Value), cs = [v] ∧ (Dat.row sz (l.map f)).at w (fun _ => True) v := by
  rcases DataW.trod_slice ht h with ⟨rfl, _⟩ | ⟨a, len, cap, elems, rest, n, rfl, rfl, _, _, hl, hm, hlen, hget, _⟩
  · exact ⟨[], _, rfl, Dat.nil_at _ _ _⟩
  · obtain ⟨l, h1, h2⟩ := list_of (P := fun i (t : α) => ElemAt w (fun _ => True) sz (some a) i (f t)) len fun i hi => by
      have hg := hget i hi
      rw [List.getElem?_eq_getElem (by omega), Option.bind_eq_some_iff] at hg
      obtain ⟨us, hu, ht2⟩ := hg
      obtain ⟨t, hct⟩ := hel n us _ (Nat.lt_succ_self n) ht2
      obtain ⟨_, hul, hcell⟩ := World.cells?_some hu
      rw [hC] at hul hcell
      refine ⟨t, a, us, rfl, trivial, ?_, hul, fun j u hj => ?_, hct⟩
      · have h0 := hcell 0 hsz
        rw [List.getElem?_eq_getElem (by omega)] at h0
        have := cell_lt h0
        rw [add_block, add_block] at this
        exact this
      · have hjl : j < us.length := (List.getElem?_eq_some_iff.1 hj).1
        rw [← add_add, hcell j (by omega), hj]
    refine ⟨l, _, rfl, Dat.row_at.2 ⟨_, _, by rw [List.length_map, h1], by rw [List.length_map, h1]; exact hl, hm, fun j e hj => ?_⟩⟩
    rw [List.getElem?_map] at hj
    obtain ⟨t, ht3, rfl⟩ := Option.map_eq_some_iff.1 hj
    exact h2 j t ht3
set_option maxRecDepth 100000 in
theorem open_ty : ∀ (fuel : Nat) (cs : List Value) (x : DataW H × List MemPlace), DataW.trod enc Tryz.prog w base spare held fuel 36 cs = some x → ∃ t : Ty, CellsAt w (fun _ => True) t.enc cs := by
  intro fuel
  induction fuel using Nat.strongRecOn with
  | ind fuel ih =>
    intro cs x h
    obtain ⟨xs, n, rfl, _, hlen, hxl, hf⟩ := DataW.trod_struct Tryz.underlying36 h
    have hC : Tryz.prog.cellsOf 36 = 3 := by kernel_rfl
    rw [hC] at hlen
    have hx3 : xs.length = 3 := hxl
    match cs, hlen, xs, hx3 with
    | [c0, c1, c2], _, [y0, y1, y2], _ =>
      have h0 := hf 0 _ rfl
      have h1 := hf 1 _ rfl
      have h2 := hf 2 _ rfl
      have e1 : Tryz.prog.cellsOf 3 = 1 := by kernel_rfl
      have e2 : Tryz.prog.cellsOf 34 = 1 := by kernel_rfl
      simp [e1, e2] at h0 h1 h2
      obtain ⟨k, h0', _, _⟩ := DataW.trod_int Tryz.underlying3 h0
      obtain ⟨m, h1', _, _⟩ := DataW.trod_int Tryz.underlying3 h1
      obtain ⟨ps, v, h2', hp⟩ := open_rows Tryz.underlying34 hC (by omega) h2 (fun n' us y hn hy => ih n' (by omega) us y hy)
      simp only [List.cons.injEq, and_true] at h0' h1' h2'
      subst h0' h1' h2'
      exact ⟨.mk k m ps, Ty.cells.2 ⟨_, rfl, hp⟩⟩
set_option maxRecDepth 100000 in
theorem open_eq (fuel : Nat) (cs : List Value) (x : DataW H × List MemPlace) (h : DataW.trod enc Tryz.prog w base spare held fuel 40 cs = some x) : ∃ e : Eqn, CellsAt w (fun _ => True) e.enc cs := by
  obtain ⟨xs, n, rfl, _, hlen, hxl, hf⟩ := DataW.trod_struct Tryz.underlying40 h
  have hC : Tryz.prog.cellsOf 40 = 8 := by kernel_rfl
  rw [hC] at hlen
  have hx3 : xs.length = 3 := hxl
  match cs, hlen, xs, hx3 with
  | [c0, c1, c2, c3, c4, c5, c6, c7], _, [y0, y1, y2], _ =>
    have h0 := hf 0 _ rfl
    have h1 := hf 1 _ rfl
    have h2 := hf 2 _ rfl
    have e1 : Tryz.prog.cellsOf 36 = 3 := by kernel_rfl
    have e2 : Tryz.prog.cellsOf 38 = 2 := by kernel_rfl
    simp [e1, e2] at h0 h1 h2
    obtain ⟨l, hl⟩ := open_ty _ _ _ h0
    obtain ⟨r, hr⟩ := open_ty _ _ _ h1
    obtain ⟨zs, n2, rfl, _, hlen2, hzl, hg⟩ := DataW.trod_struct Tryz.underlying38 h2
    have hz2 : zs.length = 2 := hzl
    match zs, hz2 with
    | [z0, z1], _ =>
      have g0 := hg 0 _ rfl
      have g1 := hg 1 _ rfl
      have e3 : Tryz.prog.cellsOf 3 = 1 := by kernel_rfl
      simp [e3] at g0 g1
      obtain ⟨a, g0', _, _⟩ := DataW.trod_int Tryz.underlying3 g0
      obtain ⟨b, g1', _, _⟩ := DataW.trod_int Tryz.underlying3 g1
      simp only [List.cons.injEq, and_true] at g0' g1'
      subst g0' g1'
      obtain ⟨s, hs, hs2⟩ := Ty.cells.1 hl
      obtain ⟨t, ht, ht2⟩ := Ty.cells.1 hr
      simp only [List.cons.injEq, and_true] at hs ht
      obtain ⟨rfl, rfl, rfl⟩ := hs
      obtain ⟨rfl, rfl, rfl⟩ := ht
      exact ⟨⟨l, r, a, b⟩, Eqn.cells.2 ⟨_, _, rfl, hs2, ht2⟩⟩
theorem open_eqs {fuel : Nat} {v : Value} {x : DataW H × List MemPlace} (h : DataW.trod enc Tryz.prog w base spare held fuel 22 [v] = some x) : ∃ es : List Eqn, EqsAt w (fun _ => True) es v := by
  obtain ⟨l, v', e, hp⟩ := open_rows (sz := 8) (f := Eqn.enc) Tryz.underlying22 (by kernel_rfl) (by omega) h (fun n' us y _ hy => open_eq n' us y hy)
  simp only [List.cons.injEq, and_true] at e
  subst e
  exact ⟨l, hp⟩
end
end Go.Proofs.YtdppkdjgadiinaaGreat
