/- Rows of elements of some cells each, over any element type. -/
import Derived.Test.YtkfdhmeipnfhpaaGreatDoorMem
set_option linter.unusedVariables false
set_option linter.unusedSimpArgs false
namespace Go.Proofs.YtkfdhmeipnfhpaaGreatDoor
open Go.RowKit

/-- A kind of row: the element's type, the slice's, how many cells and bytes an element has, its cells. -/
structure RK (α : Type) where
  t : TypeId
  st : TypeId
  sz : Nat
  bytes : Nat
  z : Value
  enc : α → List Value
structure RKok {α : Type} (K : RK α) : Prop where
  len : ∀ a, (K.enc a).length = K.sz
  one : ∀ a u, u ∈ K.enc a → u.oneCell' = true
  st : Tryz.prog.underlying K.st = some (.slice K.t)
  info : (Tryz.prog.info? K.t).map (fun i => (i.zero, i.size, i.bytes)) = some (some K.z, K.sz, K.bytes)
  zsz : K.z.cells.size = K.sz
  pos : 0 < K.sz
section
variable {α : Type} {K : RK α}
def RK.cells (K : RK α) (xs : List α) : List Value := xs.flatMap K.enc
theorem RK.cells_len (hK : RKok K) (xs : List α) : (K.cells xs).length = xs.length * K.sz := by
  unfold RK.cells
  induction xs with
  | nil => simp
  | cons x xs ih => rw [List.flatMap_cons, List.length_append, ih, hK.len, List.length_cons, Nat.add_mul]; omega
theorem RK.cells_append (xs ys : List α) : K.cells (xs ++ ys) = K.cells xs ++ K.cells ys := by unfold RK.cells; rw [List.flatMap_append]
theorem RK.cells_one (x : α) : K.cells [x] = K.enc x := by simp [RK.cells]
theorem RK.cells_at (hK : RKok K) : ∀ (xs : List α) (i : Nat) (x : α), xs[i]? = some x → ∀ j, j < K.sz → (K.cells xs)[i * K.sz + j]? = (K.enc x)[j]?
  | [], i, x, h, j, hj => by simp at h
  | y :: xs, 0, x, h, j, hj => by
    simp only [List.getElem?_cons_zero, Option.some.injEq] at h
    subst h
    unfold RK.cells
    rw [List.flatMap_cons, Nat.zero_mul, Nat.zero_add, List.getElem?_append_left (by rw [hK.len]; exact hj)]
  | y :: xs, i + 1, x, h, j, hj => by
    simp only [List.getElem?_cons_succ] at h
    have e : K.cells (y :: xs) = K.enc y ++ K.cells xs := rfl
    rw [e, List.getElem?_append_right (by rw [hK.len, Nat.add_mul]; omega), hK.len, show (i + 1) * K.sz + j - K.sz = i * K.sz + j by rw [Nat.add_mul]; omega]
    exact RK.cells_at hK xs i x h j hj
theorem RK.cells_cell (hK : RKok K) (xs : List α) : ∀ u ∈ K.cells xs, u.oneCell' = true := by
  intro u hu
  unfold RK.cells at hu
  rw [List.mem_flatMap] at hu
  obtain ⟨x, _, hx⟩ := hu
  exact hK.one x u hx
def GRow (K : RK α) (w : World) (v : Value) (xs : List α) : Prop := w.ownsRow 0 K.t K.sz v xs.length (K.cells xs)
variable {w w' : World} {v : Value} {xs : List α}
theorem GRow.lt (h : GRow K w v xs) (k : Nat) (hk : v.ownBlock = some k) : k < w.heap.size := (ownsRow_lt h k hk).1
theorem GRow.step (h : GRow K w v xs) (hs : ∀ k, v.ownBlock = some k → w'.heap[k]? = w.heap[k]?) : GRow K w' v xs := ownsRow_step h hs
theorem GRow.keep (h : GRow K w v xs) (hb : Below w.heap.size w w') : GRow K w' v xs := h.step (fun k hk => hb.block k (h.lt k hk))
theorem GRow.far (h : GRow K w v xs) {p : Addr} (hp : v.ownBlock ≠ some p.block) (u : Value) : GRow K (w.setCell p u) v xs := h.step (fun k hk => Below.heap_setCell _ _ _ _ (fun e => by subst e; exact hp hk))
theorem GRow.grown (h : GRow K w v xs) {row : Option Nat} (hg : w.grownBy w' row) (hr : ∀ k, v.ownBlock = some k → row ≠ some k) : GRow K w' v xs := h.step (fun k hk => hg.block k (h.lt k hk) (fun e => hr k hk e.symm))
theorem GRow.shape (h : GRow K w v xs) : ∃ A c, v = .slice A xs.length c := by
  rcases h.2 with ⟨rfl, h0⟩ | ⟨g, cap, cur, rfl, _⟩
  · rw [h0]; exact ⟨_, _, rfl⟩
  · exact ⟨_, _, rfl⟩
theorem GRow.nil (K : RK α) (w : World) : GRow K w (.slice none 0 0) [] := ⟨by simp [RK.cells], .inl ⟨rfl, rfl⟩⟩
theorem GRow.cap {a : Addr} {n c : Nat} (h : GRow K w (.slice (some a) n c) xs) : n ≤ c ∧ c ≤ 9223372036854775807 := by
  rcases h.2 with ⟨e, _⟩ | ⟨g, cap, cur, e, _, _, h1, h2, _⟩
  · simp at e
  · simp only [Value.slice.injEq] at e
    obtain ⟨_, rfl, rfl⟩ := e
    exact ⟨h1, by simpa [maxLen] using h2⟩
theorem GRow.len (h : GRow K w v xs) : xs.length ≤ 9223372036854775807 := by
  rcases h.2 with ⟨rfl, h⟩ | ⟨g, cap, cur, rfl, _, _, h1, h2, _⟩
  · omega
  · simp only [maxLen] at h2; omega
theorem GRow.at (hK : RKok K) (h : GRow K w v xs) {i : Nat} {x : α} (hx : xs[i]? = some x) : ∃ g c, v = .slice (some ⟨g, 0, none⟩) xs.length c ∧ ∀ j, j < K.sz → w.cell? ⟨g, i * K.sz + j, none⟩ = (K.enc x)[j]? := by
  have hi : i < xs.length := (List.getElem?_eq_some_iff.1 hx).1
  have h' := h
  rcases h.2 with ⟨rfl, h0⟩ | ⟨g, cap, cur, rfl, _⟩
  · omega
  · refine ⟨g, cap, rfl, fun j hj => ?_⟩
    have hlt : i * K.sz + j < xs.length * K.sz := by
      have : (i + 1) * K.sz ≤ xs.length * K.sz := Nat.mul_le_mul_right _ hi
      rw [Nat.add_mul] at this
      omega
    rw [World.ownsRow.cellAt h' _ hlt]
    exact RK.cells_at hK xs i x hx j hj
theorem GRow.pop (hK : RKok K) {A : Option Addr} {n c : Nat} {x : α} (h : GRow K w (.slice A (n + 1) c) (xs ++ [x])) (hn : n = xs.length) : GRow K w (.slice A n c) xs := by
  subst hn
  refine ⟨RK.cells_len hK xs, ?_⟩
  rcases h.2 with ⟨e, h0⟩ | ⟨g, cap, cur, e, h1, h2, h3, h4, h5, h6⟩
  · simp at h0
  · simp only [Value.slice.injEq] at e
    obtain ⟨rfl, _, rfl⟩ := e
    simp only [List.length_append, List.length_singleton] at h3 h6
    refine .inr ⟨g, c, cur, rfl, h1, h2, by omega, h4, h5, ?_⟩
    have e2 : xs.length * K.sz = min (xs.length * K.sz) ((xs.length + 1) * K.sz) := by rw [Nat.add_mul]; omega
    rw [e2, ← List.take_take, h6, RK.cells_append]
    rw [show xs.length * K.sz = (K.cells xs).length from (RK.cells_len hK xs).symm, List.take_left]
theorem GRow.lit (hK : RKok K) (w : World) (x : α) : GRow K (w.alloc (.cells (K.enc x).toArray K.t)) (.slice (some ⟨w.heap.size, 0, none⟩) 1 1) [x] := by
  unfold GRow
  rw [RK.cells_one]
  have := World.ownsRow_lit (base := 0) (e := K.t) (size := K.sz) w (K.enc x).toArray 1 (Nat.zero_le _) (by simp [maxLen]) (by simp [hK.len])
  simpa using this
theorem run_row (hK : RKok K) {W : World} (v x : Value) (ps qs : List α) (ty : TypeId) (HO : GRow K W v ps) (HX : GRow K W x qs) (h63 : ps.length + qs.length ≤ 9223372036854775807) (hl : (ps.length + qs.length) * K.bytes ≤ 140737488355328) :
    ∃ A1 c1 w1, (Builtin.append_ #[K.st, K.st] ty #[v, x]).run Tryz.prog W = .ok (.slice A1 (ps.length + qs.length) c1) w1 ∧ GRow K w1 (.slice A1 (ps.length + qs.length) c1) (ps ++ qs) ∧ W.grownBy w1 v.ownBlock ∧
      ((Value.slice A1 (ps.length + qs.length) c1).ownBlock = v.ownBlock ∨ (Value.slice A1 (ps.length + qs.length) c1).ownBlock = some W.heap.size) := by
  obtain ⟨i0, hi, hzz⟩ := Option.map_eq_some_iff.1 hK.info
  simp only [Prod.mk.injEq] at hzz
  obtain ⟨hz0, hz1, hz2⟩ := hzz
  rcases HX.2 with ⟨rfl, h0⟩ | ⟨g, cap, cur, rfl, _⟩
  · have hq : qs = [] := List.length_eq_zero_iff.1 h0
    subst hq
    obtain ⟨A, c, rfl⟩ := HO.shape
    refine ⟨A, c, W, run_append_owned_none (P := Tryz.prog) (w := W) 0 K.st ty K.t i0 K.sz hK.st hi _ _ _ HO, ?_, World.grownBy.refl _ _, .inl rfl⟩
    simpa using HO
  · obtain ⟨v', w', hr, h2, h3, _, h5⟩ := run_append_own_at (P := Tryz.prog) W 0 K.st ty K.t i0 _ K.sz K.bytes hK.st hi hz0 hz1 hz2 hK.zsz hK.pos v ps.length _ HO ⟨g, 0, none⟩ qs.length cap (K.cells qs) (RK.cells_len hK qs)
      (fun j u hu => by
        have ha : (⟨g, 0, none⟩ : Addr).add j = ⟨g, j, none⟩ := by unfold Addr.add; split <;> simp_all
        rw [ha, World.ownsRow.cellAt HX j (by have := (List.getElem?_eq_some_iff.1 hu).1; rw [RK.cells_len hK] at this; exact this)]
        exact hu) (RK.cells_cell hK qs) (by simp only [maxLen]; omega) hl (Nat.zero_le _)
    have hI : GRow K w' v' (ps ++ qs) := by unfold GRow; rw [RK.cells_append]; simpa using h2
    obtain ⟨A1, c1, rfl⟩ := hI.shape
    simp only [List.length_append] at *
    exact ⟨A1, c1, w', hr, hI, h3, h5⟩
end
section
variable {α : Type} {k : RK α} {W : World} {ops : Array Oper} {rest : List Oper} {o : Oper} {a : Act} {K : Act → World → Prop} {Q : Exit → Act → World → Prop} {E : Prop}
theorem step_row (hK : RKok k) (hgd : o.guard = none) (s x : Operand) (ho : o.op = .call { callee := .builtin .append, args := #[s, x], argTypes := #[k.st, k.st] })
    (v : Value) (ps qs : List α) (u : Value) (hs : a.eval s = v) (hx : a.eval x = u) (HO : GRow k W v ps) (HX : GRow k W u qs) (h63 : ps.length + qs.length ≤ 9223372036854775807) (hl : (ps.length + qs.length) * k.bytes ≤ 140737488355328)
    (h : ∀ A1 c1 w1, GRow k w1 (.slice A1 (ps.length + qs.length) c1) (ps ++ qs) → W.grownBy w1 v.ownBlock → ((Value.slice A1 (ps.length + qs.length) c1).ownBlock = v.ownBlock ∨ (Value.slice A1 (ps.length + qs.length) c1).ownBlock = some W.heap.size) → K (a.put o.dst (.slice A1 (ps.length + qs.length) c1)) w1) :
    if Region.wanted o (yielded ops a.tmps) = true then Oper.wp Tryz.prog o a W K Q else E := by
  have hw : Region.wanted o (yielded ops a.tmps) = true := by simp [Region.wanted, hgd]
  rw [if_pos hw]
  obtain ⟨A1, c1, w1, hr, h1, h2, h3⟩ := run_row hK v u ps qs o.type HO HX h63 hl
  unfold Oper.wp execOp
  simp only [ho, resolve, invoke, builtin, Sem.run_bind, Sem.run_pure, Result.andThen_ok, List.map_toArray, List.map_cons, List.map_nil, hs, hx, hr]
  exact h A1 c1 w1 h1 h2 h3
theorem append_row (hK : RKok k) (hgd : o.guard = none) (s x : Operand) (ho : o.op = .call { callee := .builtin .append, args := #[s, x], argTypes := #[k.st, k.st] })
    (v : Value) (ps qs : List α) (u : Value) (hs : a.eval s = v) (hx : a.eval x = u) (HO : GRow k W v ps) (HX : GRow k W u qs) (h63 : ps.length + qs.length ≤ 9223372036854775807) (hl : (ps.length + qs.length) * k.bytes ≤ 140737488355328)
    (h : ∀ A1 c1 w1, GRow k w1 (.slice A1 (ps.length + qs.length) c1) (ps ++ qs) → W.grownBy w1 v.ownBlock → ((Value.slice A1 (ps.length + qs.length) c1).ownBlock = v.ownBlock ∨ (Value.slice A1 (ps.length + qs.length) c1).ownBlock = some W.heap.size) → wpList Tryz.prog ops Q rest (a.put o.dst (.slice A1 (ps.length + qs.length) c1)) w1) :
    wpList Tryz.prog ops Q (o :: rest) a W := by
  refine wpList_plain hgd fun K hK2 => ?_
  obtain ⟨A1, c1, w1, hr, h1, h2, h3⟩ := run_row hK v u ps qs o.type HO HX h63 hl
  unfold Oper.wp execOp
  simp only [ho, resolve, invoke, builtin, Sem.run_bind, Sem.run_pure, Result.andThen_ok, List.map_toArray, List.map_cons, List.map_nil, hs, hx, hr]
  exact hK2 _ _ (h A1 c1 w1 h1 h2 h3)
end
theorem grow_own {w0 W : World} {v v9 : Value} (hv : v9.ownBlock = v.ownBlock ∨ v9.ownBlock = some W.heap.size) (hW : Below w0.heap.size w0 W) (ho : ∀ b, v.ownBlock = some b → w0.heap.size ≤ b) : ∀ b, v9.ownBlock = some b → w0.heap.size ≤ b := fun b hb => by
  rcases hv with e | e
  · exact ho b (by rw [← e]; exact hb)
  · rw [e] at hb
    injection hb with hb
    have := hW.size
    omega
theorem grow_below {w0 W w9 : World} {v : Value} (hB : Below w0.heap.size w0 W) (hg : W.grownBy w9 v.ownBlock) (ho : ∀ b, v.ownBlock = some b → w0.heap.size ≤ b) : Below w0.heap.size w0 w9 := hB.grown hg hB.size ho
theorem below_setRow {B : Nat} {w0 W : World} (h : Below B w0 W) {g : Nat} (hg : B ≤ g) (cs : Array Value) : Below B w0 (W.setRow g cs) := ⟨h.os, h.tape, h.output, by simpa using h.size, fun k hk => (setRow_other W g k cs (by omega)).trans (h.block k hk)⟩
end Go.Proofs.YtkfdhmeipnfhpaaGreatDoor
