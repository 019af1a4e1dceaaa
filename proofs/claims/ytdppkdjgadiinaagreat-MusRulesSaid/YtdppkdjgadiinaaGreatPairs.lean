/- Rows of pairs of numbers. -/
import Derived.Test.YtdppkdjgadiinaaGreatClay
set_option linter.unusedVariables false
set_option linter.unusedSimpArgs false
namespace Go.Proofs.YtdppkdjgadiinaaGreat
open Go.RowKit

def pcells (ps : List (Nat × Nat)) : List Value := ps.flatMap fun p => [.int .i64 p.1, .int .i64 p.2]
theorem pcells_len (ps : List (Nat × Nat)) : (pcells ps).length = ps.length * 2 := by
  unfold pcells
  induction ps with
  | nil => rfl
  | cons p ps ih => rw [List.flatMap_cons, List.length_append, ih]; simp; omega
theorem pcells_append (ps qs : List (Nat × Nat)) : pcells (ps ++ qs) = pcells ps ++ pcells qs := by unfold pcells; rw [List.flatMap_append]
theorem pcells_one (p : Nat × Nat) : pcells [p] = [.int .i64 p.1, .int .i64 p.2] := by simp [pcells]
theorem pcells_at : ∀ (ps : List (Nat × Nat)) (i : Nat) (p : Nat × Nat), ps[i]? = some p → (pcells ps)[i * 2]? = some (.int .i64 p.1) ∧ (pcells ps)[i * 2 + 1]? = some (.int .i64 p.2)
  | [], i, p, h => by simp at h
  | q :: ps, 0, p, h => by
    simp only [List.getElem?_cons_zero, Option.some.injEq] at h
    subst h
    simp [pcells]
  | q :: ps, i + 1, p, h => by
    simp only [List.getElem?_cons_succ] at h
    obtain ⟨h1, h2⟩ := pcells_at ps i p h
    have e : pcells (q :: ps) = .int .i64 q.1 :: .int .i64 q.2 :: pcells ps := by simp [pcells]
    rw [e, show (i + 1) * 2 = i * 2 + 1 + 1 by omega]
    simp only [List.getElem?_cons_succ]
    exact ⟨h1, h2⟩
theorem pcells_cell (ps : List (Nat × Nat)) : ∀ u ∈ pcells ps, u.oneCell' = true := by
  intro u hu
  unfold pcells at hu
  rw [List.mem_flatMap] at hu
  obtain ⟨p, _, hp⟩ := hu
  simp only [List.mem_cons, List.not_mem_nil, or_false] at hp
  rcases hp with rfl | rfl <;> simp [Value.oneCell']
def PRow (w : World) (v : Value) (ps : List (Nat × Nat)) : Prop := w.ownsRow 0 98 2 v ps.length (pcells ps)
section
variable {w w' : World} {v : Value} {ps : List (Nat × Nat)}
theorem PRow.lt (h : PRow w v ps) (k : Nat) (hk : v.ownBlock = some k) : k < w.heap.size := (ownsRow_lt h k hk).1
theorem PRow.step (h : PRow w v ps) (hs : ∀ k, v.ownBlock = some k → w'.heap[k]? = w.heap[k]?) : PRow w' v ps := ownsRow_step h hs
theorem PRow.keep (h : PRow w v ps) (hb : Below w.heap.size w w') : PRow w' v ps := h.step (fun k hk => hb.block k (h.lt k hk))
theorem PRow.grown (h : PRow w v ps) {row : Option Nat} (hg : w.grownBy w' row) (hr : ∀ k, v.ownBlock = some k → row ≠ some k) : PRow w' v ps := h.step (fun k hk => hg.block k (h.lt k hk) (fun e => hr k hk e.symm))
theorem PRow.shape (h : PRow w v ps) : ∃ A c, v = .slice A ps.length c := by
  rcases h.2 with ⟨rfl, h0⟩ | ⟨g, cap, cur, rfl, _⟩
  · rw [h0]; exact ⟨_, _, rfl⟩
  · exact ⟨_, _, rfl⟩
theorem PRow.nil (w : World) : PRow w (.slice none 0 0) [] := ⟨by simp [pcells], .inl ⟨rfl, rfl⟩⟩
theorem PRow.at (h : PRow w v ps) {i : Nat} {p : Nat × Nat} (hp : ps[i]? = some p) : ∃ g c, v = .slice (some ⟨g, 0, none⟩) ps.length c ∧ w.cell? ⟨g, i * 2, none⟩ = some (.int .i64 p.1) ∧ w.cell? ⟨g, i * 2 + 1, none⟩ = some (.int .i64 p.2) := by
  have hi : i < ps.length := (List.getElem?_eq_some_iff.1 hp).1
  obtain ⟨h1, h2⟩ := pcells_at ps i p hp
  have h' := h
  rcases h.2 with ⟨rfl, h0⟩ | ⟨g, cap, cur, rfl, _⟩
  · omega
  · refine ⟨g, cap, rfl, ?_, ?_⟩
    · rw [World.ownsRow.cellAt h' (i * 2) (by omega)]; exact h1
    · rw [World.ownsRow.cellAt h' (i * 2 + 1) (by omega)]; exact h2
theorem PRow.pop {A : Option Addr} {n c : Nat} {p : Nat × Nat} (h : PRow w (.slice A (n + 1) c) (ps ++ [p])) (hn : n = ps.length) : PRow w (.slice A n c) ps := by
  subst hn
  refine ⟨pcells_len ps, ?_⟩
  rcases h.2 with ⟨e, h0⟩ | ⟨g, cap, cur, e, h1, h2, h3, h4, h5, h6⟩
  · simp at h0
  · simp only [Value.slice.injEq] at e
    obtain ⟨rfl, _, rfl⟩ := e
    simp only [List.length_append, List.length_singleton] at h3 h6
    refine .inr ⟨g, c, cur, rfl, h1, h2, by omega, h4, h5, ?_⟩
    have e2 : ps.length * 2 = min (ps.length * 2) ((ps.length + 1) * 2) := by omega
    rw [e2, ← List.take_take, h6, pcells_append]
    rw [show ps.length * 2 = (pcells ps).length from (pcells_len ps).symm, List.take_left]
theorem PRow.lit (w : World) (p : Nat × Nat) : PRow (w.alloc (.cells #[.int .i64 p.1, .int .i64 p.2] 98)) (.slice (some ⟨w.heap.size, 0, none⟩) 1 1) [p] := by
  unfold PRow
  rw [pcells_one]
  exact World.ownsRow_lit w #[.int .i64 p.1, .int .i64 p.2] 1 (Nat.zero_le _) (by simp [maxLen]) rfl
end
theorem info_pair : (Tryz.prog.info? 98).map (fun i => (i.zero, i.size, i.bytes)) = some (some (.agg #[.int .i64 0, .int .i64 0]), 2, 16) := by kernel_rfl
theorem run_pairs {W : World} (v x : Value) (ps qs : List (Nat × Nat)) (ty : TypeId) (HO : PRow W v ps) (HX : PRow W x qs) (hl : (ps.length + qs.length) * 16 ≤ 140737488355328) :
    ∃ A1 c1 w1, (Builtin.append_ #[99, 99] ty #[v, x]).run Tryz.prog W = .ok (.slice A1 (ps.length + qs.length) c1) w1 ∧ PRow w1 (.slice A1 (ps.length + qs.length) c1) (ps ++ qs) ∧ W.grownBy w1 v.ownBlock ∧
      ((Value.slice A1 (ps.length + qs.length) c1).ownBlock = v.ownBlock ∨ (Value.slice A1 (ps.length + qs.length) c1).ownBlock = some W.heap.size) := by
  obtain ⟨i0, hi, hzz⟩ := Option.map_eq_some_iff.1 info_pair
  simp only [Prod.mk.injEq] at hzz
  obtain ⟨hz0, hz1, hz2⟩ := hzz
  rcases HX.2 with ⟨rfl, h0⟩ | ⟨g, cap, cur, rfl, _⟩
  · have hq : qs = [] := List.length_eq_zero_iff.1 h0
    subst hq
    obtain ⟨A, c, rfl⟩ := HO.shape
    refine ⟨A, c, W, run_append_owned_none (P := Tryz.prog) (w := W) 0 99 ty 98 i0 2 Tryz.underlying99 hi _ _ _ HO, ?_, World.grownBy.refl _ _, .inl rfl⟩
    simpa using HO
  · obtain ⟨v', w', hr, h2, h3, _, h5⟩ := run_append_own_at (P := Tryz.prog) W 0 99 ty 98 i0 _ 2 16 Tryz.underlying99 hi hz0 hz1 hz2 rfl (by omega) v ps.length _ HO ⟨g, 0, none⟩ qs.length cap (pcells qs) (pcells_len qs)
      (fun j u hu => by
        have ha : (⟨g, 0, none⟩ : Addr).add j = ⟨g, j, none⟩ := by unfold Addr.add; split <;> simp_all
        rw [ha, World.ownsRow.cellAt HX j (by have := (List.getElem?_eq_some_iff.1 hu).1; rw [pcells_len] at this; exact this)]
        exact hu) (pcells_cell qs) (by simp only [maxLen]; omega) hl (Nat.zero_le _)
    have hI : PRow w' v' (ps ++ qs) := by unfold PRow; rw [pcells_append]; simpa using h2
    obtain ⟨A1, c1, rfl⟩ := hI.shape
    simp only [List.length_append] at *
    exact ⟨A1, c1, w', hr, hI, h3, h5⟩
section
variable {W : World} {ops : Array Oper} {rest : List Oper} {o : Oper} {a : Act} {K : Act → World → Prop} {Q : Exit → Act → World → Prop} {E : Prop}
theorem step_pairs (hgd : o.guard = none) (s x : Operand) (ho : o.op = .call { callee := .builtin .append, args := #[s, x], argTypes := #[99, 99] })
    (v : Value) (ps qs : List (Nat × Nat)) (u : Value) (hs : a.eval s = v) (hx : a.eval x = u) (HO : PRow W v ps) (HX : PRow W u qs) (hl : (ps.length + qs.length) * 16 ≤ 140737488355328)
    (h : ∀ A1 c1 w1, PRow w1 (.slice A1 (ps.length + qs.length) c1) (ps ++ qs) → W.grownBy w1 v.ownBlock → ((Value.slice A1 (ps.length + qs.length) c1).ownBlock = v.ownBlock ∨ (Value.slice A1 (ps.length + qs.length) c1).ownBlock = some W.heap.size) → K (a.put o.dst (.slice A1 (ps.length + qs.length) c1)) w1) :
    if Region.wanted o (yielded ops a.tmps) = true then Oper.wp Tryz.prog o a W K Q else E := by
  have hw : Region.wanted o (yielded ops a.tmps) = true := by simp [Region.wanted, hgd]
  rw [if_pos hw]
  obtain ⟨A1, c1, w1, hr, h1, h2, h3⟩ := run_pairs v u ps qs o.type HO HX hl
  unfold Oper.wp execOp
  simp only [ho, resolve, invoke, builtin, Sem.run_bind, Sem.run_pure, Result.andThen_ok, List.map_toArray, List.map_cons, List.map_nil, hs, hx, hr]
  exact h A1 c1 w1 h1 h2 h3
theorem append_pairs (hgd : o.guard = none) (s x : Operand) (ho : o.op = .call { callee := .builtin .append, args := #[s, x], argTypes := #[99, 99] })
    (v : Value) (ps qs : List (Nat × Nat)) (u : Value) (hs : a.eval s = v) (hx : a.eval x = u) (HO : PRow W v ps) (HX : PRow W u qs) (hl : (ps.length + qs.length) * 16 ≤ 140737488355328)
    (h : ∀ A1 c1 w1, PRow w1 (.slice A1 (ps.length + qs.length) c1) (ps ++ qs) → W.grownBy w1 v.ownBlock → ((Value.slice A1 (ps.length + qs.length) c1).ownBlock = v.ownBlock ∨ (Value.slice A1 (ps.length + qs.length) c1).ownBlock = some W.heap.size) → wpList Tryz.prog ops Q rest (a.put o.dst (.slice A1 (ps.length + qs.length) c1)) w1) :
    wpList Tryz.prog ops Q (o :: rest) a W := by
  refine wpList_plain hgd fun K hK => ?_
  obtain ⟨A1, c1, w1, hr, h1, h2, h3⟩ := run_pairs v u ps qs o.type HO HX hl
  unfold Oper.wp execOp
  simp only [ho, resolve, invoke, builtin, Sem.run_bind, Sem.run_pure, Result.andThen_ok, List.map_toArray, List.map_cons, List.map_nil, hs, hx, hr]
  exact hK _ _ (h A1 c1 w1 h1 h2 h3)
end
end Go.Proofs.YtdppkdjgadiinaaGreat
