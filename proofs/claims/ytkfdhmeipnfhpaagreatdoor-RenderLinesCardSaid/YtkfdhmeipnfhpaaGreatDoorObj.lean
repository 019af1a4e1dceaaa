/- Objects in memory: what a call may change; rows of numbers; union's forest. -/
import Derived.Test.YtkfdhmeipnfhpaaGreatDoorTypes
set_option linter.unusedVariables false
set_option linter.unusedSimpArgs false
namespace Go.Proofs.YtkfdhmeipnfhpaaGreatDoor
open Go.RowKit

/-- Of what was there only blocks of F may have changed. -/
structure Chg (F : Nat → Prop) (w w' : World) : Prop where
  os : w'.os = w.os
  tape : w'.tape = w.tape
  output : w'.output = w.output
  size : w.heap.size ≤ w'.heap.size
  block : ∀ k, k < w.heap.size → ¬ F k → w'.heap[k]? = w.heap[k]?
section
variable {F F' : Nat → Prop} {w w0 w1 w' : World}
theorem Chg.refl (F : Nat → Prop) (w : World) : Chg F w w := ⟨rfl, rfl, rfl, Nat.le_refl _, fun _ _ _ => rfl⟩
theorem Chg.trans (h : Chg F w0 w) (k : Chg F' w w') (hf : ∀ k, F' k → k < w.heap.size → F k ∨ w0.heap.size ≤ k) : Chg F w0 w' :=
  ⟨k.os.trans h.os, k.tape.trans h.tape, k.output.trans h.output, Nat.le_trans h.size k.size, fun i hi hn => (k.block i (Nat.lt_of_lt_of_le hi h.size) (fun e => by
    rcases hf i e (Nat.lt_of_lt_of_le hi h.size) with e | e
    · exact hn e
    · omega)).trans (h.block i hi hn)⟩
theorem Chg.mono (h : Chg F w w') (hf : ∀ k, F k → k < w.heap.size → F' k) : Chg F' w w' := ⟨h.os, h.tape, h.output, h.size, fun k hk hn => h.block k hk (fun e => hn (hf k e hk))⟩
theorem Chg.of_below (h : Below w.heap.size w w') : Chg F w w' := ⟨h.os, h.tape, h.output, h.size, fun k hk _ => h.block k hk⟩
theorem Chg.below (h : Chg F w w') {B : Nat} (hf : ∀ k, F k → B ≤ k) (hB : B ≤ w.heap.size) : Below B w w' := ⟨h.os, h.tape, h.output, h.size, fun k hk => h.block k (by omega) (fun e => by have := hf k e; omega)⟩
theorem Chg.thenBelow (h : Chg F w0 w) (k : Below w.heap.size w w') : Chg F w0 w' := h.trans (F' := fun _ => False) (Chg.of_below k) (fun _ e => e.elim)
theorem Chg.alloc (h : Chg F w0 w) (o : Obj) : Chg F w0 (w.alloc o) := h.thenBelow ((Below.refl _ _).alloc (Nat.le_refl _) _)
theorem Chg.setCell (h : Chg F w0 w) {p : Addr} (hp : F p.block ∨ w0.heap.size ≤ p.block) (u : Value) : Chg F w0 (w.setCell p u) :=
  h.trans (F' := fun k => k = p.block) ⟨rfl, rfl, rfl, by simp [World.setCell], fun k _ hn => Below.heap_setCell _ _ _ _ hn⟩ (fun k e _ => by subst e; exact hp)
theorem Chg.grown {row : Option Nat} (h : Chg F w0 w) (hg : w.grownBy w' row) (hr : ∀ k, row = some k → F k ∨ w0.heap.size ≤ k) : Chg F w0 w' :=
  h.trans (F' := fun k => row = some k) ⟨hg.os, hg.tape, hg.output, hg.size, fun k hk hn => hg.block k hk (fun e => hn e.symm)⟩ (fun k e _ => hr k e)
theorem Chg.drewN (h : Chg F w0 w) (n : Nat) : Chg F w0 (w.drewN n) := ⟨h.os, h.tape, h.output, h.size, h.block⟩
theorem Chg.drew (h : Chg F w0 w) : Chg F w0 w.drew := ⟨h.os, h.tape, h.output, h.size, h.block⟩
end
theorem Below.drewN' {B : Nat} {a w : World} (h : Below B a w) (n : Nat) : Below B a (w.drewN n) := ⟨h.os, h.tape, h.output, h.size, h.block⟩

/-! ### rows of numbers -/
/-- v is a row of the call's own: these numbers. -/
def IRow (w : World) (v : Value) (xs : List Int) : Prop := w.ownsRow 0 3 1 v xs.length (xs.map (Value.int .i64))
section
variable {w w' : World} {v : Value} {xs : List Int}
theorem IRow.lt (h : IRow w v xs) (k : Nat) (hk : v.ownBlock = some k) : k < w.heap.size := (ownsRow_lt h k hk).1
theorem IRow.step (h : IRow w v xs) (hs : ∀ k, v.ownBlock = some k → w'.heap[k]? = w.heap[k]?) : IRow w' v xs := ownsRow_step h hs
theorem IRow.keep (h : IRow w v xs) (hb : Below w.heap.size w w') : IRow w' v xs := h.step (fun k hk => hb.block k (h.lt k hk))
theorem IRow.far (h : IRow w v xs) {p : Addr} (hp : v.ownBlock ≠ some p.block) (u : Value) : IRow (w.setCell p u) v xs := h.step (fun k hk => Below.heap_setCell _ _ _ _ (fun e => by subst e; exact hp hk))
theorem IRow.grown (h : IRow w v xs) {row : Option Nat} (hg : w.grownBy w' row) (hr : ∀ k, v.ownBlock = some k → row ≠ some k) : IRow w' v xs := h.step (fun k hk => hg.block k (h.lt k hk) (fun e => hr k hk e.symm))
theorem IRow.shape (h : IRow w v xs) : ∃ A c, v = .slice A xs.length c := by
  rcases h.2 with ⟨rfl, h0⟩ | ⟨g, cap, cur, rfl, _⟩
  · rw [h0]; exact ⟨_, _, rfl⟩
  · exact ⟨_, _, rfl⟩
theorem IRow.len (h : IRow w v xs) : xs.length ≤ 9223372036854775807 := by
  rcases h.2 with ⟨rfl, h⟩ | ⟨g, cap, cur, rfl, _, _, h1, h2, _⟩
  · omega
  · simp only [maxLen] at h2; omega
theorem IRow.nil (w : World) : IRow w (.slice none 0 0) [] := ⟨by simp, .inl ⟨rfl, rfl⟩⟩
/-- There is an element: the row's block, what the cell holds, that it may be written. -/
theorem IRow.at (h : IRow w v xs) {i : Nat} {x : Int} (hx : xs[i]? = some x) : ∃ g c, v = .slice (some ⟨g, 0, none⟩) xs.length c ∧ w.cell? ⟨g, i, none⟩ = some (.int .i64 x) ∧ w.frozen? ⟨g, i, none⟩ = false ∧ i < xs.length := by
  have hi : i < xs.length := (List.getElem?_eq_some_iff.1 hx).1
  obtain ⟨h1, h2⟩ := h
  rcases h2 with ⟨rfl, h⟩ | ⟨g, cap, cur, rfl, hb, hh, hc, hc2, hsz, hcur⟩
  · omega
  · refine ⟨g, cap, rfl, ?_, by simp [World.frozen?, hh], hi⟩
    have h3 : (cur.toList.take (xs.length * 1))[i]? = some (.int .i64 x) := by rw [hcur, List.getElem?_map, hx]; rfl
    rw [List.getElem?_take_of_lt (by omega)] at h3
    simpa [World.cell?, hh] using h3
theorem IRow.cell {w : World} {g n c : Nat} {xs : List Int} (h : IRow w (.slice (some ⟨g, 0, none⟩) n c) xs) {i : Nat} {x : Int} (hx : xs[i]? = some x) : w.cell? ⟨g, i, none⟩ = some (.int .i64 x) ∧ w.frozen? ⟨g, i, none⟩ = false ∧ i < n ∧ n = xs.length := by
  obtain ⟨g', c', hv, h1, h2, h3⟩ := h.at hx
  injection hv with e1 e2 e3
  injection e1 with e1
  injection e1 with e1
  subst e1
  exact ⟨h1, h2, by omega, e2⟩
theorem IRow.set (h : IRow w v xs) {g c : Nat} (hv : v = .slice (some ⟨g, 0, none⟩) xs.length c) {i : Nat} (hi : i < xs.length) (x : Int) : IRow (w.setCell ⟨g, i, none⟩ (.int .i64 x)) v (xs.set i x) := by
  subst hv
  unfold IRow at h ⊢
  have h2 := (h.stored i (.int .i64 x)).1
  simpa [List.map_set] using h2
theorem info_int : (Tryz.prog.info? 3).map (fun i => (i.zero, i.size, i.bytes)) = some (some (.int .i64 0), 1, 8) := by kernel_rfl
section
variable {ops : Array Oper} {rest : List Oper} {o : Oper} {a : Act} {Q : Exit → Act → World → Prop}
/-- append(v, y) for a row of numbers: behind 'at_builtin'. -/
theorem append_int {W : World} {b : Nat} (hb : W.heap.size = b) (hgd : o.guard = none) (s x : Operand)
    (ho : o.op = .call { callee := .builtin .append, args := #[s, x], argTypes := #[24, 24] })
    (v : Value) (xs : List Int) (y : Int) (hs : a.eval s = v) (hx : a.eval x = .slice (some ⟨b, 0, none⟩) 1 1)
    (HO : IRow W v xs) (hl : (xs.length + 1) * 8 ≤ 140737488355328)
    (h : ∀ A1 c1 w1, IRow w1 (.slice A1 (xs.length + 1) c1) (xs ++ [y]) → W.grownBy w1 v.ownBlock → ((Value.slice A1 (xs.length + 1) c1).ownBlock = v.ownBlock ∨ ∃ b, (Value.slice A1 (xs.length + 1) c1).ownBlock = some b ∧ W.heap.size ≤ b) → wpList Tryz.prog ops Q rest (a.put o.dst (.slice A1 (xs.length + 1) c1)) w1) :
    wpList Tryz.prog ops Q (o :: rest) a (W.alloc (.cells #[.int .i64 y] 3)) := by
  subst hb
  obtain ⟨i0, hi, hzz⟩ := Option.map_eq_some_iff.1 info_int
  simp only [Prod.mk.injEq] at hzz
  obtain ⟨hz0, hz1, hz2⟩ := hzz
  refine wpList_append_own_at (W.alloc (.cells #[.int .i64 y] 3)) hgd s x 24 ho 0 3 i0 _ 1 8 Tryz.underlying24 hi hz0 hz1 hz2 rfl (by omega) v xs.length _ hs (HO.alloc _) ⟨W.heap.size, 0, none⟩ 1 1 [.int .i64 y] hx rfl
    (World.news_of_block (cs := #[.int .i64 y]) (t := 3) (fr := (0, 0)) (heap_alloc_new W _)) (by simp [Value.oneCell']) (by simp only [maxLen]; omega) hl (Nat.zero_le _) ?_
  intro v1 w1 hown hg _ hat
  have hI : IRow w1 v1 (xs ++ [y]) := by unfold IRow; simpa using hown
  obtain ⟨A1, c1, rfl⟩ := hI.shape
  simp only [List.length_append, List.length_singleton] at *
  refine h A1 c1 w1 hI (World.grownBy.trans (World.grownBy_alloc W _ _) hg) ?_
  rcases hat with hat | hat
  · exact .inl hat
  · exact .inr ⟨_, hat, by simp⟩
end
end

/-! ### union.Forest: the roots of all elements, and the ranks -/
def Way (d : Nat → Nat) (up rt : List Int) : Prop := ∀ i, i < rt.length → ∃ u r : Nat, up[i]? = some (u : Int) ∧ rt[i]? = some (r : Int) ∧ u < rt.length ∧ r < rt.length ∧ ((u = i ∧ r = i) ∨ (r ≠ i ∧ rt[u]? = some (r : Int) ∧ d u < d i))
/-- up leads from each element to its root rt; what stands nearer to the root is less (d). -/
structure Chains (up rt : List Int) : Prop where
  len : up.length = rt.length
  way : ∃ d : Nat → Nat, Way d up rt
/-- A forest at block f; F: its blocks. -/
structure ForestAt (w : World) (F : Nat → Prop) (f : Nat) (rt rank : List Int) : Prop where
  is : ∃ vu vr up sets steps, Blk w f 284 [vu, vr, .int .i64 sets, .int .i64 steps] ∧ IRow w vu up ∧ IRow w vr rank ∧ Chains up rt ∧ rank.length = rt.length ∧
    vu.ownBlock ≠ some f ∧ vr.ownBlock ≠ some f ∧ (∀ k, vu.ownBlock = some k → vr.ownBlock ≠ some k) ∧ (∀ k, F k ↔ k = f ∨ vu.ownBlock = some k ∨ vr.ownBlock = some k)
theorem ForestAt.step {w w' : World} {F : Nat → Prop} {f : Nat} {rt rank : List Int} (h : ForestAt w F f rt rank) (hs : ∀ k, F k → w'.heap[k]? = w.heap[k]?) : ForestAt w' F f rt rank := by
  obtain ⟨vu, vr, up, sets, steps, h1, h2, h3, h4, h5, h6, h7, h8, h9⟩ := h.is
  exact ⟨vu, vr, up, sets, steps, (hs f ((h9 f).2 (.inl rfl))).trans h1, h2.step (fun k hk => hs k ((h9 k).2 (.inr (.inl hk)))), h3.step (fun k hk => hs k ((h9 k).2 (.inr (.inr hk)))), h4, h5, h6, h7, h8, h9⟩
theorem ForestAt.lt {w : World} {F : Nat → Prop} {f : Nat} {rt rank : List Int} (h : ForestAt w F f rt rank) (k : Nat) (hk : F k) : k < w.heap.size := by
  obtain ⟨vu, vr, up, sets, steps, h1, h2, h3, h4, h5, h6, h7, h8, h9⟩ := h.is
  rcases (h9 k).1 hk with rfl | e | e
  · exact h1.lt
  · exact h2.lt k e
  · exact h3.lt k e
theorem Chains.root_lt {up rt : List Int} {d : Nat → Nat} (hd : Way d up rt) :
    ∀ (m i r : Nat), d i < m → i < rt.length → rt[i]? = some (r : Int) → r ≠ i → d r < d i
  | 0, i, r, hm, _, _, _ => by omega
  | m + 1, i, r, hm, hi, hr, hne => by
    obtain ⟨u, r', hu, hr', hul, hrl, h⟩ := hd i hi
    rw [hr] at hr'
    obtain rfl : r = r' := by injection hr' with hr'; omega
    rcases h with ⟨_, h⟩ | ⟨_, h2, h3⟩
    · exact absurd h hne
    · by_cases hru : r = u
      · rw [hru]; exact h3
      · have := Chains.root_lt hd m u r (by omega) hul h2 hru
        omega
/-- A root is its own root. -/
theorem Chains.root_root {up rt : List Int} {d : Nat → Nat} (hd : Way d up rt) :
    ∀ (m i r : Nat), d i < m → i < rt.length → rt[i]? = some (r : Int) → rt[r]? = some (r : Int) ∧ up[r]? = some (r : Int)
  | 0, i, r, hm, _, _ => by omega
  | m + 1, i, r, hm, hi, hr => by
    obtain ⟨u, r', hu, hr', hul, hrl, h⟩ := hd i hi
    rw [hr] at hr'
    obtain rfl : r = r' := by injection hr' with hr'; omega
    rcases h with ⟨h1, h2⟩ | ⟨_, h2, h3⟩
    · subst h2
      exact ⟨hr, by rw [hu, h1]⟩
    · exact Chains.root_root hd m u r (by omega) hul h2
/-- What is on the way may be led to the root at once. -/
theorem Way.compress {d : Nat → Nat} {up rt : List Int} (hd : Way d up rt) (h1 : up.length = rt.length) {i r : Nat} (hi : i < rt.length) (hr : rt[i]? = some (r : Int)) (hne : r ≠ i) : Way d (up.set i r) rt := by
  intro j hj
  obtain ⟨u, r', hu, hr', hul, hrl, hc⟩ := hd j hj
  by_cases hji : j = i
  · subst hji
    rw [hr] at hr'
    obtain rfl : r = r' := by injection hr' with hr'; omega
    refine ⟨r, r, by simp [h1, hj], hr, hrl, hrl, .inr ⟨hne, (Chains.root_root hd (d j + 1) j r (by omega) hj hr).1, Chains.root_lt hd (d j + 1) j r (by omega) hj hr hne⟩⟩
  · exact ⟨u, r', by rw [List.getElem?_set_ne (fun e => hji e.symm)]; exact hu, hr', hul, hrl, hc⟩
/-- Two roots: one comes to stand below the other one. -/
theorem Chains.join {up rt : List Int} (h : Chains up rt) {a b : Nat} (ha : a < rt.length) (hb : b < rt.length) (hra : rt[a]? = some (a : Int)) (hrb : rt[b]? = some (b : Int)) (hne : a ≠ b) :
    Chains (up.set b a) (rt.map fun x => if x = (b : Int) then (a : Int) else x) := by
  obtain ⟨h1, d, hd⟩ := h
  have hq : ∀ j r : Nat, rt[j]? = some (r : Int) → (rt.map fun x => if x = (b : Int) then (a : Int) else x)[j]? = some (((if r = b then a else r : Nat)) : Int) := by
    intro j r hj
    rw [List.getElem?_map, hj]
    by_cases e : r = b
    · subst e; simp
    · have e2 : ¬ (r : Int) = (b : Int) := by omega
      simp [e, e2]
  refine ⟨by simp [h1], fun j => if rt[j]? = some (b : Int) then d j + d a + 1 else d j, fun j hj => ?_⟩
  rw [List.length_map] at hj
  simp only [List.length_map]
  obtain ⟨u, r, hu, hr, hul, hrl, hc⟩ := hd j hj
  by_cases hjb : j = b
  · subst hjb
    refine ⟨a, a, by simp [h1, hj], by rw [hq j j hrb]; simp, ha, ha, .inr ⟨hne, by rw [hq a a hra, if_neg hne], ?_⟩⟩
    rw [hrb, hra]
    have : ¬ (a : Int) = (j : Int) := by omega
    simp [this]
    omega
  · refine ⟨u, if r = b then a else r, by rw [List.getElem?_set_ne (fun e => hjb e.symm)]; exact hu, hq j r hr, hul, by split <;> assumption, ?_⟩
    rcases hc with ⟨rfl, rfl⟩ | ⟨h2, h3, h4⟩
    · exact .inl ⟨rfl, by rw [if_neg hjb]⟩
    · right
      refine ⟨?_, hq u r h3, ?_⟩
      · by_cases e : r = b
        · rw [if_pos e]
          intro e2
          subst e2
          rw [hra] at hr
          simp at hr
          omega
        · rw [if_neg e]; exact h2
      · rw [hr, h3]
        by_cases e : (r : Int) = (b : Int)
        · simp [e]; omega
        · simp [e]; exact h4
theorem Chains.push {up rt : List Int} (h : Chains up rt) : Chains (up ++ [(rt.length : Int)]) (rt ++ [(rt.length : Int)]) := by
  obtain ⟨h1, d, hd⟩ := h
  refine ⟨by simp [h1], d, fun j hj => ?_⟩
  simp only [List.length_append, List.length_singleton] at hj ⊢
  rcases Nat.lt_or_ge j rt.length with hlt | hge
  · obtain ⟨u, r, hu, hr, hul, hrl, hc⟩ := hd j hlt
    refine ⟨u, r, by rw [List.getElem?_append_left (by omega)]; exact hu, by rw [List.getElem?_append_left hlt]; exact hr, by omega, by omega, ?_⟩
    rcases hc with hc | ⟨h2, h3, h4⟩
    · exact .inl hc
    · exact .inr ⟨h2, by rw [List.getElem?_append_left hul]; exact h3, h4⟩
  · obtain rfl : j = rt.length := by omega
    exact ⟨rt.length, rt.length, by rw [List.getElem?_append_right (by omega)]; simp [h1], by simp, by omega, by omega, .inl ⟨rfl, rfl⟩⟩
end Go.Proofs.YtkfdhmeipnfhpaaGreatDoor
