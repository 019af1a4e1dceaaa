/- The memory words of these proofs: what cells read as. -/
import Derived.Test.YtkfdhmeipnfhpaaGreatDoorProg
import Derived.Below
import Derived.Deep.Draws
import Derived.Deep.AppendLies
import Derived.Maps.AppendAt
import Derived.OwnWalk
import Derived.Laws.BytesArg
import Derived.Laws.MakeOwn
import Derived.Laws.OwnMore
import Derived.Deep.OwnRows
import Derived.Tactics
import Derived.Lib.ConvBytes
import Derived.Laws.Slices
import Derived.WalkKit
import Derived.KernelRfl
import Derived.RowKit3
import Derived.Deep.LoopGhost
import Derived.Deep.QuietTactic
import Derived.BigQuiet
import Derived.WideLaws
import Derived.Deep.DeepCutAuto
import Derived.Deep.CutBlock
import Derived.Deep.RegionHeld3
import Derived.Laws.Rows
import Derived.Lib.AppendStr
import Derived.ArgAppend
import Derived.Laws.IdiomCopy
import Derived.OrdersHeld
import Derived.RowKit
import Derived.Outline
set_option linter.unusedVariables false
set_option linter.unusedSimpArgs false
namespace Go.Proofs.YtkfdhmeipnfhpaaGreatDoor
open Go.RowKit

/-- A fact that the walk does not look into. -/
structure Sh (p : Prop) : Prop where mk :: (out : p)

/-! ### 1. What cells read as -/
inductive Dat where
  | raw (v : Value)
  | row (sz : Nat) (es : List (List Dat))

mutual
def Dat.at (w : World) (S : Nat → Prop) : Dat → Value → Prop
  | .raw u, v => v = u
  | .row sz es, v => ∃ A c, v = .slice A es.length c ∧ es.length ≤ c ∧ c ≤ maxLen ∧ RowAt w S sz A 0 es
def CellsAt (w : World) (S : Nat → Prop) : List Dat → List Value → Prop
  | [], vs => vs = []
  | d :: ds, vs => ∃ v r, vs = v :: r ∧ d.at w S v ∧ CellsAt w S ds r
def RowAt (w : World) (S : Nat → Prop) (sz : Nat) (A : Option Addr) (i : Nat) : List (List Dat) → Prop
  | [] => True
  | e :: es => (∃ ad us, A = some ad ∧ S ad.block ∧ ad.block < w.heap.size ∧ us.length = sz ∧ (∀ j u, us[j]? = some u → w.cell? (ad.add (i * sz + j)) = some u) ∧ CellsAt w S e us) ∧ RowAt w S sz A (i + 1) es
end

theorem add_block (a : Addr) (n : Nat) : (a.add n).block = a.block := by unfold Addr.add; split <;> rfl
theorem add_add (a : Addr) (i j : Nat) : (a.add i).add j = a.add (i + j) := by
  unfold Addr.add
  by_cases hi : i = 0 <;> by_cases hj : j = 0 <;> simp [hi, hj, Nat.add_assoc]
theorem heap_lt {w : World} {k : Nat} {o : Obj} (h : w.heap[k]? = some o) : k < w.heap.size := (Array.getElem?_eq_some_iff.1 h).1
theorem lt_of_same {w w' : World} {k : Nat} (h : k < w.heap.size) (e : w'.heap[k]? = w.heap[k]?) : k < w'.heap.size := by
  rw [Array.getElem?_eq_getElem h] at e
  exact heap_lt e

/-- The blocks of S stay as they are (and are in S'). -/
def Stays (S S' : Nat → Prop) (w w' : World) : Prop := ∀ k, S k → k < w.heap.size → S' k ∧ w'.heap[k]? = w.heap[k]?

section
variable {w w' : World} {S S' : Nat → Prop}
mutual
theorem Dat.at_step (hs : Stays S S' w w') : ∀ (d : Dat) (v : Value), d.at w S v → d.at w' S' v
  | .raw u, v, h => by
    unfold Dat.at at h ⊢
    exact h
  | .row sz es, v, h => by
    unfold Dat.at at h ⊢
    obtain ⟨A, c, h1, h2, h3, h4⟩ := h
    exact ⟨A, c, h1, h2, h3, RowAt_step hs sz A 0 es h4⟩
theorem CellsAt_step (hs : Stays S S' w w') : ∀ (ds : List Dat) (vs : List Value), CellsAt w S ds vs → CellsAt w' S' ds vs
  | [], vs, h => by
    unfold CellsAt at h ⊢
    exact h
  | d :: ds, vs, h => by
    unfold CellsAt at h ⊢
    obtain ⟨v, r, h1, h2, h3⟩ := h
    exact ⟨v, r, h1, Dat.at_step hs d v h2, CellsAt_step hs ds r h3⟩
theorem RowAt_step (hs : Stays S S' w w') (sz : Nat) (A : Option Addr) : ∀ (i : Nat) (es : List (List Dat)), RowAt w S sz A i es → RowAt w' S' sz A i es
  | i, [], h => by
    unfold RowAt
    trivial
  | i, e :: es, h => by
    unfold RowAt at h ⊢
    obtain ⟨⟨ad, us, h1, h2, h2', h3, h4, h5⟩, h6⟩ := h
    refine ⟨⟨ad, us, h1, (hs _ h2 h2').1, lt_of_same h2' (hs _ h2 h2').2, h3, fun j u hu => ?_, CellsAt_step hs e us h5⟩, RowAt_step hs sz A (i + 1) es h6⟩
    have hc := h4 j u hu
    rw [World.cell?_of_block (w := w) (by rw [add_block]; exact (hs _ h2 h2').2)]
    exact hc
end
end

theorem Stays.below {S : Nat → Prop} {w w' : World} (h : Below w.heap.size w w') : Stays S S w w' := fun k hk hl => ⟨hk, h.block k hl⟩
theorem Stays.mono {S S' : Nat → Prop} {w : World} (h : ∀ k, S k → k < w.heap.size → S' k) : Stays S S' w w := fun k hk hl => ⟨h k hk hl, rfl⟩
theorem Dat.at_below {S : Nat → Prop} {w w' : World} {d : Dat} {v : Value} (h : d.at w S v) (hb : Below w.heap.size w w') : d.at w' S v := Dat.at_step (Stays.below hb) d v h
theorem Dat.at_mono {S S' : Nat → Prop} {w : World} {d : Dat} {v : Value} (h : d.at w S v) (hs : ∀ k, S k → k < w.heap.size → S' k) : d.at w S' v := Dat.at_step (Stays.mono hs) d v h
theorem CellsAt_below {S : Nat → Prop} {w w' : World} {d : List Dat} {v : List Value} (h : CellsAt w S d v) (hb : Below w.heap.size w w') : CellsAt w' S d v := CellsAt_step (Stays.below hb) d v h
theorem CellsAt_mono {S S' : Nat → Prop} {w : World} {d : List Dat} {v : List Value} (h : CellsAt w S d v) (hs : ∀ k, S k → k < w.heap.size → S' k) : CellsAt w S' d v := CellsAt_step (Stays.mono hs) d v h

/-- An element's cells: where they stand, what they are. -/
def ElemAt (w : World) (S : Nat → Prop) (sz : Nat) (A : Option Addr) (i : Nat) (e : List Dat) : Prop :=
  ∃ ad us, A = some ad ∧ S ad.block ∧ ad.block < w.heap.size ∧ us.length = sz ∧ (∀ j u, us[j]? = some u → w.cell? (ad.add (i * sz + j)) = some u) ∧ CellsAt w S e us
theorem RowAt_iff {w : World} {S : Nat → Prop} {sz : Nat} {A : Option Addr} : ∀ {i : Nat} {es : List (List Dat)}, RowAt w S sz A i es ↔ ∀ j e, es[j]? = some e → ElemAt w S sz A (i + j) e
  | i, [] => by
    unfold RowAt
    simp
  | i, e :: es => by
    unfold RowAt
    rw [RowAt_iff]
    constructor
    · rintro ⟨h1, h2⟩ j e' hj
      cases j with
      | zero =>
        simp at hj
        subst hj
        exact h1
      | succ j =>
        have := h2 j e' (by simpa using hj)
        rwa [Nat.add_assoc, Nat.add_comm 1] at this
    · intro h
      refine ⟨h 0 e rfl, fun j e' hj => ?_⟩
      have := h (j + 1) e' (by simpa using hj)
      rwa [Nat.add_assoc, Nat.add_comm 1]

theorem Dat.nil_at (w : World) (S : Nat → Prop) (sz : Nat) : (Dat.row sz []).at w S (.slice none 0 0) := by
  unfold Dat.at RowAt
  exact ⟨none, 0, rfl, by simp, by simp, trivial⟩
theorem Dat.row_at {w : World} {S : Nat → Prop} {sz : Nat} {es : List (List Dat)} {v : Value} : (Dat.row sz es).at w S v ↔ ∃ A c, v = .slice A es.length c ∧ es.length ≤ c ∧ c ≤ maxLen ∧ ∀ j e, es[j]? = some e → ElemAt w S sz A j e := by
  unfold Dat.at
  simp only [RowAt_iff, Nat.zero_add]
theorem Dat.raw_at {w : World} {S : Nat → Prop} {u v : Value} : (Dat.raw u).at w S v ↔ v = u := by
  unfold Dat.at
  rfl
theorem CellsAt_nil {w : World} {S : Nat → Prop} {vs : List Value} : CellsAt w S [] vs ↔ vs = [] := by
  unfold CellsAt
  rfl
theorem CellsAt_cons {w : World} {S : Nat → Prop} {d : Dat} {ds : List Dat} {vs : List Value} : CellsAt w S (d :: ds) vs ↔ ∃ v r, vs = v :: r ∧ d.at w S v ∧ CellsAt w S ds r := by
  rw [CellsAt]
theorem CellsAt_len {w : World} {S : Nat → Prop} : ∀ {ds : List Dat} {vs : List Value}, CellsAt w S ds vs → vs.length = ds.length
  | [], vs, h => by
    rw [CellsAt_nil] at h
    rw [h]
    rfl
  | d :: ds, vs, h => by
    rw [CellsAt_cons] at h
    obtain ⟨v, r, rfl, _, h⟩ := h
    simp [CellsAt_len h]
theorem Dat.at_one {w : World} {S : Nat → Prop} {d : Dat} {v : Value} (hd : ∀ u, d = .raw u → u.oneCell' = true) (h : d.at w S v) : v.oneCell' = true := by
  cases d with
  | raw u =>
    rw [Dat.raw_at] at h
    rw [h]
    exact hd u rfl
  | row sz es =>
    rw [Dat.row_at] at h
    obtain ⟨A, c, rfl, _⟩ := h
    rfl

/-! ### 2. A row of the call's own, elements that lead to rows -/
/-- v is a row of the call's own, from block 'base' on, its elements' rows are in S and not this one. -/
def Owns (w : World) (S : Nat → Prop) (base e sz : Nat) (v : Value) (es : List (List Dat)) : Prop :=
  ∃ xs, w.ownsRow base e sz v es.length xs ∧ ∀ j ds, es[j]? = some ds → ∃ us, us.length = sz ∧ (∀ i u, us[i]? = some u → xs[j * sz + i]? = some u) ∧ CellsAt w (fun k => S k ∧ v.ownBlock ≠ some k) ds us
theorem Owns.nil (w : World) (S : Nat → Prop) (base e sz : Nat) : Owns w S base e sz (.slice none 0 0) [] := ⟨[], ⟨by simp, .inl ⟨rfl, rfl⟩⟩, fun j ds h => by simp at h⟩
theorem ownsRow_step {w w' : World} {base e size n : Nat} {v : Value} {xs : List Value} (h : w.ownsRow base e size v n xs) (hs : ∀ k, v.ownBlock = some k → w'.heap[k]? = w.heap[k]?) : w'.ownsRow base e size v n xs := by
  obtain ⟨h1, h2⟩ := h
  refine ⟨h1, ?_⟩
  rcases h2 with h2 | ⟨g, cap, cur, rfl, hg, hh, r⟩
  · exact .inl h2
  · exact .inr ⟨g, cap, cur, rfl, hg, (hs g rfl).trans hh, r⟩
theorem ownsRow_lt {w : World} {base e size n : Nat} {v : Value} {xs : List Value} (h : w.ownsRow base e size v n xs) (k : Nat) (hk : v.ownBlock = some k) : k < w.heap.size ∧ base ≤ k := by
  rcases h.2 with ⟨rfl, _⟩ | ⟨g, cap, cur, rfl, hb, hh, _⟩
  · simp [Value.ownBlock] at hk
  · have : g = k := by simpa [Value.ownBlock] using hk
    subst this
    exact ⟨heap_lt hh, hb⟩
theorem Owns.step {w w' : World} {S S' : Nat → Prop} {base e sz : Nat} {v : Value} {es : List (List Dat)} (h : Owns w S base e sz v es) (hs : Stays S S' w w') (hv : ∀ k, v.ownBlock = some k → w'.heap[k]? = w.heap[k]?) : Owns w' S' base e sz v es := by
  obtain ⟨xs, h1, h2⟩ := h
  refine ⟨xs, ownsRow_step h1 hv, fun j ds hj => ?_⟩
  obtain ⟨us, h3, h4, h5⟩ := h2 j ds hj
  exact ⟨us, h3, h4, CellsAt_step (fun k hk hl => ⟨⟨(hs k hk.1 hl).1, hk.2⟩, (hs k hk.1 hl).2⟩) _ _ h5⟩
theorem Owns.below {w w' : World} {S : Nat → Prop} {base e sz : Nat} {v : Value} {es : List (List Dat)} (h : Owns w S base e sz v es) (hb : Below w.heap.size w w') : Owns w' S base e sz v es := by
  obtain ⟨xs, h1, h2⟩ := h
  exact Owns.step ⟨xs, h1, h2⟩ (Stays.below hb) (fun k hk => hb.block k (ownsRow_lt h1 k hk).1)
theorem Owns.mono {w : World} {S S' : Nat → Prop} {base e sz : Nat} {v : Value} {es : List (List Dat)} (h : Owns w S base e sz v es) (hs : ∀ k, S k → k < w.heap.size → S' k) : Owns w S' base e sz v es := Owns.step h (Stays.mono hs) (fun _ _ => rfl)
theorem Owns.far {w : World} {S : Nat → Prop} {base e sz : Nat} {v : Value} {es : List (List Dat)} (h : Owns w S base e sz v es) {p : Addr} (u : Value) (hS : ∀ k, S k → k ≠ p.block) (hv : p.block < base) : Owns (w.setCell p u) S base e sz v es := by
  obtain ⟨xs, h1, h2⟩ := h
  exact Owns.step ⟨xs, h1, h2⟩ (fun k hk hl => ⟨hk, Below.heap_setCell _ _ _ _ (hS k hk)⟩) (fun k hk => Below.heap_setCell _ _ _ _ (by have := (ownsRow_lt h1 k hk).2; omega))
theorem Owns.away {w : World} {S : Nat → Prop} {base e sz : Nat} {v : Value} {es : List (List Dat)} (h : Owns w S base e sz v es) {p : Addr} (u : Value) (hS : ∀ k, S k → k ≠ p.block) (hv : v.ownBlock ≠ some p.block) : Owns (w.setCell p u) S base e sz v es := by
  obtain ⟨xs, h1, h2⟩ := h
  exact Owns.step ⟨xs, h1, h2⟩ (fun k hk hl => ⟨hk, Below.heap_setCell _ _ _ _ (hS k hk)⟩) (fun k hk => Below.heap_setCell _ _ _ _ (fun e => hv (by rw [← e]; exact hk)))
theorem Owns.base_le {w : World} {S : Nat → Prop} {base e sz : Nat} {v : Value} {es : List (List Dat)} (h : Owns w S base e sz v es) (k : Nat) (hk : v.ownBlock = some k) : base ≤ k ∧ k < w.heap.size := by
  obtain ⟨xs, h1, _⟩ := h
  exact ⟨(ownsRow_lt h1 k hk).2, (ownsRow_lt h1 k hk).1⟩
theorem Owns.shape {w : World} {S : Nat → Prop} {base e sz : Nat} {v : Value} {es : List (List Dat)} (h : Owns w S base e sz v es) : ∃ A c, v = .slice A es.length c := by
  obtain ⟨xs, h1, _⟩ := h
  rcases h1.2 with ⟨rfl, h⟩ | ⟨g, cap, cur, rfl, _⟩
  · rw [h]
    exact ⟨_, _, rfl⟩
  · exact ⟨_, _, rfl⟩
/-- What is owned reads as what it is. -/
theorem Owns.at {w : World} {S : Nat → Prop} {base e sz : Nat} {v : Value} {es : List (List Dat)} (h : Owns w S base e sz v es) (hS : ∀ k, v.ownBlock = some k → S k) : (Dat.row sz es).at w S v := by
  rw [Dat.row_at]
  obtain ⟨xs, h1, h2⟩ := h
  rcases h1.2 with ⟨rfl, h⟩ | ⟨g, cap, cur, rfl, hb, hh, hc, hc2, hsz, hx⟩
  · refine ⟨none, 0, by rw [h], by omega, by simp, fun j e' hj => ?_⟩
    rw [List.length_eq_zero_iff.1 h] at hj
    simp at hj
  · refine ⟨_, cap, rfl, hc, hc2, fun j e' hj => ?_⟩
    obtain ⟨us, h3, h4, h5⟩ := h2 j e' hj
    refine ⟨⟨g, 0, none⟩, us, rfl, hS g rfl, heap_lt hh, h3, fun i u hu => ?_, CellsAt_mono h5 (fun k hk _ => hk.1)⟩
    exact h1.cells (g := g) rfl _ _ (h4 i u hu)
/-- One more. -/
theorem Owns.push {w w' : World} {S : Nat → Prop} {base e sz : Nat} {v v' : Value} {es : List (List Dat)} {us xs' : List Value} {d : List Dat} {xs : List Value}
    (h1 : w.ownsRow base e sz v es.length xs) (h2 : ∀ j ds, es[j]? = some ds → ∃ us, us.length = sz ∧ (∀ i u, us[i]? = some u → xs[j * sz + i]? = some u) ∧ CellsAt w (fun k => S k ∧ v.ownBlock ≠ some k) ds us)
    (hx : CellsAt w (fun k => S k ∧ v.ownBlock ≠ some k) d us) (hl : us.length = sz)
    (hown : w'.ownsRow base e sz v' (es.length + 1) (xs ++ us)) (hg : w.grownBy w' v.ownBlock) (hv : v'.ownBlock = v.ownBlock ∨ v'.ownBlock = some w.heap.size) :
    Owns w' S base e sz v' (es ++ [d]) := by
  have hst : Stays (fun k => S k ∧ v.ownBlock ≠ some k) (fun k => S k ∧ v'.ownBlock ≠ some k) w w' := by
    intro k hk hl
    refine ⟨⟨hk.1, ?_⟩, hg.block k hl (fun e => hk.2 e.symm)⟩
    rcases hv with hv | hv
    · rw [hv]
      exact hk.2
    · rw [hv]
      intro e
      injection e with e
      omega
  refine ⟨xs ++ us, by simpa using hown, fun j ds hj => ?_⟩
  rcases Nat.lt_or_ge j es.length with hlt | hge
  · rw [List.getElem?_append_left hlt] at hj
    obtain ⟨us', h3, h4, h5⟩ := h2 j ds hj
    refine ⟨us', h3, fun i u hu => ?_, CellsAt_step hst _ _ h5⟩
    have := h4 i u hu
    rw [List.getElem?_append_left (List.getElem?_eq_some_iff.1 this).1]
    exact this
  · have hj' : j = es.length := by
      have := (List.getElem?_eq_some_iff.1 hj).1
      simp at this
      omega
    subst hj'
    simp at hj
    subst hj
    refine ⟨us, hl, fun i u hu => ?_, CellsAt_step hst _ _ hx⟩
    rw [List.getElem?_append_right (by rw [h1.1]; omega), h1.1]
    simpa using hu

section
variable {P : Program} {ops : Array Oper} {rest : List Oper} {o : Oper} {a : Act} {Q : Exit → Act → World → Prop}
/-- append(v, x): behind 'at_builtin': the goal's world is the one with the new element's box. -/
theorem append_one {w0 W : World} {b : Nat} (hb : W.heap.size = b) {S : Nat → Prop} (base : Nat) (hgd : o.guard = none) (s x : Operand) (t e : TypeId) (z : Value) (sz bytes : Nat)
    (ho : o.op = .call { callee := .builtin .append, args := #[s, x], argTypes := #[t, t] })
    (ht : P.underlying t = some (.slice e)) (hinfo : (P.info? e).map (fun i => (i.zero, i.size, i.bytes)) = some (some z, sz, bytes)) (hz : z.cells.size = sz) (hsz : 0 < sz) (hb0 : 0 < bytes)
    (v : Value) (es : List (List Dat)) (d : List Dat) (us : List Value) (hs : a.eval s = v) (hx : a.eval x = .slice (some ⟨b, 0, none⟩) 1 1) (h1 : ∀ u ∈ us, u.oneCell' = true)
    (HO : Owns W S base e sz v es) (HD : CellsAt W (fun k => S k ∧ v.ownBlock ≠ some k) d us) (hlen : us.length = sz) (HB : Below base w0 W) (hbase : base ≤ W.heap.size) (hl : (es.length + 1) * bytes ≤ 140737488355328)
    (h : ∀ v1 w1, Owns w1 S base e sz v1 (es ++ [d]) → Below base w0 w1 → W.grownBy w1 v.ownBlock → (v1.ownBlock = v.ownBlock ∨ ∃ b, v1.ownBlock = some b ∧ W.heap.size ≤ b) → wpList P ops Q rest (a.put o.dst v1) w1) :
    wpList P ops Q (o :: rest) a (W.alloc (.cells us.toArray e)) := by
  subst hb
  obtain ⟨i0, hi, hzz⟩ := Option.map_eq_some_iff.1 hinfo
  simp only [Prod.mk.injEq] at hzz
  obtain ⟨hz0, hz1, hz2⟩ := hzz
  obtain ⟨xs, ho1, ho2⟩ := HO
  have hlen' : es.length + 1 ≤ 140737488355328 := Nat.le_trans (Nat.le_mul_of_pos_right _ hb0) hl
  have hal : Below W.heap.size W (W.alloc (.cells us.toArray e)) := (Below.refl _ _).alloc (Nat.le_refl _) _
  have hHO : Owns (W.alloc (.cells us.toArray e)) S base e sz v es := Owns.below ⟨xs, ho1, ho2⟩ hal
  refine wpList_append_own_at (W.alloc (.cells us.toArray e)) hgd s x t ho base e i0 z sz bytes ht hi hz0 hz1 hz2 hz hsz v es.length xs hs (ho1.alloc _) ⟨W.heap.size, 0, none⟩ 1 1 us hx (by rw [hlen]; omega)
    (World.news_of_block (cs := us.toArray) (t := e) (fr := (0, 0)) (heap_alloc_new W _)) h1 (by simp only [maxLen]; omega) hl (by simp; omega) ?_
  intro v1 w1 hown hg _ hat
  refine h v1 w1 ?_ ((HB.alloc hbase _).grown hg (by simp; omega) (fun k hk => (ownsRow_lt ho1 k hk).2)) (World.grownBy.trans (World.grownBy_alloc W _ _) hg) ?_
  · refine Owns.push (w := W.alloc (.cells us.toArray e)) (xs := xs) (us := us) (xs' := []) (ho1.alloc _) (fun j ds hj => ?_) (CellsAt_below HD hal) hlen hown hg hat
    obtain ⟨us', h3, h4, h5⟩ := ho2 j ds hj
    exact ⟨us', h3, h4, CellsAt_below h5 hal⟩
  · rcases hat with hat | hat
    · exact .inl hat
    · exact .inr ⟨_, hat, by simp⟩
end

theorem add_field (a : Addr) (m j : Nat) (hj : 0 < j) : a.add (m + j) = ⟨(a.add m).block, (a.add m).off + j, none⟩ := by
  unfold Addr.add
  by_cases hm : m = 0
  · subst hm
    rw [if_neg (by omega), if_pos rfl]
    simp
  · rw [if_neg (by omega), if_neg hm]
    simp [Nat.add_assoc]
theorem len1 {us : List Value} (h : us.length = 1) : ∃ a, us = [a] := by
  match us, h with
  | [a], _ => exact ⟨a, rfl⟩
theorem len2 {us : List Value} (h : us.length = 2) : ∃ a b, us = [a, b] := by
  match us, h with
  | [a, b], _ => exact ⟨a, b, rfl⟩
theorem len3 {us : List Value} (h : us.length = 3) : ∃ a b c, us = [a, b, c] := by
  match us, h with
  | [a, b, c], _ => exact ⟨a, b, c, rfl⟩
theorem len8 {us : List Value} (h : us.length = 8) : ∃ a b c d e f g i, us = [a, b, c, d, e, f, g, i] := by
  match us, h with
  | [a, b, c, d, e, f, g, i], _ => exact ⟨a, b, c, d, e, f, g, i, rfl⟩
theorem ElemAt.below {w w' : World} {S : Nat → Prop} {sz : Nat} {A : Option Addr} {i : Nat} {e : List Dat} (h : ElemAt w S sz A i e) (hb : Below w.heap.size w w') : ElemAt w' S sz A i e := by
  obtain ⟨ad, us, h1, h2, h2', h3, h4, h5⟩ := h
  exact ⟨ad, us, h1, h2, Nat.lt_of_lt_of_le h2' hb.size, h3, fun j u hu => (World.cell?_of_block (w := w) (by rw [add_block]; exact hb.block _ h2')).trans (h4 j u hu), CellsAt_below h5 hb⟩
theorem below_step {w0 w w' : World} {B : Nat} (h : Below B w0 w) (h' : Below w.heap.size w w') (hB : B ≤ w.heap.size) : Below B w0 w' := h.trans (h'.mono hB)
theorem below_then {w0 w w' : World} (h : Below w0.heap.size w0 w) (h' : Below w.heap.size w w') : Below w0.heap.size w0 w' := h.trans (h'.mono h.size)
theorem any_take_succ {α : Type} {l : List α} (p : α → Bool) {k : Nat} {x : α} (h : l[k]? = some x) : (l.take (k + 1)).any p = ((l.take k).any p || p x) := by
  rw [List.take_add_one, h, List.any_append]
  simp

/-! ### a block that is known whole -/
/-- Block g is just these cells, of element type t. -/
def Blk (w : World) (g : Nat) (t : TypeId) (cs : List Value) : Prop := w.heap[g]? = some (.cells cs.toArray t (0, 0))
section
variable {w w' : World} {g : Nat} {t : TypeId} {cs : List Value}
theorem Blk.lt (h : Blk w g t cs) : g < w.heap.size := heap_lt h
theorem Blk.cell (h : Blk w g t cs) (i : Nat) : w.cell? ⟨g, i, none⟩ = cs[i]? := by
  unfold Blk at h
  simp [World.cell?, h]
theorem Blk.frozen (h : Blk w g t cs) (i : Nat) : w.frozen? ⟨g, i, none⟩ = false := by
  unfold Blk at h
  simp [World.frozen?, h]
theorem Blk.new (w : World) (t : TypeId) (cs : List Value) : Blk (w.alloc (.cells cs.toArray t)) w.heap.size t cs := heap_alloc_new w _
theorem Blk.new' (w : World) {B : Nat} (t : TypeId) (cs : List Value) (h : w.heap.size = B) : Blk (w.alloc (.cells cs.toArray t)) B t cs := by
  subst h
  exact Blk.new w t cs
theorem Blk.below {B : Nat} (h : Blk w g t cs) (hb : Below B w w') (hg : g < B) : Blk w' g t cs := (hb.block g hg).trans h
theorem Blk.keep (h : Blk w g t cs) (hb : Below w.heap.size w w') : Blk w' g t cs := h.below hb h.lt
theorem Blk.alloc (h : Blk w g t cs) (o : Obj) : Blk (w.alloc o) g t cs := (Below.heap_alloc w o g h.lt).trans h
theorem Blk.drewN (h : Blk w g t cs) (n : Nat) : Blk (w.drewN n) g t cs := h
theorem Blk.drew (h : Blk w g t cs) : Blk w.drew g t cs := h
theorem Blk.set_ (h : Blk w g t cs) (i : Nat) (u : Value) : Blk (w.setCell ⟨g, i, none⟩ u) g t (cs.set i u) := by
  unfold Blk at h ⊢
  simp [World.setCell, Array.getElem?_modify, h]
theorem Blk.far (h : Blk w g t cs) {p : Addr} (hp : g ≠ p.block) (u : Value) : Blk (w.setCell p u) g t cs := (Below.heap_setCell w p u g hp).trans h
theorem Blk.grown {row : Option Nat} (h : Blk w g t cs) (hb : w.grownBy w' row) (hg : some g ≠ row) : Blk w' g t cs := (hb.block g h.lt hg).trans h
end

/-! ### 3. Calls -/
theorem enters {P : Program} {f : FuncId} {fn : Func} (hf : P.funcs[f]? = some fn) (hname : (fn.name == "runtime.NumGoroutine") = false) (hb : fn.body.isSome = true) (args : Array Value) (w : World) : (callFunc f args).run P w = .ok (.enter f args) w := by
  have h1 : fn.name ≠ "runtime.NumGoroutine" := by simpa using hname
  obtain ⟨c, hc⟩ := Option.isSome_iff_exists.1 hb
  simp [callFunc, hf, h1, hc]
/-- A function of the program that may be called. -/
def There (P : Program) (g : Nat) : Prop := ∃ fn, P.funcs[g]? = some fn ∧ (fn.name == "runtime.NumGoroutine") = false ∧ fn.body.isSome = true
/-- A function value that may be called: its number, what comes behind of the arguments. -/
structure Fnv (P : Program) (v : Value) (g : Nat) (cap : Array Value) : Prop where
  eq : v = .func (.func g) #[] cap
  there : There P g
section
variable {P : Program} {ops : Array Oper} {rest : List Oper} {oi : Oper} {a : Act} {Q : Exit → Act → World → Prop} {w : World}
theorem callV (N : Option Tmp) (hd : oi.dst = N) (hg : oi.guard = none) {x : Operand} {ars : Array Operand} {ts : Array TypeId}
    (hop : oi.op = .call { callee := .value x, args := ars, argTypes := ts }) {v : Value} {g : Nat} {cap : Array Value} (hx : a.eval x = v) (hv : Fnv P v g cap) (args : List Value) (hargs : ars.toList.map a.eval = args)
    (h : Calls P g (args.toArray ++ cap) w fun e w' => ∃ v, e = .returned v ∧ wpList P ops Q rest (a.put N v) w') : wpList P ops Q (oi :: rest) a w := by
  refine wpList_plain hg fun K hK => ?_
  obtain ⟨rfl, fn, hf, hn, hb⟩ := hv
  have he := enters hf hn hb (args.toArray ++ cap) w
  have hargs' : ars.map a.eval = args.toArray := by rw [← hargs, ← Array.toList_map, Array.toArray_toList]
  have hrun : (execOp a.eval oi).run P w = .ok (.enter g (args.toArray ++ cap)) w := by
    unfold execOp
    simp [hop, resolve, Deferred.ofValue, invoke, hx, hargs', he]
  unfold Oper.wp
  rw [hrun, Oper.upon_enter]
  refine h.mono fun e w'' hh => ?_
  obtain ⟨v, rfl, hk⟩ := hh
  subst hd
  exact hK _ _ hk
end
end Go.Proofs.YtkfdhmeipnfhpaaGreatDoor
