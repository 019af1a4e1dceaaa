/- Package mus: a search for cores, in memory. -/
import Derived.Test.YtdppkdjgadiinaaGreatSlrow
set_option linter.unusedVariables false
set_option linter.unusedSimpArgs false
namespace Go.Proofs.YtdppkdjgadiinaaGreat
open Go.RowKit

/-- The cores that were found, and among which each was. -/
structure Sea where
  cores : List (List Int)
  among : List (List Int)
def findP (sb : List Int → Bool) (most : Int) (s : Sea) (x : List Int) : Sea :=
  if most ≤ s.cores.length then s else if sb x then s else if s.cores.any (fun y => decide (y = reduceP sb x x)) then s else ⟨s.cores ++ [reduceP sb x x], s.among ++ [x]⟩
/-- The blocks that a search writes into. -/
def seaD (sk fb : Nat) (vc va : Value) (k : Nat) : Prop := k = sk ∨ k = fb ∨ vc.ownBlock = some k ∨ va.ownBlock = some k
/-- Rows that read as lists of numbers, apart from some blocks. -/
def RowsOk (w : World) (D : Nat → Prop) (rs : List Sl) (xss : List (List Int)) : Prop :=
  rs.length = xss.length ∧ ∀ (i : Nat) (x : Sl) (xs : List Int), rs[i]? = some x → xss[i]? = some xs → IRow w (.slice x.A x.n x.c) xs ∧ ∀ k, (Value.slice x.A x.n x.c).ownBlock = some k → ¬ D k
theorem RowsOk.step {w w' : World} {D D' : Nat → Prop} {rs : List Sl} {xss : List (List Int)} (h : RowsOk w D rs xss) (hs : ∀ k, k < w.heap.size → ¬ D k → w'.heap[k]? = w.heap[k]? ∧ ¬ D' k) : RowsOk w' D' rs xss :=
  ⟨h.1, fun i x xs h1 h2 => by
    obtain ⟨h3, h4⟩ := h.2 i x xs h1 h2
    exact ⟨h3.step (fun k hk => (hs k (h3.lt k hk) (h4 k hk)).1), fun k hk => (hs k (h3.lt k hk) (h4 k hk)).2⟩⟩
theorem RowsOk.push {w : World} {D : Nat → Prop} {rs : List Sl} {xss : List (List Int)} {x : Sl} {xs : List Int} (h : RowsOk w D rs xss) (hx : IRow w (.slice x.A x.n x.c) xs) (hd : ∀ k, (Value.slice x.A x.n x.c).ownBlock = some k → ¬ D k) : RowsOk w D (rs ++ [x]) (xss ++ [xs]) := by
  refine ⟨by simp [h.1], fun i y ys h1 h2 => ?_⟩
  rcases Nat.lt_or_ge i rs.length with hl | hl
  · rw [List.getElem?_append_left hl] at h1
    rw [List.getElem?_append_left (by rw [← h.1]; exact hl)] at h2
    exact h.2 i y ys h1 h2
  · rw [List.getElem?_append_right hl] at h1
    rw [List.getElem?_append_right (by rw [← h.1]; exact hl), ← h.1] at h2
    obtain ⟨e, he⟩ : ∃ e, e = i - rs.length := ⟨_, rfl⟩
    rw [← he] at h1 h2
    cases e with
    | zero =>
      simp only [List.getElem?_cons_zero, Option.some.injEq] at h1 h2
      subst h1 h2
      exact ⟨hx, hd⟩
    | succ e => simp at h1
structure SeaP (w : World) (S : Nat → Prop) (sk fb : Nat) (es : List Eqn) (v : Value) (most : Int) (vc va : Value) (rc ra : List Sl) (st : Sea) : Prop where
  blk : Blk w sk 53 [.pointer (some ⟨fb, 0, none⟩), .int .i64 most, vc, va]
  fil : ∃ n, FilAt w S fb es v n
  rowc : GRow RowsK w vc rc
  rowa : GRow RowsK w va ra
  okc : RowsOk w (seaD sk fb vc va) rc st.cores
  oka : RowsOk w (seaD sk fb vc va) ra st.among
  n1 : sk ≠ fb
  n2 : vc.ownBlock ≠ some sk ∧ vc.ownBlock ≠ some fb
  n3 : va.ownBlock ≠ some sk ∧ va.ownBlock ≠ some fb
  n4 : ∀ k, vc.ownBlock = some k → va.ownBlock ≠ some k
  sd : ∀ k, S k → ¬ seaD sk fb vc va k
  len : st.among.length = st.cores.length
section
variable {w w' : World} {S : Nat → Prop} {sk fb : Nat} {es : List Eqn} {v vc va : Value} {most : Int} {rc ra : List Sl} {st : Sea}
theorem SeaP.lt (h : SeaP w S sk fb es v most vc va rc ra st) (k : Nat) (hk : seaD sk fb vc va k) : k < w.heap.size := by
  obtain ⟨n, hf⟩ := h.fil
  rcases hk with rfl | rfl | e | e
  · exact h.blk.lt
  · exact hf.blk.lt
  · exact h.rowc.lt k e
  · exact h.rowa.lt k e
theorem SeaP.keep (h : SeaP w S sk fb es v most vc va rc ra st) (hb : Below w.heap.size w w') : SeaP w' S sk fb es v most vc va rc ra st := by
  obtain ⟨n, hf⟩ := h.fil
  exact ⟨h.blk.keep hb, ⟨n, hf.keep hb⟩, h.rowc.keep hb, h.rowa.keep hb, h.okc.step (fun k hk hd => ⟨hb.block k hk, hd⟩), h.oka.step (fun k hk hd => ⟨hb.block k hk, hd⟩), h.n1, h.n2, h.n3, h.n4, h.sd, h.len⟩
/-- The filter has turned. -/
theorem SeaP.filt (h : SeaP w S sk fb es v most vc va rc ra st) (hc : Chg (fun k => k = fb) w w') (hf : ∃ n, FilAt w' S fb es v n) : SeaP w' S sk fb es v most vc va rc ra st :=
  ⟨(hc.block _ h.blk.lt h.n1).trans h.blk, hf, h.rowc.step (fun k hk => hc.block k (h.rowc.lt k hk) (fun e => h.n2.2 (e ▸ hk))), h.rowa.step (fun k hk => hc.block k (h.rowa.lt k hk) (fun e => h.n3.2 (e ▸ hk))),
   h.okc.step (fun k hk hd => ⟨hc.block k hk (fun e => hd (.inr (.inl e))), hd⟩), h.oka.step (fun k hk hd => ⟨hc.block k hk (fun e => hd (.inr (.inl e))), hd⟩), h.n1, h.n2, h.n3, h.n4, h.sd, h.len⟩
end
theorem IRow.unique {w : World} {v : Value} {xs ys : List Int} (h : IRow w v xs) (h2 : IRow w v ys) : xs = ys := by
  obtain ⟨A, c, e1⟩ := h.shape
  obtain ⟨A', c', e2⟩ := h2.shape
  rw [e1] at e2
  simp only [Value.slice.injEq] at e2
  have hl := e2.2.1
  apply List.ext_getElem?
  intro i
  rcases Nat.lt_or_ge i xs.length with hi | hi
  · obtain ⟨x, hx⟩ : ∃ x, xs[i]? = some x := ⟨_, List.getElem?_eq_getElem hi⟩
    obtain ⟨y, hy⟩ : ∃ y, ys[i]? = some y := ⟨_, List.getElem?_eq_getElem (by omega)⟩
    obtain ⟨g, k, e3, c3, _⟩ := h.at hx
    obtain ⟨g', k', e4, c4, _⟩ := h2.at hy
    rw [e3] at e4
    simp only [Value.slice.injEq, Option.some.injEq, Addr.mk.injEq, and_true] at e4
    rw [← e4.1, c3] at c4
    simp only [Option.some.injEq, Value.int.injEq, true_and] at c4
    rw [hx, hy, c4]
  · rw [List.getElem?_eq_none hi, List.getElem?_eq_none (by omega)]
open Classical in
noncomputable def isRow (rs : List Sl) (xss : List (List Int)) (c : List Int) (x : Sl) : Bool := decide (∃ i : Nat, rs[i]? = some x ∧ xss[i]? = some c)
open Classical in
theorem RowsOk.any {w : World} {D : Nat → Prop} {rs : List Sl} {xss : List (List Int)} (h : RowsOk w D rs xss) (c : List Int) : rs.any (isRow rs xss c) = xss.any fun y => decide (y = c) := by
  rw [Bool.eq_iff_iff, List.any_eq_true, List.any_eq_true]
  constructor
  · rintro ⟨x, hx, hp⟩
    unfold isRow at hp
    obtain ⟨i, h1, h2⟩ := of_decide_eq_true hp
    exact ⟨c, List.mem_of_getElem? h2, by simp⟩
  · rintro ⟨y, hy, hp⟩
    obtain rfl := of_decide_eq_true hp
    obtain ⟨i, hi⟩ := List.mem_iff_getElem?.1 hy
    have hl : i < rs.length := by rw [h.1]; exact (List.getElem?_eq_some_iff.1 hi).1
    exact ⟨rs[i], List.getElem_mem hl, by unfold isRow; exact decide_eq_true ⟨i, List.getElem?_eq_getElem hl, hi⟩⟩
theorem RowsOk.isRow {w : World} {D : Nat → Prop} {rs : List Sl} {xss : List (List Int)} (h : RowsOk w D rs xss) (c : List Int) {x : Sl} (hx : x ∈ rs) : ∃ xs, IRow w (.slice x.A x.n x.c) xs ∧ Go.Proofs.YtdppkdjgadiinaaGreat.isRow rs xss c x = decide (xs = c) := by
  obtain ⟨i, hi⟩ := List.mem_iff_getElem?.1 hx
  have hl : i < xss.length := by rw [← h.1]; exact (List.getElem?_eq_some_iff.1 hi).1
  obtain ⟨xs, hxs⟩ : ∃ xs, xss[i]? = some xs := ⟨_, List.getElem?_eq_getElem hl⟩
  obtain ⟨h1, _⟩ := h.2 i x xs hi hxs
  refine ⟨xs, h1, ?_⟩
  unfold Go.Proofs.YtdppkdjgadiinaaGreat.isRow
  rw [decide_eq_decide]
  constructor
  · rintro ⟨j, h2, h3⟩
    exact h1.unique (h.2 j x c h2 h3).1
  · rintro rfl
    exact ⟨i, hi, hxs⟩
def FindPost (w : World) (S : Nat → Prop) (sk fb : Nat) (es : List Eqn) (v : Value) (most : Int) (vc va : Value) (rc ra : List Sl) (st : Sea) (e : Ending) (w' : World) : Prop :=
  e = .returned (.tuple #[]) ∧ ∃ vc' va' rc' ra', SeaP w' S sk fb es v most vc' va' rc' ra' st ∧ Chg (seaD sk fb vc va) w w' ∧ (∀ k, seaD sk fb vc' va' k → seaD sk fb vc va k ∨ w.heap.size ≤ k) ∧ rc <+: rc' ∧ ra <+: ra'
theorem sea_app {w4 W w9 : World} {v v9 : Value} (hb : Below w4.heap.size w4 W) (hg : W.grownBy w9 v.ownBlock) (hV : v9.ownBlock = v.ownBlock ∨ v9.ownBlock = some W.heap.size) :
    Chg (fun k => v.ownBlock = some k) w4 w9 ∧ (v9.ownBlock = v.ownBlock ∨ ∃ b, v9.ownBlock = some b ∧ w4.heap.size ≤ b) ∧ W.heap.size ≤ w9.heap.size :=
  ⟨(Chg.of_below hb).grown hg (fun k hk => .inl hk), hV.imp id (fun e => ⟨_, e, hb.size⟩), hg.size⟩
/-- One core more, in memory. -/
theorem SeaP.grow {w4 w9 w10 : World} {S : Nat → Prop} {sk fb : Nat} {es : List Eqn} {v vc va v9 v10 : Value} {most : Int} {rc ra : List Sl} {st : Sea} {x1 x2 : Sl} {c xs : List Int} (h : SeaP w4 S sk fb es v most vc va rc ra st)
    (c9 : Chg (fun k => vc.ownBlock = some k) w4 w9) (r9 : GRow RowsK w9 v9 (rc ++ [x1])) (o9 : v9.ownBlock = vc.ownBlock ∨ ∃ b, v9.ownBlock = some b ∧ w4.heap.size ≤ b)
    (c10 : Chg (fun k => va.ownBlock = some k) w9 w10) (r10 : GRow RowsK w10 v10 (ra ++ [x2])) (o10 : v10.ownBlock = va.ownBlock ∨ ∃ b, v10.ownBlock = some b ∧ w9.heap.size ≤ b)
    (h1 : IRow w4 (.slice x1.A x1.n x1.c) c) (d1 : ∀ k, (Value.slice x1.A x1.n x1.c).ownBlock = some k → ¬ seaD sk fb vc va k) (h2 : IRow w4 (.slice x2.A x2.n x2.c) xs) (d2 : ∀ k, (Value.slice x2.A x2.n x2.c).ownBlock = some k → ¬ seaD sk fb vc va k) :
    SeaP ((w10.setCell ⟨sk, 2, none⟩ v9).setCell ⟨sk, 3, none⟩ v10) S sk fb es v most v9 v10 (rc ++ [x1]) (ra ++ [x2]) ⟨st.cores ++ [c], st.among ++ [xs]⟩ ∧ Chg (seaD sk fb vc va) w4 ((w10.setCell ⟨sk, 2, none⟩ v9).setCell ⟨sk, 3, none⟩ v10) ∧
      ∀ k, seaD sk fb v9 v10 k → seaD sk fb vc va k ∨ w4.heap.size ≤ k := by
  obtain ⟨w11, hw11⟩ : ∃ w11, w11 = (w10.setCell ⟨sk, 2, none⟩ v9).setCell ⟨sk, 3, none⟩ v10 := ⟨_, rfl⟩
  have far : ∀ k, k ≠ sk → w11.heap[k]? = w10.heap[k]? := fun k hk => by rw [hw11, Below.heap_setCell _ _ _ _ hk, Below.heap_setCell _ _ _ _ hk]
  have s9 := c9.size
  have s10 := c10.size
  have low : ∀ k, k < w4.heap.size → ¬ seaD sk fb vc va k → w11.heap[k]? = w4.heap[k]? := fun k hk hd => by
    rw [far k (fun e => hd (.inl e)), c10.block k (by omega) (fun e => hd (.inr (.inr (.inr e)))), c9.block k hk (fun e => hd (.inr (.inr (.inl e))))]
  have lowf : w11.heap[fb]? = w4.heap[fb]? := by
    obtain ⟨n, hf⟩ := h.fil
    rw [far fb (fun e => h.n1 e.symm), c10.block fb (by have := hf.blk.lt; omega) h.n3.2, c9.block fb hf.blk.lt h.n2.2]
  have lows : w10.heap[sk]? = w4.heap[sk]? := by rw [c10.block sk (by have := h.blk.lt; omega) h.n3.1, c9.block sk h.blk.lt h.n2.1]
  have e9 : ∀ k, v9.ownBlock = some k → vc.ownBlock = some k ∨ w4.heap.size ≤ k := fun k hk => by
    rcases o9 with e | ⟨b, e, hb⟩
    · exact .inl (e ▸ hk)
    · have := hk.symm.trans e
      injection this with this
      exact .inr (by omega)
  have e10 : ∀ k, v10.ownBlock = some k → va.ownBlock = some k ∨ w9.heap.size ≤ k := fun k hk => by
    rcases o10 with e | ⟨b, e, hb⟩
    · exact .inl (e ▸ hk)
    · have := hk.symm.trans e
      injection this with this
      exact .inr (by omega)
  have hD : ∀ k, seaD sk fb v9 v10 k → seaD sk fb vc va k ∨ w4.heap.size ≤ k := fun k hk => by
    rcases hk with e | e | e | e
    · exact .inl (.inl e)
    · exact .inl (.inr (.inl e))
    · rcases e9 k e with e | e
      · exact .inl (.inr (.inr (.inl e)))
      · exact .inr e
    · rcases e10 k e with e | e
      · exact .inl (.inr (.inr (.inr e)))
      · exact .inr (by omega)
  have hnD : ∀ k, k < w4.heap.size → ¬ seaD sk fb vc va k → ¬ seaD sk fb v9 v10 k := fun k hk hd e => (hD k e).elim hd (fun e => by omega)
  have hne9 : v9.ownBlock ≠ some sk ∧ v9.ownBlock ≠ some fb := ⟨fun e => (e9 sk e).elim h.n2.1 (fun e => by have := h.blk.lt; omega), fun e => (e9 fb e).elim h.n2.2 (fun e => by obtain ⟨n, hf⟩ := h.fil; have := hf.blk.lt; omega)⟩
  have hne10 : v10.ownBlock ≠ some sk ∧ v10.ownBlock ≠ some fb := ⟨fun e => (e10 sk e).elim h.n3.1 (fun e => by have := h.blk.lt; omega), fun e => (e10 fb e).elim h.n3.2 (fun e => by obtain ⟨n, hf⟩ := h.fil; have := hf.blk.lt; omega)⟩
  have hblk : Blk w11 sk 53 [.pointer (some ⟨fb, 0, none⟩), .int .i64 most, v9, v10] := by
    rw [hw11]
    exact ((show Blk w10 sk 53 [.pointer (some ⟨fb, 0, none⟩), .int .i64 most, vc, va] from lows.trans h.blk).set_ 2 v9).set_ 3 v10
  have hva9 : ∀ k, v9.ownBlock = some k → va.ownBlock ≠ some k := fun k hk => by
    rcases e9 k hk with e | e
    · exact h.n4 k e
    · intro e2; have := h.rowa.lt k e2; omega
  refine ⟨⟨hw11 ▸ hblk, ?_, ?_, ?_, ?_, ?_, h.n1, hne9, hne10, ?_, fun k hk => hnD k (by obtain ⟨n, hf⟩ := h.fil; have := hf.s k hk; have := hf.blk.lt; omega) (h.sd k hk), by simp [h.len]⟩, ?_, hD⟩
  · obtain ⟨n, hf⟩ := h.fil
    refine ⟨n, hw11 ▸ ⟨lowf.trans hf.blk, Dat.at_step (fun k hk hl => ⟨hk, low k hl (h.sd k hk)⟩) _ _ hf.eqs, hf.s⟩⟩
  · exact hw11 ▸ r9.step (fun k hk => by rw [far k (fun e => hne9.1 (e ▸ hk)), c10.block k (r9.lt k hk) (hva9 k hk)])
  · exact hw11 ▸ r10.step (fun k hk => far k (fun e => hne10.1 (e ▸ hk)))
  · exact hw11 ▸ (h.okc.step (fun k hk hd => ⟨low k hk hd, hnD k hk hd⟩)).push (h1.step (fun k hk => low k (h1.lt k hk) (d1 k hk))) (fun k hk => hnD k (h1.lt k hk) (d1 k hk))
  · exact hw11 ▸ (h.oka.step (fun k hk hd => ⟨low k hk hd, hnD k hk hd⟩)).push (h2.step (fun k hk => low k (h2.lt k hk) (d2 k hk))) (fun k hk => hnD k (h2.lt k hk) (d2 k hk))
  · intro k hk e
    rcases e10 k e with e | e
    · exact hva9 k hk e
    · have := r9.lt k hk; omega
  · rw [← hw11]
    refine ⟨?_, ?_, ?_, ?_, fun k hk hd => low k hk hd⟩
    · rw [hw11]; exact c10.os.trans c9.os
    · rw [hw11]; exact c10.tape.trans c9.tape
    · rw [hw11]; exact c10.output.trans c9.output
    · rw [hw11]; simp; omega
end Go.Proofs.YtdppkdjgadiinaaGreat
