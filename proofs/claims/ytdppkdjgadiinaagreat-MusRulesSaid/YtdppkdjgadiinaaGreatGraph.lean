/- Package graph: types as nodes. -/
import Derived.Test.YtdppkdjgadiinaaGreatMap
import Derived.Deep.RegionLaw
import Derived.Deep.RegionWith
set_option linter.unusedVariables false
set_option linter.unusedSimpArgs false
namespace Go.Proofs.YtdppkdjgadiinaaGreat
open Go.RowKit

/-- A node: its kind, the variable's name, its parts. (Its size is free.) -/
structure Nd where
  kind : Int
  name : Int
  parts : List Nat
/-- Its parts as the program has them. -/
def Nd.ints (x : Nd) : List Int := x.parts.map fun p : Nat => (p : Int)
def intDat (n : Int) : List Dat := [.raw (.int .i64 n)]
def Nd.enc (x : Nd) (sz : Int) : List Dat := [.raw (.int .i64 x.kind), .raw (.int .i64 x.name), .raw (.int .i64 sz), .row 1 (x.ints.map intDat)]
def encNat (n : Nat) : Value := .int .i64 n
/-- A graph at block g: its nodes, its variables' nodes; its blocks are in F. -/
structure GraphAt (w : World) (F : Nat → Prop) (g m : Nat) (nodes : List Nd) (vars : List (Int × Nat)) : Prop where
  is : ∃ v es, Blk w g 130 [v, .map (some m)] ∧ Owns w (fun k => F k ∧ k ≠ g ∧ k ≠ m) 0 147 4 v es ∧ MapAt encNat w m vars ∧
    es.length = nodes.length ∧ (∀ (i : Nat) (x : Nd), nodes[i]? = some x → ∃ sz, es[i]? = some (x.enc sz)) ∧ F g ∧ F m ∧ (∀ k, v.ownBlock = some k → F k) ∧ v.ownBlock ≠ some g ∧ (∀ k, F k → k < w.heap.size)
theorem GraphAt.step {w w' : World} {F : Nat → Prop} {g m : Nat} {nodes : List Nd} {vars : List (Int × Nat)} (h : GraphAt w F g m nodes vars) (hs : ∀ k, F k → w'.heap[k]? = w.heap[k]?) (hl : w.heap.size ≤ w'.heap.size) : GraphAt w' F g m nodes vars := by
  obtain ⟨v, es, h1, h2, h3, h4, h5, h6, h7, h8, h9, h10⟩ := h.is
  exact ⟨v, es, (hs g h6).trans h1, h2.step (fun k hk _ => ⟨hk, hs k hk.1⟩) (fun k hk => hs k (h8 k hk)), h3.step (hs m h7), h4, h5, h6, h7, h8, h9, fun k hk => Nat.lt_of_lt_of_le (h10 k hk) hl⟩
/-- The variables' map has been written. -/
theorem GraphAt.put {w w' : World} {F : Nat → Prop} {g m : Nat} {nodes : List Nd} {vars vars' : List (Int × Nat)} (h : GraphAt w F g m nodes vars) (hc : Chg (fun k => k = m) w w') (hm : MapAt encNat w' m vars') : GraphAt w' F g m nodes vars' := by
  obtain ⟨v, es, h1, h2, h3, h4, h5, h6, h7, h8, h9, h10⟩ := h.is
  have hn : v.ownBlock ≠ some m := by
    obtain ⟨xs, ho, _⟩ := h2
    exact h3.ne_own ho
  exact ⟨v, es, (hc.block g h1.lt (fun e => h3.ne_blk h1 e.symm)).trans h1, h2.step (fun k hk hl => ⟨hk, hc.block k hl hk.2.2⟩) (fun k hk => hc.block k (h10 k (h8 k hk)) (fun e => hn (by rw [← e]; exact hk))), hm, h4, h5, h6, h7, h8, h9, fun k hk => Nat.lt_of_lt_of_le (h10 k hk) hc.size⟩
theorem GraphAt.lt {w : World} {F : Nat → Prop} {g m : Nat} {nodes : List Nd} {vars : List (Int × Nat)} (h : GraphAt w F g m nodes vars) (k : Nat) (hk : F k) : k < w.heap.size := by
  obtain ⟨v, es, h1, h2, h3, h4, h5, h6, h7, h8, h9, h10⟩ := h.is
  exact h10 k hk
theorem GraphAt.keep {w w' : World} {F : Nat → Prop} {g m : Nat} {nodes : List Nd} {vars : List (Int × Nat)} (h : GraphAt w F g m nodes vars) (hb : Below w.heap.size w w') : GraphAt w' F g m nodes vars := h.step (fun k hk => hb.block k (h.lt k hk)) hb.size
theorem GraphAt.drew {w : World} {F : Nat → Prop} {g m : Nat} {nodes : List Nd} {vars : List (Int × Nat)} (h : GraphAt w F g m nodes vars) : GraphAt w.drew F g m nodes vars := h.step (fun _ _ => rfl) (Nat.le_refl _)
theorem Owns.elem {w : World} {S : Nat → Prop} {base e sz : Nat} {v : Value} {es : List (List Dat)} (h : Owns w S base e sz v es) {i : Nat} {d : List Dat} (hd : es[i]? = some d) :
    ∃ g c us, v = .slice (some ⟨g, 0, none⟩) es.length c ∧ us.length = sz ∧ (∀ j u, us[j]? = some u → w.cell? ⟨g, i * sz + j, none⟩ = some u) ∧ CellsAt w (fun k => S k ∧ g ≠ k) d us ∧ i < es.length ∧ es.length ≤ 9223372036854775807 ∧ ∀ j, w.frozen? ⟨g, j, none⟩ = false := by
  obtain ⟨xs, h1, h2⟩ := h
  have hi : i < es.length := (List.getElem?_eq_some_iff.1 hd).1
  obtain ⟨us, h3, h4, h5⟩ := h2 i d hd
  have h1' := h1
  rcases h1.2 with ⟨rfl, h⟩ | ⟨g, cap, cur, rfl, hb, hh, hc, hc2, hsz, hx⟩
  · omega
  · refine ⟨g, cap, us, rfl, h3, fun j u hu => ?_, CellsAt_mono h5 (fun k hk _ => ⟨hk.1, fun e => hk.2 (by rw [e]; rfl)⟩), hi, by simp only [maxLen] at hc2; omega, fun j => by simp [World.frozen?, hh]⟩
    have := h1'.cells (g := g) rfl _ _ (h4 j u hu)
    have ha : (⟨g, 0, none⟩ : Addr).add (i * sz + j) = ⟨g, i * sz + j, none⟩ := by unfold Addr.add; split <;> simp_all
    rwa [ha] at this
theorem Owns.len_le {w : World} {S : Nat → Prop} {base e sz : Nat} {v : Value} {es : List (List Dat)} (h : Owns w S base e sz v es) : es.length ≤ 9223372036854775807 := by
  obtain ⟨xs, h1, _⟩ := h
  rcases h1.2 with ⟨_, h⟩ | ⟨g, cap, cur, rfl, _, _, hc, hc2, _⟩
  · omega
  · simp only [maxLen] at hc2; omega

theorem Graph_New (w : World) : Calls Tryz.prog 61 #[] w fun e w' => ∃ g m F, (e = .returned (.pointer (some ⟨g, 0, none⟩)) ∧ GraphAt w' F g m [] [] ∧ Below w.heap.size w w' ∧ ∀ k, F k → w.heap.size ≤ k) := by
  have hmm := @run_makeMap Tryz.prog
  go_enter Tryz.func61, Tryz.ntmps61
  go_wp2
  go_ret
  refine ⟨w.heap.size + 1, w.heap.size, fun k => k = w.heap.size ∨ k = w.heap.size + 1, rfl, ⟨⟨.slice none 0 0, [], Blk.new' _ _ _ (by simp), Owns.nil _ _ _ _ _, ?_, rfl, fun i x h => by simp at h, .inr rfl, .inl rfl, fun k hk => by simp [Value.ownBlock] at hk, by simp [Value.ownBlock], ?_⟩⟩, ((Below.refl _ _).alloc (Nat.le_refl _) _).alloc (by simp) _, fun k hk => by omega⟩
  · exact (MapAt.new encNat w).step (Below.heap_alloc _ _ _ (by simp))
  · intro k hk
    simp
    omega
theorem Graph_Len (w : World) (F : Nat → Prop) (g m : Nat) (nodes : List Nd) (vars : List (Int × Nat)) (h : GraphAt w F g m nodes vars) :
    Calls Tryz.prog 84 #[.pointer (some ⟨g, 0, none⟩)] w fun e w' => e = .returned (.int .i64 nodes.length) ∧ w' = w := by
  obtain ⟨v, es, h1, h2, h3, h4, h5, h6, h7, h8, h9, h10⟩ := h.is
  have c0 := h1.cell 0
  simp only [List.getElem?_cons_zero] at c0
  obtain ⟨A, c, rfl⟩ := h2.shape
  have hl := h2.len_le
  rw [h4] at hl c0
  clear h1 h2 h3 h4 h5 h6 h7 h8 h9 h10 h
  go_enter Tryz.func84, Tryz.ntmps84
  go_wp2
  go_ret
  exact ⟨rfl, rfl⟩
theorem Graph_there (w : World) (F : Nat → Prop) (g m : Nat) (nodes : List Nd) (vars : List (Int × Nat)) (i : Int) (h : GraphAt w F g m nodes vars) :
    Calls Tryz.prog 99 #[.pointer (some ⟨g, 0, none⟩), .int .i64 i] w fun e w' => e = .returned (.bool (decide (0 ≤ i ∧ i < nodes.length))) ∧ w' = w := by
  obtain ⟨v, es, h1, h2, h3, h4, h5, h6, h7, h8, h9, h10⟩ := h.is
  have c0 := h1.cell 0
  simp only [List.getElem?_cons_zero] at c0
  obtain ⟨A, c, rfl⟩ := h2.shape
  have hl := h2.len_le
  rw [h4] at hl c0
  clear h1 h2 h3 h4 h5 h6 h7 h8 h9 h10 h
  by_cases hi : 0 ≤ i
  · go_enter Tryz.func99, Tryz.ntmps99
    go_wp2
    go_ret
    simp [hi]
  · go_enter Tryz.func99, Tryz.ntmps99
    go_wp2
    go_ret
    refine ⟨?_, rfl⟩
    rw [decide_eq_false (by omega)]
    rfl
theorem Graph_Kind (w : World) (F : Nat → Prop) (g m : Nat) (nodes : List Nd) (vars : List (Int × Nat)) (i : Nat) (x : Nd) (h : GraphAt w F g m nodes vars) (hx : nodes[i]? = some x) :
    Calls Tryz.prog 85 #[.pointer (some ⟨g, 0, none⟩), .int .i64 i] w fun e w' => e = .returned (.int .i64 x.kind) ∧ w' = w := by
  have hi : i < nodes.length := (List.getElem?_eq_some_iff.1 hx).1
  obtain ⟨v, es, h1, h2, h3, h4, h5, h6, h7, h8, h9, h10⟩ := h.is
  obtain ⟨sz, hsz⟩ := h5 i x hx
  obtain ⟨b, c, us, rfl, hus, hc, hk, hil, hln, hfz⟩ := h2.elem hsz
  have c0 := h1.cell 0
  simp only [List.getElem?_cons_zero] at c0
  unfold Nd.enc at hk
  simp only [CellsAt_cons, CellsAt_nil, Dat.raw_at] at hk
  obtain ⟨_, _, rfl, rfl, _⟩ := hk
  have d0 := hc 0 _ rfl
  rw [Nat.add_zero] at d0
  have H := Sh.mk h
  have hd : decide (0 ≤ (i : Int) ∧ (i : Int) < nodes.length) = true := by simp; omega
  rw [h4] at hln c0
  clear h1 h2 h3 h4 h5 h6 h7 h8 h9 h10 h hc hx hsz hfz hus
  go_enter Tryz.func85, Tryz.ntmps85
  go_wp2_with (go_at_call 99; refine (Graph_there _ F g m nodes vars _ H.out).mono ?_; rintro e w1 ⟨rfl, rfl⟩)
  go_ret
  exact ⟨rfl, rfl⟩
/-! ### append(v, xs...) for rows of numbers -/
theorem intDat_at {w : World} {S : Nat → Prop} {n : Int} {us : List Value} : CellsAt w S (intDat n) us ↔ us = [.int .i64 n] := by
  unfold intDat
  simp only [CellsAt_cons, CellsAt_nil, Dat.raw_at]
  constructor
  · rintro ⟨_, _, rfl, rfl, rfl⟩; rfl
  · rintro rfl; exact ⟨_, _, rfl, rfl, rfl⟩
/-- A row of numbers that is read. -/
def IntsAt (w : World) (S : Nat → Prop) (v : Value) (xs : List Int) : Prop := (Dat.row 1 (xs.map intDat)).at w S v
theorem IntsAt.below {w w' : World} {S : Nat → Prop} {v : Value} {xs : List Int} (h : IntsAt w S v xs) (hb : Below w.heap.size w w') : IntsAt w' S v xs := Dat.at_below h hb
theorem IntsAt.cells {w : World} {S : Nat → Prop} {v : Value} {xs : List Int} (h : IntsAt w S v xs) : ∃ A c, v = .slice A xs.length c ∧ xs.length ≤ 9223372036854775807 ∧ ∀ (j : Nat) (x : Int), xs[j]? = some x → ∃ ad, A = some ad ∧ S ad.block ∧ ad.block < w.heap.size ∧ w.cell? (ad.add j) = some (.int .i64 x) := by
  obtain ⟨A, c, rfl, h1, h2, h3⟩ := Dat.row_at.1 h
  rw [List.length_map] at h1
  refine ⟨A, c, by rw [List.length_map], by simp only [maxLen] at h2; omega, fun j x hx => ?_⟩
  obtain ⟨ad, us, rfl, hS, hl, _, hc, hk⟩ := h3 j (intDat x) (by rw [List.getElem?_map, hx]; rfl)
  rw [intDat_at] at hk
  subst hk
  have := hc 0 _ rfl
  rw [Nat.mul_one, Nat.add_zero] at this
  exact ⟨ad, rfl, hS, hl, this⟩
theorem IRow.ints {w : World} {v : Value} {xs : List Int} (h : IRow w v xs) : IntsAt w (fun k => v.ownBlock = some k) v xs := by
  unfold IntsAt
  rw [Dat.row_at]
  have h' := h
  rcases h.2 with ⟨rfl, h0⟩ | ⟨g, cap, cur, rfl, hb, hh, hc, hc2, hsz, hx⟩
  · have : xs = [] := List.eq_nil_of_length_eq_zero h0
    subst this
    exact ⟨none, 0, rfl, by simp, by simp, fun j e he => by simp at he⟩
  · refine ⟨_, cap, by rw [List.length_map], by rw [List.length_map]; exact hc, hc2, fun j e he => ?_⟩
    rw [List.getElem?_map] at he
    obtain ⟨x, hx1, rfl⟩ := Option.map_eq_some_iff.1 he
    refine ⟨⟨g, 0, none⟩, [.int .i64 x], rfl, rfl, heap_lt hh, rfl, fun i u hu => ?_, intDat_at.2 rfl⟩
    have hi : i = 0 := by
      have := (List.getElem?_eq_some_iff.1 hu).1
      simp at this
      exact this
    subst hi
    simp at hu
    subst hu
    rw [Nat.mul_one, Nat.add_zero]
    obtain ⟨c1, _⟩ := h'.cell hx1
    have ha : (⟨g, 0, none⟩ : Addr).add j = ⟨g, j, none⟩ := by unfold Addr.add; split <;> simp_all
    rw [ha]
    exact c1
theorem run_append_nothing {w : World} {v : Value} {xs : List Int} (h : IRow w v xs) (c : Nat) : (Builtin.append_ #[25, 25] 25 #[v, .slice none 0 c]).run Tryz.prog w = .ok v w := by
  obtain ⟨i0, hi, hzz⟩ := Option.map_eq_some_iff.1 info_int
  rcases h.2 with ⟨rfl, _⟩ | ⟨g, cap, cur, rfl, _, _, hnc, _⟩
  · simp [Builtin.append_, run_underlying Tryz.underlying25, sizeOf, typeInfo, hi, Builtin.lenOf, Builtin.firstCells]
  · simp [Builtin.append_, run_underlying Tryz.underlying25, sizeOf, typeInfo, hi, Builtin.lenOf, Builtin.firstCells, hnc, storeCells]
section
variable {ops : Array Oper} {rest : List Oper} {o : Oper} {a : Act} {Q : Exit → Act → World → Prop}
/-- append(v, ys...): behind 'at_builtin'. -/
theorem append_ints {W : World} (hgd : o.guard = none) (s x : Operand)
    (ho : o.op = .call { callee := .builtin .append, args := #[s, x], argTypes := #[25, 25] }) (hty : o.type = 25)
    (v u : Value) (S : Nat → Prop) (xs ys : List Int) (hs : a.eval s = v) (hx : a.eval x = u)
    (HO : IRow W v xs) (HY : IntsAt W S u ys) (hl : (xs.length + ys.length) * 8 ≤ 140737488355328)
    (h : ∀ A1 c1 w1, IRow w1 (.slice A1 (xs.length + ys.length) c1) (xs ++ ys) → W.grownBy w1 v.ownBlock → ((Value.slice A1 (xs.length + ys.length) c1).ownBlock = v.ownBlock ∨ ∃ b, (Value.slice A1 (xs.length + ys.length) c1).ownBlock = some b ∧ W.heap.size ≤ b) → wpList Tryz.prog ops Q rest (a.put o.dst (.slice A1 (xs.length + ys.length) c1)) w1) :
    wpList Tryz.prog ops Q (o :: rest) a W := by
  obtain ⟨i0, hi, hzz⟩ := Option.map_eq_some_iff.1 info_int
  simp only [Prod.mk.injEq] at hzz
  obtain ⟨hz0, hz1, hz2⟩ := hzz
  obtain ⟨A, c, rfl, hln, hel⟩ := HY.cells
  cases A with
  | none =>
    have hy : ys = [] := by
      cases ys with
      | nil => rfl
      | cons y r =>
        obtain ⟨ad, e, _⟩ := hel 0 y rfl
        cases e
    subst hy
    refine wpList_plain hgd fun K hK => ?_
    have hr := run_append_nothing (w := W) HO c
    obtain ⟨A1, c1, hv⟩ := HO.shape
    unfold Oper.wp execOp
    have hr' : (Builtin.append_ #[25, 25] o.type #[v, .slice none ([] : List Int).length c]).run Tryz.prog W = .ok v W := by rw [hty]; exact hr
    simp only [ho, resolve, invoke, builtin, Sem.run_bind, Sem.run_pure, Result.andThen_ok, List.map_toArray, List.map_cons, List.map_nil, hs, hx, hr']
    subst hv
    have := h A1 c1 W (by simpa using HO) (World.grownBy.refl W _) (.inl rfl)
    exact hK _ _ this
  | some ad =>
    refine wpList_append_own_at W hgd s x 25 ho 0 3 i0 _ 1 8 Tryz.underlying25 hi hz0 hz1 hz2 rfl (by omega) v xs.length _ hs HO ad ys.length c (ys.map (Value.int .i64)) hx (by simp)
      (fun j u hu => ?_) (fun u hu => ?_) (by simp only [maxLen]; omega) hl (Nat.zero_le _) ?_
    · rw [List.getElem?_map] at hu
      obtain ⟨y, hy, rfl⟩ := Option.map_eq_some_iff.1 hu
      obtain ⟨ad', e, _, _, hc⟩ := hel j y hy
      rw [Option.some.inj e]
      exact hc
    · obtain ⟨y, _, rfl⟩ := List.mem_map.1 hu
      rfl
    intro v1 w1 hown hg _ hat
    have hI : IRow w1 v1 (xs ++ ys) := by unfold IRow; simpa using hown
    obtain ⟨A1, c1, rfl⟩ := hI.shape
    simp only [List.length_append] at *
    refine h A1 c1 w1 hI hg ?_
    rcases hat with hat | hat
    · exact .inl hat
    · exact .inr ⟨_, hat, Nat.le_refl _⟩
end
theorem Graph_Parts (w : World) (F : Nat → Prop) (g m : Nat) (nodes : List Nd) (vars : List (Int × Nat)) (i : Nat) (x : Nd) (h : GraphAt w F g m nodes vars) (hx : nodes[i]? = some x) (hlp : x.ints.length ≤ 1000000) :
    Calls Tryz.prog 88 #[.pointer (some ⟨g, 0, none⟩), .int .i64 i] w fun e w' => ∃ v, (e = .returned v ∧ IRow w' v x.ints ∧ Below w.heap.size w w' ∧ ∀ k, v.ownBlock = some k → w.heap.size ≤ k) := by
  have hi : i < nodes.length := (List.getElem?_eq_some_iff.1 hx).1
  obtain ⟨v, es, h1, h2, h3, h4, h5, h6, h7, h8, h9, h10⟩ := h.is
  obtain ⟨sz, hsz⟩ := h5 i x hx
  obtain ⟨b, c, us, rfl, hus, hc, hk, hil, hln, hfz⟩ := h2.elem hsz
  have c0 := h1.cell 0
  simp only [List.getElem?_cons_zero] at c0
  unfold Nd.enc at hk
  simp only [CellsAt_cons, CellsAt_nil, Dat.raw_at] at hk
  obtain ⟨_, _, rfl, rfl, _, _, rfl, rfl, _, _, rfl, rfl, s, _, rfl, hs, rfl⟩ := hk
  have HS := Sh.mk (show IntsAt w _ s x.ints from hs)
  obtain ⟨A2, c2, rfl, _⟩ := (show IntsAt w _ s x.ints from hs).cells
  have d0 := hc 3 _ rfl
  have H := Sh.mk h
  have hd : decide (0 ≤ (i : Int) ∧ (i : Int) < nodes.length) = true := by simp; omega
  rw [h4] at hln c0
  have HNI := Sh.mk (IRow.nil w)
  have HLP := Sh.mk (show (([] : List Int).length + x.ints.length) * 8 ≤ 140737488355328 by simp; omega)
  clear h1 h2 h3 h4 h5 h6 h7 h8 h9 h10 h hc hx hsz hfz hus hs
  go_enter Tryz.func88, Tryz.ntmps88
  go_wp2_with (first
    | (go_at_call 99; refine (Graph_there _ F g m nodes vars _ H.out).mono ?_; rintro e w1 ⟨rfl, rfl⟩)
    | (at_builtin; refine append_ints rfl (.const (.slice none 0 0)) (.tmp 16) rfl rfl (.slice none 0 0) (.slice A2 x.ints.length c2) _ [] x.ints rfl rfl HNI.out HS.out HLP.out ?_; intro A1 c1 w1 hI hg hv; (simp only [List.length_nil, Nat.zero_add, List.nil_append] at hI hv ⊢); have HI := Sh.mk hI; have HG := Sh.mk hg; have HV := Sh.mk hv; clear hI hg hv))
  go_ret
  refine ⟨.slice A1 x.ints.length c1, rfl, HI.out, ⟨HG.out.os, HG.out.tape, HG.out.output, HG.out.size, fun k hk => HG.out.block k hk (by simp [Value.ownBlock])⟩, fun k hk => ?_⟩
  rcases HV.out with e | ⟨b, e, hb⟩
  · rw [e] at hk; simp [Value.ownBlock] at hk
  · rw [e] at hk; injection hk with hk; omega
theorem zero_int (w : World) : (zeroValue 3).run Tryz.prog w = .ok (.int .i64 0) w := by kernel_rfl
theorem Graph_Var (w : World) (F : Nat → Prop) (g m : Nat) (nodes : List Nd) (vars : List (Int × Nat)) (n : Int) (h : GraphAt w F g m nodes vars) :
    Calls Tryz.prog 115 #[.pointer (some ⟨g, 0, none⟩), .int .i64 n] w fun e w' => e = .returned (.tuple #[.int .i64 (((mget vars n).getD 0 : Nat) : Int), .bool (mget vars n).isSome]) ∧ w' = w := by
  obtain ⟨v, es, h1, h2, h3, h4, h5, h6, h7, h8, h9, h10⟩ := h.is
  have c1 := h1.cell 1
  simp only [List.getElem?_cons_zero, List.getElem?_cons_succ] at c1
  have H3 := Sh.mk h3
  have e0 : ((mget vars n).map encNat).getD (.int .i64 0) = .int .i64 (((mget vars n).getD 0 : Nat) : Int) := by cases mget vars n <;> rfl
  have E0 := Sh.mk e0
  clear h1 h2 h3 h4 h5 h6 h7 h8 h9 h10 h e0
  go_enter Tryz.func115, Tryz.ntmps115
  go_wp2_with (at_lookup; refine wpList_get rfl (.tmp 14) (.tmp 15) true rfl Tryz.underlying107 Tryz.underlying3 zero_int rfl rfl H3.out (u := .tuple #[.int .i64 (((mget vars n).getD 0 : Nat) : Int), .bool (mget vars n).isSome]) (by rw [← E0.out]; rfl) ?_)
  go_ret2
  exact ⟨rfl, rfl⟩
/-! ### append in a region that draws its order -/
section
variable {P : Program} {W : World} {S : Nat → Prop}
theorem run_push (base : Nat) (t ty e : TypeId) (z : Value) (sz bytes : Nat) (ht : P.underlying t = some (.slice e)) (hinfo : (P.info? e).map (fun i => (i.zero, i.size, i.bytes)) = some (some z, sz, bytes)) (hz : z.cells.size = sz) (hsz : 0 < sz) (hb0 : 0 < bytes)
    (v : Value) (es : List (List Dat)) (d : List Dat) (us : List Value) (b : Nat) (h1 : ∀ u ∈ us, u.oneCell' = true)
    (HO : Owns W S base e sz v es) (HD : CellsAt W (fun k => S k ∧ v.ownBlock ≠ some k) d us) (hlen : us.length = sz) (hbk : Blk W b e us) (hbase : base ≤ W.heap.size) (hl : (es.length + 1) * bytes ≤ 140737488355328) :
    ∃ v1 w1, (Builtin.append_ #[t, t] ty #[v, .slice (some ⟨b, 0, none⟩) 1 1]).run P W = .ok v1 w1 ∧ Owns w1 S base e sz v1 (es ++ [d]) ∧ W.grownBy w1 v.ownBlock ∧ (v1.ownBlock = v.ownBlock ∨ v1.ownBlock = some W.heap.size) := by
  obtain ⟨i0, hi, hzz⟩ := Option.map_eq_some_iff.1 hinfo
  simp only [Prod.mk.injEq] at hzz
  obtain ⟨hz0, hz1, hz2⟩ := hzz
  obtain ⟨xs, ho1, ho2⟩ := HO
  have hlen' : es.length + 1 ≤ 140737488355328 := Nat.le_trans (Nat.le_mul_of_pos_right _ hb0) hl
  obtain ⟨v', w', hr, h2, h3, _, h5⟩ := run_append_own_at (P := P) W base t ty e i0 z sz bytes ht hi hz0 hz1 hz2 hz hsz v es.length xs ho1 ⟨b, 0, none⟩ 1 1 us (by rw [hlen]; omega)
    (fun j u hu => by
      have ha : (⟨b, 0, none⟩ : Addr).add j = ⟨b, j, none⟩ := by unfold Addr.add; split <;> simp_all
      rw [ha, hbk.cell]
      exact hu) h1 (by simp only [maxLen]; omega) hl hbase
  exact ⟨v', w', hr, Owns.push (xs' := []) ho1 ho2 HD hlen h2 h3 h5, h3, h5⟩
variable {ops : Array Oper} {o : Oper} {a : Act} {K : Act → World → Prop} {Q : Exit → Act → World → Prop} {E : Prop}
theorem step_push (hgd : o.guard = none) (s x : Operand) (t e : TypeId) (z : Value) (sz bytes : Nat)
    (ho : o.op = .call { callee := .builtin .append, args := #[s, x], argTypes := #[t, t] }) (base : Nat)
    (ht : P.underlying t = some (.slice e)) (hinfo : (P.info? e).map (fun i => (i.zero, i.size, i.bytes)) = some (some z, sz, bytes)) (hz : z.cells.size = sz) (hsz : 0 < sz) (hb0 : 0 < bytes)
    (v : Value) (es : List (List Dat)) (d : List Dat) (us : List Value) (b : Nat) (hs : a.eval s = v) (hx : a.eval x = .slice (some ⟨b, 0, none⟩) 1 1) (h1 : ∀ u ∈ us, u.oneCell' = true)
    (HO : Owns W S base e sz v es) (HD : CellsAt W (fun k => S k ∧ v.ownBlock ≠ some k) d us) (hlen : us.length = sz) (hbk : Blk W b e us) (hbase : base ≤ W.heap.size) (hl : (es.length + 1) * bytes ≤ 140737488355328)
    (h : ∀ v1 w1, Owns w1 S base e sz v1 (es ++ [d]) → W.grownBy w1 v.ownBlock → (v1.ownBlock = v.ownBlock ∨ v1.ownBlock = some W.heap.size) → K (a.put o.dst v1) w1) :
    if Region.wanted o (yielded ops a.tmps) = true then Oper.wp P o a W K Q else E := by
  have hw : Region.wanted o (yielded ops a.tmps) = true := by simp [Region.wanted, hgd]
  rw [if_pos hw]
  obtain ⟨v1, w1, hr, h2, h3, h4⟩ := run_push (P := P) base t o.type e z sz bytes ht hinfo hz hsz hb0 v es d us b h1 HO HD hlen hbk hbase hl
  unfold Oper.wp execOp
  simp only [ho, resolve, invoke, builtin, Sem.run_bind, Sem.run_pure, Result.andThen_ok, List.map_toArray, List.map_cons, List.map_nil, hs, hx, hr]
  exact h v1 w1 h2 h3 h4
end
section
variable {W : World} {ops : Array Oper} {o : Oper} {a : Act} {K : Act → World → Prop} {Q : Exit → Act → World → Prop} {E : Prop}
/-- append(v, y) for a row of numbers, in a region that draws. -/
theorem step_int (hgd : o.guard = none) (s x : Operand) (ho : o.op = .call { callee := .builtin .append, args := #[s, x], argTypes := #[25, 25] })
    (v : Value) (xs : List Int) (y : Int) (b : Nat) (hs : a.eval s = v) (hx : a.eval x = .slice (some ⟨b, 0, none⟩) 1 1) (HO : IRow W v xs) (hbk : Blk W b 3 [.int .i64 y]) (hl : (xs.length + 1) * 8 ≤ 140737488355328)
    (h : ∀ A1 c1 w1, IRow w1 (.slice A1 (xs.length + 1) c1) (xs ++ [y]) → W.grownBy w1 v.ownBlock → ((Value.slice A1 (xs.length + 1) c1).ownBlock = v.ownBlock ∨ (Value.slice A1 (xs.length + 1) c1).ownBlock = some W.heap.size) → K (a.put o.dst (.slice A1 (xs.length + 1) c1)) w1) :
    if Region.wanted o (yielded ops a.tmps) = true then Oper.wp Tryz.prog o a W K Q else E := by
  have hw : Region.wanted o (yielded ops a.tmps) = true := by simp [Region.wanted, hgd]
  rw [if_pos hw]
  obtain ⟨i0, hi, hzz⟩ := Option.map_eq_some_iff.1 info_int
  simp only [Prod.mk.injEq] at hzz
  obtain ⟨hz0, hz1, hz2⟩ := hzz
  obtain ⟨v', w', hr, h2, h3, _, h5⟩ := run_append_own_at (P := Tryz.prog) W 0 25 o.type 3 i0 _ 1 8 Tryz.underlying25 hi hz0 hz1 hz2 rfl (by omega) v xs.length _ HO ⟨b, 0, none⟩ 1 1 [.int .i64 y] rfl
    (fun j u hu => by
      have ha : (⟨b, 0, none⟩ : Addr).add j = ⟨b, j, none⟩ := by unfold Addr.add; split <;> simp_all
      rw [ha, hbk.cell]
      exact hu) (by simp [Value.oneCell']) (by simp only [maxLen]; omega) hl (Nat.zero_le _)
  unfold Oper.wp execOp
  simp only [ho, resolve, invoke, builtin, Sem.run_bind, Sem.run_pure, Result.andThen_ok, List.map_toArray, List.map_cons, List.map_nil, hs, hx, hr]
  have hI : IRow w' v' (xs ++ [y]) := by unfold IRow; simpa using h2
  obtain ⟨A1, c1, rfl⟩ := hI.shape
  simp only [List.length_append, List.length_singleton] at *
  exact h A1 c1 w' hI h3 h5
end
theorem info_node : (Tryz.prog.info? 147).map (fun i => (i.zero, i.size, i.bytes)) = some (some (.agg #[.int .i64 0, .int .i64 0, .int .i64 0, .slice none 0 0]), 4, 48) := by kernel_rfl
theorem Graph_lay (w : World) (F S : Nat → Prop) (g m : Nat) (nodes : List Nd) (vars : List (Int × Nat)) (x : Nd) (vp : Value) (sz : Int) (h : GraphAt w F g m nodes vars) (hp : IntsAt w S vp x.ints) (hS : ∀ k, S k → ¬ F k)
    (hpl : ∀ p, p ∈ x.parts → p < nodes.length) (hn : nodes.length < 1048576) :
    Calls Tryz.prog 110 #[.pointer (some ⟨g, 0, none⟩), .agg #[.int .i64 x.kind, .int .i64 x.name, .int .i64 sz, vp]] w fun e w' =>
      e = .returned (.int .i64 nodes.length) ∧ ∃ F', GraphAt w' F' g m (nodes ++ [x]) vars ∧ Chg F w w' ∧ ∀ k, F' k → F k ∨ S k ∨ w.heap.size ≤ k := by
  obtain ⟨A, c, rfl, hpc, hpe⟩ := hp.cells
  have H := Sh.mk h
  have HP := Sh.mk hp
  have HPL := Sh.mk hpl
  have HS := Sh.mk hS
  clear h hp hS hpl hpe
  go_enter Tryz.func110, Tryz.ntmps110
  go_wp2
  have HB0 := Sh.mk (Blk.new w 147 [.int .i64 x.kind, .int .i64 x.name, .int .i64 1, .slice A x.ints.length c])
  go_loopw [11] (fun v11 wr => ∃ k : Nat, k ≤ x.ints.length ∧ v11 = .int .i64 k ∧ Sh (∃ z : Int, Blk wr w.heap.size 147 [.int .i64 x.kind, .int .i64 x.name, .int .i64 z, .slice A x.ints.length c]) ∧ Sh (Below w.heap.size w wr)) (fun v11 _ => x.ints.length - (intOf v11).toNat)
  case atStart => exact ⟨0, Nat.zero_le _, rfl, ⟨1, HB0.out⟩, ⟨(Below.refl _ _).alloc (Nat.le_refl _) _⟩⟩
  case round =>
    obtain ⟨k, hk, rfl, ⟨z, B⟩, HB⟩ := hrel
    have h := H.out.step (fun k hk => HB.out.block k (by obtain ⟨v, es, h1, h2, h3, h4, h5, h6, h7, h8, h9, h10⟩ := H.out.is; exact h10 k hk)) HB.out.size
    have b0 := B.cell 0
    have b1 := B.cell 1
    have b2 := B.cell 2
    have b3 := B.cell 3
    have f2 := B.frozen 2
    simp only [List.getElem?_cons_zero, List.getElem?_cons_succ] at b0 b1 b2 b3
    have HBk := Sh.mk B
    have HG := Sh.mk h
    by_cases hlt : k < x.ints.length
    · have hx : x.ints[k]? = some x.ints[k] := List.getElem?_eq_getElem hlt
      obtain ⟨i, hi2, hi⟩ := List.mem_map.1 (List.mem_of_getElem? hx)
      have hil := HPL.out i hi2
      rw [← hi] at hx
      obtain ⟨A', c', he, _, hpe⟩ := (HP.out.below HB.out).cells
      injection he with he1 _ he3
      subst he1 he3
      obtain ⟨ad, rfl, _, _, hcp⟩ := hpe k _ hx
      obtain ⟨v, es, h1, h2, h3, h4, h5, h6, h7, h8, h9, h10⟩ := h.is
      obtain ⟨y, hy⟩ : ∃ y, nodes[i]? = some y := ⟨_, List.getElem?_eq_getElem hil⟩
      obtain ⟨sz', hsz⟩ := h5 i y hy
      obtain ⟨b, c', us, rfl, hus, hc, hk1, hil', hln, hfz⟩ := h2.elem hsz
      have c0 := h1.cell 0
      simp only [List.getElem?_cons_zero] at c0
      unfold Nd.enc at hk1
      simp only [CellsAt_cons, CellsAt_nil, Dat.raw_at] at hk1
      obtain ⟨_, _, rfl, rfl, _, _, rfl, rfl, _, _, rfl, rfl, _⟩ := hk1
      have d2 := hc 2 _ rfl
      rw [h4] at c0 hln
      clear hc h1 h2 h3 h4 h5 h6 h7 h8 h9 h10 hx hy hsz hpe hfz hus hi hi2 h B hil'
      go_wp2
      go_region
      go_wp2
      go_roundw
      case rel => exact ⟨k + 1, by omega, by go_num, ⟨_, by have := (HBk.out.set_ 2 (.int .i64 (if wrap64 (z + sz') < 1099511627776 then wrap64 (z + sz') else 1099511627776))).drew; simpa using this⟩, ⟨(HB.out.setCell (by simp) _).drew⟩⟩
      case measure => simp [intOf]; omega
    · obtain ⟨v, es, h1, h2, h3, h4, h5, h6, h7, h8, h9, h10⟩ := h.is
      have c0 := h1.cell 0
      have g0 := h1.frozen 0
      simp only [List.getElem?_cons_zero] at c0
      obtain ⟨Av, cv, rfl⟩ := h2.shape
      have hbl : Below wr.heap.size wr ((wr.alloc (.cells #[.int .i64 x.kind, .int .i64 x.name, .int .i64 z, .slice A x.ints.length c] 147)).drew) := ((Below.refl _ _).alloc (Nat.le_refl _) _).drew
      have HBL := Sh.mk hbl
      have HO := Sh.mk ((h2.mono (S' := fun k => (F k ∨ (S k ∧ k < w.heap.size)) ∧ k ≠ g ∧ k ≠ m) (fun k hk _ => ⟨.inl hk.1, hk.2⟩)).below hbl)
      have hd : CellsAt wr (fun k => ((F k ∨ (S k ∧ k < w.heap.size)) ∧ k ≠ g ∧ k ≠ m) ∧ (Value.slice Av es.length cv).ownBlock ≠ some k) (x.enc z) [.int .i64 x.kind, .int .i64 x.name, .int .i64 z, .slice A x.ints.length c] := by
        unfold Nd.enc
        simp only [CellsAt_cons, CellsAt_nil, Dat.raw_at]
        exact ⟨_, _, rfl, rfl, _, _, rfl, rfl, _, _, rfl, rfl, _, _, rfl, Dat.at_step (fun k hk hl => ⟨⟨⟨.inr ⟨hk, hl⟩, fun e => HS.out k hk (by rw [e]; exact h6), fun e => HS.out k hk (by rw [e]; exact h7)⟩, fun e => HS.out k hk (h8 k e)⟩, HB.out.block k hl⟩) _ _ HP.out, rfl⟩
      have HD := Sh.mk (CellsAt_below hd hbl)
      have HBX := Sh.mk (show Blk ((wr.alloc (.cells #[.int .i64 x.kind, .int .i64 x.name, .int .i64 z, .slice A x.ints.length c] 147)).drew) wr.heap.size 147 [.int .i64 x.kind, .int .i64 x.name, .int .i64 z, .slice A x.ints.length c] from Blk.new wr 147 [.int .i64 x.kind, .int .i64 x.name, .int .i64 z, .slice A x.ints.length c])
      have HLN := Sh.mk (show (es.length + 1) * 48 ≤ 140737488355328 by omega)
      have H1 := Sh.mk (h1.keep hbl)
      have H3 := Sh.mk (h3.step (hbl.block m h3.lt))
      have H4 := Sh.mk h4
      have H5 := Sh.mk h5
      have H6 := Sh.mk h6
      have H7 := Sh.mk h7
      have H8 := Sh.mk h8
      have H9 := Sh.mk h9
      have H10 := Sh.mk h10
      have HM := Sh.mk (h3.ne_blk h1)
      have HM2 := Sh.mk (show (Value.slice Av es.length cv).ownBlock ≠ some m by obtain ⟨xs, ho, _⟩ := h2; exact h3.ne_own ho)
      have HGL := Sh.mk h1.lt
      have hesl : es.length < 1048576 := by omega
      have h11 : ∀ u ∈ [Value.int .i64 x.kind, .int .i64 x.name, .int .i64 z, .slice A x.ints.length c], u.oneCell' = true := by simp [Value.oneCell']
      have H11 := Sh.mk h11
      have c0' := (h1.alloc (.cells #[.int .i64 x.kind, .int .i64 x.name, .int .i64 z, .slice A x.ints.length c] 147)).cell 0
      simp only [List.getElem?_cons_zero] at c0'
      clear h1 h2 h3 h4 h5 h6 h7 h8 h9 h10 hd hbl h B HG h11
      go_wp2
      go_region_law (refine step_push rfl (.tmp 33) (.tmp 35) 128 147 _ 4 48 rfl 0 Tryz.underlying128 info_node rfl (by omega) (by omega) (.slice Av es.length cv) es (x.enc z) _ wr.heap.size rfl rfl H11.out HO.out HD.out rfl HBX.out (Nat.zero_le _) HLN.out ?_; intro v1 w1 hO1 hg1 hv1; obtain ⟨A1, c1, rfl⟩ := hO1.shape; (simp only [List.length_append, List.length_singleton] at *); have HBLK := Sh.mk (H1.out.grown hg1 (fun e => H9.out e.symm)); have e0 := HBLK.out.cell 0; have e1 := HBLK.out.frozen 0; (simp only [List.getElem?_cons_zero] at e0); have HO1 := Sh.mk hO1; have HG1 := Sh.mk hg1; have HV1 := Sh.mk hv1; clear hO1 hg1 hv1)
      all_goals (
        go_wp2
        go_ret
        have n1 : (Value.slice A1 (es.length + 1) c1).ownBlock ≠ some g := by
          rcases HV1.out with e | e
          · rw [e]; exact H9.out
          · rw [e]; intro e2; injection e2 with e2; have := HGL.out; simp at e2; omega
        refine ⟨by rw [← H4.out]; rfl, fun k => F k ∨ (S k ∧ k < w.heap.size) ∨ (Value.slice A1 (es.length + 1) c1).ownBlock = some k, ⟨⟨_, es ++ [x.enc z], HBLK.out.set_ 0 _, ?_, ?_, by simp [H4.out], ?_, .inl H6.out, .inl H7.out, fun k hk => .inr (.inr hk), n1, ?_⟩⟩, ?_, ?_⟩
        · exact (HO1.out.away (p := ⟨g, 0, none⟩) _ (fun k hk => hk.2.1) n1).mono (fun k hk _ => ⟨hk.1.elim .inl (fun h => .inr (.inl h)), hk.2⟩)
        · exact (H3.out.step (HG1.out.block m H3.out.lt (fun e => HM2.out e.symm))).step (Below.heap_setCell _ _ _ _ HM.out)
        · intro i y hy
          rcases Nat.lt_or_ge i nodes.length with hlt2 | hge
          · rw [List.getElem?_append_left hlt2] at hy
            obtain ⟨sz2, hsz2⟩ := H5.out i y hy
            exact ⟨sz2, by rw [List.getElem?_append_left (by rw [H4.out]; exact hlt2)]; exact hsz2⟩
          · have hi : i = nodes.length := by
              have := (List.getElem?_eq_some_iff.1 hy).1
              simp at this
              omega
            subst hi
            simp at hy
            subst hy
            exact ⟨z, by rw [List.getElem?_append_right (by rw [H4.out]; exact Nat.le_refl _), H4.out]; simp⟩
        · rintro k (hk | ⟨_, hk⟩ | hk)
          · have h1 := H10.out k hk
            have h2 := HBL.out.size
            have h3 := HG1.out.size
            simp only [World.setCell, Array.size_modify]
            omega
          · have h1 := HB.out.size
            have h2 := HBL.out.size
            have h3 := HG1.out.size
            simp only [World.setCell, Array.size_modify]
            omega
          · have := (HO1.out.base_le k hk).2
            simp only [World.setCell, Array.size_modify]
            omega
        · exact (((Chg.of_below HB.out).thenBelow HBL.out).grown HG1.out (fun k hk => .inl (H8.out k hk))).setCell (.inl H6.out) _
        · rintro k (hk | hk | hk)
          · exact .inl hk
          · exact .inr (.inl hk.1)
          · rcases HV1.out with e | e
            · exact .inl (H8.out k (by rw [← e]; exact hk))
            · rw [e] at hk; injection hk with hk
              have h1 := HB.out.size
              have h2 := HBL.out.size
              exact .inr (.inr (by omega)))
end Go.Proofs.YtdppkdjgadiinaaGreat
