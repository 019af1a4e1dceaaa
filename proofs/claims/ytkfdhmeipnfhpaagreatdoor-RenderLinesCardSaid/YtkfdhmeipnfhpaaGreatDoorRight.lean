/- Package term: a term without parts is right, if it is plain. -/
import Derived.Test.YtkfdhmeipnfhpaaGreatDoorAll
set_option linter.unusedVariables false
set_option linter.unusedSimpArgs false
namespace Go.Proofs
open Go.RowKit Go.Shelf
attribute [local go_sem] Oper.semAt_some
namespace YtkfdhmeipnfhpaaGreatDoor

theorem all_stops (n : Nat) (hn : 2 ≤ n) (Bt : Nat) (k : Int) (nm : ByteArray) (num a b : Int) (w : World) (hBt : Blk w Bt 68 [.int .i64 k, .string nm, .int .i64 num, .int .i64 0, .int .i64 0, .slice none 0 0, .slice none 0 0, .int .i64 a, .int .i64 b]) :
    SeqStopsK Fence.wide n Tryz.prog 156 #[.pointer (some ⟨Bt, 0, none⟩)] (fun _ : Unit => #[Value.int .i64 0, .agg #[.int .i64 k, .string nm, .int .i64 num, .int .i64 0, .int .i64 0, .slice none 0 0, .slice none 0 0, .int .i64 a, .int .i64 b]]) CKeep (fun ys => ys = [()]) (fun pre => pre = [()]) 1 w := fun l J Jx W hW hJ hJx hY h0 =>
  all1_in n hn l Bt k nm num a b J Jx W hJ hY (hBt.keep hW) h0
theorem All_in (n : Nat) (k : Int) (nm : ByteArray) (num a b : Int) (w : World) :
    CallsIn Fence.wide n Tryz.prog 108 #[.agg #[.int .i64 k, .string nm, .int .i64 num, .int .i64 0, .int .i64 0, .slice none 0 0, .slice none 0 0, .int .i64 a, .int .i64 b]] w fun e w' => e = .returned (.func (.func 156) #[] #[.pointer (some ⟨w.heap.size, 0, none⟩)]) ∧ w' = w.alloc (.cells #[.int .i64 k, .string nm, .int .i64 num, .int .i64 0, .int .i64 0, .slice none 0 0, .slice none 0 0, .int .i64 a, .int .i64 b] 68) := by
  refine callsIn_of_wp Tryz.func108 rfl trivial ?_ rfl
  simp only [Tryz.ntmps108, List.size_toArray, List.length_cons, List.length_nil, Nat.reduceAdd, Nat.reduceSub, Array.replicate_succ, Array.replicate_zero, List.push_toArray, List.append_toArray, List.nil_append, List.cons_append]
  gi_wp2
  go_ret
  exact ⟨rfl, rfl⟩
theorem blk_from {β : Type} (B g : Nat) (t : TypeId) (cs : List Value) : OwnFrom B (fun (_ : β) W => Blk W g t cs) := fun _ W W' row h hg hr => by
  refine (hg.block g h.lt (fun e => ?_)).trans h
  obtain ⟨_, o, ho, hc⟩ := hr g e.symm
  unfold Blk at h
  rw [h] at ho
  injection ho with ho
  subst ho
  cases hc
set_option maxRecDepth 100000 in
set_option maxHeartbeats 2000000 in
theorem Right_run (n : Nat) (hn : 5 ≤ n) (k : Int) (nm : ByteArray) (num a b : Int) (hp : ∀ W, Gl W → Calls Tryz.prog 109 #[.agg #[.int .i64 k, .string nm, .int .i64 num, .int .i64 0, .int .i64 0, .slice none 0 0, .slice none 0 0, .int .i64 a, .int .i64 b]] W fun e W' => e = .returned (.bool true) ∧ Below W.heap.size W W') (w : World) (hG : Gl w) :
    CallsIn Fence.wide n Tryz.prog 86 #[.agg #[.int .i64 k, .string nm, .int .i64 num, .int .i64 0, .int .i64 0, .slice none 0 0, .slice none 0 0, .int .i64 a, .int .i64 b]] w fun e W' => e = .returned (.bool true) ∧ Below w.heap.size w W' := by
  have h1 : 1 ≤ n := by omega
  have HP := Sh.mk hp
  have HG := Sh.mk hG
  clear hp hG
  have hro : Fence.wide.round = none := rfl
  have hdd : ∀ k : Nat, (Fence.wide.depth.isSome = true → 1 ≤ k) := fun k h => by cases h
  refine callsIn_of_wp_marks Tryz.func86 rfl trivial ?_ hro
  simp only [Tryz.ntmps86, List.size_toArray, List.length_cons, List.length_nil, Nat.reduceAdd, Nat.reduceSub, Array.replicate_succ, Array.replicate_zero, List.push_toArray, List.append_toArray, List.nil_append, List.cons_append]
  gi_wp2_with (first | (refine ⟨trivial, ?_⟩; gi_at_call 108; refine (All_in (n - 1) k nm num a b _).mono ?_; rintro e w' ⟨rfl, rfl⟩))
  obtain ⟨W0, hW0⟩ : ∃ W0, ((w.alloc (.cells #[.int .i64 k, .string nm, .int .i64 num, .int .i64 0, .int .i64 0, .slice none 0 0, .slice none 0 0, .int .i64 a, .int .i64 b] 68)).alloc (.cells #[.bool false] 4)).alloc (.cells #[.int .i64 k, .string nm, .int .i64 num, .int .i64 0, .int .i64 0, .slice none 0 0, .slice none 0 0, .int .i64 a, .int .i64 b] 68) = W0 := ⟨_, rfl⟩
  have hsz : W0.heap.size = w.heap.size + 3 := by rw [← hW0]; simp
  have hB0 : Below w.heap.size w W0 := by rw [← hW0]; exact (((Below.refl _ _).alloc (Nat.le_refl _) _).alloc (by simp) _).alloc (by simp; omega) _
  have hR0 : Blk W0 (w.heap.size + 1) 4 [.bool false] := by rw [← hW0]; exact (Blk.new' _ _ _ (by simp)).alloc _
  have hT0 : Blk W0 (w.heap.size + 1 + 1) 68 [.int .i64 k, .string nm, .int .i64 num, .int .i64 0, .int .i64 0, .slice none 0 0, .slice none 0 0, .int .i64 a, .int .i64 b] := by rw [← hW0]; exact Blk.new' _ _ _ (by simp)
  rw [hW0]
  refine wpIn_rangeFunc_ownH hro h1 (gf := 156) (lb := #[.pointer (some ⟨w.heap.size + 1 + 1, 0, none⟩)]) rfl trivial (enters_of Tryz.func156 (by kernel_rfl) rfl)
    (all_stops (n - 1) (by omega) (w.heap.size + 1 + 1) k nm num a b W0 hT0) ckeep_t (fun W l o o' h1 h2 h3 h4 => ckeep_b W l o o' h1 h2 h3 h4) (Below.refl _ _) (fun _ => rfl)
    (fun (_ : List Unit) W => Blk W (w.heap.size + 1) 4 [.bool false] ∧ Below w.heap.size w W)
    (fun _ _ _ => False)
    (OwnFrom.and (blk_from _ _ _ _) (ownFrom_below (Nat.le_refl _) (by rw [hsz]; omega)))
    (fun _ _ _ _ _ hs _ _ => hs)
    ⟨hR0, hB0⟩
    (fun (_ : Unit) a' W => ∃ Bx, Blk W Bx 68 [.int .i64 k, .string nm, .int .i64 num, .int .i64 0, .int .i64 0, .slice none 0 0, .slice none 0 0, .int .i64 a, .int .i64 b] ∧ a' = { tmps := #[.agg #[.int .i64 k, .string nm, .int .i64 num, .int .i64 0, .int .i64 0, .slice none 0 0, .slice none 0 0, .int .i64 a, .int .i64 b], .pointer (some ⟨w.heap.size, 0, none⟩), .pointer (some ⟨w.heap.size + 1, 0, none⟩), undef, .pointer (some ⟨Bx, 0, none⟩), .agg #[.int .i64 k, .string nm, .int .i64 num, .int .i64 0, .int .i64 0, .slice none 0 0, .slice none 0 0, .int .i64 a, .int .i64 b], .func (.func 156) #[] #[.pointer (some ⟨w.heap.size + 1 + 1, 0, none⟩)], .int .i64 0, .agg #[.int .i64 k, .string nm, .int .i64 num, .int .i64 0, .int .i64 0, .slice none 0 0, .slice none 0 0, .int .i64 a, .int .i64 b], undef, undef, undef], defers := [] })
    (fun x a' s W W' row h hg hr => by
      obtain ⟨Bx, h2, h3⟩ := h
      exact ⟨Bx, blk_from _ Bx 68 _ () W W' row h2 hg hr, h3⟩) ?assign ?body ?done ?stop
  case assign =>
    rintro l pre x W K ⟨hR, hB⟩ hK
    have HK := Sh.mk hK
    clear hK hR0 hT0 hW0 hB0
    gi_wp2
    refine HK.out _ _ ((KeepsOthers.alloc _ _).from _) (CKeep.below ((Below.refl _ W).alloc (Nat.le_refl _) _)) ⟨hR.alloc _, hB.alloc hB.size _⟩ ⟨W.heap.size, Blk.new _ _ _, rfl⟩
  case body =>
    rintro l pre x a' W hl ⟨r, hr⟩ ⟨hR, hB⟩ ⟨Bx, hX, rfl⟩ hlt
    have hPl := Sh.mk (CallsIn.inRound l ((callsIn_wide (n := n - 1 - 1 - 1)).2 (HP.out W (HG.out.below hB))))
    have HX := Sh.mk hX
    have HR := Sh.mk hR
    have x0 := (hX).cell 0
    have x1 := (hX).cell 1
    have x2 := (hX).cell 2
    have x3 := (hX).cell 3
    have x4 := (hX).cell 4
    have x5 := (hX).cell 5
    have x6 := (hX).cell 6
    have x7 := (hX).cell 7
    have x8 := (hX).cell 8
    simp only [List.getElem?_cons_zero, List.getElem?_cons_succ] at x0 x1 x2 x3 x4 x5 x6 x7 x8
    clear hX hR hR0 hT0 hW0 hB0 hr
    gi_wp2_with (first | (refine ⟨trivial, hdd _, ?_⟩; refine hPl.out.mono ?_; rintro e W2 ⟨rfl, hB2⟩))
    exact ⟨(KeepsOthers.from ⟨hB2.size, fun k o hk _ => (hB2.block k (Array.getElem?_eq_some_iff.1 hk).1).trans hk⟩ _), CKeep.below hB2, ⟨HR.out.keep hB2, hB.trans (hB2.mono hB.size)⟩⟩
  case done =>
    rintro D ys W hD rfl ⟨hR, hB⟩ hK
    have hc := hR.cell 0
    have hf := hR.frozen 0
    have hne : D ≠ w.heap.size + 1 := fun e => by subst e; unfold Blk at hR; rw [hR] at hK; cases hK
    simp only [List.getElem?_cons_zero] at hc
    clear hR0 hT0 hW0 hB0
    have HK := Sh.mk hK
    have HR := Sh.mk hR
    clear hK hR
    gi_wp2
    refine ⟨by simp, .inl ⟨_, _, rfl, run_takeDeferred ((KeepsOthers.setCell _ _ _).same D _ HK.out rfl), ?_⟩⟩
    have hB3 : Below w.heap.size w ((W.setCell ⟨w.heap.size + 1, 0, none⟩ (.bool true)).putObj D (.deferred none)) := by
      have h1 := hB.setCell (p := ⟨w.heap.size + 1, 0, none⟩) (by simp) (.bool true)
      refine ⟨h1.os, h1.tape, h1.output, by simpa using h1.size, fun j hj => ?_⟩
      rw [World.putObj_heap_other (by omega)]
      exact h1.block j hj
    have hR3 : Blk ((W.setCell ⟨w.heap.size + 1, 0, none⟩ (.bool true)).putObj D (.deferred none)) (w.heap.size + 1) 4 [.bool true] := by
      have h1 : Blk (W.setCell ⟨w.heap.size + 1, 0, none⟩ (.bool true)) (w.heap.size + 1) 4 [.bool true] := HR.out.set_ 0 _
      unfold Blk at h1 ⊢
      rw [World.putObj_heap_other (by omega)]
      exact h1
    have hc3 := hR3.cell 0
    simp only [List.getElem?_cons_zero] at hc3
    refine ⟨.bool true, ?_, rfl, hB3⟩
    simp [results, go_sem, Tryz.func86, hc3]
  case stop =>
    rintro D c pre W _ _ h _
    exact h.elim
end YtkfdhmeipnfhpaaGreatDoor
end Go.Proofs
