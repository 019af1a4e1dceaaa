/- Package term: the terms of a term without parts: there is one. -/
import Derived.Test.YtkfdhmeipnfhpaaGreatDoorScope
import Derived.RangeFuncNested
import Derived.RangeFuncBound
import Derived.RangeFuncCalls
import Derived.RangeFuncBox
import Derived.RangeFuncFrom
import Derived.RangeFuncWrites
import Derived.RangeFuncLeaves
import Derived.RangeFuncKeeps
import Derived.Shelf.Abstract
import Derived.WalkKit
import Derived.OwnWalkIn
import Derived.TacticsInMore
import Derived.LoopNIn
import Derived.LoopIn
import Derived.Maps.AppendAt
import Derived.Laws.EntriesVeiled
set_option linter.unusedVariables false
set_option linter.unusedSimpArgs false
namespace Go.Proofs
open Go.RowKit Go.Shelf
attribute [local go_sem] Oper.semAt_some
namespace YtkfdhmeipnfhpaaGreatDoor

theorem roomOfNone {F : Fence} (hd : F.depth = none) (k : Nat) : F.room k := fun d h => by rw [hd] at h; cases h
theorem RoundIn.anyD {F : Fence} (hd : F.depth = none) {m m' : Nat} {P : Program} {l : Nat} {f : FuncId} {tmps : Array Value} {assign body : Code} {w : World} {R : Ending → World → Prop}
    (h : RoundIn F m P l f tmps assign body w R) : RoundIn F m' P l f tmps assign body w R := ⟨h.1, fun c cs _ => h.2 c cs (roomOfNone hd _)⟩
theorem YieldAt.anyD {F : Fence} (hd : F.depth = none) {m : Nat} (m' : Nat) {P : Program} {l : Nat} {args : Array Value} {W : World} {R : Ending → World → Prop} (h : YieldAt F m P l args W R) : YieldAt F m' P l args W R := by
  obtain ⟨fn, tmps, assign, body, hy, hR⟩ := h
  exact ⟨fn, tmps, assign, body, hy, RoundIn.anyD hd hR⟩
/-- Of cells everything lies as it lay. -/
def CKeep (W W' : World) : Prop := ∀ (k : Nat) (o : Obj), W.heap[k]? = some o → o.isCells = true → W'.heap[k]? = some o
theorem ckeep_t {A B C : World} (h : CKeep A B) (k : CKeep B C) : CKeep A C := fun i o hi ho => k i o (h i o hi ho) ho
theorem ckeep_b {w : World} (W : World) (l : Nat) (o o' : Obj) (_ : w.heap.size ≤ l) (h : W.heap[l]? = some o) (hc : o.isCells = false) (_ : o.isWalk = false) : CKeep W (W.putObj l o') := fun k x hk hx => by
  have hne : k ≠ l := fun e => by
    subst e
    rw [h] at hk
    injection hk with hk
    rw [hk, hx] at hc
    cases hc
  rw [World.putObj_heap_other hne]
  exact hk
theorem CKeep.below {W W' : World} (h : Below W.heap.size W W') : CKeep W W' := fun k o hk _ => (h.block k (Array.getElem?_eq_some_iff.1 hk).1).trans hk
theorem CKeep.blk {W W' : World} {g : Nat} {t : TypeId} {cs : List Value} (h : CKeep W W') (hb : Blk W g t cs) : Blk W' g t cs := h g _ hb rfl
set_option maxRecDepth 100000 in
set_option maxHeartbeats 2000000 in
theorem all11_in (m : Nat) (l cn yb wb : Nat) (k : Int) (nm : ByteArray) (num a b : Int) (J Jx : List Unit → World → Prop) (V : World) (hcn : Blk V cn 3 [.int .i64 0]) (hyb : Blk V yb 215 [.func (.yield l) #[] #[]])
    (hy : YieldAt Fence.wide (m - 1) Tryz.prog l #[.int .i64 0, .agg #[.int .i64 k, .string nm, .int .i64 num, .int .i64 0, .int .i64 0, .slice none 0 0, .slice none 0 0, .int .i64 a, .int .i64 b]] ((V.alloc (.cells #[.int .i64 k, .string nm, .int .i64 num, .int .i64 0, .int .i64 0, .slice none 0 0, .slice none 0 0, .int .i64 a, .int .i64 b] 68)).setCell ⟨cn, 0, none⟩ (.int .i64 1)) fun e W' =>
      (e = .returned (.bool true) ∧ J [()] W' ∧ CKeep ((V.alloc (.cells #[.int .i64 k, .string nm, .int .i64 num, .int .i64 0, .int .i64 0, .slice none 0 0, .slice none 0 0, .int .i64 a, .int .i64 b] 68)).setCell ⟨cn, 0, none⟩ (.int .i64 1)) W') ∨ (e = .returned (.bool false) ∧ Jx [()] W')) :
    CallsIn Fence.wide m Tryz.prog 157 #[.agg #[.int .i64 k, .string nm, .int .i64 num, .int .i64 0, .int .i64 0, .slice none 0 0, .slice none 0 0, .int .i64 a, .int .i64 b], .pointer (some ⟨cn, 0, none⟩), .pointer (some ⟨yb, 0, none⟩), .pointer (some ⟨wb, 0, none⟩)] V fun e W' =>
      (e = .returned (.bool true) ∧ J [()] W') ∨ (e = .returned (.bool false) ∧ Jx [()] W') := by
  obtain ⟨V1, hV1⟩ : ∃ V1, (V.alloc (.cells #[.int .i64 k, .string nm, .int .i64 num, .int .i64 0, .int .i64 0, .slice none 0 0, .slice none 0 0, .int .i64 a, .int .i64 b] 68)).setCell ⟨cn, 0, none⟩ (.int .i64 1) = V1 := ⟨_, rfl⟩
  have hV : Blk V1 V.heap.size 68 [.int .i64 k, .string nm, .int .i64 num, .int .i64 0, .int .i64 0, .slice none 0 0, .slice none 0 0, .int .i64 a, .int .i64 b] := by rw [← hV1]; exact (Blk.new _ _ _).far (by have := hcn.lt; simp; omega) _
  have hyb1 : Blk V1 yb 215 [.func (.yield l) #[] #[]] := by
    rw [← hV1]
    exact (hyb.alloc _).far (fun e => by simp only at e; subst e; unfold Blk at hcn hyb; rw [hcn] at hyb; simp at hyb) _
  have hcn1 : Blk V1 cn 3 [.int .i64 1] := by rw [← hV1]; exact (hcn.alloc _).set_ 0 _
  have hcA : (V.alloc (.cells #[.int .i64 k, .string nm, .int .i64 num, .int .i64 0, .int .i64 0, .slice none 0 0, .slice none 0 0, .int .i64 a, .int .i64 b] 68)).cell? ⟨cn, 0, none⟩ = some (.int .i64 0) := (hcn.alloc _).cell 0
  have hfA : (V.alloc (.cells #[.int .i64 k, .string nm, .int .i64 num, .int .i64 0, .int .i64 0, .slice none 0 0, .slice none 0 0, .int .i64 a, .int .i64 b] 68)).frozen? ⟨cn, 0, none⟩ = false := (hcn.alloc _).frozen 0
  have HV := Sh.mk hV
  rw [hV1] at hy
  have HYI := Sh.mk hy
  have c0 := (hcn1).cell 0
  simp only [List.getElem?_cons_zero, List.getElem?_cons_succ] at c0
  have y0 := (hyb1).cell 0
  simp only [List.getElem?_cons_zero, List.getElem?_cons_succ] at y0
  have v0 := (hV).cell 0
  have v1 := (hV).cell 1
  have v2 := (hV).cell 2
  have v3 := (hV).cell 3
  have v4 := (hV).cell 4
  have v5 := (hV).cell 5
  have v6 := (hV).cell 6
  have v7 := (hV).cell 7
  have v8 := (hV).cell 8
  simp only [List.getElem?_cons_zero, List.getElem?_cons_succ] at v0 v1 v2 v3 v4 v5 v6 v7 v8
  clear hV hcn hyb hyb1 hcn1 hy
  refine callsIn_of_wp Tryz.func157 rfl trivial ?_ rfl
  simp only [Tryz.ntmps157, List.size_toArray, List.length_cons, List.length_nil, Nat.reduceAdd, Nat.reduceSub, Array.replicate_succ, Array.replicate_zero, List.push_toArray, List.append_toArray, List.nil_append, List.cons_append]
  have HY2 : YieldAt Fence.wide (m - 1) Tryz.prog l #[.int .i64 0, .agg #[.int .i64 k, .string nm, .int .i64 num, .int .i64 0, .int .i64 0, .slice none 0 0, .slice none 0 0, .int .i64 a, .int .i64 b]] V1 fun e W' => (e = .returned (.bool true) ∧ J [()] W' ∧ W'.cell? ⟨V.heap.size, 6, none⟩ = some (.slice none 0 0)) ∨ (e = .returned (.bool false) ∧ Jx [()] W') :=
    YieldAt.mono HYI.out fun e W2 h => h.elim (fun ⟨h1, h2, h3⟩ => .inl ⟨h1, h2, (h3.blk HV.out).cell 6⟩) .inr
  obtain ⟨fn, tmps, assign, body, hy, hR⟩ := HY2
  clear HYI
  have hdd : ∀ k : Nat, (Fence.wide.depth.isSome = true → 1 ≤ k) := fun k h => by cases h
  gi_wp2_with (first | ((try refine ⟨hdd _, ?_⟩); refine hR.mono ?_; clear hR hy; rintro e W2 (⟨rfl, hJ2, hv2⟩ | ⟨rfl, hx2⟩)))
  · gi_loopw [19] (fun v wr => v = .int .i64 0 ∧ wr = W2) (fun _ _ => 0)
    case atStart => exact ⟨rfl, rfl⟩
    case round =>
      obtain ⟨rfl, rfl⟩ := hrel
      gi_wp2
      go_ret
      exact .inl ⟨rfl, hJ2⟩
  · go_ret
    exact .inr ⟨rfl, hx2⟩
set_option maxRecDepth 100000 in
set_option maxHeartbeats 2000000 in
theorem all1_in (n : Nat) (hn : 2 ≤ n) (l Bt : Nat) (k : Int) (nm : ByteArray) (num a b : Int) (J Jx : List Unit → World → Prop) (W : World) (hJa : AbidesFrom W.heap.size J)
    (hY : ∀ pre (x : Unit) W1, J pre W1 → pre.length < 1 → YieldAt Fence.wide (n - 1) Tryz.prog l #[.int .i64 0, .agg #[.int .i64 k, .string nm, .int .i64 num, .int .i64 0, .int .i64 0, .slice none 0 0, .slice none 0 0, .int .i64 a, .int .i64 b]] W1 fun e W' =>
      (e = .returned (.bool true) ∧ J (pre ++ [x]) W' ∧ CKeep W1 W') ∨ (e = .returned (.bool false) ∧ Jx (pre ++ [x]) W'))
    (hBt : Blk W Bt 68 [.int .i64 k, .string nm, .int .i64 num, .int .i64 0, .int .i64 0, .slice none 0 0, .slice none 0 0, .int .i64 a, .int .i64 b]) (h0 : J [] W) :
    CallsIn Fence.wide n Tryz.prog 156 #[.func (.yield l) #[] #[], .pointer (some ⟨Bt, 0, none⟩)] W fun e W' => (∃ v, e = .returned v) ∧
      ((∃ ys, ys = [()] ∧ J ys W') ∨ (∃ pre, pre = [()] ∧ Jx pre W')) := by
  have HB := Sh.mk hBt
  have HY := Sh.mk hY
  have t0 := (hBt).cell 0
  have t1 := (hBt).cell 1
  have t2 := (hBt).cell 2
  have t3 := (hBt).cell 3
  have t4 := (hBt).cell 4
  have t5 := (hBt).cell 5
  have t6 := (hBt).cell 6
  have t7 := (hBt).cell 7
  have t8 := (hBt).cell 8
  simp only [List.getElem?_cons_zero, List.getElem?_cons_succ] at t0 t1 t2 t3 t4 t5 t6 t7 t8
  have hlt := hBt.lt
  have hB3 : Blk (((W.alloc (.cells #[.func (.yield l) #[] #[]] 215)).alloc (.cells #[.int .i64 0] 3)).alloc (.cells #[.func (.func 157) #[] #[.pointer (some ⟨W.heap.size + 1, 0, none⟩), .pointer (some ⟨W.heap.size, 0, none⟩), .pointer (some ⟨W.heap.size + 1 + 1, 0, none⟩)]] 125)) Bt 68 [.int .i64 k, .string nm, .int .i64 num, .int .i64 0, .int .i64 0, .slice none 0 0, .slice none 0 0, .int .i64 a, .int .i64 b] := ((hBt.alloc _).alloc _).alloc _
  have u0 := (hB3).cell 0
  have u1 := (hB3).cell 1
  have u2 := (hB3).cell 2
  have u3 := (hB3).cell 3
  have u4 := (hB3).cell 4
  have u5 := (hB3).cell 5
  have u6 := (hB3).cell 6
  have u7 := (hB3).cell 7
  have u8 := (hB3).cell 8
  simp only [List.getElem?_cons_zero, List.getElem?_cons_succ] at u0 u1 u2 u3 u4 u5 u6 u7 u8
  clear hBt hY hB3
  refine callsIn_of_wp Tryz.func156 rfl trivial ?_ rfl
  simp only [Tryz.ntmps156, List.size_toArray, List.length_cons, List.length_nil, Nat.reduceAdd, Nat.reduceSub, Array.replicate_succ, Array.replicate_zero, List.push_toArray, List.append_toArray, List.nil_append, List.cons_append]
  have hdd : ∀ k : Nat, (Fence.wide.depth.isSome = true → 1 ≤ k) := fun k h => by cases h
  obtain ⟨V, hV⟩ : ∃ V, (((W.alloc (.cells #[.func (.yield l) #[] #[]] 215)).alloc (.cells #[.int .i64 0] 3)).alloc (.cells #[.func (.func 157) #[] #[.pointer (some ⟨W.heap.size + 1, 0, none⟩), .pointer (some ⟨W.heap.size, 0, none⟩), .pointer (some ⟨W.heap.size + 1 + 1, 0, none⟩)]] 125)) = V := ⟨_, rfl⟩
  have hVc : Blk V (W.heap.size + 1) 3 [.int .i64 0] := by rw [← hV]; exact (Blk.new' _ _ _ (by simp)).alloc _
  have hVy : Blk V W.heap.size 215 [.func (.yield l) #[] #[]] := by rw [← hV]; exact ((Blk.new _ _ _).alloc _).alloc _
  have hVw : Blk V (W.heap.size + 1 + 1) 125 [.func (.func 157) #[] #[.pointer (some ⟨W.heap.size + 1, 0, none⟩), .pointer (some ⟨W.heap.size, 0, none⟩), .pointer (some ⟨W.heap.size + 1 + 1, 0, none⟩)]] := by rw [← hV]; exact Blk.new' _ _ _ (by simp)
  have q0 := (hVw).cell 0
  simp only [List.getElem?_cons_zero, List.getElem?_cons_succ] at q0
  have hVB : Below W.heap.size W V := by rw [← hV]; exact (((Below.refl _ _).alloc (Nat.le_refl _) _).alloc (by simp) _).alloc (by simp; omega) _
  have hV1B : Below W.heap.size W ((V.alloc (.cells #[.int .i64 k, .string nm, .int .i64 num, .int .i64 0, .int .i64 0, .slice none 0 0, .slice none 0 0, .int .i64 a, .int .i64 b] 68)).setCell ⟨W.heap.size + 1, 0, none⟩ (.int .i64 1)) := (hVB.alloc hVB.size _).setCell (p := ⟨W.heap.size + 1, 0, none⟩) (by simp) _
  have hJ1 : J [] ((V.alloc (.cells #[.int .i64 k, .string nm, .int .i64 num, .int .i64 0, .int .i64 0, .slice none 0 0, .slice none 0 0, .int .i64 a, .int .i64 b] 68)).setCell ⟨W.heap.size + 1, 0, none⟩ (.int .i64 1)) := hJa [] W _ none h0 ⟨hV1B.os, hV1B.tape, hV1B.output, hV1B.size, fun k hk _ => hV1B.block k hk⟩ (fun r e => by cases e)
  have HC := Sh.mk (all11_in (n - 1) l (W.heap.size + 1) W.heap.size (W.heap.size + 1 + 1) k nm num a b J Jx V hVc hVy (YieldAt.anyD rfl _ (HY.out [] () _ hJ1 (by decide))))
  rw [hV] at u0 u1 u2 u3 u4 u5 u6 u7 u8
  clear hVw hVc hVy hVB hV1B hJ1 HY
  gi_wp2_with (first | (refine ⟨trivial, ?_⟩; refine ⟨hdd _, ?_⟩; gi_at_call 157; refine HC.out.mono ?_; rintro e W2 (⟨rfl, hJ2⟩ | ⟨rfl, hx2⟩)))
  · go_end0
    exact ⟨⟨_, rfl⟩, .inl ⟨_, rfl, hJ2⟩⟩
  · go_end0
    exact ⟨⟨_, rfl⟩, .inr ⟨_, rfl, hx2⟩⟩
end YtkfdhmeipnfhpaaGreatDoor
end Go.Proofs
