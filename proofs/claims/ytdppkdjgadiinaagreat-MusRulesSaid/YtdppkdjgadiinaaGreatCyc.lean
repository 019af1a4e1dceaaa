/- Package cycle: a walker, its machine, a class is begun. -/
import Derived.Test.YtdppkdjgadiinaaGreatParts
set_option linter.unusedVariables false
set_option linter.unusedSimpArgs false
namespace Go.Proofs.YtdppkdjgadiinaaGreat
open Go.RowKit

def tick64 (n : Int) : Int := wrap64 (n + 1)
/-- A walker: how far classes are gone through; the classes that are being gone through, the last one first, each with its next part; steps; whether a loop was met. -/
structure Wk where
  st : List (Int × Int)
  stack : List (Nat × Nat)
  steps : Int
  bad : Bool
def Wk.at (x : Wk) (r : Nat) : Int := (mget x.st r).getD 0
/-- One step of the walk: the next part of the last class, or its end. -/
def Wk.step (P : Nat → List Nat) (x : Wk) : Wk :=
  match x.stack with
  | [] => x
  | (r, j) :: rest =>
    match (P r)[j]? with
    | some q =>
      if x.at q = 0 then ⟨mput x.st q 1, (q, 0) :: (r, j + 1) :: rest, tick64 (tick64 (tick64 x.steps)), x.bad⟩
      else if x.at q = 1 then ⟨x.st, (r, j + 1) :: rest, tick64 x.steps, true⟩
      else ⟨x.st, (r, j + 1) :: rest, tick64 x.steps, x.bad⟩
    | none => ⟨mput x.st r 2, rest, if rest = [] then x.steps else tick64 x.steps, x.bad⟩
def Wk.steps_ (P : Nat → List Nat) : Nat → Wk → Wk
  | 0, x => x
  | n + 1, x => Wk.steps_ P n (x.step P)
theorem Wk.steps_add (P : Nat → List Nat) : ∀ (n m : Nat) (x : Wk), Wk.steps_ P (n + m) x = Wk.steps_ P m (Wk.steps_ P n x)
  | 0, m, x => by rw [Nat.zero_add]; rfl
  | n + 1, m, x => by rw [show n + 1 + m = (n + m) + 1 by omega, Wk.steps_, Wk.steps_add P n m, Wk.steps_]
theorem Wk.steps_succ (P : Nat → List Nat) (n : Nat) (x : Wk) : Wk.steps_ P (n + 1) x = (Wk.steps_ P n x).step P := Wk.steps_add P n 1 x
theorem Wk.step_nil (P : Nat → List Nat) {x : Wk} (h : x.stack = []) : x.step P = x := by unfold Wk.step; rw [h]
theorem Wk.steps_nil (P : Nat → List Nat) : ∀ (n : Nat) {x : Wk}, x.stack = [] → Wk.steps_ P n x = x
  | 0, x, h => rfl
  | n + 1, x, h => by rw [Wk.steps_, Wk.step_nil P h, Wk.steps_nil P n h]
/-- It comes to its end. -/
def Wk.Ends (P : Nat → List Nat) (x : Wk) : Prop := ∃ n, (Wk.steps_ P n x).stack = []
open Classical in
noncomputable def Wk.finish (P : Nat → List Nat) (x : Wk) : Wk := if h : x.Ends P then Wk.steps_ P (Classical.choose h) x else x
theorem Wk.finish_is {P : Nat → List Nat} {x : Wk} {n : Nat} (h : (Wk.steps_ P n x).stack = []) : x.finish P = Wk.steps_ P n x := by
  have hx : x.Ends P := ⟨n, h⟩
  unfold Wk.finish
  rw [dif_pos hx]
  have hc := Classical.choose_spec hx
  rcases Nat.le_total n (Classical.choose hx) with e | e
  · obtain ⟨d, hd⟩ := Nat.exists_eq_add_of_le e
    rw [hd, Wk.steps_add, Wk.steps_nil P d h]
  · obtain ⟨d, hd⟩ := Nat.exists_eq_add_of_le e
    have h2 := Wk.steps_add P (Classical.choose hx) d x
    rw [← hd, Wk.steps_nil P d hc] at h2
    exact h2.symm
/-- A class is gone through. -/
def Wk.enter (x : Wk) (r : Nat) : Wk := ⟨mput x.st r 1, [(r, 0)], tick64 (tick64 x.steps), x.bad⟩
noncomputable def Wk.goes (P : Nat → List Nat) (x : Wk) (r : Nat) : Wk := if x.at r = 0 then (x.enter r).finish P else x

/-! ### in memory -/
structure WkP (w : World) (wk m0 m1 m2 m3 : Nat) (st : List (Int × Int)) (steps : Int) (bad : Bool) : Prop where
  blk : Blk w wk 109 [.map (some m0), .map (some m1), .map (some m2), .map (some m3), .int .i64 steps, .bool bad]
  a0 : MapAt (Value.int .i64) w m0 st
  a1 : ∃ l, MapAt Value.bool w m1 l
  a2 : ∃ l, MapAt (Value.int .i64) w m2 l
  a3 : ∃ l, MapAt (Value.int .i64) w m3 l
  n01 : m0 ≠ m1
  n02 : m0 ≠ m2
  n03 : m0 ≠ m3
  n12 : m1 ≠ m2
  n13 : m1 ≠ m3
  n23 : m2 ≠ m3
def wkF (wk m0 m1 m2 m3 : Nat) (k : Nat) : Prop := k = wk ∨ k = m0 ∨ k = m1 ∨ k = m2 ∨ k = m3
section
variable {w w' : World} {wk m0 m1 m2 m3 : Nat} {st : List (Int × Int)} {steps : Int} {bad : Bool}
theorem WkP.lt (h : WkP w wk m0 m1 m2 m3 st steps bad) (k : Nat) (hk : wkF wk m0 m1 m2 m3 k) : k < w.heap.size := by
  obtain ⟨l1, h1⟩ := h.a1
  obtain ⟨l2, h2⟩ := h.a2
  obtain ⟨l3, h3⟩ := h.a3
  rcases hk with rfl | rfl | rfl | rfl | rfl
  · exact h.blk.lt
  · exact h.a0.lt
  · exact h1.lt
  · exact h2.lt
  · exact h3.lt
theorem WkP.step (h : WkP w wk m0 m1 m2 m3 st steps bad) (hs : ∀ k, wkF wk m0 m1 m2 m3 k → w'.heap[k]? = w.heap[k]?) : WkP w' wk m0 m1 m2 m3 st steps bad := by
  obtain ⟨l1, h1⟩ := h.a1
  obtain ⟨l2, h2⟩ := h.a2
  obtain ⟨l3, h3⟩ := h.a3
  exact ⟨(hs wk (.inl rfl)).trans h.blk, h.a0.step (hs m0 (.inr (.inl rfl))), ⟨l1, h1.step (hs m1 (.inr (.inr (.inl rfl))))⟩, ⟨l2, h2.step (hs m2 (.inr (.inr (.inr (.inl rfl)))))⟩, ⟨l3, h3.step (hs m3 (.inr (.inr (.inr (.inr rfl)))))⟩, h.n01, h.n02, h.n03, h.n12, h.n13, h.n23⟩
theorem WkP.keep (h : WkP w wk m0 m1 m2 m3 st steps bad) (hb : Below w.heap.size w w') : WkP w' wk m0 m1 m2 m3 st steps bad := h.step (fun k hk => hb.block k (h.lt k hk))
theorem WkP.chg {F : Nat → Prop} (h : WkP w wk m0 m1 m2 m3 st steps bad) (hc : Chg F w w') (hF : ∀ k, wkF wk m0 m1 m2 m3 k → ¬ F k) : WkP w' wk m0 m1 m2 m3 st steps bad := h.step (fun k hk => hc.block k (h.lt k hk) (hF k hk))
theorem WkP.ne (h : WkP w wk m0 m1 m2 m3 st steps bad) : wk ≠ m0 ∧ wk ≠ m1 ∧ wk ≠ m2 ∧ wk ≠ m3 := by
  obtain ⟨l1, h1⟩ := h.a1
  obtain ⟨l2, h2⟩ := h.a2
  obtain ⟨l3, h3⟩ := h.a3
  exact ⟨fun e => h.a0.ne_blk h.blk e.symm, fun e => h1.ne_blk h.blk e.symm, fun e => h2.ne_blk h.blk e.symm, fun e => h3.ne_blk h.blk e.symm⟩
theorem WkP.set4 (h : WkP w wk m0 m1 m2 m3 st steps bad) (n : Int) : WkP (w.setCell ⟨wk, 4, none⟩ (.int .i64 n)) wk m0 m1 m2 m3 st n bad := by
  obtain ⟨l1, h1⟩ := h.a1
  obtain ⟨l2, h2⟩ := h.a2
  obtain ⟨l3, h3⟩ := h.a3
  obtain ⟨e0, e1, e2, e3⟩ := h.ne
  exact ⟨h.blk.set_ 4 _, h.a0.step (Below.heap_setCell _ _ _ _ e0.symm), ⟨l1, h1.step (Below.heap_setCell _ _ _ _ e1.symm)⟩, ⟨l2, h2.step (Below.heap_setCell _ _ _ _ e2.symm)⟩, ⟨l3, h3.step (Below.heap_setCell _ _ _ _ e3.symm)⟩, h.n01, h.n02, h.n03, h.n12, h.n13, h.n23⟩
theorem WkP.set5 (h : WkP w wk m0 m1 m2 m3 st steps bad) (b : Bool) : WkP (w.setCell ⟨wk, 5, none⟩ (.bool b)) wk m0 m1 m2 m3 st steps b := by
  obtain ⟨l1, h1⟩ := h.a1
  obtain ⟨l2, h2⟩ := h.a2
  obtain ⟨l3, h3⟩ := h.a3
  obtain ⟨e0, e1, e2, e3⟩ := h.ne
  exact ⟨h.blk.set_ 5 _, h.a0.step (Below.heap_setCell _ _ _ _ e0.symm), ⟨l1, h1.step (Below.heap_setCell _ _ _ _ e1.symm)⟩, ⟨l2, h2.step (Below.heap_setCell _ _ _ _ e2.symm)⟩, ⟨l3, h3.step (Below.heap_setCell _ _ _ _ e3.symm)⟩, h.n01, h.n02, h.n03, h.n12, h.n13, h.n23⟩
theorem WkP.put0 (h : WkP w wk m0 m1 m2 m3 st steps bad) {l : List (Int × Int)} (hc : Chg (fun k => k = m0) w w') (hm : MapAt (Value.int .i64) w' m0 l) : WkP w' wk m0 m1 m2 m3 l steps bad := by
  obtain ⟨l1, h1⟩ := h.a1
  obtain ⟨l2, h2⟩ := h.a2
  obtain ⟨l3, h3⟩ := h.a3
  obtain ⟨e0, e1, e2, e3⟩ := h.ne
  exact ⟨(hc.block _ h.blk.lt e0).trans h.blk, hm, ⟨l1, h1.step (hc.block _ h1.lt (Ne.symm h.n01))⟩, ⟨l2, h2.step (hc.block _ h2.lt (Ne.symm h.n02))⟩, ⟨l3, h3.step (hc.block _ h3.lt (Ne.symm h.n03))⟩, h.n01, h.n02, h.n03, h.n12, h.n13, h.n23⟩
theorem WkP.put1 (h : WkP w wk m0 m1 m2 m3 st steps bad) {l : List (Int × Bool)} (hc : Chg (fun k => k = m1) w w') (hm : MapAt Value.bool w' m1 l) : WkP w' wk m0 m1 m2 m3 st steps bad := by
  obtain ⟨l1, h1⟩ := h.a1
  obtain ⟨l2, h2⟩ := h.a2
  obtain ⟨l3, h3⟩ := h.a3
  obtain ⟨e0, e1, e2, e3⟩ := h.ne
  exact ⟨(hc.block _ h.blk.lt e1).trans h.blk, h.a0.step (hc.block _ h.a0.lt h.n01), ⟨l, hm⟩, ⟨l2, h2.step (hc.block _ h2.lt (Ne.symm h.n12))⟩, ⟨l3, h3.step (hc.block _ h3.lt (Ne.symm h.n13))⟩, h.n01, h.n02, h.n03, h.n12, h.n13, h.n23⟩
theorem WkP.put2 (h : WkP w wk m0 m1 m2 m3 st steps bad) {l : List (Int × Int)} (hc : Chg (fun k => k = m2) w w') (hm : MapAt (Value.int .i64) w' m2 l) : WkP w' wk m0 m1 m2 m3 st steps bad := by
  obtain ⟨l1, h1⟩ := h.a1
  obtain ⟨l2, h2⟩ := h.a2
  obtain ⟨l3, h3⟩ := h.a3
  obtain ⟨e0, e1, e2, e3⟩ := h.ne
  exact ⟨(hc.block _ h.blk.lt e2).trans h.blk, h.a0.step (hc.block _ h.a0.lt h.n02), ⟨l1, h1.step (hc.block _ h1.lt h.n12)⟩, ⟨l, hm⟩, ⟨l3, h3.step (hc.block _ h3.lt (Ne.symm h.n23))⟩, h.n01, h.n02, h.n03, h.n12, h.n13, h.n23⟩
theorem WkP.put3 (h : WkP w wk m0 m1 m2 m3 st steps bad) {l : List (Int × Int)} (hc : Chg (fun k => k = m3) w w') (hm : MapAt (Value.int .i64) w' m3 l) : WkP w' wk m0 m1 m2 m3 st steps bad := by
  obtain ⟨l1, h1⟩ := h.a1
  obtain ⟨l2, h2⟩ := h.a2
  obtain ⟨l3, h3⟩ := h.a3
  obtain ⟨e0, e1, e2, e3⟩ := h.ne
  exact ⟨(hc.block _ h.blk.lt e3).trans h.blk, h.a0.step (hc.block _ h.a0.lt h.n03), ⟨l1, h1.step (hc.block _ h1.lt h.n13)⟩, ⟨l2, h2.step (hc.block _ h2.lt h.n23)⟩, ⟨l, hm⟩, h.n01, h.n02, h.n03, h.n12, h.n13, h.n23⟩
end
theorem zero_bool (w : World) : (zeroValue 4).run Tryz.prog w = .ok (.bool false) w := by kernel_rfl
theorem zero_state (w : World) : (zeroValue 152).run Tryz.prog w = .ok (.int .i64 0) w := by kernel_rfl
end Go.Proofs.YtdppkdjgadiinaaGreat
