/- Package lex: classes of bytes; runs of bytes. -/
import Derived.Test.YtkfdhmeipnfhpaaGreatDoorMem
set_option linter.unusedVariables false
set_option linter.unusedSimpArgs false
namespace Go.Proofs.YtkfdhmeipnfhpaaGreatDoor
open Go.RowKit

def smallB (c : UInt8) : Bool := decide (97 ≤ (c.toNat : Int)) && decide ((c.toNat : Int) ≤ 122)
def digitB (c : UInt8) : Bool := decide (48 ≤ (c.toNat : Int)) && decide ((c.toNat : Int) ≤ 57)
def innerB (c : UInt8) : Bool := smallB c || digitB c || ((c.toNat : Int) == 95)
def blankB (c : UInt8) : Bool := ((c.toNat : Int) == 32) || ((c.toNat : Int) == 9) || ((c.toNat : Int) == 10) || ((c.toNat : Int) == 13)
section
variable {P : Program} {ops : Array Oper} {rest : List Oper} {oi : Oper} {a : Act} {Q : Exit → Act → World → Prop} {w : World}
/-- callV, where the operation stands behind a guard that holds. -/
theorem callVg (N : Option Tmp) (hd : oi.dst = N) (hw : Region.wanted oi (yielded ops a.tmps) = true) {x : Operand} {ars : Array Operand} {ts : Array TypeId}
    (hop : oi.op = .call { callee := .value x, args := ars, argTypes := ts }) {v : Value} {g : Nat} {cap : Array Value} (hx : a.eval x = v) (hv : Fnv P v g cap) (args : List Value) (hargs : ars.toList.map a.eval = args)
    (h : Calls P g (args.toArray ++ cap) w fun e w' => ∃ v, e = .returned v ∧ wpList P ops Q rest (a.put N v) w') : wpList P ops Q (oi :: rest) a w := by
  refine wpList_step fun K hK => ?_
  rw [if_pos hw]
  obtain ⟨rfl, fn, hf, hn, hb⟩ := hv
  have he := enters hf hn hb (args.toArray ++ cap) w
  have hargs' : ars.map a.eval = args.toArray := by rw [← hargs, ← Array.toList_map, Array.toArray_toList]
  have hrun : (execOp a.eval oi).run P w = .ok (.enter g (args.toArray ++ cap)) w := by
    unfold execOp
    simp [hop, resolve, Deferred.ofValue, invoke, hx, hargs', he]
  unfold Oper.wp
  rw [hrun, Oper.upon_enter]
  refine h.mono fun e w'' hh => ?_
  obtain ⟨v, rfl, hk⟩ := hh
  subst hd
  exact hK _ _ hk
end
section
variable {P : Program} {W : World} {ops : Array Oper} {o : Oper} {a : Act} {K : Act → World → Prop} {Q : Exit → Act → World → Prop} {E : Prop}
/-- A call in a region that draws its order, by its contract: for go_region_law. -/
theorem step_call (hgd : o.guard = none) (x : Operand) (ars : Array Operand) (ts : Array TypeId) (ho : o.op = .call { callee := .value x, args := ars, argTypes := ts }) {f : FuncId} (hx : a.eval x = .func (.func f) #[] #[]) (hT : There P f)
    (args : List Value) (hargs : ars.toList.map a.eval = args) (h : Calls P f args.toArray W fun e w' => ∃ v, e = .returned v ∧ K (a.put o.dst v) w') :
    if Region.wanted o (yielded ops a.tmps) = true then Oper.wp P o a W K Q else E := by
  have hw : Region.wanted o (yielded ops a.tmps) = true := by simp [Region.wanted, hgd]
  rw [if_pos hw]
  obtain ⟨fn, hf, hn, hb⟩ := hT
  have he := enters hf hn hb args.toArray W
  have hargs' : ars.map a.eval = args.toArray := by rw [← hargs, ← Array.toList_map, Array.toArray_toList]
  have hrun : (execOp a.eval o).run P W = .ok (.enter f args.toArray) W := by
    unfold execOp
    simp [ho, resolve, Deferred.ofValue, invoke, hx, hargs', he]
  unfold Oper.wp
  rw [hrun, Oper.upon_enter]
  refine h.mono fun e w'' hh => ?_
  obtain ⟨v, rfl, hk⟩ := hh
  exact hk
end
theorem small_calls (c : UInt8) (w : World) : Calls Tryz.prog 148 #[.int .u8 c.toNat] w fun e w' => e = .returned (.bool (smallB c)) ∧ w' = w := by
  go_enter Tryz.func148, Tryz.ntmps148
  go_wp2
  all_goals (go_ret; refine ⟨?_, rfl⟩; simp only [smallB]; congr 2; (try simp [*]); (try omega))
theorem digit_calls (c : UInt8) (w : World) : Calls Tryz.prog 151 #[.int .u8 c.toNat] w fun e w' => e = .returned (.bool (digitB c)) ∧ w' = w := by
  go_enter Tryz.func151, Tryz.ntmps151
  go_wp2
  all_goals (go_ret; refine ⟨?_, rfl⟩; simp only [digitB]; congr 2; (try simp [*]); (try omega))
theorem blank_calls (c : UInt8) (w : World) : Calls Tryz.prog 145 #[.int .u8 c.toNat] w fun e w' => e = .returned (.bool (blankB c)) ∧ w' = w := by
  go_enter Tryz.func145, Tryz.ntmps145
  go_wp2
  all_goals (go_ret; refine ⟨?_, rfl⟩; simp only [blankB]; congr 2; (try simp [*]); (try omega))
theorem inner_calls (c : UInt8) (w : World) : Calls Tryz.prog 149 #[.int .u8 c.toNat] w fun e w' => e = .returned (.bool (innerB c)) ∧ w' = w := by
  have h1 : innerB c = (smallB c || digitB c || ((c.toNat : Int) == 95)) := rfl
  have H1 := Sh.mk h1
  clear h1
  generalize hs : smallB c = s at H1
  generalize hd : digitB c = d at H1
  have HS := Sh.mk hs
  have HD := Sh.mk hd
  clear hs hd
  go_enter Tryz.func149, Tryz.ntmps149
  cases s <;> cases d
  all_goals
    go_wp2_with (first
      | (go_at_call 148; refine (small_calls c _).mono ?_; rw [HS.out]; rintro e w1 ⟨rfl, rfl⟩)
      | (go_at_call 151; refine (digit_calls c _).mono ?_; rw [HD.out]; rintro e w1 ⟨rfl, rfl⟩))
    all_goals (go_ret; refine ⟨?_, rfl⟩; rw [H1.out]; simp [*])

/-- A function value that tells something of bytes. -/
structure Tells (P : Program) (fv : Value) (p : UInt8 → Bool) : Prop where
  is : ∃ g cap, Fnv P fv g cap ∧ ∀ (c : UInt8) (w : World), Calls P g ([Value.int .u8 c.toNat].toArray ++ cap) w fun e w' => e = .returned (.bool (p c)) ∧ w' = w
theorem tells_small : Tells Tryz.prog (.func (.func 148) #[] #[]) smallB := ⟨⟨_, #[], ⟨rfl, _, Tryz.func148, by kernel_rfl, rfl⟩, small_calls⟩⟩
theorem tells_digit : Tells Tryz.prog (.func (.func 151) #[] #[]) digitB := ⟨⟨_, #[], ⟨rfl, _, Tryz.func151, by kernel_rfl, rfl⟩, digit_calls⟩⟩
theorem tells_inner : Tells Tryz.prog (.func (.func 149) #[] #[]) innerB := ⟨⟨_, #[], ⟨rfl, _, Tryz.func149, by kernel_rfl, rfl⟩, inner_calls⟩⟩
/-- From a place on so many bytes are so, and no more. -/
structure RunIs (p : UInt8 → Bool) (s : ByteArray) (at_ k : Nat) : Prop where
  le : at_ + k ≤ s.size
  all : ∀ i (h : at_ + i < s.size), i < k → p s[at_ + i] = true
  stop : ∀ (h : at_ + k < s.size), p s[at_ + k] = false
theorem RunIs.unique {p : UInt8 → Bool} {s : ByteArray} {a k l : Nat} (h : RunIs p s a k) (h' : RunIs p s a l) : k = l := by
  rcases Nat.lt_trichotomy k l with hl | hl | hl
  · have h1 := h'.le
    have h2 := h.stop (by omega)
    have h3 := h'.all k (by omega) hl
    rw [h2] at h3; cases h3
  · exact hl
  · have h1 := h.le
    have h2 := h'.stop (by omega)
    have h3 := h.all l (by omega) hl
    rw [h2] at h3; cases h3
set_option maxHeartbeats 400000 in
theorem run_calls (p : UInt8 → Bool) (fv : Value) (hf : Tells Tryz.prog fv p) (s : ByteArray) (hs : s.size ≤ 4611686018427387904) (a : Nat) (ha : a ≤ s.size) (w : World) :
    Calls Tryz.prog 146 #[.string s, .int .i64 a, fv] w fun e w' => (∃ k : Nat, e = .returned (.int .i64 k) ∧ RunIs p s a k) ∧ w' = w := by
  obtain ⟨g, cap, hfn, hp⟩ := hf.is
  have HP := Sh.mk hp
  clear hp hf
  go_enter Tryz.func146, Tryz.ntmps146
  go_wp2
  go_loop [7] (fun n => ∃ k : Nat, n = .int .i64 k ∧ a + k ≤ s.size ∧ Sh (∀ i (h : a + i < s.size), i < k → p s[a + i] = true)) (fun n => s.size - (intOf n).toNat)
  case atStart => exact ⟨0, rfl, by omega, ⟨fun i _ h => absurd h (Nat.not_lt_zero _)⟩⟩
  case round =>
    obtain ⟨k, rfl, hk, HA⟩ := hrel
    by_cases hlt : a + k < s.size
    · generalize hb : p s[a + k] = b
      have HB := Sh.mk hb
      clear hb
      go_wp2_with (refine callVg (some 21) rfl (by simp [Region.wanted, yielded]) rfl rfl hfn [_] rfl ?_)
      refine (HP.out s[a + k] _).mono ?_
      rw [HB.out]
      rintro e w1 ⟨rfl, rfl⟩
      refine ⟨_, rfl, ?_⟩
      cases b with
      | true =>
        go_wp2
        case roundEnd => exact ⟨⟨k + 1, by simp, by omega, ⟨fun i h hi => by
          rcases Nat.lt_succ_iff_lt_or_eq.1 hi with h' | h'
          · exact HA.out i h h'
          · subst h'; exact HB.out⟩⟩, by simp [intOf]; omega⟩
      | false =>
        go_wp2
        go_ret
        exact ⟨⟨k, rfl, ⟨by omega, HA.out, fun _ => HB.out⟩⟩, rfl⟩
    · go_wp2
      go_ret
      exact ⟨⟨k, rfl, ⟨by omega, HA.out, fun h => absurd h hlt⟩⟩, rfl⟩
end Go.Proofs.YtkfdhmeipnfhpaaGreatDoor
