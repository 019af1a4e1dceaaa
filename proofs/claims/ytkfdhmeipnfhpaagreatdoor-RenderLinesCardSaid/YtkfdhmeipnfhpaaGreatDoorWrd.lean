/- Package render: Word. -/
import Derived.Test.YtkfdhmeipnfhpaaGreatDoorLnb
set_option linter.unusedVariables false
set_option linter.unusedSimpArgs false
namespace Go.Proofs.YtkfdhmeipnfhpaaGreatDoor
open Go.RowKit

/-- A verdict's kind in a word. -/
def wordS (k : Int) : ByteArray := if k = 1 then ⟨#[116, 121, 112, 101]⟩ else if k = 2 then ⟨#[115, 121, 110, 116, 97, 120]⟩ else if k = 3 then ⟨#[115, 99, 111, 112, 101]⟩ else if k = 4 then ⟨#[108, 105, 109, 105, 116]⟩ else if k = 5 then ⟨#[101, 114, 114, 111, 114]⟩ else ⟨#[]⟩
set_option maxRecDepth 100000 in
set_option maxHeartbeats 2000000 in
theorem Word_k1 (w : World) (sch : ByteArray) (a b lim st : Int) (v5 v6 : Value) (h5 : v5.oneCell' = true) (h6 : v6.oneCell' = true) :
    Calls Tryz.prog 9 #[.agg #[.int .i64 1, .string sch, .int .i64 a, .int .i64 b, .int .i64 lim, v5, v6, .int .i64 st]] w fun e w' => e = .returned (.string (wordS 1)) ∧ Below w.heap.size w w' := by
  go_enter Tryz.func9, Tryz.ntmps9
  go_wp2
  go_ret
  exact ⟨rfl, ((Below.refl _ _).alloc (Nat.le_refl _) _).alloc (by simp) _⟩
set_option maxRecDepth 100000 in
set_option maxHeartbeats 2000000 in
theorem Word_k2 (w : World) (sch : ByteArray) (a b lim st : Int) (v5 v6 : Value) (h5 : v5.oneCell' = true) (h6 : v6.oneCell' = true) :
    Calls Tryz.prog 9 #[.agg #[.int .i64 2, .string sch, .int .i64 a, .int .i64 b, .int .i64 lim, v5, v6, .int .i64 st]] w fun e w' => e = .returned (.string (wordS 2)) ∧ Below w.heap.size w w' := by
  go_enter Tryz.func9, Tryz.ntmps9
  go_wp2
  go_ret
  exact ⟨rfl, ((Below.refl _ _).alloc (Nat.le_refl _) _).alloc (by simp) _⟩
set_option maxRecDepth 100000 in
set_option maxHeartbeats 2000000 in
theorem Word_k3 (w : World) (sch : ByteArray) (a b lim st : Int) (v5 v6 : Value) (h5 : v5.oneCell' = true) (h6 : v6.oneCell' = true) :
    Calls Tryz.prog 9 #[.agg #[.int .i64 3, .string sch, .int .i64 a, .int .i64 b, .int .i64 lim, v5, v6, .int .i64 st]] w fun e w' => e = .returned (.string (wordS 3)) ∧ Below w.heap.size w w' := by
  go_enter Tryz.func9, Tryz.ntmps9
  go_wp2
  go_ret
  exact ⟨rfl, ((Below.refl _ _).alloc (Nat.le_refl _) _).alloc (by simp) _⟩
set_option maxRecDepth 100000 in
set_option maxHeartbeats 2000000 in
theorem Word_k4 (w : World) (sch : ByteArray) (a b lim st : Int) (v5 v6 : Value) (h5 : v5.oneCell' = true) (h6 : v6.oneCell' = true) :
    Calls Tryz.prog 9 #[.agg #[.int .i64 4, .string sch, .int .i64 a, .int .i64 b, .int .i64 lim, v5, v6, .int .i64 st]] w fun e w' => e = .returned (.string (wordS 4)) ∧ Below w.heap.size w w' := by
  go_enter Tryz.func9, Tryz.ntmps9
  go_wp2
  go_ret
  exact ⟨rfl, ((Below.refl _ _).alloc (Nat.le_refl _) _).alloc (by simp) _⟩
set_option maxRecDepth 100000 in
set_option maxHeartbeats 2000000 in
theorem Word_k5 (w : World) (sch : ByteArray) (a b lim st : Int) (v5 v6 : Value) (h5 : v5.oneCell' = true) (h6 : v6.oneCell' = true) :
    Calls Tryz.prog 9 #[.agg #[.int .i64 5, .string sch, .int .i64 a, .int .i64 b, .int .i64 lim, v5, v6, .int .i64 st]] w fun e w' => e = .returned (.string (wordS 5)) ∧ Below w.heap.size w w' := by
  go_enter Tryz.func9, Tryz.ntmps9
  go_wp2
  go_ret
  exact ⟨rfl, ((Below.refl _ _).alloc (Nat.le_refl _) _).alloc (by simp) _⟩
set_option maxRecDepth 100000 in
set_option maxHeartbeats 2000000 in
theorem Word_calls (k : Int) (w : World) (sch : ByteArray) (a b lim st : Int) (v5 v6 : Value) (h5 : v5.oneCell' = true) (h6 : v6.oneCell' = true) :
    Calls Tryz.prog 9 #[.agg #[.int .i64 k, .string sch, .int .i64 a, .int .i64 b, .int .i64 lim, v5, v6, .int .i64 st]] w fun e w' => e = .returned (.string (wordS k)) ∧ Below w.heap.size w w' := by
  by_cases e1 : k = 1
  · subst e1; exact Word_k1 w sch a b lim st v5 v6 h5 h6
  by_cases e2 : k = 2
  · subst e2; exact Word_k2 w sch a b lim st v5 v6 h5 h6
  by_cases e3 : k = 3
  · subst e3; exact Word_k3 w sch a b lim st v5 v6 h5 h6
  by_cases e4 : k = 4
  · subst e4; exact Word_k4 w sch a b lim st v5 v6 h5 h6
  by_cases e5 : k = 5
  · subst e5; exact Word_k5 w sch a b lim st v5 v6 h5 h6
  have hw : wordS k = ⟨#[]⟩ := by unfold wordS; rw [if_neg e1, if_neg e2, if_neg e3, if_neg e4, if_neg e5]
  rw [hw]
  by_cases hk : k < 1
  · go_enter Tryz.func9, Tryz.ntmps9
    go_wp2
    go_ret
    exact ⟨rfl, ((Below.refl _ _).alloc (Nat.le_refl _) _).alloc (by simp) _⟩
  · have hk6 : 6 ≤ k := by omega
    go_enter Tryz.func9, Tryz.ntmps9
    go_wp2
    go_ret
    exact ⟨rfl, ((Below.refl _ _).alloc (Nat.le_refl _) _).alloc (by simp) _⟩
end Go.Proofs.YtkfdhmeipnfhpaaGreatDoor
