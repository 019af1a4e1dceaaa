/- Plain: which picked equations can be solved. -/
import Derived.Test.YtdppkdjgadiinaaGreatSatc
import Derived.Test.YtdppkdjgadiinaaGreatMus
set_option linter.unusedVariables false
set_option linter.unusedSimpArgs false
namespace Go.Proofs.YtdppkdjgadiinaaGreat
open Go.RowKit

open Classical in
/-- Whether equations of some numbers can be solved. -/
noncomputable def satP (es : List Eqn) (ns : List Int) : Bool := (pickE es ns).all Eqn.right && decide (Solvable (pickE es ns))
theorem satP_is (es : List Eqn) : SatB es (satP es) := by
  intro ns code h
  unfold satP
  cases hr : (pickE es ns).all Eqn.right with
  | false =>
    unfold SatIs at h
    rw [hr] at h
    have : code = 1 := h
    rw [this]
    rfl
  | true =>
    have := sat_iff hr h
    rw [Bool.true_and, Bool.eq_iff_iff]
    simp [this]
theorem satP_iff {es : List Eqn} (hr : es.all Eqn.right = true) (ns : List Int) : satP es ns = true ↔ Solvable (pickE es ns) := by
  unfold satP
  rw [pickE_right hr ns, Bool.true_and]
  simp
end Go.Proofs.YtdppkdjgadiinaaGreat
