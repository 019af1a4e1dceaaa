/- 'RenderLines' returns true for every text and every verdict, and what came in reads as it did: the tied card. The row lists Go's own tables (laid); the card ties them to the program's text. -/
import Derived.Test.YtkfdhmeipnfhpaaGreatDoorLnq
set_option linter.unusedVariables false
namespace Go.Proofs.YtkfdhmeipnfhpaaGreatDoor
open Go.ChangeShapes Go.WideShapes Go.ChangeAt Go.RowKit

theorem k1 : Rows.renderLinesRow.wfByText (OpenSpec.ofChange Rows.renderLinesSpec) = true := by kernel_rfl
theorem k2 : Tryz.pinned.checked.prog.mainIs = some (true, "82f6830715ab3f8846a0a1d7be643b96d2e7808e1fa8df043f4f94549acbe141".toList) := by kernel_rfl
theorem k3 : Tryz.prog.funcNamed "pangram/pangramlaw24.RenderLines" = some 3 := by kernel_rfl
theorem k4 : true = Tryz.pinned.checked.prog.looks [] := by kernel_rfl
theorem k5 : Tryz.prog.wantsStandIn 9 = false := by kernel_rfl
theorem k6 : Tryz.prog.wantsStandIn 27 = false := by kernel_rfl
theorem k7 : false = Rows.renderLinesRow.goesBy Tryz.pinned.checked.prog := by kernel_rfl
theorem k8 (f : FuncId) (fn : Func) (hf : Tryz.pinned.checked.prog.funcNamed Rows.renderLinesRow.func = some f) (hfn : Tryz.pinned.checked.prog.funcs[f]? = some fn) : true = Tryz.pinned.checked.prog.looks [] ∧ ∀ (j : Nat) t, fn.params[j]? = some t → Tryz.pinned.checked.prog.wantsStandIn t = false := by
  obtain rfl : f = 3 := Option.some.inj (k3.symm.trans hf) |>.symm
  obtain rfl : fn = Tryz.f3 := (Option.some.inj (Tryz.func3.symm.trans hfn)).symm
  exact ⟨k4, fun j t ht => by
    rw [Tryz.params3] at ht
    have h3 : t = 9 ∨ t = 27 := by
      rcases j with _ | _ | j
      · left; simpa using ht.symm
      · right; simpa using ht.symm
      · simp at ht
    rcases h3 with rfl | rfl
    · exact k5
    · exact k6⟩
/-- The tied card. -/
theorem renderLines_card : Rows.RenderLinesCardSaid :=
  Claim7.holds_tied_plain_at .later [] [.data, .data, .data, .data, .sentinel, .sentinel, .listed, .data, .data, .pinned] true (true, "82f6830715ab3f8846a0a1d7be643b96d2e7808e1fa8df043f4f94549acbe141") true
    renderLines_row (fun _ h => by cases h) k1 (fun _ h => by cases h) renderLines_row_tie rfl ⟨rfl, rfl⟩ k2 rfl k8 k7
#print axioms renderLines_card
end Go.Proofs.YtkfdhmeipnfhpaaGreatDoor
