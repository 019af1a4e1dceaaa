/- ref01.Texts at two rows of the same texts. -/
import Derived.Test.YtkfdhmeipnfhpaaGreatDoorCarb
set_option linter.unusedVariables false
set_option linter.unusedSimpArgs false
namespace Go.Proofs.YtkfdhmeipnfhpaaGreatDoor
open Go.RowKit

theorem same_text (x : ByteArray) : (x.toList != x.toList) = false := by simp
set_option maxRecDepth 100000 in
set_option maxHeartbeats 2000000 in
theorem Texts_calls (w : World) (A1 A2 : Option Addr) (c1 c2 : Nat) (l : List ByteArray) (h1 : GRow StrK w (.slice A1 l.length c1) l) (h2 : GRow StrK w (.slice A2 l.length c2) l) (hl : l.length ≤ 1000000) :
    Calls Tryz.prog 6 #[.slice A1 l.length c1, .slice A2 l.length c2] w fun e w' => e = .returned (.bool true) ∧ Below w.heap.size w w' := by
  have H1 := Sh.mk h1
  have H2 := Sh.mk h2
  clear h1 h2
  go_enter Tryz.func6, Tryz.ntmps6
  go_wp2
  go_loopw [5] (fun v5 wr => ∃ k : Nat, k ≤ l.length ∧ v5 = .int .i64 k ∧ Sh (Below w.heap.size w wr)) (fun v5 _ => l.length - (intOf v5).toNat)
  case atStart => exact ⟨0, Nat.zero_le _, rfl, ⟨Below.refl _ _⟩⟩
  case round =>
    obtain ⟨k, hk, rfl, HW⟩ := hrel
    by_cases hlt : k < l.length
    · have hx : l[k]? = some l[k] := List.getElem?_eq_getElem hlt
      generalize l[k] = x at hx
      obtain ⟨g1, d1, hv1, hc1⟩ := (H1.out.keep HW.out).at StrK_ok hx
      simp only [Value.slice.injEq, true_and] at hv1
      obtain ⟨rfl, rfl⟩ := hv1
      obtain ⟨g2, d2, hv2, hc2⟩ := (H2.out.keep HW.out).at StrK_ok hx
      simp only [Value.slice.injEq, true_and] at hv2
      obtain ⟨rfl, rfl⟩ := hv2
      have p1 : wr.cell? ⟨g1, k, none⟩ = some (.string x) := by have := hc1 0 (by decide); simpa [StrK] using this
      have p2 : wr.cell? ⟨g2, k, none⟩ = some (.string x) := by have := hc2 0 (by decide); simpa [StrK] using this
      clear hc1 hc2 hx
      have hs := same_text x
      go_wp2
      go_region
      go_wp2
      go_roundw
      case rel => exact ⟨k + 1, by omega, by go_num, ⟨HW.out.drew⟩⟩
      case measure => simp [intOf]; omega
    · have hk2 : k = l.length := by omega
      subst hk2
      go_wp2
      go_ret
      exact ⟨rfl, HW.out⟩
end Go.Proofs.YtkfdhmeipnfhpaaGreatDoor
