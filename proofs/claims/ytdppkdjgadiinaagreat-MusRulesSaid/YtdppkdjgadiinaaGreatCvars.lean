/- Package unify: all variables. -/
import Derived.Test.YtdppkdjgadiinaaGreatVars
set_option linter.unusedVariables false
set_option linter.unusedSimpArgs false
namespace Go.Proofs.YtdppkdjgadiinaaGreat
open Go.RowKit

def varList (G : GSt) : List Int := (G.2.map (·.1)).mergeSort Go.leI
theorem Clo_Vars (w : World) (F : Nat → Prop) (c : Nat) (s : Cl) (h : ClAt w F c s) (hc : s.clash = false) (hk : ∀ p, p ∈ s.G.2 → 0 ≤ p.1 ∧ p.1 < 1073741824) (hl : s.G.2.length ≤ 1000000) :
    Calls Tryz.prog 103 #[.pointer (some ⟨c, 0, none⟩)] w fun e w' => ∃ v, e = .returned v ∧ IRow w' v (varList s.G) ∧ (∀ k, v.ownBlock = some k → w.heap.size ≤ k) ∧ Below w.heap.size w w' := by
  have HE := Clo_Err w F c s h
  rw [hc] at HE
  have HE := Sh.mk HE
  obtain ⟨FG, FF, g, m, f, vw, h, hF⟩ := h.is
  have c1 := h.blk.cell 1
  simp only [List.getElem?_cons_zero, List.getElem?_cons_succ] at c1
  have HV := Sh.mk (Graph_Vars w FG g m s.G.1 s.G.2 h.gr hk hl)
  clear h hF hc hk hl
  go_enter Tryz.func103, Tryz.ntmps103
  go_wp2_with (first | (go_at_call 65; refine HE.out.mono ?_; rintro e w3 ⟨rfl, rfl⟩) | (go_at_call 111; refine HV.out.mono ?_; rintro e w3 ⟨v, rfl, k1, k2, k3⟩; have K1 := Sh.mk k1; have K2 := Sh.mk k2; have K3 := Sh.mk k3; clear k1 k2 k3))
  go_ret
  exact ⟨v, rfl, K1.out, K2.out, K3.out⟩
end Go.Proofs.YtdppkdjgadiinaaGreat
