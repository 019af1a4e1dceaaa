/- The law's own words: whether two rows of numbers are the same. -/
import Derived.Test.YtdppkdjgadiinaaGreatCores
set_option linter.unusedVariables false
set_option linter.unusedSimpArgs false
namespace Go.Proofs.YtdppkdjgadiinaaGreat
open Go.RowKit

set_option maxRecDepth 100000 in
theorem Ints_calls (w : World) (v u : Value) (xs ys : List Int) (hx : IRow w v xs) (hy : IRow w u ys) :
    Calls Tryz.prog 9 #[v, u] w fun e w' => e = .returned (.bool (decide (xs = ys))) ∧ Below w.heap.size w w' := by
  obtain ⟨A, c, rfl⟩ := hx.shape
  obtain ⟨B, d, rfl⟩ := hy.shape
  have hl1 := hx.len
  have hl2 := hy.len
  obtain ⟨n, hn⟩ : ∃ n, n = xs.length := ⟨_, rfl⟩
  obtain ⟨m, hm⟩ : ∃ m, m = ys.length := ⟨_, rfl⟩
  rw [← hn] at hx hl1 ⊢
  rw [← hm] at hy hl2 ⊢
  have HX := Sh.mk hx
  have HY := Sh.mk hy
  have HN := Sh.mk hn
  have HM := Sh.mk hm
  clear hx hy hn hm
  go_enter Tryz.func9, Tryz.ntmps9
  by_cases hnm : n = m
  · subst hnm
    have hne : ((n : Int) != (n : Int)) = false := by simp
    go_wp2
    go_loopw [5] (fun v5 wr => ∃ j : Nat, v5 = .int .i64 j ∧ j ≤ n ∧ Sh (Below w.heap.size w wr ∧ ∀ i, i < j → xs[i]? = ys[i]?)) (fun v5 _ => n - (intOf v5).toNat)
    case atStart => exact ⟨0, rfl, Nat.zero_le _, ⟨Below.refl _ _, fun i hi => absurd hi (Nat.not_lt_zero _)⟩⟩
    case round =>
      obtain ⟨j, rfl, hj, HR⟩ := hrel
      by_cases hlt : j < n
      · obtain ⟨x, hx⟩ : ∃ x, xs[j]? = some x := ⟨_, List.getElem?_eq_getElem (by have := HN.out; omega)⟩
        obtain ⟨y, hy⟩ : ∃ y, ys[j]? = some y := ⟨_, List.getElem?_eq_getElem (by have := HM.out; omega)⟩
        obtain ⟨g, c', e, t0, _⟩ := (HX.out.keep HR.out.1).at hx
        simp only [Value.slice.injEq] at e
        have e1 := e.1
        clear e
        subst e1
        obtain ⟨g2, c2', e, s0, _⟩ := (HY.out.keep HR.out.1).at hy
        simp only [Value.slice.injEq] at e
        have e1 := e.1
        clear e
        subst e1
        have HXJ := Sh.mk hx
        have HYJ := Sh.mk hy
        clear hx hy
        by_cases hxy : x = y
        · have hq : (x != y) = false := by simp [hxy]
          have HQ := Sh.mk hxy
          clear hxy
          go_wp2
          go_region
          go_wp2
          go_roundw
          case rel =>
            refine ⟨j + 1, by simp, by omega, ⟨HR.out.1.drew, fun i hi => ?_⟩⟩
            rcases Nat.lt_or_ge i j with h | h
            · exact HR.out.2 i h
            · have : i = j := by omega
              subst this
              rw [HXJ.out, HYJ.out, HQ.out]
          case measure => simp [intOf]; omega
        · have hq : (x != y) = true := by simp [hxy]
          have HQ := Sh.mk hxy
          clear hxy
          go_wp2
          go_region
          go_wp2
          go_ret
          refine ⟨?_, HR.out.1.drew⟩
          have : xs ≠ ys := fun e => HQ.out (by have := HXJ.out; rw [e, HYJ.out] at this; injection this with this; exact this.symm)
          simp [this]
      · go_wp2
        go_ret
        refine ⟨?_, HR.out.1⟩
        have : xs = ys := by
          apply List.ext_getElem?
          intro i
          rcases Nat.lt_or_ge i n with h | h
          · exact HR.out.2 i (by omega)
          · rw [List.getElem?_eq_none (by have := HN.out; omega), List.getElem?_eq_none (by have := HM.out; omega)]
        simp [this]
  · have hne : ((n : Int) != (m : Int)) = true := by simp; omega
    have HNM := Sh.mk hnm
    clear hnm
    go_wp2
    go_ret
    have : xs ≠ ys := fun e => HNM.out (by rw [HN.out, HM.out, e])
    exact ⟨by simp [this], Below.refl _ _⟩
end Go.Proofs.YtdppkdjgadiinaaGreat
