/- Package check: the limits are right. -/
import Derived.Test.YtkfdhmeipnfhpaaGreatDoorFreeb
set_option linter.unusedVariables false
set_option linter.unusedSimpArgs false
namespace Go.Proofs.YtkfdhmeipnfhpaaGreatDoor
open Go.RowKit

/-- slices.IndexFunc of a function that says no to all, and keeps what is to be kept. -/
theorem IndexFunc_none (w : World) (J : World → Prop) (g : Nat) (cap : Array Value) (fv : Value) (hfv : Fnv Tryz.prog fv g cap) (v : Value) (xs : List Int) (hJ : ∀ w', J w' → IRow w' v xs)
    (hp : ∀ (u : Int) (w1 : World), u ∈ xs → J w1 → Calls Tryz.prog g (#[.int .i64 u] ++ cap) w1 fun e w2 => e = .returned (.bool false) ∧ J w2) (h0 : J w) :
    Calls Tryz.prog 69 #[v, fv] w fun e w' => e = .returned (.int .i64 (-1)) ∧ J w' := by
  obtain ⟨A, c, rfl⟩ := (hJ w h0).shape
  have hlen := (hJ w h0).len
  have HJ := Sh.mk hJ
  have HP := Sh.mk hp
  have H0 := Sh.mk h0
  clear hJ hp h0
  obtain ⟨n, hn⟩ : ∃ n, n = xs.length := ⟨_, rfl⟩
  rw [← hn] at hlen HJ ⊢
  have HN := Sh.mk hn
  clear hn
  go_enter Tryz.func69, Tryz.ntmps69
  go_wp2
  go_loopw [8] (fun v8 wr => ∃ j : Nat, v8 = .int .i64 j ∧ j ≤ n ∧ Sh (J wr)) (fun v8 _ => n - (intOf v8).toNat)
  case atStart => exact ⟨0, rfl, Nat.zero_le _, H0⟩
  case round =>
    obtain ⟨j, rfl, hj, HR⟩ := hrel
    by_cases hlt : j < n
    · obtain ⟨u, hu⟩ : ∃ u, xs[j]? = some u := ⟨_, List.getElem?_eq_getElem (by have := HN.out; omega)⟩
      obtain ⟨g', c', e, t0, _, _⟩ := (HJ.out wr HR.out).at hu
      simp only [Value.slice.injEq] at e
      have e1 := e.1
      clear e
      subst e1
      have HU := Sh.mk hu
      clear hu
      go_wp2_with (refine callV (some 16) rfl rfl rfl rfl hfv [_] rfl ?_)
      refine (HP.out u wr (List.mem_of_getElem? HU.out) HR.out).mono ?_
      rintro e w1 ⟨rfl, hj1⟩
      refine ⟨_, rfl, ?_⟩
      have HJ1 := Sh.mk hj1
      clear hj1
      go_wp2
      go_roundw
      case rel => exact ⟨j + 1, by simp, by omega, HJ1⟩
      case measure => simp [intOf]; omega
    · go_wp2
      go_ret
      exact ⟨rfl, HR.out⟩
theorem ContainsFunc_none (w : World) (J : World → Prop) (g : Nat) (cap : Array Value) (fv : Value) (hfv : Fnv Tryz.prog fv g cap) (v : Value) (xs : List Int) (hJ : ∀ w', J w' → IRow w' v xs)
    (hp : ∀ (u : Int) (w1 : World), u ∈ xs → J w1 → Calls Tryz.prog g (#[.int .i64 u] ++ cap) w1 fun e w2 => e = .returned (.bool false) ∧ J w2) (h0 : J w) :
    Calls Tryz.prog 50 #[v, fv] w fun e w' => e = .returned (.bool false) ∧ J w' := by
  have HI := Sh.mk (IndexFunc_none w J g cap fv hfv v xs hJ hp h0)
  clear hJ hp h0
  go_enter Tryz.func50, Tryz.ntmps50
  go_wp2_with (go_at_call 69; refine HI.out.mono ?_; rintro e w1 ⟨rfl, hj⟩)
  go_ret
  exact ⟨rfl, hj⟩
theorem fnv_cRight1 : Fnv Tryz.prog (.func (.func 51) #[] #[]) 51 #[] := ⟨rfl, _, Tryz.func51, by kernel_rfl, rfl⟩
theorem cRight1_calls (u : Int) (h1 : 1 ≤ u) (h2 : u ≤ 1073741824) (w : World) :
    Calls Tryz.prog 51 #[.int .i64 u] w fun e w' => e = .returned (.bool false) ∧ w' = w := by
  go_enter Tryz.func51, Tryz.ntmps51
  have h3 : decide (u < 1) = false := by simp; omega
  have h4 : decide (1073741824 < u) = false := by simp; omega
  go_wp2
  go_ret
  exact ⟨rfl, rfl⟩
theorem IRow.lit3 (w : World) (a b c : Int) : IRow (w.alloc (.cells #[.int .i64 a, .int .i64 b, .int .i64 c] 3)) (.slice (some ⟨w.heap.size, 0, none⟩) 3 3) [a, b, c] := by
  refine ⟨by simp, .inr ⟨w.heap.size, 3, _, rfl, Nat.zero_le _, World.alloc_heap_new w _, Nat.le_refl _, by decide, rfl, by simp⟩⟩
theorem cRight_calls (a b c : Int) (ha : 1 ≤ a ∧ a ≤ 1073741824) (hb : 1 ≤ b ∧ b ≤ 1073741824) (hc : 1 ≤ c ∧ c ≤ 1073741824) (w : World) :
    Calls Tryz.prog 38 #[.agg #[.int .i64 a, .int .i64 b, .int .i64 c]] w fun e w' => e = .returned (.bool true) ∧ Below w.heap.size w w' := by
  obtain ⟨V, hV⟩ : ∃ V, V = w.alloc (.cells #[.int .i64 a, .int .i64 b, .int .i64 c] 36) := ⟨_, rfl⟩
  have hB : Blk V w.heap.size 36 [.int .i64 a, .int .i64 b, .int .i64 c] := by rw [hV]; exact Blk.new _ _ _
  have HW : Sh (Below w.heap.size w V) := ⟨by rw [hV]; exact (Below.refl _ _).alloc (Nat.le_refl _) _⟩
  have HC := Sh.mk (fun (W : World) (hW : Below V.heap.size V W) (hr : IRow W (.slice (some ⟨V.heap.size, 0, none⟩) 3 3) [a, b, c]) => ContainsFunc_none W (fun w' => w' = W) _ _ _ fnv_cRight1 _ [a, b, c] (fun w' e => by rw [e]; exact hr) (fun u w1 hu e => by
    subst e
    refine cRight1_calls u ?_ ?_ w1
    · simp only [List.mem_cons, List.not_mem_nil, or_false] at hu
      rcases hu with rfl | rfl | rfl <;> omega
    · simp only [List.mem_cons, List.not_mem_nil, or_false] at hu
      rcases hu with rfl | rfl | rfl <;> omega) rfl)
  have HL := Sh.mk (IRow.lit3 V a b c)
  have HB2 : Sh (Below V.heap.size V (V.alloc (.cells #[.int .i64 a, .int .i64 b, .int .i64 c] 3))) := ⟨(Below.refl _ _).alloc (Nat.le_refl _) _⟩
  go_enter Tryz.func38, Tryz.ntmps38
  go_upto_region 1 with (fail)
  rw [← hV]
  have p0 := (hB).cell 0
  have p1 := (hB).cell 1
  have p2 := (hB).cell 2
  simp only [List.getElem?_cons_zero, List.getElem?_cons_succ] at p0 p1 p2
  clear hV hB ha hb hc
  go_wp2_with (go_at_call 50; refine (HC.out _ HB2.out HL.out).mono ?_; rintro e w2 ⟨rfl, rfl⟩)
  go_ret
  exact ⟨rfl, HW.out.trans (HB2.out.mono HW.out.size)⟩
end Go.Proofs.YtkfdhmeipnfhpaaGreatDoor
