/- Rows of rows of numbers: Equal, ContainsFunc. -/
import Derived.Test.YtdppkdjgadiinaaGreatMus
set_option linter.unusedVariables false
set_option linter.unusedSimpArgs false
namespace Go.Proofs.YtdppkdjgadiinaaGreat
open Go.RowKit

structure Sl where
  A : Option Addr
  n : Nat
  c : Nat
def Sl.v (x : Sl) : Value := .slice x.A x.n x.c
def RowsK : RK Sl := ⟨25, 29, 1, 24, .slice none 0 0, fun x => [.slice x.A x.n x.c]⟩
theorem RowsK_ok : RKok RowsK := ⟨fun _ => rfl, fun r u hu => by
  simp only [RowsK, List.mem_singleton] at hu
  rw [hu]; simp [Value.oneCell'], Tryz.underlying29, by kernel_rfl, rfl, Nat.succ_pos _⟩
theorem RowsK.cells {w : World} {v : Value} {rs : List Sl} (h : GRow RowsK w v rs) {i : Nat} {x : Sl} (hx : rs[i]? = some x) : ∃ g k, v = .slice (some ⟨g, 0, none⟩) rs.length k ∧ w.cell? ⟨g, i, none⟩ = some (.slice x.A x.n x.c) := by
  obtain ⟨g, k, e, hc⟩ := h.at RowsK_ok hx
  have h0 := hc 0 (by simp [RowsK])
  simp only [RowsK, List.getElem?_cons_zero, Nat.add_zero, Nat.mul_one] at h0
  exact ⟨g, k, e, h0⟩
set_option maxRecDepth 100000 in
theorem Equal_calls (w : World) (v u : Value) (xs ys : List Int) (hx : IRow w v xs) (hy : IRow w u ys) :
    Calls Tryz.prog 36 #[v, u] w fun e w' => e = .returned (.bool (decide (xs = ys))) ∧ Below w.heap.size w w' := by
  obtain ⟨A, c, rfl⟩ := hx.shape
  obtain ⟨B, d, rfl⟩ := hy.shape
  have hl1 := hx.len
  have hl2 := hy.len
  obtain ⟨n, hn⟩ : ∃ n, n = xs.length := ⟨_, rfl⟩
  obtain ⟨m, hm⟩ : ∃ m, m = ys.length := ⟨_, rfl⟩
  rw [← hn] at hx hl1 ⊢
  rw [← hm] at hy hl2 ⊢
  have HX := Sh.mk hx
  have HY := Sh.mk hy
  have HN := Sh.mk hn
  have HM := Sh.mk hm
  clear hx hy hn hm
  go_enter Tryz.func36, Tryz.ntmps36
  by_cases hnm : n = m
  · subst hnm
    have hne : ((n : Int) != (n : Int)) = false := by simp
    go_wp2
    go_loopw [13] (fun v13 wr => ∃ j : Nat, v13 = .int .i64 j ∧ j ≤ n ∧ Sh (Below w.heap.size w wr ∧ ∀ i, i < j → xs[i]? = ys[i]?)) (fun v13 _ => n - (intOf v13).toNat)
    case atStart => exact ⟨0, rfl, Nat.zero_le _, ⟨Below.refl _ _, fun i hi => absurd hi (Nat.not_lt_zero _)⟩⟩
    case round =>
      obtain ⟨j, rfl, hj, HR⟩ := hrel
      by_cases hlt : j < n
      · obtain ⟨x, hx⟩ : ∃ x, xs[j]? = some x := ⟨_, List.getElem?_eq_getElem (by have := HN.out; omega)⟩
        obtain ⟨y, hy⟩ : ∃ y, ys[j]? = some y := ⟨_, List.getElem?_eq_getElem (by have := HM.out; omega)⟩
        obtain ⟨g, c', e, t0, _⟩ := (HX.out.keep HR.out.1).at hx
        simp only [Value.slice.injEq] at e
        have e1 := e.1
        clear e
        subst e1
        obtain ⟨g2, c2', e, s0, _⟩ := (HY.out.keep HR.out.1).at hy
        simp only [Value.slice.injEq] at e
        have e1 := e.1
        clear e
        subst e1
        have HXJ := Sh.mk hx
        have HYJ := Sh.mk hy
        clear hx hy
        by_cases hxy : x = y
        · have hq : (x != y) = false := by simp [hxy]
          have HQ := Sh.mk hxy
          clear hxy
          go_wp2
          go_region
          go_wp2
          go_roundw
          case rel =>
            refine ⟨j + 1, by simp, by omega, ⟨HR.out.1.drew, fun i hi => ?_⟩⟩
            rcases Nat.lt_or_ge i j with h | h
            · exact HR.out.2 i h
            · have : i = j := by omega
              subst this
              rw [HXJ.out, HYJ.out, HQ.out]
          case measure => simp [intOf]; omega
        · have hq : (x != y) = true := by simp [hxy]
          have HQ := Sh.mk hxy
          clear hxy
          go_wp2
          go_region
          go_wp2
          go_ret
          refine ⟨?_, HR.out.1.drew⟩
          have : xs ≠ ys := fun e => HQ.out (by have := HXJ.out; rw [e, HYJ.out] at this; injection this with this; exact this.symm)
          simp [this]
      · go_wp2
        go_ret
        refine ⟨?_, HR.out.1⟩
        have : xs = ys := by
          apply List.ext_getElem?
          intro i
          rcases Nat.lt_or_ge i n with h | h
          · exact HR.out.2 i (by omega)
          · rw [List.getElem?_eq_none (by have := HN.out; omega), List.getElem?_eq_none (by have := HM.out; omega)]
        simp [this]
  · have hne : ((n : Int) != (m : Int)) = true := by simp; omega
    have HNM := Sh.mk hnm
    clear hnm
    go_wp2
    go_ret
    have : xs ≠ ys := fun e => HNM.out (by rw [HN.out, HM.out, e])
    exact ⟨by simp [this], Below.refl _ _⟩
theorem IndexFunc_rows (w : World) (rs : List Sl) (p : Sl → Bool) (g : Nat) (cap : Array Value) (fv : Value) (hfv : Fnv Tryz.prog fv g cap) (v : Value) (h : GRow RowsK w v rs)
    (hp : ∀ (x : Sl) (w1 : World), x ∈ rs → Below w.heap.size w w1 → Calls Tryz.prog g (#[.slice x.A x.n x.c] ++ cap) w1 fun e w2 => e = .returned (.bool (p x)) ∧ Below w1.heap.size w1 w2) :
    Calls Tryz.prog 47 #[v, fv] w fun e w' => ∃ r : Int, e = .returned (.int .i64 r) ∧ decide (r ≥ 0) = rs.any p ∧ Below w.heap.size w w' := by
  obtain ⟨A, c, rfl⟩ := h.shape
  have hlen := h.len
  have H := Sh.mk h
  have HP := Sh.mk hp
  clear h hp
  obtain ⟨n, hn⟩ : ∃ n, n = rs.length := ⟨_, rfl⟩
  rw [← hn] at hlen H ⊢
  have HN := Sh.mk hn
  clear hn
  go_enter Tryz.func47, Tryz.ntmps47
  go_wp2
  go_loopw [8] (fun v8 wr => ∃ j : Nat, v8 = .int .i64 j ∧ j ≤ n ∧ Sh (Below w.heap.size w wr ∧ (rs.take j).any p = false)) (fun v8 _ => n - (intOf v8).toNat)
  case atStart => exact ⟨0, rfl, Nat.zero_le _, ⟨Below.refl _ _, rfl⟩⟩
  case round =>
    obtain ⟨j, rfl, hj, HR⟩ := hrel
    by_cases hlt : j < n
    · obtain ⟨x, hx⟩ : ∃ x, rs[j]? = some x := ⟨_, List.getElem?_eq_getElem (by have := HN.out; omega)⟩
      obtain ⟨g', c', e, t0⟩ := RowsK.cells (H.out.keep HR.out.1) hx
      simp only [Value.slice.injEq] at e
      have e1 := e.1
      clear e
      subst e1
      have HX := Sh.mk hx
      clear hx
      go_wp2_with (refine callV (some 16) rfl rfl rfl rfl hfv [_] rfl ?_)
      refine (HP.out x wr (List.mem_of_getElem? HX.out) HR.out.1).mono ?_
      rintro e w1 ⟨rfl, hb⟩
      refine ⟨_, rfl, ?_⟩
      have HB1 := Sh.mk (below_then HR.out.1 hb)
      have HS := any_take_succ p HX.out
      rw [HR.out.2, Bool.false_or] at HS
      clear hb
      cases hpx : p x with
      | false =>
        rw [hpx] at HS
        have HS1 := Sh.mk HS
        clear hpx HS
        go_wp2
        go_roundw
        case rel => exact ⟨j + 1, by simp, by omega, ⟨HB1.out, HS1.out⟩⟩
        case measure => simp [intOf]; omega
      | true =>
        rw [hpx] at HS
        have HS1 := Sh.mk HS
        clear hpx HS
        go_wp2
        go_ret
        refine ⟨j, rfl, ?_, HB1.out⟩
        have : rs.any p = true := by rw [← List.take_append_drop (j + 1) rs, List.any_append, HS1.out, Bool.true_or]
        rw [this]; simp
    · go_wp2
      go_ret
      refine ⟨-1, rfl, ?_, HR.out.1⟩
      have := HR.out.2
      rw [show j = rs.length by have := HN.out; omega, List.take_length] at this
      rw [this]; rfl
theorem ContainsFunc_rows (w : World) (rs : List Sl) (p : Sl → Bool) (g : Nat) (cap : Array Value) (fv : Value) (hfv : Fnv Tryz.prog fv g cap) (v : Value) (h : GRow RowsK w v rs)
    (hp : ∀ (x : Sl) (w1 : World), x ∈ rs → Below w.heap.size w w1 → Calls Tryz.prog g (#[.slice x.A x.n x.c] ++ cap) w1 fun e w2 => e = .returned (.bool (p x)) ∧ Below w1.heap.size w1 w2) :
    Calls Tryz.prog 34 #[v, fv] w fun e w' => e = .returned (.bool (rs.any p)) ∧ Below w.heap.size w w' := by
  have HI := Sh.mk (IndexFunc_rows w rs p g cap fv hfv v h hp)
  clear h hp
  go_enter Tryz.func34, Tryz.ntmps34
  go_wp2_with (go_at_call 47; refine HI.out.mono ?_; rintro e w1 ⟨r, rfl, hd, hb⟩)
  have HD := Sh.mk hd
  have HB := Sh.mk hb
  clear hd hb
  go_wp2
  go_ret
  exact ⟨by rw [← HD.out]; rfl, HB.out⟩
theorem fnv_find1 (p : Value) : Fnv Tryz.prog (.func (.func 35) #[] #[p]) 35 #[p] := ⟨rfl, _, Tryz.func35, by kernel_rfl, rfl⟩
theorem find1_calls (w : World) (b : Nat) (x u : Value) (xs ys : List Int) (hx : IRow w x xs) (hu : IRow w u ys) (hb : Blk w b 25 [u]) :
    Calls Tryz.prog 35 #[x, .pointer (some ⟨b, 0, none⟩)] w fun e w' => e = .returned (.bool (decide (xs = ys))) ∧ Below w.heap.size w w' := by
  have HE := Sh.mk (Equal_calls w x u xs ys hx hu)
  obtain ⟨A, c, rfl⟩ := hu.shape
  have c0 := hb.cell 0
  simp only [List.getElem?_cons_zero] at c0
  clear hx hu hb
  go_enter Tryz.func35, Tryz.ntmps35
  go_wp2_with (first | (go_at_call 36; refine HE.out.mono ?_; rintro e w1 ⟨rfl, hb1⟩; have HB1 := Sh.mk hb1; clear hb1))
  go_ret
  exact ⟨rfl, HB1.out⟩
end Go.Proofs.YtdppkdjgadiinaaGreat
