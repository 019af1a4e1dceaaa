/- slices.IndexFunc and slices.ContainsFunc: whether one of a list is so, by whatever function tells it. -/
import Derived.Test.YtkfdhmeipnfhpaaGreatDoorMem
set_option linter.unusedVariables false
set_option linter.unusedSimpArgs false
namespace Go.Proofs.YtkfdhmeipnfhpaaGreatDoor
open Go.RowKit

theorem IndexFunc_Ty {α : Type} (enc : α → List Dat) (l : List α) (p : α → Bool) (S : Nat → Prop) (g : Nat) (cap : Array Value) (fv : Value) (hfv : Fnv Tryz.prog fv g cap) (v : Value) (w : World) (hr : (Dat.row 3 (l.map enc)).at w S v)
    (hp : ∀ (x : α) (u0 u1 u2 : Value) (w1 : World), x ∈ l → Below w.heap.size w w1 → CellsAt w1 S (enc x) [u0, u1, u2] → Calls Tryz.prog g ([.agg #[u0, u1, u2]].toArray ++ cap) w1 fun e w2 => e = .returned (.bool (p x)) ∧ Below w1.heap.size w1 w2) :
    Calls Tryz.prog 215 #[v, fv] w fun e w' => ∃ r : Int, (e = .returned (.int .i64 r) ∧ decide (r ≥ 0) = l.any p ∧ Below w.heap.size w w') := by
  rw [Dat.row_at] at hr
  obtain ⟨A, c, rfl, hlc, hcm, hel⟩ := hr
  have HE := Sh.mk hel
  have HP := Sh.mk hp
  have hlen : l.length ≤ 9223372036854775807 := by simp only [maxLen, List.length_map] at *; omega
  clear hel hp hlc hcm
  rw [List.length_map]
  go_enter Tryz.func215, Tryz.ntmps215
  go_wp2
  go_loopw [8] (fun v8 w' => ∃ k : Nat, k ≤ l.length ∧ v8 = .int .i64 k ∧ Sh ((l.take k).any p = false) ∧ Sh (Below w.heap.size w w')) (fun v8 _ => l.length - (intOf v8).toNat)
  case atStart => exact ⟨0, Nat.zero_le _, rfl, ⟨by simp⟩, ⟨Below.refl _ _⟩⟩
  case round =>
    obtain ⟨k, hk, rfl, HA, HB⟩ := hrel
    by_cases hlt : k < l.length
    · have hx : l[k]? = some l[k] := List.getElem?_eq_getElem hlt
      generalize l[k] = x at hx
      have HX := Sh.mk hx
      have hE := (HE.out k (enc x) (by rw [List.getElem?_map, hx]; rfl)).below HB.out
      clear hx
      obtain ⟨ad, us, rfl, hS, hbl, hus, hc, hk1⟩ := hE
      obtain ⟨u0, u1, u2, rfl⟩ := len3 hus
      have h0 := hc 0 u0 rfl
      have h1 := hc 1 u1 rfl
      have h2 := hc 2 u2 rfl
      rw [Nat.add_zero] at h0
      rw [add_field _ _ 1 (by omega)] at h1
      rw [add_field _ _ 2 (by omega)] at h2
      have HK := Sh.mk hk1
      clear hc hus hk1
      go_wp2_with (refine callV (some 16) rfl rfl rfl rfl hfv [_] rfl ?_)
      refine (HP.out x _ _ _ wr (List.mem_of_getElem? HX.out) HB.out HK.out).mono ?_
      rintro e w1 ⟨rfl, hb⟩
      refine ⟨_, rfl, ?_⟩
      have HB1 := Sh.mk (below_then HB.out hb)
      have HS := any_take_succ p HX.out
      rw [HA.out, Bool.false_or] at HS
      cases hpx : p x
      · rw [hpx] at HS
        have HS1 := Sh.mk HS
        clear hpx HS
        go_wp2
        go_roundw
        case rel => exact ⟨k + 1, by omega, by go_num, HS1, HB1⟩
        case measure => simp [intOf]; omega
      · rw [hpx] at HS
        have HS1 := Sh.mk HS
        clear hpx HS
        go_wp2
        go_ret
        refine ⟨k, rfl, ?_, HB1.out⟩
        have : l.any p = true := by
          rw [← List.take_append_drop (k + 1) l, List.any_append, HS1.out, Bool.true_or]
        rw [this]; simp
    · go_wp2
      go_ret
      obtain rfl : k = l.length := by omega
      refine ⟨-1, rfl, ?_, HB.out⟩
      have := HA.out
      rw [List.take_length] at this
      rw [this]; rfl
theorem ContainsFunc_Ty {α : Type} (enc : α → List Dat) (l : List α) (p : α → Bool) (S : Nat → Prop) (g : Nat) (cap : Array Value) (fv : Value) (hfv : Fnv Tryz.prog fv g cap) (v : Value) (w : World) (hr : (Dat.row 3 (l.map enc)).at w S v)
    (hp : ∀ (x : α) (u0 u1 u2 : Value) (w1 : World), x ∈ l → Below w.heap.size w w1 → CellsAt w1 S (enc x) [u0, u1, u2] → Calls Tryz.prog g ([.agg #[u0, u1, u2]].toArray ++ cap) w1 fun e w2 => e = .returned (.bool (p x)) ∧ Below w1.heap.size w1 w2) :
    Calls Tryz.prog 171 #[v, fv] w fun e w' => e = .returned (.bool (l.any p)) ∧ Below w.heap.size w w' := by
  have HR := Sh.mk hr
  have HP := Sh.mk hp
  clear hr hp
  go_enter Tryz.func171, Tryz.ntmps171
  go_wp2_with (go_at_call 215; refine (IndexFunc_Ty enc l p S g cap fv hfv v _ HR.out HP.out).mono ?_; rintro e w1 ⟨r, rfl, hd, hb⟩)
  have HD := Sh.mk hd
  have HB := Sh.mk hb
  clear hd hb
  go_wp2
  go_ret
  exact ⟨by rw [← HD.out]; rfl, HB.out⟩

theorem IndexFunc_Eq {α : Type} (enc : α → List Dat) (l : List α) (p : α → Bool) (S : Nat → Prop) (g : Nat) (cap : Array Value) (fv : Value) (hfv : Fnv Tryz.prog fv g cap) (v : Value) (w : World) (hr : (Dat.row 8 (l.map enc)).at w S v)
    (hp : ∀ (x : α) (u0 u1 u2 u3 u4 u5 u6 u7 : Value) (w1 : World), x ∈ l → Below w.heap.size w w1 → CellsAt w1 S (enc x) [u0, u1, u2, u3, u4, u5, u6, u7] → Calls Tryz.prog g ([.agg #[u0, u1, u2, u3, u4, u5, u6, u7]].toArray ++ cap) w1 fun e w2 => e = .returned (.bool (p x)) ∧ Below w1.heap.size w1 w2) :
    Calls Tryz.prog 235 #[v, fv] w fun e w' => ∃ r : Int, (e = .returned (.int .i64 r) ∧ decide (r ≥ 0) = l.any p ∧ Below w.heap.size w w') := by
  rw [Dat.row_at] at hr
  obtain ⟨A, c, rfl, hlc, hcm, hel⟩ := hr
  have HE := Sh.mk hel
  have HP := Sh.mk hp
  have hlen : l.length ≤ 9223372036854775807 := by simp only [maxLen, List.length_map] at *; omega
  clear hel hp hlc hcm
  rw [List.length_map]
  go_enter Tryz.func235, Tryz.ntmps235
  go_wp2
  go_loopw [8] (fun v8 w' => ∃ k : Nat, k ≤ l.length ∧ v8 = .int .i64 k ∧ Sh ((l.take k).any p = false) ∧ Sh (Below w.heap.size w w')) (fun v8 _ => l.length - (intOf v8).toNat)
  case atStart => exact ⟨0, Nat.zero_le _, rfl, ⟨by simp⟩, ⟨Below.refl _ _⟩⟩
  case round =>
    obtain ⟨k, hk, rfl, HA, HB⟩ := hrel
    by_cases hlt : k < l.length
    · have hx : l[k]? = some l[k] := List.getElem?_eq_getElem hlt
      generalize l[k] = x at hx
      have HX := Sh.mk hx
      have hE := (HE.out k (enc x) (by rw [List.getElem?_map, hx]; rfl)).below HB.out
      clear hx
      obtain ⟨ad, us, rfl, hS, hbl, hus, hc, hk1⟩ := hE
      obtain ⟨u0, u1, u2, u3, u4, u5, u6, u7, rfl⟩ := len8 hus
      have h0 := hc 0 u0 rfl
      have h1 := hc 1 u1 rfl
      have h2 := hc 2 u2 rfl
      have h3 := hc 3 u3 rfl
      have h4 := hc 4 u4 rfl
      have h5 := hc 5 u5 rfl
      have h6 := hc 6 u6 rfl
      have h7 := hc 7 u7 rfl
      rw [Nat.add_zero] at h0
      rw [add_field _ _ 1 (by omega)] at h1
      rw [add_field _ _ 2 (by omega)] at h2
      rw [add_field _ _ 3 (by omega)] at h3
      rw [add_field _ _ 4 (by omega)] at h4
      rw [add_field _ _ 5 (by omega)] at h5
      rw [add_field _ _ 6 (by omega)] at h6
      rw [add_field _ _ 7 (by omega)] at h7
      have HK := Sh.mk hk1
      clear hc hus hk1
      go_wp2_with (refine callV (some 16) rfl rfl rfl rfl hfv [_] rfl ?_)
      refine (HP.out x _ _ _ _ _ _ _ _ wr (List.mem_of_getElem? HX.out) HB.out HK.out).mono ?_
      rintro e w1 ⟨rfl, hb⟩
      refine ⟨_, rfl, ?_⟩
      have HB1 := Sh.mk (below_then HB.out hb)
      have HS := any_take_succ p HX.out
      rw [HA.out, Bool.false_or] at HS
      cases hpx : p x
      · rw [hpx] at HS
        have HS1 := Sh.mk HS
        clear hpx HS
        go_wp2
        go_roundw
        case rel => exact ⟨k + 1, by omega, by go_num, HS1, HB1⟩
        case measure => simp [intOf]; omega
      · rw [hpx] at HS
        have HS1 := Sh.mk HS
        clear hpx HS
        go_wp2
        go_ret
        refine ⟨k, rfl, ?_, HB1.out⟩
        have : l.any p = true := by
          rw [← List.take_append_drop (k + 1) l, List.any_append, HS1.out, Bool.true_or]
        rw [this]; simp
    · go_wp2
      go_ret
      obtain rfl : k = l.length := by omega
      refine ⟨-1, rfl, ?_, HB.out⟩
      have := HA.out
      rw [List.take_length] at this
      rw [this]; rfl
theorem ContainsFunc_Eq {α : Type} (enc : α → List Dat) (l : List α) (p : α → Bool) (S : Nat → Prop) (g : Nat) (cap : Array Value) (fv : Value) (hfv : Fnv Tryz.prog fv g cap) (v : Value) (w : World) (hr : (Dat.row 8 (l.map enc)).at w S v)
    (hp : ∀ (x : α) (u0 u1 u2 u3 u4 u5 u6 u7 : Value) (w1 : World), x ∈ l → Below w.heap.size w w1 → CellsAt w1 S (enc x) [u0, u1, u2, u3, u4, u5, u6, u7] → Calls Tryz.prog g ([.agg #[u0, u1, u2, u3, u4, u5, u6, u7]].toArray ++ cap) w1 fun e w2 => e = .returned (.bool (p x)) ∧ Below w1.heap.size w1 w2) :
    Calls Tryz.prog 189 #[v, fv] w fun e w' => e = .returned (.bool (l.any p)) ∧ Below w.heap.size w w' := by
  have HR := Sh.mk hr
  have HP := Sh.mk hp
  clear hr hp
  go_enter Tryz.func189, Tryz.ntmps189
  go_wp2_with (go_at_call 235; refine (IndexFunc_Eq enc l p S g cap fv hfv v _ HR.out HP.out).mono ?_; rintro e w1 ⟨r, rfl, hd, hb⟩)
  have HD := Sh.mk hd
  have HB := Sh.mk hb
  clear hd hb
  go_wp2
  go_ret
  exact ⟨by rw [← HD.out]; rfl, HB.out⟩
end Go.Proofs.YtkfdhmeipnfhpaaGreatDoor
