/- The document's Caret (pangramref24). -/
import Derived.Test.YtkfdhmeipnfhpaaGreatDoorAwk
set_option linter.unusedVariables false
set_option linter.unusedSimpArgs false
namespace Go.Proofs.YtkfdhmeipnfhpaaGreatDoor
open Go.RowKit

/-- The line of a place begins at B. -/
structure IsB (s : ByteArray) (lo B : Nat) : Prop where
  le : B ≤ lo
  at0 : B = 0 ∨ ∃ h : B - 1 < s.size, s[B - 1] = 10
  free : ∀ j, B ≤ j → j < lo → ∀ h : j < s.size, s[j] ≠ 10
/-- The line of a place ends at E. -/
structure IsE (s : ByteArray) (lo E : Nat) : Prop where
  le : lo ≤ E
  le2 : E ≤ s.size
  at0 : E = s.size ∨ ∃ h : E < s.size, s[E] = 10
  free : ∀ j, lo ≤ j → j < E → ∀ h : j < s.size, s[j] ≠ 10
theorem reps_succ (c : UInt8) (n : Nat) : reps c (n + 1) = reps c n ++ ⟨#[c]⟩ := by
  have h : ∀ n, Lib.repeatL [c] n = List.replicate n c := by
    intro n
    induction n with
    | zero => rfl
    | succ n ih => unfold Lib.repeatL; rw [ih]; rfl
  unfold reps
  rw [h, h, List.replicate_succ']
  apply ByteArray.ext
  apply Array.ext'
  simp
theorem marks_zero (n : Nat) : marksOf n 0 = reps 32 n := by unfold marksOf; apply ByteArray.ext; simp [reps, Lib.repeatL]
theorem marks_succ (n m : Nat) : marksOf n (m + 1) = marksOf n m ++ ⟨#[94]⟩ := by unfold marksOf; rw [reps_succ, ByteArray.append_assoc]
theorem marks_size (n m : Nat) : (marksOf n m).size = n + m := by unfold marksOf; rw [ByteArray.size_append, reps_size, reps_size]
theorem byte_ten (c : UInt8) : (((c.toNat : Nat) : Int) == 10) = decide (c = 10) := by
  rw [Bool.eq_iff_iff]
  simp only [beq_iff_eq, decide_eq_true_eq]
  constructor
  · intro h
    have h2 : c.toNat = 10 := by omega
    exact UInt8.toNat_inj.1 h2
  · rintro rfl; rfl
set_option maxRecDepth 100000 in
set_option maxHeartbeats 2000000 in
theorem Rcaret_calls (s : ByteArray) (a b : Int) (hs : s.size ≤ 1000000) (w : World) (lo hi : Nat) (hlo : min (max a 0) (s.size : Int) = (lo : Int)) (hhi : max 0 (max (min a (s.size : Int)) (max 0 (min b (s.size : Int)))) = (hi : Int)) :
    Calls Tryz.prog 23 #[.string s, .agg #[.int .i64 a, .int .i64 b]] w fun e w' => ∃ g B E n1 M, e = .returned (.slice (some ⟨g, 0, none⟩) 2 2) ∧ w.heap.size ≤ g ∧ Blk w' g 9 [.string (s.extract B E), .string (marksOf n1 M)] ∧ Below w.heap.size w w' ∧
      IsB s lo B ∧ IsE s lo E ∧ (lo : Int) - B = n1 ∧ max 1 (min (hi : Int) (E : Int) - (lo : Int)) = (M : Int) := by
  have hls : lo ≤ s.size := by omega
  obtain ⟨V, hV⟩ : ∃ V, V = w.alloc (.cells #[.int .i64 a, .int .i64 b] 23) := ⟨_, rfl⟩
  have hx : Blk V w.heap.size 23 [.int .i64 a, .int .i64 b] := by rw [hV]; exact Blk.new _ _ _
  have hw : Below w.heap.size w V := by rw [hV]; exact (Below.refl _ _).alloc (Nat.le_refl _) _
  have HW := Sh.mk hw
  have HX := Sh.mk hx
  have HH := Sh.mk hhi
  go_enter Tryz.func23, Tryz.ntmps23
  go_upto_region 1 with (fail)
  rw [← hV]
  have p0 := (hx).cell 0
  have p1 := (hx).cell 1
  simp only [List.getElem?_cons_zero, List.getElem?_cons_succ] at p0 p1
  clear hV hx hw hhi
  go_upto_region 2 with (fail)
  have HLO := Sh.mk hlo
  have HLS := Sh.mk hls
  clear hlo
  go_upto_block 0 with (fail)
  go_cut [6] (fun s6 wx => ∃ B : Nat, s6 = .int .i64 B ∧ wx = V ∧ Sh (IsB s lo B))
  case first =>
    go_wp2
    go_loop [6] (fun v6 => ∃ k : Nat, v6 = .int .i64 k ∧ k ≤ lo ∧ Sh (∀ j, k ≤ j → j < lo → ∀ h : j < s.size, s[j] ≠ 10)) (fun v6 => (intOf v6).toNat)
    case atStart => exact ⟨lo, rfl, Nat.le_refl _, ⟨fun j h1 h2 => by omega⟩⟩
    case round =>
      obtain ⟨k, rfl, hk, HF⟩ := hrel
      by_cases hk0 : k = 0
      · subst hk0
        have HB : Sh (IsB s lo 0) := ⟨⟨Nat.zero_le _, .inl rfl, HF.out⟩⟩
        clear HF
        go_wp2
        go_meet
        exact ⟨0, rfl, rfl, HB⟩
      · obtain ⟨k', rfl⟩ : ∃ k', k = k' + 1 := ⟨k - 1, by omega⟩
        have hks : k' < s.size := by omega
        have hpos : (0 : Int) < ((k' + 1 : Nat) : Int) := by omega
        have e1 : (((k' + 1 : Nat) : Int) - 1) = (k' : Int) := by omega
        cases hc : decide (s[k'] = 10) with
        | false =>
          have hc2 : ((((s[k']).toNat : Nat) : Int) == 10) = false := by rw [byte_ten]; exact hc
          have HF2 : Sh (∀ j, k' ≤ j → j < lo → ∀ h : j < s.size, s[j] ≠ 10) := ⟨fun j h1 h2 h3 => by
            rcases Nat.lt_or_ge k' j with h | h
            · exact HF.out j h h2 h3
            · have : j = k' := by omega
              subst this
              exact of_decide_eq_false hc⟩
          clear HF
          go_wp2
          exact ⟨⟨k', rfl, by omega, HF2⟩, by simp [intOf]⟩
        | true =>
          have hc2 : ((((s[k']).toNat : Nat) : Int) == 10) = true := by rw [byte_ten]; exact hc
          have HB : Sh (IsB s lo (k' + 1)) := ⟨⟨hk, .inr ⟨hks, of_decide_eq_true hc⟩, HF.out⟩⟩
          clear HF
          go_wp2
          go_meet
          exact ⟨k' + 1, rfl, rfl, HB⟩
  case rest =>
    obtain ⟨B, rfl, hwc, HB⟩ := hcut
    rw [hwc]
    clear hwc
    go_upto_block 2 with (fail)
    go_cut [7] (fun s7 wx => ∃ E : Nat, s7 = .int .i64 E ∧ wx = V ∧ Sh (IsE s lo E))
    case first =>
      go_wp2
      go_loop [7] (fun v7 => ∃ k : Nat, v7 = .int .i64 k ∧ lo ≤ k ∧ k ≤ s.size ∧ Sh (∀ j, lo ≤ j → j < k → ∀ h : j < s.size, s[j] ≠ 10)) (fun v7 => s.size - (intOf v7).toNat)
      case atStart => exact ⟨lo, rfl, Nat.le_refl _, HLS.out, ⟨fun j h1 h2 => by omega⟩⟩
      case round =>
        obtain ⟨k, rfl, hk, hk2, HF⟩ := hrel
        by_cases hk0 : k = s.size
        · subst hk0
          have HE : Sh (IsE s lo s.size) := ⟨⟨hk, Nat.le_refl _, .inl rfl, HF.out⟩⟩
          clear HF
          go_wp2
          go_meet
          exact ⟨_, rfl, rfl, HE⟩
        · have hks : k < s.size := by omega
          cases hc : decide (s[k] = 10) with
          | false =>
            have hc2 : ((((s[k]).toNat : Nat) : Int) == 10) = false := by rw [byte_ten]; exact hc
            have HF2 : Sh (∀ j, lo ≤ j → j < k + 1 → ∀ h : j < s.size, s[j] ≠ 10) := ⟨fun j h1 h2 h3 => by
              rcases Nat.lt_or_ge j k with h | h
              · exact HF.out j h1 h h3
              · have : j = k := by omega
                subst this
                exact of_decide_eq_false hc⟩
            clear HF
            go_wp2
            exact ⟨⟨k + 1, by go_num, by omega, by omega, HF2⟩, by simp [intOf]; omega⟩
          | true =>
            have hc2 : ((((s[k]).toNat : Nat) : Int) == 10) = true := by rw [byte_ten]; exact hc
            have HE : Sh (IsE s lo k) := ⟨⟨hk, hk2, .inr ⟨hks, of_decide_eq_true hc⟩, HF.out⟩⟩
            clear HF
            go_wp2
            go_meet
            exact ⟨k, rfl, rfl, HE⟩
    case rest =>
      obtain ⟨E, rfl, hwc, HE⟩ := hcut
      rw [hwc]
      clear hwc
      have hB := HB.out.le
      have hE1 := HE.out.le
      have hE2 := HE.out.le2
      go_upto_block 4 with (fail)
      go_cut [8] (fun s8 wx => s8 = .string (reps 32 (lo - B)) ∧ wx = V)
      case first =>
        go_wp2
        go_loop [8, 9] (fun v8 v9 => ∃ k : Nat, k ≤ lo - B ∧ v9 = .int .i64 ((B : Int) + (k : Int)) ∧ v8 = .string (reps 32 k)) (fun v8 v9 => lo - (intOf v9).toNat)
        case atStart => exact ⟨0, Nat.zero_le _, by simp, by rfl⟩
        case round =>
          obtain ⟨k, hk, rfl, rfl⟩ := hrel
          by_cases hk0 : k = lo - B
          · have e1 : (decide ((B : Int) + (k : Int) < (lo : Int))) = false := by simp; omega
            go_wp2
            go_meet
            exact ⟨by first | rfl | rw [hk0], rfl⟩
          · have e1 : (decide ((B : Int) + (k : Int) < (lo : Int))) = true := by simp; omega
            have e2 := reps_size 32 k
            have e3 : (9223372036854775807 < (reps 32 k).size + 1) = False := by simp [e2]; omega
            clear e2
            go_wp2
            exact ⟨⟨k + 1, by omega, by go_num, by rw [reps_succ]⟩, by simp [intOf]; omega⟩
      case rest =>
        obtain ⟨rfl, hwc⟩ := hcut
        rw [hwc]
        clear hwc
        obtain ⟨M, hM⟩ : ∃ M : Nat, max 1 (min (hi : Int) (E : Int) - (lo : Int)) = (M : Int) := ⟨(max 1 (min (hi : Int) (E : Int) - (lo : Int))).toNat, by omega⟩
        have HM := Sh.mk hM
        clear hM
        have hr := reps_size 32 (lo - B)
        have e3 : (9223372036854775807 < (reps 32 (lo - B)).size + 1) = False := by simp [hr]; omega
        have hm1 : reps 32 (lo - B) ++ ⟨#[94]⟩ = marksOf (lo - B) 1 := by rw [marks_succ, marks_zero]
        clear hr
        go_upto_block 6 with (fail)
        go_cut [8] (fun s8 wx => s8 = .string (marksOf (lo - B) M) ∧ wx = V)
        case first =>
          clear e3 hm1
          go_wp2
          go_loop [8, 10] (fun v8 v10 => ∃ k : Nat, (k = 0 ∨ ((lo : Int) + (k : Int) < (E : Int) ∧ (lo : Int) + (k : Int) < b)) ∧ v10 = .int .i64 ((lo : Int) + 1 + (k : Int)) ∧ v8 = .string (marksOf (lo - B) (k + 1))) (fun v8 v10 => E + 1 - (intOf v10).toNat)
          case atStart => exact ⟨0, .inl rfl, by simp, by rfl⟩
          case round =>
            obtain ⟨k, hk, rfl, rfl⟩ := hrel
            by_cases hk0 : (lo : Int) + 1 + (k : Int) < (E : Int) ∧ (lo : Int) + 1 + (k : Int) < b
            · obtain ⟨h1, h2⟩ := hk0
              have e2 := marks_size (lo - B) (k + 1)
              have e3 : (9223372036854775807 < (marksOf (lo - B) (k + 1)).size + 1) = False := by simp [e2]; omega
              clear e2
              clear hk
              go_wp2
              exact ⟨⟨k + 1, .inr ⟨by omega, by omega⟩, by go_num, by rw [marks_succ (lo - B) (k + 1)]⟩, by simp [intOf]; omega⟩
            · have hMk : M = k + 1 := by
                have h1 := HM.out
                have h2 := HH.out
                have h3 := HLO.out
                omega
              clear hk
              by_cases h1 : (lo : Int) + 1 + (k : Int) < (E : Int)
              · have h2 : ¬ ((lo : Int) + 1 + (k : Int) < b) := fun h => hk0 ⟨h1, h⟩
                clear hk0
                go_wp2
                go_meet
                exact ⟨by rw [hMk], rfl⟩
              · clear hk0
                go_wp2
                go_meet
                exact ⟨by rw [hMk], rfl⟩
        case rest =>
          obtain ⟨rfl, hwc⟩ := hcut
          rw [hwc]
          clear hwc
          have hBE : B ≤ E := by omega
          go_wp2
          go_ret
          exact ⟨V.heap.size, B, E, lo - B, M, rfl, HW.out.size, Blk.new _ _ _, HW.out.alloc HW.out.size _, HB.out, HE.out, by omega, HM.out⟩
end Go.Proofs.YtkfdhmeipnfhpaaGreatDoor
