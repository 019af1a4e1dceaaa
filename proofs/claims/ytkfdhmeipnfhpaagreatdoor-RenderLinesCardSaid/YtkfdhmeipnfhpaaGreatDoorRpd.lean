/- ref01.Place, byte by byte. ref03.Digits. ref24.Place: a place in words. ref24.Piece: a part of a text, byte by byte. What ref24.Piece tells is what render.piece tells. -/
import Derived.Test.YtkfdhmeipnfhpaaGreatDoorMem
import Derived.Test.YtkfdhmeipnfhpaaGreatDoorPla
import Derived.Test.YtkfdhmeipnfhpaaGreatDoorLex
import Derived.Laws.Strings3
import Derived.Laws.Strings2
import Derived.Laws.DeepStrings4
import Derived.Lib.Walk
import Derived.Lib.Strings
import Derived.WalkSpells
import Derived.Deep.RegionLaw
import Derived.Deep.RegionHeldLaw
import Derived.Test.YtkfdhmeipnfhpaaGreatDoorObj
import Derived.Test.YtkfdhmeipnfhpaaGreatDoorSlc
set_option linter.unusedVariables false
set_option linter.unusedSimpArgs false
namespace Go.Proofs.YtkfdhmeipnfhpaaGreatDoor
open Go.RowKit

theorem placeL_bound (s : ByteArray) : ∀ k : Nat, (placeL s k).1 ≤ k + 1 ∧ (placeL s k).2 ≤ k + 1
  | 0 => ⟨Nat.le_refl _, Nat.le_refl _⟩
  | k + 1 => by
    have := placeL_bound s k
    unfold placeL
    split
    · exact ⟨by simp only; omega, by simp only; omega⟩
    · exact ⟨by simp only; omega, by simp only; omega⟩
theorem byte_lf (c : UInt8) : (((c.toNat : Nat) : Int) == 10) = decide (c = 10) := by
  rw [Bool.eq_iff_iff]
  simp only [beq_iff_eq, decide_eq_true_eq]
  constructor
  · intro h
    have h2 : c.toNat = 10 := by omega
    exact UInt8.toNat_inj.1 h2
  · rintro rfl; rfl
theorem placeL_hit {s : ByteArray} {k : Nat} (h : k < s.size) (e : s[k] = 10) : placeL s (k + 1) = ((placeL s k).1 + 1, 1) := by
  have h1 : s.data[k]! = 10 := by rw [getElem!_pos s.data k h]; exact e
  conv => lhs; unfold placeL
  rw [if_pos h1]
theorem placeL_miss {s : ByteArray} {k : Nat} (h : k < s.size) (e : ¬ s[k] = 10) : placeL s (k + 1) = ((placeL s k).1, (placeL s k).2 + 1) := by
  have h1 : ¬ s.data[k]! = 10 := by rw [getElem!_pos s.data k h]; exact e
  conv => lhs; unfold placeL
  rw [if_neg h1]
set_option maxRecDepth 100000 in
set_option maxHeartbeats 2000000 in
theorem Rplace_calls (s : ByteArray) (i : Int) (hs : s.size ≤ 100000) (n : Nat) (hn : max 0 (min i (s.size : Int)) = (n : Int)) (w : World) :
    Calls Tryz.prog 36 #[.string s, .int .i64 i] w fun e w' => e = .returned (.tuple #[.int .i64 (placeL s n).1, .int .i64 (placeL s n).2]) ∧ Below w.heap.size w w' := by
  have HN := Sh.mk hn
  clear hn
  go_enter Tryz.func36, Tryz.ntmps36
  go_upto_block 0 with (fail)
  go_cut [6, 7] (fun s6 s7 wx => s6 = .int .i64 (placeL s n).1 ∧ s7 = .int .i64 (placeL s n).2 ∧ wx = w)
  case first =>
    go_wp2
    go_loop [6, 7, 8] (fun v6 v7 v8 => ∃ k : Nat, k ≤ n ∧ v6 = .int .i64 (placeL s k).1 ∧ v7 = .int .i64 (placeL s k).2 ∧ v8 = .int .i64 k) (fun v6 v7 v8 => s.size - (intOf v8).toNat)
    case atStart => exact ⟨0, Nat.zero_le _, rfl, rfl, rfl⟩
    case round =>
      obtain ⟨k, hk, rfl, rfl, rfl⟩ := hrel
      by_cases hlt : k < n
      · have hks : k < s.size := by have := HN.out; omega
        have hki : (k : Int) < i := by have := HN.out; omega
        have hb := placeL_bound s k
        cases hc : decide (s[k] = 10) with
        | false =>
          have hc2 : ((((s[k]).toNat : Nat) : Int) == 10) = false := by rw [byte_lf]; exact hc
          have hm := placeL_miss hks (of_decide_eq_false hc)
          obtain ⟨L, hL⟩ : ∃ L, (placeL s k).1 = L := ⟨_, rfl⟩
          obtain ⟨C, hC⟩ : ∃ C, (placeL s k).2 = C := ⟨_, rfl⟩
          rw [hL, hC] at hm hb ⊢
          have HM := Sh.mk hm
          clear hm hL hC
          go_wp2
          exact ⟨⟨k + 1, by omega, by rw [HM.out], by rw [HM.out]; go_num, by go_num⟩, by simp [intOf]; omega⟩
        | true =>
          have hc2 : ((((s[k]).toNat : Nat) : Int) == 10) = true := by rw [byte_lf]; exact hc
          have hm := placeL_hit hks (of_decide_eq_true hc)
          obtain ⟨L, hL⟩ : ∃ L, (placeL s k).1 = L := ⟨_, rfl⟩
          obtain ⟨C, hC⟩ : ∃ C, (placeL s k).2 = C := ⟨_, rfl⟩
          rw [hL, hC] at hb ⊢
          rw [hL] at hm
          have HM := Sh.mk hm
          clear hm hL hC
          go_wp2
          exact ⟨⟨k + 1, by omega, by rw [HM.out]; go_num, by rw [HM.out]; rfl, by go_num⟩, by simp [intOf]; omega⟩
      · have hkn : k = n := by omega
        subst hkn
        by_cases h1 : k < s.size
        · have h2 : ¬ (k : Int) < i := by have := HN.out; omega
          go_wp2
          go_meet
          exact ⟨rfl, rfl, rfl⟩
        · go_wp2
          go_meet
          exact ⟨rfl, rfl, rfl⟩
  case rest =>
    obtain ⟨rfl, rfl, hwc⟩ := hcut
    rw [hwc]
    clear hwc
    go_wp2
    exact bodyPost_ret (results_tmp2 rfl _ _ _) rfl ⟨rfl, (Below.refl _ _)⟩
end Go.Proofs.YtkfdhmeipnfhpaaGreatDoor
set_option linter.unusedVariables false
set_option linter.unusedSimpArgs false
namespace Go.Proofs.YtkfdhmeipnfhpaaGreatDoor
open Go.RowKit

theorem digit_at : ∀ n : Fin 10, (⟨#[48, 49, 50, 51, 52, 53, 54, 55, 56, 57]⟩ : ByteArray).extract n.val (n.val + 1) = ⟨#[UInt8.ofNat (48 + n.val)]⟩ := by decide +kernel
set_option maxRecDepth 100000 in
theorem Digits_calls : ∀ (n : Nat), n ≤ 1000000 → ∀ (w : World), Calls Tryz.prog 37 #[.int .i64 n] w fun e w' => e = .returned (.string (dec n)) ∧ Below w.heap.size w w' := by
  intro n
  induction n using Nat.strongRecOn with
  | _ n ih =>
    intro hn w
    by_cases h : n < 10
    · have hd : dec n = ⟨#[UInt8.ofNat (48 + n)]⟩ := by unfold dec; rw [Lib.decDigits, dif_pos h]
      have hx := digit_at ⟨n, h⟩
      simp only at hx
      obtain ⟨D, hD⟩ : ∃ D : ByteArray, (⟨#[UInt8.ofNat (48 + n)]⟩ : ByteArray) = D := ⟨_, rfl⟩
      rw [hD] at hx hd
      rw [hd]
      clear hD
      have e1 : ((n : Int) + 1).toNat = n + 1 := by omega
      have e2 : (n : Int) + 1 ≤ 10 := by omega
      have e3 : (0 : Int) ≤ (n : Int) + 1 := by omega
      have e4 : n + 1 ≤ 10 := by omega
      have e5 : (⟨#[48, 49, 50, 51, 52, 53, 54, 55, 56, 57]⟩ : ByteArray).size = 10 := rfl
      go_enter Tryz.func37, Tryz.ntmps37
      go_wp2
      go_ret
      exact ⟨rfl, Below.refl _ _⟩
    · have hd : dec n = dec (n / 10) ++ ⟨#[UInt8.ofNat (48 + n % 10)]⟩ := by
        unfold dec
        conv => lhs; rw [Lib.decDigits, dif_neg h]
        apply ByteArray.ext
        apply Array.ext'
        simp
      have hx := digit_at ⟨n % 10, by omega⟩
      simp only at hx
      have HI := Sh.mk (fun W => ih (n / 10) (by omega) (by omega) W)
      have e5 : (⟨#[48, 49, 50, 51, 52, 53, 54, 55, 56, 57]⟩ : ByteArray).size = 10 := rfl
      have q1 : IntKind.i64.wrap ((n : Int) / 10) = ((n / 10 : Nat) : Int) := by rw [IntWalk.i64_in _ (by omega)]; omega
      obtain ⟨r, hr⟩ : ∃ r : Nat, n % 10 = r := ⟨_, rfl⟩
      have hr10 : r < 10 := by omega
      have q2 : Int.tmod (n : Int) 10 = (r : Int) := by rw [Int.tmod_eq_emod_of_nonneg (by omega)]; omega
      have q4 : (n : Int) % 10 = (r : Int) := by omega
      rw [hr] at hx hd
      obtain ⟨D, hD⟩ : ∃ D : ByteArray, (⟨#[UInt8.ofNat (48 + r)]⟩ : ByteArray) = D := ⟨_, rfl⟩
      have zD : D.size = 1 := by rw [← hD]; rfl
      rw [hD] at hx hd
      rw [hd]
      have q3 : IntKind.i64.wrap ((r : Int) + 1) = (r : Int) + 1 := by rw [IntWalk.i64_in _ (by omega)]
      have e1 : ((r : Int) + 1).toNat = r + 1 := by omega
      have e2 : (r : Int) + 1 ≤ 10 := by omega
      have e3 : (0 : Int) ≤ (r : Int) + 1 := by omega
      have e4 : r + 1 ≤ 10 := by omega
      have e6 : (r : Int) ≤ (r : Int) + 1 := by omega
      have e7 : (0 : Int) ≤ (r : Int) := by omega
      have e8 : r ≤ r + 1 := by omega
      have e9 : (r : Int) < 10 := by omega
      have zd := dec_size1 (n / 10) (by omega)
      obtain ⟨E, hE⟩ : ∃ E : ByteArray, dec (n / 10) = E := ⟨_, rfl⟩
      rw [hE] at HI zd ⊢
      have g1 : (9223372036854775807 < E.size + D.size) = False := by simp; omega
      have g2 : (9223372036854775807 < E.size + 1) = False := by simp; omega
      clear hD hr hE
      go_enter Tryz.func37, Tryz.ntmps37
      go_wp2_with fail
      go_region_held_law (fun w' => True) (first | exact trivial) (first
        | (go_at_call 37; refine (HI.out _).mono ?_; rintro e w5 ⟨rfl, hb5⟩; have HB5 : Sh (Below w.heap.size w w5) := ⟨(Below.refl _ w).drew.trans hb5⟩; clear hb5)
        | fail)
      go_wp2
      go_ret
      exact ⟨rfl, HB5.out⟩
end Go.Proofs.YtkfdhmeipnfhpaaGreatDoor
set_option linter.unusedVariables false
set_option linter.unusedSimpArgs false
namespace Go.Proofs.YtkfdhmeipnfhpaaGreatDoor
open Go.RowKit

/-- A place in words: the k-th byte. -/
def placeW (s : ByteArray) (k : Nat) : ByteArray := dec (placeL s k).1 ++ ⟨#[58]⟩ ++ dec (placeL s k).2
set_option maxRecDepth 100000 in
set_option maxHeartbeats 2000000 in
theorem Rplw_calls (s : ByteArray) (i : Int) (hs : s.size ≤ 100000) (n : Nat) (hn : max 0 (min i (s.size : Int)) = (n : Int)) (w : World) :
    Calls Tryz.prog 22 #[.string s, .int .i64 i] w fun e w' => e = .returned (.string (placeW s n)) ∧ Below w.heap.size w w' := by
  have hns : n ≤ s.size := by omega
  have hle := placeL_bound s n
  have HP := Sh.mk (fun W => Rplace_calls s i hs n hn W)
  unfold placeW
  obtain ⟨L, hL⟩ : ∃ L, (placeL s n).1 = L := ⟨_, rfl⟩
  obtain ⟨C, hC⟩ : ∃ C, (placeL s n).2 = C := ⟨_, rfl⟩
  rw [hL, hC] at HP hle ⊢
  have HA := Sh.mk (fun W => Digits_calls L (by omega) W)
  have HB := Sh.mk (fun W => Digits_calls C (by omega) W)
  have zl := dec_size1 L (by omega)
  have zc := dec_size1 C (by omega)
  obtain ⟨dl, hl⟩ : ∃ dl, dec L = dl := ⟨_, rfl⟩
  obtain ⟨dc, hc⟩ : ∃ dc, dec C = dc := ⟨_, rfl⟩
  rw [hl] at zl HA ⊢
  rw [hc] at zc HB ⊢
  have hs1 : (dl ++ ⟨#[58]⟩ : ByteArray).size ≤ 1000002 := by rw [ByteArray.size_append]; have : (⟨#[58]⟩ : ByteArray).size = 1 := rfl; omega
  have g1 : (9223372036854775807 < dl.size + 1) = False := by simp; omega
  have g2 : (9223372036854775807 < dl.size + 1 + dc.size) = False := by simp; omega
  have TOK : Sh (1 = 1) := ⟨rfl⟩
  clear hn hL hC hl hc hle
  go_enter Tryz.func22, Tryz.ntmps22
  go_wp2_with (first
    | (go_at_call 36; refine (HP.out _).mono ?_; rintro e w1 ⟨rfl, hb1⟩; have HB1 := Sh.mk hb1; clear hb1)
    | (go_at_call 37; clear TOK; refine (HA.out _).mono ?_; rintro e w2 ⟨rfl, hb2⟩; have HB2 := Sh.mk (HB1.out.trans (hb2.mono HB1.out.size)); clear hb2)
    | (go_at_call 37; refine (HB.out _).mono ?_; rintro e w3 ⟨rfl, hb3⟩; have HB3 := Sh.mk (HB2.out.trans (hb3.mono HB2.out.size)); clear hb3))
  go_ret
  exact ⟨rfl, HB3.out⟩
end Go.Proofs.YtkfdhmeipnfhpaaGreatDoor
set_option linter.unusedVariables false
set_option linter.unusedSimpArgs false
namespace Go.Proofs.YtkfdhmeipnfhpaaGreatDoor
open Go.RowKit

/-- What a span has of the first k bytes, line feeds as blanks. -/
def pieceA (s : ByteArray) (a b : Int) : Nat → List UInt8
  | 0 => []
  | k + 1 => if (k : Int) < a ∨ b ≤ (k : Int) then pieceA s a b k else pieceA s a b k ++ [if s.data[k]! = 10 then 32 else s.data[k]!]
theorem pieceA_len (s : ByteArray) (a b : Int) : ∀ k, (pieceA s a b k).length ≤ k
  | 0 => Nat.le_refl _
  | k + 1 => by
    have := pieceA_len s a b k
    unfold pieceA
    split
    · omega
    · rw [List.length_append, List.length_singleton]; omega
def pieceB (s : ByteArray) (a b : Int) (k : Nat) : ByteArray := ⟨(pieceA s a b k).toArray⟩
theorem pieceB_size (s : ByteArray) (a b : Int) (k : Nat) : (pieceB s a b k).size ≤ k := by
  have := pieceA_len s a b k
  show (pieceA s a b k).toArray.size ≤ k
  simpa using this
theorem pieceB_out {s : ByteArray} {a b : Int} {k : Nat} (h : (k : Int) < a ∨ b ≤ (k : Int)) : pieceB s a b (k + 1) = pieceB s a b k := by
  unfold pieceB
  conv => lhs; unfold pieceA
  rw [if_pos h]
theorem pieceB_in {s : ByteArray} {a b : Int} {k : Nat} (h1 : ¬ (k : Int) < a) (h2 : ¬ b ≤ (k : Int)) (hk : k < s.size) : pieceB s a b (k + 1) = pieceB s a b k ++ ⟨#[if s[k] = 10 then 32 else s[k]]⟩ := by
  have e : s.data[k]! = s[k] := by rw [getElem!_pos s.data k hk]; rfl
  unfold pieceB
  conv => lhs; unfold pieceA
  rw [if_neg (by omega), e]
  apply ByteArray.ext
  apply Array.ext'
  simp
theorem one_byte (s : ByteArray) (k : Nat) (hk : k < s.size) : s.extract k (k + 1) = ⟨#[s[k]]⟩ := by
  apply ByteArray.ext
  apply Array.ext'
  rw [ByteArray.data_extract]
  apply List.ext_getElem?
  intro j
  have hk2 : k < s.data.size := hk
  rw [Array.getElem?_toList, Array.getElem?_extract]
  rcases j with _ | j
  · simp only [Nat.add_zero, List.getElem?_cons_zero]
    rw [if_pos (by omega), Array.getElem?_eq_getElem hk2]
    rfl
  · rw [if_neg (by omega)]
    simp
set_option maxRecDepth 100000 in
set_option maxHeartbeats 2000000 in
theorem Rpiece_calls (s : ByteArray) (a b : Int) (hs : s.size ≤ 100000) (w : World) :
    Calls Tryz.prog 24 #[.string s, .agg #[.int .i64 a, .int .i64 b]] w fun e w' => e = .returned (.string (pieceB s a b s.size)) ∧ Below w.heap.size w w' := by
  obtain ⟨V, hV⟩ : ∃ V, V = w.alloc (.cells #[.int .i64 a, .int .i64 b] 23) := ⟨_, rfl⟩
  have c0 : V.cell? ⟨w.heap.size, 0, none⟩ = some (.int .i64 a) := by rw [hV]; exact (Blk.new w 23 [.int .i64 a, .int .i64 b]).cell 0
  have c1 : V.cell? ⟨w.heap.size, 1, none⟩ = some (.int .i64 b) := by rw [hV]; exact (Blk.new w 23 [.int .i64 a, .int .i64 b]).cell 1
  have hw : Below w.heap.size w V := by rw [hV]; exact (Below.refl _ _).alloc (Nat.le_refl _) _
  have HW := Sh.mk hw
  go_enter Tryz.func24, Tryz.ntmps24
  go_upto_region 1 with (fail)
  rw [← hV]
  clear hV hw
  go_wp2
  go_loop [5, 6] (fun v5 v6 => ∃ k : Nat, k ≤ s.size ∧ v5 = .string (pieceB s a b k) ∧ v6 = .int .i64 k) (fun _ v6 => s.size - (intOf v6).toNat)
  case atStart => exact ⟨0, Nat.zero_le _, rfl, rfl⟩
  case round =>
    obtain ⟨k, hk, rfl, rfl⟩ := hrel
    by_cases hlt : k < s.size
    · by_cases ha : (k : Int) < a
      · have hP := Sh.mk (pieceB_out (s := s) (a := a) (b := b) (k := k) (.inl ha))
        go_wp2
        exact ⟨⟨k + 1, by omega, by rw [hP.out], by go_num⟩, by simp [intOf]; omega⟩
      · by_cases hb : b ≤ (k : Int)
        · have hP := Sh.mk (pieceB_out (s := s) (a := a) (b := b) (k := k) (.inr hb))
          go_wp2
          exact ⟨⟨k + 1, by omega, by rw [hP.out], by go_num⟩, by simp [intOf]; omega⟩
        · have hP := Sh.mk (pieceB_in (s := s) (a := a) (b := b) (k := k) ha hb hlt)
          have z := pieceB_size s a b k
          have g1 : (9223372036854775807 < (pieceB s a b k).size + 1) = False := by simp; omega
          have ho := one_byte s k hlt
          cases hc : decide (s[k] = 10) with
          | false =>
            have hc2 : ((((s[k]).toNat : Nat) : Int) == 10) = false := by rw [byte_lf]; exact hc
            have HC := Sh.mk (of_decide_eq_false hc)
            clear hc
            go_wp2
            exact ⟨⟨k + 1, by omega, by rw [hP.out, if_neg HC.out], by go_num⟩, by simp [intOf]; omega⟩
          | true =>
            have hc2 : ((((s[k]).toNat : Nat) : Int) == 10) = true := by rw [byte_lf]; exact hc
            have HC := Sh.mk (of_decide_eq_true hc)
            clear hc
            go_wp2
            exact ⟨⟨k + 1, by omega, by rw [hP.out, if_pos HC.out], by go_num⟩, by simp [intOf]; omega⟩
    · have hk2 : k = s.size := by omega
      subst hk2
      go_wp2
      go_ret
      exact ⟨rfl, HW.out⟩
end Go.Proofs.YtkfdhmeipnfhpaaGreatDoor
set_option linter.unusedVariables false
set_option linter.unusedSimpArgs false
namespace Go.Proofs.YtkfdhmeipnfhpaaGreatDoor
open Go.RowKit

theorem pieceA_eq (s : ByteArray) (a b : Int) (lo hi : Nat) (hh : hi ≤ s.size) (h : ∀ j : Nat, j < s.size → ((a ≤ (j : Int) ∧ (j : Int) < b) ↔ (lo ≤ j ∧ j < hi))) : ∀ k : Nat, k ≤ s.size → pieceA s a b k = blanked (List.take (min k hi - lo) (List.drop lo s.data.toList))
  | 0, _ => by simp [pieceA, blanked]
  | k + 1, hk => by
    have ih := pieceA_eq s a b lo hi hh h k (by omega)
    have hj := h k (by omega)
    unfold pieceA
    split
    · rename_i ho
      rw [ih]
      have hn : ¬ (lo ≤ k ∧ k < hi) := fun e => by have := hj.2 e; omega
      congr 2
      omega
    · rename_i ho
      obtain ⟨h1, h2⟩ := hj.1 ⟨by omega, by omega⟩
      rw [ih, show min (k + 1) hi - lo = (min k hi - lo) + 1 by omega, List.take_add_one, List.getElem?_drop]
      have hkl : lo + (min k hi - lo) = k := by omega
      have hkz : k < s.data.toList.length := hk
      rw [hkl, List.getElem?_eq_getElem hkz]
      have e : s.data[k]! = s.data.toList[k] := by
        rw [getElem!_pos s.data k hk]
        simp
      rw [e]
      unfold blanked
      simp
theorem pieceB_eq (s : ByteArray) (x : Int × Int) : pieceB s x.1 x.2 s.size = pieceS s (clipLo s x) (clipHi s x) := by
  have e1 := clipLo_eq s x
  have e2 := clipHi_eq s x
  unfold pieceB pieceS
  generalize clipLo s x = lo at e1
  generalize clipHi s x = hi at e2
  rw [pieceA_eq s x.1 x.2 lo hi (by omega) (fun j hj => by omega) s.size (Nat.le_refl _)]
  have : min s.size hi - lo = hi - lo := by omega
  rw [this]
end Go.Proofs.YtkfdhmeipnfhpaaGreatDoor
