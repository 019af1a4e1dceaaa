/- Package render: place, anywhere. -/
import Derived.Test.YtkfdhmeipnfhpaaGreatDoorPiece
import Derived.Test.YtkfdhmeipnfhpaaGreatDoorPla
import Derived.Test.YtkfdhmeipnfhpaaGreatDoorShlh
import Derived.Lib.AppendIntMem
set_option linter.unusedVariables false
set_option linter.unusedSimpArgs false
namespace Go.Proofs.YtkfdhmeipnfhpaaGreatDoor
open Go.RowKit

theorem Itoa_any (n : Nat) (hn : n ≤ 1000000) (w : World) (hG : Gl w) : Calls Tryz.prog 30 #[.int .i64 n] w fun e w' => e = .returned (.string (dec n)) ∧ Below w.heap.size w w' := by
  refine (Tryz.strconv_Itoa (n : Int) (by omega) (by omega) w hG.pow).mono ?_
  rintro e w' ⟨rfl, k, os, rfl⟩
  refine ⟨?_, Lib.below_grow _ w (Nat.le_refl _) k os⟩
  unfold Lib.itoa
  rw [if_neg (by omega), Int.toNat_natCast]
  rfl
/-- A place in words: the k-th byte. -/
def placeS (s : ByteArray) (k : Nat) : ByteArray := dec (placeL s k).1 ++ ⟨#[58]⟩ ++ dec (placeL s k).2
theorem placeL_le (s : ByteArray) : ∀ k : Nat, (placeL s k).1 ≤ k + 1 ∧ (placeL s k).2 ≤ k + 1
  | 0 => ⟨Nat.le_refl _, Nat.le_refl _⟩
  | k + 1 => by
    have := placeL_le s k
    unfold placeL
    split
    · exact ⟨by simp only; omega, by simp only; omega⟩
    · exact ⟨by simp only; omega, by simp only; omega⟩
theorem ahead_eq (s : ByteArray) (i : Int) (k : Nat) (hk : max 0 (min i (s.size : Int)) = (k : Int)) : ahead s i = s.extract 0 k := by unfold ahead; rw [hk, Int.toNat_natCast]
theorem ahead_line (s : ByteArray) (k : Nat) (hk : k ≤ s.size) : Lib.countByte (s.extract 0 k).data.toList 10 + 1 = (placeL s k).1 := by
  rw [placeL_line s k hk]
  unfold Lib.countByte
  congr 2
  rw [ByteArray.data_extract]
  simp
theorem ahead_col (s : ByteArray) (k : Nat) (hk : k ≤ s.size) : ((s.extract 0 k).size : Int) - Lib.lastIndexByte (s.extract 0 k) 10 = ((placeL s k).2 : Int) := by
  have hz : (s.extract 0 k).size = k := by rw [ByteArray.size_extract]; omega
  unfold Lib.lastIndexByte
  rw [hz, lastIdx_head s k hk k (Nat.le_refl _), placeL_col]
set_option maxRecDepth 100000 in
theorem place_any (s : ByteArray) (i : Int) (hs : s.size ≤ 100000) (k : Nat) (hk : max 0 (min i (s.size : Int)) = (k : Int)) (w : World) (hG : Gl w) :
    Calls Tryz.prog 14 #[.string s, .int .i64 i] w fun e w' => e = .returned (.string (placeS s k)) ∧ Below w.heap.size w w' := by
  have hks : k ≤ s.size := by omega
  have hle := placeL_le s k
  have h1 := ahead_line s k hks
  have h2 := ahead_col s k hks
  have hz : (s.extract 0 k).size = k := by rw [ByteArray.size_extract]; omega
  have HP := Sh.mk (Place_calls s i (by omega) (by rw [ahead_eq s i k hk]; omega) (by rw [ahead_eq s i k hk]; omega) (by rw [ahead_eq s i k hk]; omega))
  rw [ahead_eq s i k hk, h2] at HP
  rw [show ((Lib.countByte (s.extract 0 k).data.toList 10 : Nat) : Int) + 1 = (((placeL s k).1 : Nat) : Int) by omega] at HP
  unfold placeS
  obtain ⟨L, hL⟩ : ∃ L, (placeL s k).1 = L := ⟨_, rfl⟩
  obtain ⟨C, hC⟩ : ∃ C, (placeL s k).2 = C := ⟨_, rfl⟩
  rw [hL, hC] at HP ⊢
  rw [hL, hC] at hle
  have HA := Sh.mk (fun W hW => Itoa_any L (by omega) W hW)
  have HB := Sh.mk (fun W hW => Itoa_any C (by omega) W hW)
  have zl := dec_size L (by omega)
  have zc := dec_size C (by omega)
  obtain ⟨dl, hl⟩ : ∃ dl, dec L = dl := ⟨_, rfl⟩
  obtain ⟨dc, hc⟩ : ∃ dc, dec C = dc := ⟨_, rfl⟩
  rw [hl] at zl HA ⊢
  rw [hc] at zc HB ⊢
  have hs1 : (dl ++ ⟨#[58]⟩ : ByteArray).size ≤ 1000002 := by rw [ByteArray.size_append]; have : (⟨#[58]⟩ : ByteArray).size = 1 := rfl; omega
  have HG := Sh.mk hG
  have TOK : Sh (1 = 1) := ⟨rfl⟩
  clear h1 h2 hz hL hC hl hc hle hG
  go_enter Tryz.func14, Tryz.ntmps14
  go_wp2_with (first
    | (go_at_call 29; refine (HP.out _).mono ?_; rintro e w1 ⟨rfl, hw1⟩; rw [hw1]; clear hw1)
    | (go_at_call 30; clear TOK; refine (HA.out _ HG.out).mono ?_; rintro e w1 ⟨rfl, hb1⟩; have HB1 := Sh.mk hb1; clear hb1)
    | (go_at_call 30; refine (HB.out _ (HG.out.below HB1.out)).mono ?_; rintro e w2 ⟨rfl, hb2⟩; have HB2 := Sh.mk (HB1.out.trans (hb2.mono HB1.out.size)); clear hb2))
  go_ret
  exact ⟨rfl, HB2.out⟩
end Go.Proofs.YtkfdhmeipnfhpaaGreatDoor
