/- Package render: place, at small numbers. -/
import Derived.Test.YtkfdhmeipnfhpaaGreatDoorPlace
set_option linter.unusedVariables false
set_option linter.unusedSimpArgs false
namespace Go.Proofs.YtkfdhmeipnfhpaaGreatDoor
open Go.RowKit

set_option maxRecDepth 100000 in
theorem place_small (s : ByteArray) (i : Int) (hs : s.size ≤ 1000000) (h1 : Lib.countByte (ahead s i).data.toList 10 ≤ 1000000) (h2 : -1 ≤ Lib.lastIndexByte (ahead s i) 10) (h3 : Lib.lastIndexByte (ahead s i) 10 ≤ 1000000)
    (L C : Nat) (hdL : (⟨(Lib.decDigits L).toArray⟩ : ByteArray).size ≤ 1000) (hdC : (⟨(Lib.decDigits C).toArray⟩ : ByteArray).size ≤ 1000) (hL : L < 100) (hC : C < 100) (h4 : ((Lib.countByte (ahead s i).data.toList 10 : Nat) : Int) + 1 = (L : Int)) (h5 : ((ahead s i).size : Int) - Lib.lastIndexByte (ahead s i) 10 = (C : Int)) (w : World) :
    Calls Tryz.prog 14 #[.string s, .int .i64 i] w fun e w' => e = .returned (.string (⟨(Lib.decDigits L).toArray⟩ ++ ⟨#[58]⟩ ++ ⟨(Lib.decDigits C).toArray⟩)) ∧ w' = w := by
  have HP := Sh.mk (Place_calls s i hs h1 h2 h3)
  have HA := Sh.mk (fun W => Tryz.strconv_Itoa_small L hL W)
  have HB := Sh.mk (fun W => Tryz.strconv_Itoa_small C hC W)
  rw [h4, h5] at HP
  obtain ⟨dl, hl⟩ : ∃ dl, (⟨(Lib.decDigits L).toArray⟩ : ByteArray) = dl := ⟨_, rfl⟩
  obtain ⟨dc, hc⟩ : ∃ dc, (⟨(Lib.decDigits C).toArray⟩ : ByteArray) = dc := ⟨_, rfl⟩
  rw [hl] at hdL HA ⊢
  rw [hc] at hdC HB ⊢
  have hs1 : (dl ++ ⟨#[58]⟩ : ByteArray).size ≤ 1001 := by rw [ByteArray.size_append]; have : (⟨#[58]⟩ : ByteArray).size = 1 := rfl; omega
  have TOK : Sh (1 = 1) := ⟨rfl⟩
  clear h1 h2 h3 h4 h5 hl hc
  go_enter Tryz.func14, Tryz.ntmps14
  go_wp2_with (first
    | (go_at_call 29; refine (HP.out _).mono ?_; rintro e w1 ⟨rfl, hw1⟩; rw [hw1]; clear hw1)
    | (go_at_call 30; clear TOK; refine (HA.out _).mono ?_; rintro e w1 ⟨rfl, hw1⟩; rw [hw1]; clear hw1)
    | (go_at_call 30; refine (HB.out _).mono ?_; rintro e w1 ⟨rfl, hw1⟩; rw [hw1]; clear hw1))
  go_ret
  exact ⟨rfl, rfl⟩
end Go.Proofs.YtkfdhmeipnfhpaaGreatDoor
