/- Package span: the place of a byte. -/
import Derived.Test.YtkfdhmeipnfhpaaGreatDoorClip
import Derived.Test.YtkfdhmeipnfhpaaGreatDoorShlg
set_option linter.unusedVariables false
set_option linter.unusedSimpArgs false
namespace Go.Proofs.YtkfdhmeipnfhpaaGreatDoor
open Go.RowKit

/-- What stands ahead of a place. -/
def ahead (s : ByteArray) (i : Int) : ByteArray := s.extract 0 (max 0 (min i (s.size : Int))).toNat
set_option maxRecDepth 100000 in
theorem Place_calls (s : ByteArray) (i : Int) (hs : s.size ≤ 1000000) (h1 : Lib.countByte (ahead s i).data.toList 10 ≤ 1000000) (h2 : -1 ≤ Lib.lastIndexByte (ahead s i) 10) (h3 : Lib.lastIndexByte (ahead s i) 10 ≤ 1000000) (w : World) :
    Calls Tryz.prog 29 #[.string s, .int .i64 i] w fun e w' => e = .returned (.tuple #[.int .i64 (Lib.countByte (ahead s i).data.toList 10 + 1), .int .i64 ((ahead s i).size - Lib.lastIndexByte (ahead s i) 10)]) ∧ w' = w := by
  obtain ⟨p, hp⟩ : ∃ p, s.extract 0 (max 0 (min i (s.size : Int))).toNat = p := ⟨_, rfl⟩
  have hps : p.size ≤ 1000000 := by rw [← hp, ByteArray.size_extract]; omega
  have hpe : ahead s i = p := hp
  rw [hpe] at h1 h2 h3 ⊢
  obtain ⟨c, hc⟩ : ∃ c, Lib.countByte p.data.toList 10 = c := ⟨_, rfl⟩
  obtain ⟨l, hl⟩ : ∃ l, Lib.lastIndexByte p 10 = l := ⟨_, rfl⟩
  have HC := Sh.mk (Tryz.strings_Count_one p 10)
  have HL := Sh.mk (Tryz.strings_LastIndexByte p 10 (by omega))
  rw [hc] at h1 HC ⊢
  rw [hl] at h2 h3 HL ⊢
  clear hpe hc hl
  go_enter Tryz.func29, Tryz.ntmps29
  go_wp2_with (first
    | (go_at_call 41; (try rw [hp]); refine (HC.out _).mono ?_; rintro e w1 ⟨rfl, hw1⟩; rw [hw1]; clear hw1)
    | (go_at_call 32; refine (HL.out _).mono ?_; rintro e w1 ⟨rfl, hw1⟩; rw [hw1]; clear hw1))
  exact bodyPost_ret (results_tmp2 rfl _ _ _) rfl ⟨rfl, rfl⟩
end Go.Proofs.YtkfdhmeipnfhpaaGreatDoor
