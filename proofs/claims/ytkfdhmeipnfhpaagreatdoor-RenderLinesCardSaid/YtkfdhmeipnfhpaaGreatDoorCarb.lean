/- Package render: Caret at any span: the line's beginning and end, said plainly. -/
import Derived.Test.YtkfdhmeipnfhpaaGreatDoorRcar
import Derived.Lib.IndexLaws
import Derived.Lib.IndexBytes
set_option linter.unusedVariables false
set_option linter.unusedSimpArgs false
namespace Go.Proofs.YtkfdhmeipnfhpaaGreatDoor
open Go.RowKit

theorem IsB.uniq {s : ByteArray} {lo B C : Nat} (hl : lo ≤ s.size) (h : IsB s lo B) (k : IsB s lo C) : B = C := by
  have aux : ∀ B C, IsB s lo B → IsB s lo C → ¬ B < C := by
    intro B C h k hlt
    rcases k.at0 with h0 | ⟨h1, h2⟩
    · omega
    · exact h.free (C - 1) (by omega) (by have := k.le; omega) h1 h2
  have h1 := aux B C h k
  have h2 := aux C B k h
  omega
theorem IsE.uniq {s : ByteArray} {lo E F : Nat} (h : IsE s lo E) (k : IsE s lo F) : E = F := by
  have aux : ∀ E F, IsE s lo E → IsE s lo F → ¬ E < F := by
    intro E F h k hlt
    rcases h.at0 with h0 | ⟨h1, h2⟩
    · have := k.le2; omega
    · exact k.free E h.le hlt h1 h2
  have h1 := aux E F h k
  have h2 := aux F E k h
  omega
theorem head_byte (s : ByteArray) (lo j : Nat) (hl : lo ≤ s.size) (hj : j < lo) (hs : j < s.size) : (s.extract 0 lo).data[j]! = s[j] := by
  have h1 : j < (s.extract 0 lo).data.size := by
    have : (s.extract 0 lo).size = lo := by rw [ByteArray.size_extract]; omega
    show j < (s.extract 0 lo).size
    omega
  rw [getElem!_pos (s.extract 0 lo).data j h1]
  have h2 : (s.extract 0 lo).data = s.data.extract 0 lo := ByteArray.data_extract
  have h3 : j < (s.data.extract 0 lo).size := by rw [← h2]; exact h1
  have h4 : (s.extract 0 lo).data[j] = (s.data.extract 0 lo)[j] := by congr 1
  rw [h4, Array.getElem_extract]
  simp only [Nat.zero_add]
  rfl
theorem tail_byte (s : ByteArray) (lo j : Nat) (hs : lo + j < s.size) : (s.extract lo s.size).data.toList[j]? = some s[lo + j] := by
  have h2 : (s.extract lo s.size).data = s.data.extract lo s.size := ByteArray.data_extract
  rw [h2, Array.getElem?_toList, Array.getElem?_extract]
  rw [if_pos (by simp; omega)]
  exact Array.getElem?_eq_getElem hs
theorem isB_of (s : ByteArray) (lo : Nat) (hl : lo ≤ s.size) : ∃ B : Nat, Lib.lastIndexByte (s.extract 0 lo) 10 = (B : Int) - 1 ∧ IsB s lo B := by
  have hz : (s.extract 0 lo).size = lo := by rw [ByteArray.size_extract]; omega
  rcases Lib.lastIndexByte_spec (s.extract 0 lo) 10 with ⟨h1, h2⟩ | ⟨i, h1, h2, h3, h4⟩
  · refine ⟨0, by omega, Nat.zero_le _, .inl rfl, fun j _ hj h e => ?_⟩
    have := h2 j (by omega)
    rw [head_byte s lo j hl hj h, e] at this
    exact this rfl
  · rw [hz] at h1 h4
    refine ⟨i + 1, by omega, by omega, .inr ⟨by omega, ?_⟩, fun j h5 hj h e => ?_⟩
    · rw [head_byte s lo i hl h1 (by omega)] at h3
      have h6 : (s[i]'(by omega)).toNat = 10 := by omega
      exact UInt8.toNat_inj.1 h6
    · have := h4 j (by omega) hj
      rw [head_byte s lo j hl hj h, e] at this
      exact this rfl
theorem isE_of (s : ByteArray) (lo : Nat) (hl : lo ≤ s.size) : ∃ (k : Int) (E : Nat), Lib.indexByte (s.extract lo s.size).data.toList (10 : Int).toNat.toUInt8 = k ∧ (k < 0 ∧ E = s.size ∨ 0 ≤ k ∧ (lo : Int) + k = (E : Int)) ∧ IsE s lo E := by
  have hten : (10 : Int).toNat.toUInt8 = 10 := rfl
  rw [hten]
  have hz : (s.extract lo s.size).data.toList.length = s.size - lo := by
    have : (s.extract lo s.size).size = s.size - lo := by rw [ByteArray.size_extract]; omega
    exact this
  have hge := Lib.indexByte_ge (s.extract lo s.size).data.toList 10
  by_cases h : Lib.indexByte (s.extract lo s.size).data.toList 10 = -1
  · refine ⟨-1, s.size, h, .inl ⟨by omega, rfl⟩, hl, Nat.le_refl _, .inl rfl, fun j h1 h2 h3 e => ?_⟩
    have := Lib.indexByte_none h (j - lo)
    rw [tail_byte s lo (j - lo) (by omega)] at this
    simp only [show lo + (j - lo) = j by omega] at this
    exact this (by rw [e])
  · obtain ⟨o, ho⟩ : ∃ o : Nat, Lib.indexByte (s.extract lo s.size).data.toList 10 = o := ⟨(Lib.indexByte (s.extract lo s.size).data.toList 10).toNat, by omega⟩
    obtain ⟨h1, h2⟩ := Lib.indexByte_some ho
    have hlt : o < s.size - lo := by
      have := (List.getElem?_eq_some_iff.1 h1).1
      omega
    refine ⟨o, lo + o, ho, .inr ⟨by omega, by omega⟩, by omega, by omega, .inr ⟨by omega, ?_⟩, fun j h3 h4 h5 e => ?_⟩
    · rw [tail_byte s lo o (by omega)] at h1
      exact Option.some.inj h1
    · have := h2 (j - lo) (by omega)
      rw [tail_byte s lo (j - lo) (by omega)] at this
      simp only [show lo + (j - lo) = j by omega] at this
      exact this (by rw [e])
theorem Caret_any (s : ByteArray) (a b : Int) (hs : s.size ≤ 1000000) (w : World) (lo hi : Nat) (hlo : max 0 (min a (s.size : Int)) = (lo : Int)) (hhi : max 0 (max (min a (s.size : Int)) (max 0 (min b (s.size : Int)))) = (hi : Int)) :
    Calls Tryz.prog 15 #[.string s, .agg #[.int .i64 a, .int .i64 b]] w fun e w' => ∃ g B E n1 M, e = .returned (.slice (some ⟨g, 0, none⟩) 2 2) ∧ w.heap.size ≤ g ∧ Blk w' g 9 [.string (s.extract B E), .string (marksOf n1 M)] ∧ Below w.heap.size w w' ∧
      IsB s lo B ∧ IsE s lo E ∧ (lo : Int) - B = n1 ∧ max 1 (min (hi : Int) (E : Int) - (lo : Int)) = (M : Int) := by
  have hl : lo ≤ s.size := by omega
  obtain ⟨B, hB, iB⟩ := isB_of s lo hl
  obtain ⟨k, E, hk, hE, iE⟩ := isE_of s lo hl
  obtain ⟨M, hM⟩ : ∃ M : Nat, max 1 (min (hi : Int) (E : Int) - (lo : Int)) = (M : Int) := ⟨(max 1 (min (hi : Int) (E : Int) - (lo : Int))).toNat, by omega⟩
  have h1 := iB.le
  refine (Caret_calls s a b hs w lo hi hlo hhi B E (lo - B) M k hB h1 hk hE iE.le iE.le2 (by omega) hM).mono ?_
  rintro e w' ⟨g, rfl, h1, h2, h3⟩
  exact ⟨g, B, E, lo - B, M, rfl, h1, h2, h3, iB, iE, by omega, hM⟩
end Go.Proofs.YtkfdhmeipnfhpaaGreatDoor
