/- Plain laws of layer 24: line feeds as blanks; a place, byte by byte. -/
import Derived.Lib.Replace
import Derived.Lib.IndexLaws
import Derived.Lib.IndexBytes
import Derived.Lib.SplitLaws
import Derived.Lib.LastIndexByte
import Derived.Lib.ItoaNum
set_option linter.unusedVariables false
set_option linter.unusedSimpArgs false
namespace Go.Proofs.YtkfdhmeipnfhpaaGreatDoor
/-- Line feeds as blanks. -/
def blanked (l : List UInt8) : List UInt8 := l.map fun c => if c = 10 then 32 else c
theorem blanked_none {l : List UInt8} (h : ∀ k : Nat, l[k]? ≠ some 10) : blanked l = l := by
  unfold blanked
  conv => rhs; rw [← List.map_id l]
  refine List.map_congr_left fun c hc => ?_
  obtain ⟨k, hk⟩ := List.mem_iff_getElem?.1 hc
  by_cases e : c = 10
  · rw [e] at hk; exact absurd hk (h k)
  · simp [e]
theorem replaceK_lf : ∀ (k : Nat) (l : List UInt8), l.count 10 ≤ k → Lib.replaceK [10] [32] k l = blanked l
  | 0, l, h => by
    unfold Lib.replaceK
    refine (blanked_none fun j hj => ?_).symm
    have := List.count_pos_iff.2 (List.mem_of_getElem? hj)
    omega
  | k + 1, l, h => by
    have hge := Lib.index_ge l [10]
    by_cases hm : Lib.index l [10] = -1
    · rw [Lib.replaceK, if_pos (by rw [hm]; rfl)]
      rw [Lib.index_one] at hm
      exact (blanked_none (Lib.indexByte_none hm)).symm
    · obtain ⟨i, hi⟩ : ∃ i : Nat, Lib.index l [10] = i := ⟨(Lib.index l [10]).toNat, by omega⟩
      rw [Lib.replaceK_hit [10] [32] k l i hi]
      rw [Lib.index_one] at hi
      obtain ⟨h1, h2⟩ := Lib.indexByte_some hi
      have hlt : i < l.length := (List.getElem?_eq_some_iff.1 h1).1
      have hsplit : l = l.take i ++ 10 :: l.drop (i + 1) := by
        conv => lhs; rw [← List.take_append_drop i l]
        congr 1
        rw [List.drop_eq_getElem_cons hlt]
        congr 1
        exact (List.getElem?_eq_some_iff.1 h1).2
      have hc : (l.drop (i + 1)).count 10 ≤ k := by
        have : l.count 10 = (l.take i).count 10 + ((l.drop (i + 1)).count 10 + 1) := by
          conv => lhs; rw [hsplit]
          rw [List.count_append, List.count_cons_self]
        omega
      rw [show [(10 : UInt8)].length = 1 from rfl, replaceK_lf k _ hc]
      have hb : blanked l = blanked (l.take i) ++ 32 :: blanked (l.drop (i + 1)) := by
        conv => lhs; rw [hsplit]
        unfold blanked
        rw [List.map_append, List.map_cons]
        rfl
      rw [hb, blanked_none (l := l.take i) (fun j hj => by
        have hj2 : j < i := by
          have := (List.getElem?_eq_some_iff.1 hj).1
          rw [List.length_take] at this
          omega
        rw [List.getElem?_take_of_lt hj2] at hj
        exact h2 j hj2 hj)]
      simp
theorem replaceAll_lf (l : List UInt8) : Lib.replaceAll l [10] [32] = blanked l := by
  unfold Lib.replaceAll Lib.replace Lib.replaceNum
  rw [if_neg (by decide), if_pos (.inl (by decide)), Lib.count_one]
  exact replaceK_lf _ l (Nat.le_refl _)
/-- A place's line and column, byte by byte. -/
def placeL (s : ByteArray) : Nat → Nat × Nat
  | 0 => (1, 1)
  | k + 1 => if s.data[k]! = 10 then ((placeL s k).1 + 1, 1) else ((placeL s k).1, (placeL s k).2 + 1)
theorem placeL_col (s : ByteArray) : ∀ k : Nat, ((placeL s k).2 : Int) = k - Lib.lastIdx s 10 k
  | 0 => rfl
  | k + 1 => by
    unfold placeL
    split
    · rename_i h
      rw [Lib.lastIdx_hit s 10 k (by rw [h]; rfl)]
      show ((1 : Nat) : Int) = ((k + 1 : Nat) : Int) - (k : Int)
      omega
    · rename_i h
      rw [Lib.lastIdx_miss s 10 k (fun e => h (UInt8.toNat_inj.1 (by
        have : ((10 : UInt8)).toNat = 10 := rfl
        omega)))]
      have := placeL_col s k
      simp only
      omega
theorem placeL_line (s : ByteArray) : ∀ k : Nat, k ≤ s.size → (placeL s k).1 = (s.data.toList.take k).count 10 + 1
  | 0, _ => by simp [placeL]
  | k + 1, h => by
    have hk : k < s.data.toList.length := h
    have ih := placeL_line s k (by omega)
    rw [List.take_add_one, List.getElem?_eq_getElem hk]
    have e : s.data[k]! = s.data.toList[k] := by
      rw [getElem!_pos s.data k h]
      simp
    unfold placeL
    rw [e]
    split
    · rename_i h1
      simp [h1, ih]
    · rename_i h1
      have h2 : ¬ (s.data[k]'h = 10) := by simpa using h1
      have h3 : ¬ ((10 : UInt8) = s.data[k]'h) := fun e => h2 e.symm
      simp [ih, List.count_singleton, h2, h3]
theorem lastIdx_head (s : ByteArray) (m : Nat) (hm : m ≤ s.size) : ∀ k : Nat, k ≤ m → Lib.lastIdx (s.extract 0 m) 10 k = Lib.lastIdx s 10 k
  | 0, _ => rfl
  | k + 1, h => by
    have e : (s.extract 0 m).data[k]! = s.data[k]! := by
      have h1 : k < (s.extract 0 m).data.size := by
        have : (s.extract 0 m).size = m := by rw [ByteArray.size_extract]; omega
        show k < (s.extract 0 m).size
        omega
      have h5 : k < s.data.size := by
        show k < s.size
        omega
      rw [getElem!_pos (s.extract 0 m).data k h1, getElem!_pos s.data k h5]
      have h2 : (s.extract 0 m).data = s.data.extract 0 m := ByteArray.data_extract
      have h3 : k < (s.data.extract 0 m).size := by rw [← h2]; exact h1
      have h4 : (s.extract 0 m).data[k] = (s.data.extract 0 m)[k] := by congr 1
      rw [h4, Array.getElem_extract]
      simp
    unfold Lib.lastIdx
    rw [e, lastIdx_head s m hm k (by omega)]
/-- A number's digits. -/
def dec (n : Nat) : ByteArray := ⟨(Lib.decDigits n).toArray⟩
theorem decDigits_len : ∀ n : Nat, n ≤ 1000000 → (Lib.decDigits n).length ≤ n + 1 := by
  intro n
  induction n using Nat.strongRecOn with
  | _ n ih =>
    intro hn
    rw [Lib.decDigits]
    split
    · simp
    · have := ih (n / 10) (by omega) (by omega)
      rw [List.length_append, List.length_singleton]
      omega
theorem dec_size1 (n : Nat) (hn : n ≤ 1000000) : (dec n).size ≤ n + 1 := by
  have := decDigits_len n hn
  show (Lib.decDigits n).toArray.size ≤ _
  simpa using this
theorem dec_size (n : Nat) (hn : n ≤ 1000000) : (dec n).size ≤ 1000001 := by
  have := decDigits_len n hn
  show (Lib.decDigits n).toArray.size ≤ _
  simp
  omega
end Go.Proofs.YtkfdhmeipnfhpaaGreatDoor
