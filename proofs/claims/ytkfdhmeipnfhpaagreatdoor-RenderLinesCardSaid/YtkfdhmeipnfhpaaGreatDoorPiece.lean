/- Package render: piece. -/
import Derived.Test.YtkfdhmeipnfhpaaGreatDoorPlaceb
set_option linter.unusedVariables false
set_option linter.unusedSimpArgs false
namespace Go.Proofs.YtkfdhmeipnfhpaaGreatDoor
open Go.RowKit

set_option maxRecDepth 100000 in
set_option maxHeartbeats 1000000 in
theorem piece_calls (s : ByteArray) (a b : Int) (m : Int) (hs : s.size ≤ 1000000) (w : World) (hm : ∀ W : World, Below w.heap.size w W → W.cell? ⟨1, 0, none⟩ = some (.int .i64 m)) (lo hi : Nat) (hlo : max 0 (min a (s.size : Int)) = (lo : Int)) (hhi : max 0 (max (min a (s.size : Int)) (max 0 (min b (s.size : Int)))) = (hi : Int))
    (hlen : (s.extract lo hi).size + Lib.countB (s.extract lo hi) ⟨#[10]⟩ * (⟨#[32]⟩ : ByteArray).size ≤ 140737488355328) :
    Calls Tryz.prog 17 #[.string s, .agg #[.int .i64 a, .int .i64 b]] w fun e w' => e = .returned (.string ⟨(Lib.replaceAll (List.take (hi - lo) (List.drop lo s.data.toList)) [10] [32]).toArray⟩) ∧ Below w.heap.size w w' := by
  have hle : lo ≤ hi := by omega
  have hhs : hi ≤ s.size := by omega
  have HC := Sh.mk (fun W => clip_calls s a b (by omega) W)
  rw [hlo, hhi] at HC
  have hsx : (s.extract lo hi).size ≤ 1000000 := by rw [ByteArray.size_extract]; omega
  have HR := Sh.mk (fun (W : World) (hb : Below w.heap.size w W) => Tryz.strings_ReplaceAll (s.extract lo hi) ⟨#[10]⟩ ⟨#[32]⟩ m W (by omega) (hm W hb) (by decide) hlen)
  obtain ⟨V, hV⟩ : ∃ V, V = w.alloc (.cells #[.int .i64 a, .int .i64 b] 23) := ⟨_, rfl⟩
  have hx : Blk V w.heap.size 23 [.int .i64 a, .int .i64 b] := by rw [hV]; exact Blk.new _ _ _
  have hw : Below w.heap.size w V := by rw [hV]; exact (Below.refl _ _).alloc (Nat.le_refl _) _
  have HW := Sh.mk hw
  have HX := Sh.mk hx
  go_enter Tryz.func17, Tryz.ntmps17
  go_upto_region 1 with (fail)
  rw [← hV]
  have p0 := (hx).cell 0
  have p1 := (hx).cell 1
  simp only [List.getElem?_cons_zero, List.getElem?_cons_succ] at p0 p1
  clear hV hx hw hlen hm hlo hhi hsx
  go_upto_region 2 with (first
    | (go_at_call 31; refine (HC.out _).mono ?_; rintro e w2 ⟨rfl, hb2⟩; have hx2 := HX.out.keep hb2; clear p0 p1; have p0 := (hx2).cell 0; have p1 := (hx2).cell 1; (simp only [List.getElem?_cons_zero, List.getElem?_cons_succ] at p0 p1); have f0 := (hx2).frozen 0; have f1 := (hx2).frozen 1;  have HX2 := Sh.mk hx2; have HW2 := Sh.mk (HW.out.trans (hb2.mono HW.out.size)); clear hx2 hb2))
  obtain ⟨W3, hW3⟩ : ∃ W3, W3 = (w2.setCell ⟨w.heap.size, 0, none⟩ (.int .i64 lo)).setCell ⟨w.heap.size, 1, none⟩ (.int .i64 hi) := ⟨_, rfl⟩
  have hx3 : Blk W3 w.heap.size 23 [.int .i64 lo, .int .i64 hi] := by rw [hW3]; exact (HX2.out.set_ 0 _).set_ 1 _
  have HW3 : Sh (Below w.heap.size w W3) := ⟨by rw [hW3]; exact (HW2.out.setCell (Nat.le_refl _) _).setCell (Nat.le_refl _) _⟩
  rw [← hW3]
  clear hW3 p0 p1 f0 f1
  have p0 := (hx3).cell 0
  have p1 := (hx3).cell 1
  simp only [List.getElem?_cons_zero, List.getElem?_cons_succ] at p0 p1
  clear hx3
  go_wp2_with (first
    | (go_at_call 35; refine (HR.out _ HW3.out).mono ?_; rintro e w4 ⟨rfl, hb4⟩))
  go_ret
  exact ⟨rfl, HW3.out.trans (hb4.mono HW3.out.size)⟩
end Go.Proofs.YtkfdhmeipnfhpaaGreatDoor
