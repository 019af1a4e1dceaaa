/- Package render: clip. -/
import Derived.Test.YtkfdhmeipnfhpaaGreatDoorChk
set_option linter.unusedVariables false
set_option linter.unusedSimpArgs false
namespace Go.Proofs.YtkfdhmeipnfhpaaGreatDoor
open Go.RowKit

set_option maxRecDepth 100000 in
theorem clip_calls (s : ByteArray) (a b : Int) (hs : s.size ≤ 4611686018427387904) (w : World) :
    Calls Tryz.prog 31 #[.string s, .agg #[.int .i64 a, .int .i64 b]] w fun e w' =>
      e = .returned (.agg #[.int .i64 (max 0 (min a (s.size : Int))), .int .i64 (max 0 (max (min a (s.size : Int)) (max 0 (min b (s.size : Int)))))]) ∧ Below w.heap.size w w' := by
  obtain ⟨V, hV⟩ : ∃ V, V = (w.alloc (.cells #[.int .i64 a, .int .i64 b] 23)).alloc (.cells #[.int .i64 0, .int .i64 0] 23) := ⟨_, rfl⟩
  have hx : Blk V w.heap.size 23 [.int .i64 a, .int .i64 b] := by rw [hV]; exact (Blk.new _ _ _).alloc _
  have hr : Blk V (w.heap.size + 1) 23 [.int .i64 0, .int .i64 0] := by rw [hV]; exact Blk.new' _ _ _ (by simp)
  have hw : Below w.heap.size w V := by rw [hV]; exact ((Below.refl _ _).alloc (Nat.le_refl _) _).alloc (by simp) _
  have HW := Sh.mk hw
  have HX := Sh.mk hx
  have HR := Sh.mk hr
  go_enter Tryz.func31, Tryz.ntmps31
  go_upto_region 1 with (fail)
  rw [← hV]
  have p0 := (hx).cell 0
  have p1 := (hx).cell 1
  simp only [List.getElem?_cons_zero, List.getElem?_cons_succ] at p0 p1
  have f0 := (hx).frozen 0
  have f1 := (hx).frozen 1
  have q0 := (hr).cell 0
  have q1 := (hr).cell 1
  simp only [List.getElem?_cons_zero, List.getElem?_cons_succ] at q0 q1
  have g0 := (hr).frozen 0
  have g1 := (hr).frozen 1
  clear hV hx hr hw
  go_wp2_with fail
  have h1 : Blk ((V.setCell ⟨w.heap.size, 0, none⟩ (.int .i64 (max 0 (min a (s.size : Int))))).setCell ⟨w.heap.size, 1, none⟩ (.int .i64 (max 0 (min b (s.size : Int))))) (w.heap.size + 1) 23 [.int .i64 0, .int .i64 0] := (HR.out.far (by simp) _).far (by simp) _
  have h2 : Blk ((((V.setCell ⟨w.heap.size, 0, none⟩ (.int .i64 (max 0 (min a (s.size : Int))))).setCell ⟨w.heap.size, 1, none⟩ (.int .i64 (max 0 (min b (s.size : Int))))).setCell ⟨w.heap.size + 1, 0, none⟩ (.int .i64 (max 0 (min a (s.size : Int))))).setCell ⟨w.heap.size + 1, 1, none⟩ (.int .i64 (max 0 (max (min a (s.size : Int)) (max 0 (min b (s.size : Int))))))) (w.heap.size + 1) 23 [.int .i64 (max 0 (min a (s.size : Int))), .int .i64 (max 0 (max (min a (s.size : Int)) (max 0 (min b (s.size : Int)))))] := (h1.set_ 0 _).set_ 1 _
  have hb : Below w.heap.size w ((((V.setCell ⟨w.heap.size, 0, none⟩ (.int .i64 (max 0 (min a (s.size : Int))))).setCell ⟨w.heap.size, 1, none⟩ (.int .i64 (max 0 (min b (s.size : Int))))).setCell ⟨w.heap.size + 1, 0, none⟩ (.int .i64 (max 0 (min a (s.size : Int))))).setCell ⟨w.heap.size + 1, 1, none⟩ (.int .i64 (max 0 (max (min a (s.size : Int)) (max 0 (min b (s.size : Int))))))) := (((HW.out.setCell (by simp) _).setCell (by simp) _).setCell (by simp) _).setCell (by simp) _
  have c0 := h2.cell 0
  have c1 := h2.cell 1
  simp only [List.getElem?_cons_zero, List.getElem?_cons_succ] at c0 c1
  clear p0 p1 q0 q1 f0 f1 g0 g1
  exact bodyPost_ret (v := .agg #[.int .i64 (max 0 (min a (s.size : Int))), .int .i64 (max 0 (max (min a (s.size : Int)) (max 0 (min b (s.size : Int)))))]) (by simp only [results, Tryz.results31]; simp [go_sem, c0, c1]) rfl ⟨rfl, hb⟩
end Go.Proofs.YtkfdhmeipnfhpaaGreatDoor
