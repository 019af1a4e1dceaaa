/- Package term, types: one plain term. -/
import Derived.Test.YtkfdhmeipnfhpaaGreatDoorParse
set_option linter.unusedVariables false
set_option linter.unusedSimpArgs false
namespace Go.Proofs.YtkfdhmeipnfhpaaGreatDoor
open Go.RowKit

theorem EqualFunc_nil (fv : Value) (w : World) :
    Calls Tryz.prog 208 #[.slice none 0 0, .slice none 0 0, fv] w fun e w' => e = .returned (.bool true) ∧ w' = w := by
  go_enter Tryz.func208, Tryz.ntmps208
  go_wp2
  go_loop [17] (fun v => v = .int .i64 0) (fun _ => 0)
  case atStart => rfl
  case round =>
    subst hrel
    go_wp2
    go_ret
    exact ⟨rfl, rfl⟩
set_option maxRecDepth 100000 in
theorem Same_zero (w : World) :
    Calls Tryz.prog 160 #[.agg #[.int .i64 0, .int .i64 0, .slice none 0 0], .agg #[.int .i64 0, .int .i64 0, .slice none 0 0]] w fun e w' => e = .returned (.bool true) ∧ Below w.heap.size w w' := by
  go_enter Tryz.func160, Tryz.ntmps160
  go_wp2_with (go_at_call 208; refine (EqualFunc_nil _ _).mono ?_; rintro e w1 ⟨rfl, rfl⟩)
  go_ret
  exact ⟨rfl, ((Below.refl _ _).alloc (Nat.le_refl _) _).alloc (by simp) _⟩
/-- What each kind of term uses. -/
def shapesA : Array Value := #[.bool false, .bool false, .int .i64 0, .int .i64 0, .int .i64 0, .bool true, .bool false, .int .i64 0, .int .i64 0, .int .i64 9223372036854775807, .bool false, .bool false, .int .i64 0, .int .i64 0, .int .i64 999999999, .bool false, .bool false, .int .i64 0, .int .i64 0, .int .i64 1, .bool true, .bool false, .int .i64 1, .int .i64 1, .int .i64 0, .bool false, .bool false, .int .i64 2, .int .i64 2, .int .i64 0, .bool true, .bool false, .int .i64 2, .int .i64 2, .int .i64 0, .bool true, .bool false, .int .i64 2, .int .i64 2, .int .i64 0, .bool false, .bool false, .int .i64 3, .int .i64 3, .int .i64 0, .bool false, .bool false, .int .i64 2, .int .i64 8, .int .i64 0, .bool false, .bool true, .int .i64 1, .int .i64 1, .int .i64 0]
set_option maxRecDepth 100000 in
set_option maxHeartbeats 1000000 in
theorem shapes_calls (w : World) :
    Calls Tryz.prog 158 #[] w fun e w' => e = .returned (.agg shapesA) ∧ Below w.heap.size w w' := by
  go_enter Tryz.func158, Tryz.ntmps158
  go_wp2_with ((with_reducible refine wpList_store_row rfl 218 (.tmp 0) (.tmp 11) rfl w.heap.size shapesA rfl rfl 218 _ (heap_alloc_new w _) (by kernel_rfl) rfl (by kernel_rfl) ?_))
  exact bodyPost_ret (v := .agg shapesA) (results_cell_row rfl _ _ w.heap.size 218 shapesA (0, 0) _ rfl (setRow_heap _ _ _ _ _ _ (heap_alloc_new w _)) Tryz.underlying218 rfl (by kernel_rfl)) rfl ⟨rfl, below_setRow ((Below.refl _ _).alloc (Nat.le_refl _) _) (Nat.le_refl _) _⟩
theorem shape_var (w : World) : (Instr.index 218 (.agg shapesA) (.int .i64 1)).run Tryz.prog w = .ok (.agg #[.bool true, .bool false, .int .i64 0, .int .i64 0, .int .i64 9223372036854775807]) w := by kernel_rfl
/-- A term without parts or a type. -/
def leafV (k : Int) (nm : ByteArray) (n a b : Int) : List Value := [.int .i64 k, .string nm, .int .i64 n, .int .i64 0, .int .i64 0, .slice none 0 0, .slice none 0 0, .int .i64 a, .int .i64 b]
set_option maxRecDepth 100000 in
set_option maxHeartbeats 2000000 in
theorem plain_var (w : World) (nm : ByteArray) (n a b : Int) (hlt : 0 < nm.size) (h1 : nm.size = 1) (hs : smallB nm[0] = true) (hk : kwB nm = false) (hn0 : 0 ≤ n) (hn1 : n ≤ 9223372036854775807) (hG : Gl w) :
    Calls Tryz.prog 109 #[.agg #[.int .i64 1, .string nm, .int .i64 n, .int .i64 0, .int .i64 0, .slice none 0 0, .slice none 0 0, .int .i64 a, .int .i64 b]] w fun e w' => e = .returned (.bool true) ∧ Below w.heap.size w w' := by
  have HN := Sh.mk (fun W hW => Name_one nm hlt h1 hs hk W hW)
  have HG := Sh.mk hG
  have hne : nm.toList.isEmpty = false := not_empty hlt
  obtain ⟨W0, hW0⟩ : ∃ W0, W0 = w.alloc (.cells #[.int .i64 1, .string nm, .int .i64 n, .int .i64 0, .int .i64 0, .slice none 0 0, .slice none 0 0, .int .i64 a, .int .i64 b] 68) := ⟨_, rfl⟩
  have hB0 : Below w.heap.size w W0 := by rw [hW0]; exact (Below.refl _ _).alloc (Nat.le_refl _) _
  have hX0 : Blk W0 w.heap.size 68 [.int .i64 1, .string nm, .int .i64 n, .int .i64 0, .int .i64 0, .slice none 0 0, .slice none 0 0, .int .i64 a, .int .i64 b] := by rw [hW0]; exact Blk.new _ _ _
  have HB0 := Sh.mk hB0
  have HX0 := Sh.mk hX0
  have hsv := shape_var
  have HSV := Sh.mk hsv
  clear hsv hlt h1 hs hk hG hB0
  go_enter Tryz.func109, Tryz.ntmps109
  go_upto_region 1 with (fail)
  rw [← hW0]
  clear hW0
  have p0 := (hX0).cell 0
  have p1 := (hX0).cell 1
  have p2 := (hX0).cell 2
  have p3 := (hX0).cell 3
  have p4 := (hX0).cell 4
  have p5 := (hX0).cell 5
  have p6 := (hX0).cell 6
  have p7 := (hX0).cell 7
  have p8 := (hX0).cell 8
  simp only [List.getElem?_cons_zero, List.getElem?_cons_succ] at p0 p1 p2 p3 p4 p5 p6 p7 p8
  clear hX0
  go_upto_region 3 with (fail)
  go_cut [3] from 7 to 18 (fun s3 wx => ∃ b3, s3 = .pointer (some ⟨b3, 0, none⟩) ∧ Sh (Blk wx b3 217 [.bool true, .bool false, .int .i64 0, .int .i64 0, .int .i64 9223372036854775807] ∧ Below w.heap.size w wx ∧ Blk wx w.heap.size 68 [.int .i64 1, .string nm, .int .i64 n, .int .i64 0, .int .i64 0, .slice none 0 0, .slice none 0 0, .int .i64 a, .int .i64 b]))
  case first =>
    have hsv := HSV.out
    have hz0 := HX0.out.lt
    go_region_law (refine step_call rfl (.func 158) #[] #[] rfl rfl ⟨_, Tryz.func158, by kernel_rfl, rfl⟩ [] rfl ?_; refine (shapes_calls _).mono ?_; rintro e w2 ⟨rfl, hb⟩; refine ⟨_, rfl, ?_⟩; have hx2 : Blk w2 w.heap.size 68 [.int .i64 1, .string nm, .int .i64 n, .int .i64 0, .int .i64 0, .slice none 0 0, .slice none 0 0, .int .i64 a, .int .i64 b] := (hb.block w.heap.size (by simp; omega)).trans (by first | exact HX0.out | exact HX0.out.alloc _); have q0 := hx2.cell 0; (simp only [List.getElem?_cons_zero] at q0); (try (have hz : Blk w2 W0.heap.size 217 [.bool false, .bool false, .int .i64 0, .int .i64 0, .int .i64 0] := (hb.block W0.heap.size (by simp)).trans (Blk.new W0 217 [.bool false, .bool false, .int .i64 0, .int .i64 0, .int .i64 0]); have z0 := hz.cell 0; have z1 := hz.cell 1; have z2 := hz.cell 2; have z3 := hz.cell 3; have z4 := hz.cell 4; (simp only [List.getElem?_cons_zero, List.getElem?_cons_succ] at z0 z1 z2 z3 z4); have g0 := hz.frozen 0; have g1 := hz.frozen 1; have g2 := hz.frozen 2; have g3 := hz.frozen 3; have g4 := hz.frozen 4; have HZ := Sh.mk hz; clear hz)); have hz2 : w.heap.size < w2.heap.size := hx2.lt; have HX2 := Sh.mk hx2; have HB2 := Sh.mk hb; clear hb hx2)
    all_goals
      have hB2 : Below w.heap.size w w2 := by
        first
          | exact below_then HB0.out (((Below.refl W0.heap.size W0).drew).trans HB2.out)
          | exact below_then HB0.out ((((Below.refl W0.heap.size W0).alloc (Nat.le_refl _) _).drew).trans (HB2.out.mono (by simp)))
          | exact below_then HB0.out (((Below.refl W0.heap.size W0).alloc (Nat.le_refl _) _).trans (HB2.out.mono (by simp)))
      have HB9 := Sh.mk hB2
      clear hB2 HB2 hsv
      (first
        | (have HZ9 := HZ.out
           obtain ⟨W9, hW9⟩ : ∃ W9, W9 = setAll w2 W0.heap.size 0 [.bool true, .bool false, .int .i64 0, .int .i64 0, .int .i64 9223372036854775807] := ⟨_, rfl⟩
           have hC9 : Chg (fun k => k = W0.heap.size) w2 W9 := by rw [hW9]; exact setAll_chg _ _ _ _
           have hZ9 : Blk W9 W0.heap.size 217 [.bool true, .bool false, .int .i64 0, .int .i64 0, .int .i64 9223372036854775807] := by rw [hW9]; exact setAll_blk HZ9 rfl
           have hX9 : Blk W9 w.heap.size 68 [.int .i64 1, .string nm, .int .i64 n, .int .i64 0, .int .i64 0, .slice none 0 0, .slice none 0 0, .int .i64 a, .int .i64 b] := (hC9.block _ HX2.out.lt (by omega)).trans HX2.out
           have hB9 : Below w.heap.size w W9 := HB9.out.trans (hC9.below (fun k hk => by omega) HB9.out.size)
           simp only [setAll] at hW9
           rw [← hW9]
           have HR := Sh.mk (And.intro hZ9 (And.intro hB9 hX9))
           clear hW9 hC9 hZ9 hX9 hB9)
        | (obtain ⟨W9, hW9⟩ : ∃ W9, W9 = w2.alloc (.cells #[.bool true, .bool false, .int .i64 0, .int .i64 0, .int .i64 9223372036854775807] 217) := ⟨_, rfl⟩
           have HR : Sh (Blk W9 w2.heap.size 217 [.bool true, .bool false, .int .i64 0, .int .i64 0, .int .i64 9223372036854775807] ∧ Below w.heap.size w W9 ∧ Blk W9 w.heap.size 68 [.int .i64 1, .string nm, .int .i64 n, .int .i64 0, .int .i64 0, .slice none 0 0, .slice none 0 0, .int .i64 a, .int .i64 b]) := ⟨by rw [hW9]; exact ⟨Blk.new _ _ _, HB9.out.alloc HB9.out.size _, HX2.out.alloc _⟩⟩
           rw [← hW9]
           clear hW9))
      go_wp2_with fail
      go_meet
      case rel => exact ⟨_, rfl, HR⟩
  case rest =>
    obtain ⟨b3, rfl, HC⟩ := hcut
    obtain ⟨hS, hB, hX⟩ := HC.out
    have HS := Sh.mk hS
    have HBC := Sh.mk hB
    have HXC := Sh.mk hX
    clear HC p0 p1 p2 p3 p4 p5 p6 p7 p8 HX0 HB0
    have p0 := (hX).cell 0
    have p1 := (hX).cell 1
    have p2 := (hX).cell 2
    have p3 := (hX).cell 3
    have p4 := (hX).cell 4
    have p5 := (hX).cell 5
    have p6 := (hX).cell 6
    have p7 := (hX).cell 7
    have p8 := (hX).cell 8
    simp only [List.getElem?_cons_zero, List.getElem?_cons_succ] at p0 p1 p2 p3 p4 p5 p6 p7 p8
    have t0 := (hS).cell 0
    have t1 := (hS).cell 1
    have t2 := (hS).cell 2
    have t3 := (hS).cell 3
    have t4 := (hS).cell 4
    simp only [List.getElem?_cons_zero, List.getElem?_cons_succ] at t0 t1 t2 t3 t4
    clear hS hB hX
    have HGC := Sh.mk (HG.out.below HBC.out)
    go_wp2_with (first
      | (go_at_call 159; refine (HN.out _ HGC.out).mono ?_; rintro e w5 ⟨rfl, hb⟩; clear p0 p1 p2 p3 p4 p5 p6 p7 p8 t0 t1 t2 t3 t4; have HB5 := Sh.mk (below_then HBC.out hb); have HX5 := Sh.mk (HXC.out.keep hb); have HS5 := Sh.mk (HS.out.keep hb); clear hb; have hx5 := HX5.out; have p0 := hx5.cell 0; have p1 := hx5.cell 1; have p2 := hx5.cell 2; have p3 := hx5.cell 3; have p4 := hx5.cell 4; have p5 := hx5.cell 5; have p6 := hx5.cell 6; have p7 := hx5.cell 7; have p8 := hx5.cell 8; (simp only [List.getElem?_cons_zero, List.getElem?_cons_succ] at p0 p1 p2 p3 p4 p5 p6 p7 p8); have hs5 := HS5.out; have t0 := hs5.cell 0; have t1 := hs5.cell 1; have t2 := hs5.cell 2; have t3 := hs5.cell 3; have t4 := hs5.cell 4; (simp only [List.getElem?_cons_zero, List.getElem?_cons_succ] at t0 t1 t2 t3 t4); clear hx5 hs5)
      | (go_at_call 160; refine (Same_zero _).mono ?_; rintro e w6 ⟨rfl, hb⟩; clear p0 p1 p2 p3 p4 p5 p6 p7 p8 t0 t1 t2 t3 t4; have HB6 := Sh.mk (below_then HB5.out hb); have hx6 := HX5.out.keep hb; have p0 := hx6.cell 0; have p1 := hx6.cell 1; have p2 := hx6.cell 2; have p3 := hx6.cell 3; have p4 := hx6.cell 4; have p5 := hx6.cell 5; have p6 := hx6.cell 6; have p7 := hx6.cell 7; have p8 := hx6.cell 8; (simp only [List.getElem?_cons_zero, List.getElem?_cons_succ] at p0 p1 p2 p3 p4 p5 p6 p7 p8); have hs6 := HS5.out.keep hb; have t0 := hs6.cell 0; have t1 := hs6.cell 1; have t2 := hs6.cell 2; have t3 := hs6.cell 3; have t4 := hs6.cell 4; (simp only [List.getElem?_cons_zero, List.getElem?_cons_succ] at t0 t1 t2 t3 t4); clear hx6 hs6 hb))
    go_ret
    exact ⟨rfl, HB6.out⟩
end Go.Proofs.YtkfdhmeipnfhpaaGreatDoor
