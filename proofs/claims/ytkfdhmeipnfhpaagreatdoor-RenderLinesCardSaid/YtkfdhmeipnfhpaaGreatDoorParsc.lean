/- Package parse: a text of one atom. -/
import Derived.Test.YtkfdhmeipnfhpaaGreatDoorParsb
set_option linter.unusedVariables false
set_option linter.unusedSimpArgs false
namespace Go.Proofs.YtkfdhmeipnfhpaaGreatDoor
open Go.RowKit

/-- What is read: an atom of a kind. -/
structure One (l : List Tok) (t tE : Tok) (k : Int) (nm : ByteArray) (num : Int) : Prop where
  first : l[0]? = some t
  last : l[1]? = some tE
  kind : t.kind = 1 ∨ t.kind = 2
  ended : tE.kind = 0
  read : ∀ (w : World) (r : Nat) (v : Value) (lv : Int), Rd w r v l (0 : Nat) 1000 0 → Calls Tryz.prog 253 #[.pointer (some ⟨r, 0, none⟩), .int .i64 lv] w (atomPost w r v l 0 1000 0 t k nm num)
set_option maxRecDepth 100000 in
set_option maxHeartbeats 2000000 in
theorem application_one (w : World) (r : Nat) (v : Value) (l : List Tok) (t tE : Tok) (k : Int) (nm : ByteArray) (num lv : Int) (h : Rd w r v l (0 : Nat) 1000 0) (ho : One l t tE k nm num) :
    Calls Tryz.prog 207 #[.pointer (some ⟨r, 0, none⟩), .int .i64 lv] w (atomPost w r v l 0 1000 0 t k nm num) := by
  have H := Sh.mk h
  have HO := Sh.mk ho
  clear h ho
  go_enter Tryz.func207, Tryz.ntmps207
  go_wp2_with fail
  have hal := (Below.refl w.heap.size w).alloc (Nat.le_refl _) (.cells zPart.toArray 210)
  refine (ahead_yes _ r v l 0 1000 0 t (H.out.keep hal) HO.out.first HO.out.kind).mono ?_
  rintro en w1 ⟨rfl, hb⟩
  have HB1 := Sh.mk (below_then hal hb)
  have HX1 := Sh.mk ((Blk.new w 210 zPart).keep hb)
  have HR1 := Sh.mk (H.out.keep (below_then hal hb))
  clear hb hal
  go_wp2_with fail
  refine (HO.out.read _ r v lv HR1.out).mono ?_
  rintro en w2 ⟨rfl, hR2, hC2⟩
  have HX2 : Sh (Blk w2 w.heap.size 210 zPart) := ⟨(hC2.block _ HX1.out.lt (by have := H.out.lt; omega)).trans HX1.out⟩
  have HC2 := Sh.mk ((Chg.of_below HB1.out).trans hC2 (fun k hk _ => .inl hk))
  have HR2 := Sh.mk hR2
  clear hR2 hC2 HX1 HR1 HB1
  go_wp2_with fail
  obtain ⟨W3, hW3⟩ : ∃ W3, W3 = w2.alloc (.cells #[.int .i64 k, .string nm, .int .i64 num, .int .i64 0, .int .i64 0, .slice none 0 0, .slice none 0 0, .int .i64 t.a, .int .i64 t.b, .int .i64 t.a, .int .i64 t.b] 210) := ⟨_, rfl⟩
  have hB3 : Below w2.heap.size w2 W3 := by rw [hW3]; exact (Below.refl _ _).alloc (Nat.le_refl _) _
  have HY3 : Sh (Blk W3 w2.heap.size 210 [.int .i64 k, .string nm, .int .i64 num, .int .i64 0, .int .i64 0, .slice none 0 0, .slice none 0 0, .int .i64 t.a, .int .i64 t.b, .int .i64 t.a, .int .i64 t.b]) := ⟨by rw [hW3]; exact Blk.new _ _ _⟩
  have HX3 := Sh.mk (HX2.out.keep hB3)
  have HC3 := Sh.mk (HC2.out.thenBelow hB3)
  have HR3 := Sh.mk (HR2.out.keep hB3)
  rw [← hW3]
  clear hW3 hB3 HX2 HC2 HR2
  go_loopw [22] (fun _ wr => wr = W3) (fun _ _ => 0)
  case atStart => rfl
  case round =>
    subst hrel
    have hr3 := HR3.out
    have c3 := hr3.blk.cell 3
    simp only [List.getElem?_cons_zero, List.getElem?_cons_succ] at c3
    clear hr3
    go_wp2_with fail
    refine (ahead_end _ r v l 1 1000 0 tE HR3.out HO.out.last HO.out.ended).mono ?_
    rintro en w4 ⟨rfl, hb⟩
    have HC4 := Sh.mk (HC3.out.thenBelow hb)
    have HR4 := Sh.mk (HR3.out.keep hb)
    have HX4 := Sh.mk (HX3.out.keep hb)
    have hY4 := HY3.out.keep hb
    clear HC3 HR3 HX3 HY3 hb c3
    have y0 := (hY4).cell 0
    have y1 := (hY4).cell 1
    have y2 := (hY4).cell 2
    have y3 := (hY4).cell 3
    have y4 := (hY4).cell 4
    have y5 := (hY4).cell 5
    have y6 := (hY4).cell 6
    have y7 := (hY4).cell 7
    have y8 := (hY4).cell 8
    have y9 := (hY4).cell 9
    have y10 := (hY4).cell 10
    simp only [List.getElem?_cons_zero, List.getElem?_cons_succ] at y0 y1 y2 y3 y4 y5 y6 y7 y8 y9 y10
    have hX4 := HX4.out
    unfold zPart at hX4
    have p0 := (hX4).cell 0
    have p1 := (hX4).cell 1
    have p2 := (hX4).cell 2
    have p3 := (hX4).cell 3
    have p4 := (hX4).cell 4
    have p5 := (hX4).cell 5
    have p6 := (hX4).cell 6
    have p7 := (hX4).cell 7
    have p8 := (hX4).cell 8
    have p9 := (hX4).cell 9
    have p10 := (hX4).cell 10
    simp only [List.getElem?_cons_zero, List.getElem?_cons_succ] at p0 p1 p2 p3 p4 p5 p6 p7 p8 p9 p10
    have f0 := (hX4).frozen 0
    have f1 := (hX4).frozen 1
    have f2 := (hX4).frozen 2
    have f3 := (hX4).frozen 3
    have f4 := (hX4).frozen 4
    have f5 := (hX4).frozen 5
    have f6 := (hX4).frozen 6
    have f7 := (hX4).frozen 7
    have f8 := (hX4).frozen 8
    have f9 := (hX4).frozen 9
    have f10 := (hX4).frozen 10
    clear hY4 hX4
    go_wp2
    obtain ⟨W7, hW7⟩ : ∃ W7, W7 = setAll w4 w.heap.size 0 [.int .i64 k, .string nm, .int .i64 num, .int .i64 0, .int .i64 0, .slice none 0 0, .slice none 0 0, .int .i64 t.a, .int .i64 t.b, .int .i64 t.a, .int .i64 t.b] := ⟨_, rfl⟩
    have hC7 : Chg (fun k => k = w.heap.size) w4 W7 := by rw [hW7]; exact setAll_chg _ _ _ _
    have hX7 : Blk W7 w.heap.size 210 [.int .i64 k, .string nm, .int .i64 num, .int .i64 0, .int .i64 0, .slice none 0 0, .slice none 0 0, .int .i64 t.a, .int .i64 t.b, .int .i64 t.a, .int .i64 t.b] := by rw [hW7]; exact setAll_blk HX4.out rfl
    simp only [setAll] at hW7
    rw [← hW7]
    have hR7 : Rd W7 r v l (((0 : Nat) : Int) + 1) 1000 0 := by
      have hr := H.out.lt
      refine ⟨(hC7.block r HR4.out.blk.lt (by omega)).trans HR4.out.blk, HR4.out.row.step (fun k hk => hC7.block k (HR4.out.row.lt k hk) (fun e => ?_)), HR4.out.away⟩
      have := H.out.row.lt _ hk
      omega
    clear hW7 p0 p1 p2 p3 p4 p5 p6 p7 p8 p9 p10 f0 f1 f2 f3 f4 f5 f6 f7 f8 f9 f10
    have p0 := (hX7).cell 0
    have p1 := (hX7).cell 1
    have p2 := (hX7).cell 2
    have p3 := (hX7).cell 3
    have p4 := (hX7).cell 4
    have p5 := (hX7).cell 5
    have p6 := (hX7).cell 6
    have p7 := (hX7).cell 7
    have p8 := (hX7).cell 8
    have p9 := (hX7).cell 9
    have p10 := (hX7).cell 10
    simp only [List.getElem?_cons_zero, List.getElem?_cons_succ] at p0 p1 p2 p3 p4 p5 p6 p7 p8 p9 p10
    exact bodyPost_ret (v := .agg #[.int .i64 k, .string nm, .int .i64 num, .int .i64 0, .int .i64 0, .slice none 0 0, .slice none 0 0, .int .i64 t.a, .int .i64 t.b, .int .i64 t.a, .int .i64 t.b]) (by simp [results, Tryz.results207, go_sem, p0, p1, p2, p3, p4, p5, p6, p7, p8, p9, p10]) rfl ⟨rfl, hR7, HC4.out.ofSame hC7 (Nat.le_refl _)⟩
set_option maxRecDepth 100000 in
set_option maxHeartbeats 2000000 in
theorem expression_one (w : World) (r : Nat) (v : Value) (l : List Tok) (t tE : Tok) (k : Int) (nm : ByteArray) (num lv : Int) (h : Rd w r v l (0 : Nat) 1000 0) (ho : One l t tE k nm num) (hlv : lv ≤ 1000) :
    Calls Tryz.prog 153 #[.pointer (some ⟨r, 0, none⟩), .int .i64 lv] w (atomPost w r v l 0 1000 0 t k nm num) := by
  have H := Sh.mk h
  have HO := Sh.mk ho
  have hal := (Below.refl w.heap.size w).alloc (Nat.le_refl _) (.cells zPart.toArray 210)
  obtain ⟨W0, hW0⟩ : ∃ W0, W0 = w.alloc (.cells zPart.toArray 210) := ⟨_, rfl⟩
  have HW0 := Sh.mk hW0
  have HB0 : Sh (Below w.heap.size w W0) := ⟨by rw [hW0]; exact hal⟩
  have HX0 : Sh (Blk W0 w.heap.size 210 zPart) := ⟨by rw [hW0]; exact Blk.new _ _ _⟩
  have HR0 := Sh.mk (H.out.keep HB0.out)
  have c3 := HR0.out.blk.cell 3
  simp only [List.getElem?_cons_zero, List.getElem?_cons_succ] at c3
  have HT : Sh (∀ W, Below W0.heap.size W0 W → ∀ (x : ByteArray), Calls Tryz.prog 202 #[.pointer (some ⟨r, 0, none⟩), .int .i64 3, .string x] W fun e w' => e = .returned (.bool false) ∧ ∃ q, w' = W.drewN q) :=
    ⟨fun W hb x => take_no W r v l 0 1000 0 t (HR0.out.keep hb) HO.out.first 3 (by rcases HO.out.kind with e | e <;> rw [e] <;> decide) x⟩
  clear h ho hal
  unfold zPart at hW0
  go_enter Tryz.func153, Tryz.ntmps153
  go_upto_region 1 with (fail)
  rw [← hW0]
  clear hW0 HW0
  go_wp2_with (first
    | (go_at_call 201; refine (level_ok _ r v l _ 1000 0 lv HR0.out hlv).mono ?_; rintro e w1 ⟨rfl, rfl⟩)
    | (go_at_call 202; refine (HT.out _ (by exact ⟨rfl, rfl, rfl, Nat.le_refl _, fun _ _ => rfl⟩) _).mono ?_; rintro e w1 ⟨rfl, q, rfl⟩)
    | (go_at_call 207; refine (application_one _ r v l t tE k nm num lv (by exact HR0.out.keep ⟨rfl, rfl, rfl, Nat.le_refl _, fun _ _ => rfl⟩) HO.out).mono ?_; rintro en w4 ⟨rfl, hR4, hC4⟩; have HR4 := Sh.mk hR4; have HX4 : Sh (Blk w4 w.heap.size 210 zPart) := ⟨(hC4.block _ HX0.out.lt (by have := H.out.lt; omega)).trans HX0.out⟩; have HC4 : Sh (Chg (fun k => k = r) w w4) := ⟨((Chg.of_below HB0.out).trans (F' := fun k => k = r) ⟨hC4.os, hC4.tape, hC4.output, hC4.size, hC4.block⟩ (fun k hk _ => .inl hk))⟩; clear hR4 hC4; have hX4 := HX4.out; unfold zPart at hX4; have p0 := hX4.cell 0; have p1 := hX4.cell 1; have p2 := hX4.cell 2; have p3 := hX4.cell 3; have p4 := hX4.cell 4; have p5 := hX4.cell 5; have p6 := hX4.cell 6; have p7 := hX4.cell 7; have p8 := hX4.cell 8; have p9 := hX4.cell 9; have p10 := hX4.cell 10; (simp only [List.getElem?_cons_zero, List.getElem?_cons_succ] at p0 p1 p2 p3 p4 p5 p6 p7 p8 p9 p10); have f0 := hX4.frozen 0; have f1 := hX4.frozen 1; have f2 := hX4.frozen 2; have f3 := hX4.frozen 3; have f4 := hX4.frozen 4; have f5 := hX4.frozen 5; have f6 := hX4.frozen 6; have f7 := hX4.frozen 7; have f8 := hX4.frozen 8; have f9 := hX4.frozen 9; have f10 := hX4.frozen 10; clear hX4))
  obtain ⟨W7, hW7⟩ : ∃ W7, W7 = setAll w4 w.heap.size 0 [.int .i64 k, .string nm, .int .i64 num, .int .i64 0, .int .i64 0, .slice none 0 0, .slice none 0 0, .int .i64 t.a, .int .i64 t.b, .int .i64 t.a, .int .i64 t.b] := ⟨_, rfl⟩
  have hC7 : Chg (fun k => k = w.heap.size) w4 W7 := by rw [hW7]; exact setAll_chg _ _ _ _
  have hX7 : Blk W7 w.heap.size 210 [.int .i64 k, .string nm, .int .i64 num, .int .i64 0, .int .i64 0, .slice none 0 0, .slice none 0 0, .int .i64 t.a, .int .i64 t.b, .int .i64 t.a, .int .i64 t.b] := by rw [hW7]; exact setAll_blk HX4.out rfl
  simp only [setAll] at hW7
  rw [← hW7]
  have hR7 : Rd W7 r v l (((0 : Nat) : Int) + 1) 1000 0 := by
    have hr := H.out.lt
    refine ⟨(hC7.block r HR4.out.blk.lt (by omega)).trans HR4.out.blk, HR4.out.row.step (fun k hk => hC7.block k (HR4.out.row.lt k hk) (fun e => ?_)), HR4.out.away⟩
    have := H.out.row.lt _ hk
    omega
  clear hW7 p0 p1 p2 p3 p4 p5 p6 p7 p8 p9 p10 f0 f1 f2 f3 f4 f5 f6 f7 f8 f9 f10
  have p0 := (hX7).cell 0
  have p1 := (hX7).cell 1
  have p2 := (hX7).cell 2
  have p3 := (hX7).cell 3
  have p4 := (hX7).cell 4
  have p5 := (hX7).cell 5
  have p6 := (hX7).cell 6
  have p7 := (hX7).cell 7
  have p8 := (hX7).cell 8
  have p9 := (hX7).cell 9
  have p10 := (hX7).cell 10
  simp only [List.getElem?_cons_zero, List.getElem?_cons_succ] at p0 p1 p2 p3 p4 p5 p6 p7 p8 p9 p10
  exact bodyPost_ret (v := .agg #[.int .i64 k, .string nm, .int .i64 num, .int .i64 0, .int .i64 0, .slice none 0 0, .slice none 0 0, .int .i64 t.a, .int .i64 t.b, .int .i64 t.a, .int .i64 t.b]) (by simp [results, Tryz.results153, go_sem, p0, p1, p2, p3, p4, p5, p6, p7, p8, p9, p10]) rfl ⟨rfl, hR7, HC4.out.ofSame hC7 (Nat.le_refl _)⟩
end Go.Proofs.YtkfdhmeipnfhpaaGreatDoor
