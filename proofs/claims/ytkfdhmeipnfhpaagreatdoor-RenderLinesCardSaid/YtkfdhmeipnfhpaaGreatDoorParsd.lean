/- Package parse: a text of one atom, whole. -/
import Derived.Test.YtkfdhmeipnfhpaaGreatDoorParsc
set_option linter.unusedVariables false
set_option linter.unusedSimpArgs false
namespace Go.Proofs.YtkfdhmeipnfhpaaGreatDoor
open Go.RowKit

def zTerm : List Value := [.int .i64 0, .string ⟨#[]⟩, .int .i64 0, .int .i64 0, .int .i64 0, .slice none 0 0, .slice none 0 0, .int .i64 0, .int .i64 0]
set_option maxRecDepth 100000 in
set_option maxHeartbeats 2000000 in
theorem whole_one (w : World) (r : Nat) (v : Value) (l : List Tok) (t tE : Tok) (k : Int) (nm : ByteArray) (num : Int) (h : Rd w r v l (0 : Nat) 1000 0) (ho : One l t tE k nm num) :
    Calls Tryz.prog 107 #[.pointer (some ⟨r, 0, none⟩)] w fun e w' => e = .returned (.tuple #[.agg #[.int .i64 k, .string nm, .int .i64 num, .int .i64 0, .int .i64 0, .slice none 0 0, .slice none 0 0, .int .i64 t.a, .int .i64 t.b], .int .i64 2, .int .i64 0]) ∧ Chg (fun k => k = r) w w' := by
  have H := Sh.mk h
  have HO := Sh.mk ho
  clear h ho
  go_enter Tryz.func107, Tryz.ntmps107
  go_wp2_with fail
  have hal := (Below.refl w.heap.size w).alloc (Nat.le_refl _) (.cells zTerm.toArray 68)
  refine (expression_one _ r v l t tE k nm num 1 (H.out.keep hal) HO.out (by decide)).mono ?_
  rintro en w1 ⟨rfl, hR1, hC1⟩
  have HX1 : Sh (Blk w1 w.heap.size 68 zTerm) := ⟨(hC1.block _ (Blk.new w 68 zTerm).lt (by have := H.out.lt; omega)).trans (Blk.new w 68 zTerm)⟩
  have HC1 := Sh.mk ((Chg.of_below hal).trans hC1 (fun k hk _ => .inl hk))
  have HR1 : Sh (Rd w1 r v l (1 : Nat) 1000 0) := ⟨hR1⟩
  clear hR1 hC1 hal
  go_upto_region 2 with (fail)
  obtain ⟨W2, hW2⟩ : ∃ W2, W2 = w1.alloc (.cells #[.int .i64 k, .string nm, .int .i64 num, .int .i64 0, .int .i64 0, .slice none 0 0, .slice none 0 0, .int .i64 t.a, .int .i64 t.b, .int .i64 t.a, .int .i64 t.b] 210) := ⟨_, rfl⟩
  have hB2 : Below w1.heap.size w1 W2 := by rw [hW2]; exact (Below.refl _ _).alloc (Nat.le_refl _) _
  have HY2 : Sh (Blk W2 w1.heap.size 210 [.int .i64 k, .string nm, .int .i64 num, .int .i64 0, .int .i64 0, .slice none 0 0, .slice none 0 0, .int .i64 t.a, .int .i64 t.b, .int .i64 t.a, .int .i64 t.b]) := ⟨by rw [hW2]; exact Blk.new _ _ _⟩
  have HX2 := Sh.mk (HX1.out.keep hB2)
  have HC2 := Sh.mk (HC1.out.thenBelow hB2)
  have HR2 := Sh.mk (HR1.out.keep hB2)
  have HZ : Sh (w.heap.size < w1.heap.size) := ⟨HX1.out.lt⟩
  rw [← hW2]
  clear hW2 hB2 HX1 HC1 HR1
  have c3 := HR2.out.blk.cell 3
  simp only [List.getElem?_cons_zero, List.getElem?_cons_succ] at c3
  go_wp2_with fail
  clear c3
  refine (kind_yes W2 r v l 1 1000 0 tE HR2.out HO.out.last 0 HO.out.ended).mono ?_
  rintro en w3 ⟨rfl, hR3, hC3⟩
  have HY3 : Sh (Blk w3 w1.heap.size 210 [.int .i64 k, .string nm, .int .i64 num, .int .i64 0, .int .i64 0, .slice none 0 0, .slice none 0 0, .int .i64 t.a, .int .i64 t.b, .int .i64 t.a, .int .i64 t.b]) := ⟨(hC3.block _ HY2.out.lt (by have := H.out.lt; have := HZ.out; omega)).trans HY2.out⟩
  have HX3 : Sh (Blk w3 w.heap.size 68 zTerm) := ⟨(hC3.block _ HX2.out.lt (by have := H.out.lt; omega)).trans HX2.out⟩
  have HC3 := Sh.mk (HC2.out.trans hC3 (fun k hk _ => .inl hk))
  have HR3 := Sh.mk hR3
  clear HX2 HY2 HC2 HR2 hR3 hC3
  go_upto_region 4 with (fail)
  obtain ⟨W4, hW4⟩ : ∃ W4, W4 = w3.alloc (.cells #[.int .i64 tE.kind, .string tE.text, .int .i64 tE.a, .int .i64 tE.b] 124) := ⟨_, rfl⟩
  have hB4 : Below w3.heap.size w3 W4 := by rw [hW4]; exact (Below.refl _ _).alloc (Nat.le_refl _) _
  have HY4 := Sh.mk (HY3.out.keep hB4)
  have HX4 := Sh.mk (HX3.out.keep hB4)
  have HC4 := Sh.mk (HC3.out.thenBelow hB4)
  have HR4 := Sh.mk (HR3.out.keep hB4)
  rw [← hW4]
  clear hW4 hB4 HX3 HY3 HC3 HR3
  have c1 := HR4.out.blk.cell 1
  have c3 := HR4.out.blk.cell 3
  simp only [List.getElem?_cons_zero, List.getElem?_cons_succ] at c1 c3
  have hY4 := HY4.out
  have y0 := (hY4).cell 0
  have y1 := (hY4).cell 1
  have y2 := (hY4).cell 2
  have y3 := (hY4).cell 3
  have y4 := (hY4).cell 4
  have y5 := (hY4).cell 5
  have y6 := (hY4).cell 6
  have y7 := (hY4).cell 7
  have y8 := (hY4).cell 8
  have y9 := (hY4).cell 9
  have y10 := (hY4).cell 10
  simp only [List.getElem?_cons_zero, List.getElem?_cons_succ] at y0 y1 y2 y3 y4 y5 y6 y7 y8 y9 y10
  have hX4 := HX4.out
  unfold zTerm at hX4
  have p0 := (hX4).cell 0
  have p1 := (hX4).cell 1
  have p2 := (hX4).cell 2
  have p3 := (hX4).cell 3
  have p4 := (hX4).cell 4
  have p5 := (hX4).cell 5
  have p6 := (hX4).cell 6
  have p7 := (hX4).cell 7
  have p8 := (hX4).cell 8
  simp only [List.getElem?_cons_zero, List.getElem?_cons_succ] at p0 p1 p2 p3 p4 p5 p6 p7 p8
  have f0 := (hX4).frozen 0
  have f1 := (hX4).frozen 1
  have f2 := (hX4).frozen 2
  have f3 := (hX4).frozen 3
  have f4 := (hX4).frozen 4
  have f5 := (hX4).frozen 5
  have f6 := (hX4).frozen 6
  have f7 := (hX4).frozen 7
  have f8 := (hX4).frozen 8
  clear hY4 hX4
  have hr := H.out.lt
  have hne : r ≠ w.heap.size := by omega
  go_wp2
  go_region
  go_wp2
  obtain ⟨W7, hW7⟩ : ∃ W7, W7 = (setAll W4 w.heap.size 0 [.int .i64 k, .string nm, .int .i64 num, .int .i64 0, .int .i64 0, .slice none 0 0, .slice none 0 0, .int .i64 t.a, .int .i64 t.b]).drew := ⟨_, rfl⟩
  have hC7 : Chg (fun k => k = w.heap.size) W4 W7 := by rw [hW7]; exact (setAll_chg _ _ _ _).drew
  have hX7 : Blk W7 w.heap.size 68 [.int .i64 k, .string nm, .int .i64 num, .int .i64 0, .int .i64 0, .slice none 0 0, .slice none 0 0, .int .i64 t.a, .int .i64 t.b] := by
    have hX6 : Blk (setAll W4 w.heap.size 0 [.int .i64 k, .string nm, .int .i64 num, .int .i64 0, .int .i64 0, .slice none 0 0, .slice none 0 0, .int .i64 t.a, .int .i64 t.b]) w.heap.size 68 [.int .i64 k, .string nm, .int .i64 num, .int .i64 0, .int .i64 0, .slice none 0 0, .slice none 0 0, .int .i64 t.a, .int .i64 t.b] := setAll_blk HX4.out rfl
    rw [hW7]; exact hX6.drew
  simp only [setAll] at hW7
  rw [← hW7]
  clear hW7 p0 p1 p2 p3 p4 p5 p6 p7 p8 f0 f1 f2 f3 f4 f5 f6 f7 f8
  have p0 := (hX7).cell 0
  have p1 := (hX7).cell 1
  have p2 := (hX7).cell 2
  have p3 := (hX7).cell 3
  have p4 := (hX7).cell 4
  have p5 := (hX7).cell 5
  have p6 := (hX7).cell 6
  have p7 := (hX7).cell 7
  have p8 := (hX7).cell 8
  simp only [List.getElem?_cons_zero, List.getElem?_cons_succ] at p0 p1 p2 p3 p4 p5 p6 p7 p8
  exact bodyPost_ret (v := .tuple #[.agg #[.int .i64 k, .string nm, .int .i64 num, .int .i64 0, .int .i64 0, .slice none 0 0, .slice none 0 0, .int .i64 t.a, .int .i64 t.b], .int .i64 2, .int .i64 0]) (by simp [results, Tryz.results107, go_sem, p0, p1, p2, p3, p4, p5, p6, p7, p8]) rfl ⟨rfl, HC4.out.ofSame hC7 (Nat.le_refl _)⟩
set_option maxRecDepth 100000 in
set_option maxHeartbeats 2000000 in
theorem Tokens_one (w : World) (v : Value) (l : List Tok) (t tE : Tok) (k : Int) (nm : ByteArray) (num : Int) (h : GRow TokK w v l) (ho : One l t tE k nm num) :
    Calls Tryz.prog 85 #[v, .int .i64 1000] w fun e w' => e = .returned (.tuple #[.agg #[.int .i64 k, .string nm, .int .i64 num, .int .i64 0, .int .i64 0, .slice none 0 0, .slice none 0 0, .int .i64 t.a, .int .i64 t.b], .int .i64 2, .int .i64 0]) ∧ Below w.heap.size w w' := by
  have H := Sh.mk h
  have HO := Sh.mk ho
  obtain ⟨A, c, rfl⟩ := h.shape
  clear h ho
  go_enter Tryz.func85, Tryz.ntmps85
  go_wp2_with fail
  have hB : Below w.heap.size w ((w.alloc (.cells zTerm.toArray 68)).alloc (.cells #[.slice A l.length c, .int .i64 0, .int .i64 1000, .int .i64 0] 160)) := ((Below.refl _ _).alloc (Nat.le_refl _) _).alloc (by simp) _
  have hR : Rd ((w.alloc (.cells zTerm.toArray 68)).alloc (.cells #[.slice A l.length c, .int .i64 0, .int .i64 1000, .int .i64 0] 160)) (w.heap.size + 1) (.slice A l.length c) l (0 : Nat) 1000 0 :=
    ⟨Blk.new' _ _ _ (by simp), H.out.keep hB, fun hk => by have := H.out.lt _ hk; omega⟩
  refine (whole_one _ (w.heap.size + 1) _ l t tE k nm num hR HO.out).mono ?_
  rintro en w1 ⟨rfl, hC1⟩
  have hX1 : Blk w1 w.heap.size 68 zTerm := (hC1.block _ ((Blk.new w 68 zTerm).alloc _).lt (by omega)).trans ((Blk.new w 68 zTerm).alloc _)
  have hB1 : Below w.heap.size w w1 := hB.trans (hC1.below (fun k hk => by omega) hB.size)
  have HX1 := Sh.mk hX1
  have HB1 := Sh.mk hB1
  clear hR hB hC1 hB1
  unfold zTerm at hX1
  have p0 := (hX1).cell 0
  have p1 := (hX1).cell 1
  have p2 := (hX1).cell 2
  have p3 := (hX1).cell 3
  have p4 := (hX1).cell 4
  have p5 := (hX1).cell 5
  have p6 := (hX1).cell 6
  have p7 := (hX1).cell 7
  have p8 := (hX1).cell 8
  simp only [List.getElem?_cons_zero, List.getElem?_cons_succ] at p0 p1 p2 p3 p4 p5 p6 p7 p8
  have f0 := (hX1).frozen 0
  have f1 := (hX1).frozen 1
  have f2 := (hX1).frozen 2
  have f3 := (hX1).frozen 3
  have f4 := (hX1).frozen 4
  have f5 := (hX1).frozen 5
  have f6 := (hX1).frozen 6
  have f7 := (hX1).frozen 7
  have f8 := (hX1).frozen 8
  clear hX1
  go_wp2
  obtain ⟨W7, hW7⟩ : ∃ W7, W7 = setAll w1 w.heap.size 0 [.int .i64 k, .string nm, .int .i64 num, .int .i64 0, .int .i64 0, .slice none 0 0, .slice none 0 0, .int .i64 t.a, .int .i64 t.b] := ⟨_, rfl⟩
  have hC7 : Chg (fun k => k = w.heap.size) w1 W7 := by rw [hW7]; exact setAll_chg _ _ _ _
  have hX7 : Blk W7 w.heap.size 68 [.int .i64 k, .string nm, .int .i64 num, .int .i64 0, .int .i64 0, .slice none 0 0, .slice none 0 0, .int .i64 t.a, .int .i64 t.b] := by rw [hW7]; exact setAll_blk HX1.out rfl
  simp only [setAll] at hW7
  rw [← hW7]
  clear hW7 p0 p1 p2 p3 p4 p5 p6 p7 p8 f0 f1 f2 f3 f4 f5 f6 f7 f8
  have p0 := (hX7).cell 0
  have p1 := (hX7).cell 1
  have p2 := (hX7).cell 2
  have p3 := (hX7).cell 3
  have p4 := (hX7).cell 4
  have p5 := (hX7).cell 5
  have p6 := (hX7).cell 6
  have p7 := (hX7).cell 7
  have p8 := (hX7).cell 8
  simp only [List.getElem?_cons_zero, List.getElem?_cons_succ] at p0 p1 p2 p3 p4 p5 p6 p7 p8
  exact bodyPost_ret (v := .tuple #[.agg #[.int .i64 k, .string nm, .int .i64 num, .int .i64 0, .int .i64 0, .slice none 0 0, .slice none 0 0, .int .i64 t.a, .int .i64 t.b], .int .i64 2, .int .i64 0]) (by simp [results, Tryz.results85, go_sem, p0, p1, p2, p3, p4, p5, p6, p7, p8]) rfl ⟨rfl, HB1.out.trans (hC7.below (fun k hk => by omega) HB1.out.size)⟩
theorem one_name (s : ByteArray) : One [⟨1, s, 0, 1⟩, ⟨0, ByteArray.empty, 1, 1⟩] ⟨1, s, 0, 1⟩ ⟨0, ByteArray.empty, 1, 1⟩ 1 s 0 :=
  ⟨rfl, rfl, .inl rfl, rfl, fun w r v lv h => atom_name w r v _ 0 1000 0 lv ⟨1, s, 0, 1⟩ h rfl rfl⟩
set_option maxRecDepth 100000 in
set_option maxHeartbeats 2000000 in
theorem Term_one (w : World) (s : ByteArray) (tk k : Int) (nm : ByteArray) (num : Int) (hW : ∀ W, Gl W → Calls Tryz.prog 84 #[.string s] W (WordsPost W s tk)) (ho : One [⟨tk, s, 0, 1⟩, ⟨0, ByteArray.empty, 1, 1⟩] ⟨tk, s, 0, 1⟩ ⟨0, ByteArray.empty, 1, 1⟩ k nm num) (hG : Gl w) :
    Calls Tryz.prog 70 #[.string s, .int .i64 1000] w fun e w' => e = .returned (.tuple #[.agg #[.int .i64 k, .string nm, .int .i64 num, .int .i64 0, .int .i64 0, .slice none 0 0, .slice none 0 0, .int .i64 0, .int .i64 1], .agg #[.int .i64 0, .int .i64 0], .int .i64 0]) ∧ Below w.heap.size w w' := by
  have HW := Sh.mk hW
  have HO := Sh.mk ho
  have HG := Sh.mk hG
  clear hW ho hG
  go_enter Tryz.func70, Tryz.ntmps70
  go_wp2_with fail
  have hB0 : Below w.heap.size w ((w.alloc (.cells zTerm.toArray 68)).alloc (.cells #[.int .i64 0, .int .i64 0] 23)) := ((Below.refl _ _).alloc (Nat.le_refl _) _).alloc (by simp) _
  have hX0 : Blk ((w.alloc (.cells zTerm.toArray 68)).alloc (.cells #[.int .i64 0, .int .i64 0] 23)) w.heap.size 68 zTerm := (Blk.new w 68 zTerm).alloc _
  have hY0 : Blk ((w.alloc (.cells zTerm.toArray 68)).alloc (.cells #[.int .i64 0, .int .i64 0] 23)) (w.heap.size + 1) 23 [.int .i64 0, .int .i64 0] := Blk.new' _ _ _ (by simp)
  refine (HW.out _ (HG.out.below hB0)).mono ?_
  rintro en w1 ⟨A, c, rfl, hrow, _, hb1⟩
  have HB1 := Sh.mk (below_then hB0 hb1)
  have HX1 := Sh.mk (hX0.keep hb1)
  have HY1 := Sh.mk (hY0.keep hb1)
  have HROW := Sh.mk hrow
  clear hrow hb1 hB0 hX0 hY0
  go_wp2_with fail
  refine (Tokens_one w1 _ _ _ _ k nm num HROW.out HO.out).mono ?_
  rintro en w2 ⟨rfl, hb2⟩
  have HB2 := Sh.mk (below_then HB1.out hb2)
  have HX2 := Sh.mk (HX1.out.keep hb2)
  have HY2 := Sh.mk (HY1.out.keep hb2)
  clear hb2 HB1 HX1 HY1 HROW
  obtain ⟨W3, hW3⟩ : ∃ W3, W3 = w2.alloc (.cells #[.int .i64 k, .string nm, .int .i64 num, .int .i64 0, .int .i64 0, .slice none 0 0, .slice none 0 0, .int .i64 0, .int .i64 1] 68) := ⟨_, rfl⟩
  have hb3 : Below w2.heap.size w2 W3 := by rw [hW3]; exact (Below.refl _ _).alloc (Nat.le_refl _) _
  have hZ3 : Blk W3 w2.heap.size 68 [.int .i64 k, .string nm, .int .i64 num, .int .i64 0, .int .i64 0, .slice none 0 0, .slice none 0 0, .int .i64 0, .int .i64 1] := by rw [hW3]; exact Blk.new _ _ _
  have HB3 := Sh.mk (below_then HB2.out hb3)
  have HX3 := Sh.mk (HX2.out.keep hb3)
  have HY3 := Sh.mk (HY2.out.keep hb3)
  go_upto_region 5 with (fail)
  rw [← hW3]
  clear hW3 hb3 HB2 HX2 HY2
  have z0 := (hZ3).cell 0
  have z1 := (hZ3).cell 1
  have z2 := (hZ3).cell 2
  have z3 := (hZ3).cell 3
  have z4 := (hZ3).cell 4
  have z5 := (hZ3).cell 5
  have z6 := (hZ3).cell 6
  have z7 := (hZ3).cell 7
  have z8 := (hZ3).cell 8
  simp only [List.getElem?_cons_zero, List.getElem?_cons_succ] at z0 z1 z2 z3 z4 z5 z6 z7 z8
  have hX3 := HX3.out
  unfold zTerm at hX3
  have p0 := (hX3).cell 0
  have p1 := (hX3).cell 1
  have p2 := (hX3).cell 2
  have p3 := (hX3).cell 3
  have p4 := (hX3).cell 4
  have p5 := (hX3).cell 5
  have p6 := (hX3).cell 6
  have p7 := (hX3).cell 7
  have p8 := (hX3).cell 8
  simp only [List.getElem?_cons_zero, List.getElem?_cons_succ] at p0 p1 p2 p3 p4 p5 p6 p7 p8
  have f0 := (hX3).frozen 0
  have f1 := (hX3).frozen 1
  have f2 := (hX3).frozen 2
  have f3 := (hX3).frozen 3
  have f4 := (hX3).frozen 4
  have f5 := (hX3).frozen 5
  have f6 := (hX3).frozen 6
  have f7 := (hX3).frozen 7
  have f8 := (hX3).frozen 8
  have hY3 := HY3.out
  have y0 := (hY3).cell 0
  have y1 := (hY3).cell 1
  simp only [List.getElem?_cons_zero, List.getElem?_cons_succ] at y0 y1
  have g0 := (hY3).frozen 0
  have g1 := (hY3).frozen 1
  clear hX3 hY3 hZ3
  go_wp2
  obtain ⟨W5, hW5⟩ : ∃ W5, W5 = setAll (setAll W3 w.heap.size 0 [.int .i64 k, .string nm, .int .i64 num, .int .i64 0, .int .i64 0, .slice none 0 0, .slice none 0 0, .int .i64 0, .int .i64 1]) (w.heap.size + 1) 0 [.int .i64 0, .int .i64 0] := ⟨_, rfl⟩
  have hC4 : Chg (fun k => k = w.heap.size) W3 (setAll W3 w.heap.size 0 [.int .i64 k, .string nm, .int .i64 num, .int .i64 0, .int .i64 0, .slice none 0 0, .slice none 0 0, .int .i64 0, .int .i64 1]) := setAll_chg _ _ _ _
  have hX4 : Blk (setAll W3 w.heap.size 0 [.int .i64 k, .string nm, .int .i64 num, .int .i64 0, .int .i64 0, .slice none 0 0, .slice none 0 0, .int .i64 0, .int .i64 1]) w.heap.size 68 [.int .i64 k, .string nm, .int .i64 num, .int .i64 0, .int .i64 0, .slice none 0 0, .slice none 0 0, .int .i64 0, .int .i64 1] := setAll_blk HX3.out rfl
  have hY4 : Blk (setAll W3 w.heap.size 0 [.int .i64 k, .string nm, .int .i64 num, .int .i64 0, .int .i64 0, .slice none 0 0, .slice none 0 0, .int .i64 0, .int .i64 1]) (w.heap.size + 1) 23 [.int .i64 0, .int .i64 0] := (hC4.block _ HY3.out.lt (by omega)).trans HY3.out
  have hC5 : Chg (fun k => k = w.heap.size + 1) (setAll W3 w.heap.size 0 [.int .i64 k, .string nm, .int .i64 num, .int .i64 0, .int .i64 0, .slice none 0 0, .slice none 0 0, .int .i64 0, .int .i64 1]) W5 := by rw [hW5]; exact setAll_chg _ _ _ _
  have hY5 : Blk W5 (w.heap.size + 1) 23 [.int .i64 0, .int .i64 0] := by rw [hW5]; exact setAll_blk hY4 rfl
  have hX5 : Blk W5 w.heap.size 68 [.int .i64 k, .string nm, .int .i64 num, .int .i64 0, .int .i64 0, .slice none 0 0, .slice none 0 0, .int .i64 0, .int .i64 1] := (hC5.block _ hX4.lt (by omega)).trans hX4
  have hB5 : Below w.heap.size w W5 := HB3.out.trans ((hC4.below (fun k hk => by omega) HB3.out.size).trans (hC5.below (fun k hk => by omega) (by have := HB3.out.size; have := hC4.size; omega)))
  simp only [setAll] at hW5
  rw [← hW5]
  clear hW5 hC4 hX4 hY4 hC5 p0 p1 p2 p3 p4 p5 p6 p7 p8 f0 f1 f2 f3 f4 f5 f6 f7 f8 y0 y1 g0 g1 z0 z1 z2 z3 z4 z5 z6 z7 z8
  have p0 := (hX5).cell 0
  have p1 := (hX5).cell 1
  have p2 := (hX5).cell 2
  have p3 := (hX5).cell 3
  have p4 := (hX5).cell 4
  have p5 := (hX5).cell 5
  have p6 := (hX5).cell 6
  have p7 := (hX5).cell 7
  have p8 := (hX5).cell 8
  simp only [List.getElem?_cons_zero, List.getElem?_cons_succ] at p0 p1 p2 p3 p4 p5 p6 p7 p8
  have y0 := (hY5).cell 0
  have y1 := (hY5).cell 1
  simp only [List.getElem?_cons_zero, List.getElem?_cons_succ] at y0 y1
  exact bodyPost_ret (v := .tuple #[.agg #[.int .i64 k, .string nm, .int .i64 num, .int .i64 0, .int .i64 0, .slice none 0 0, .slice none 0 0, .int .i64 0, .int .i64 1], .agg #[.int .i64 0, .int .i64 0], .int .i64 0]) (by simp [results, Tryz.results70, go_sem, p0, p1, p2, p3, p4, p5, p6, p7, p8, y0, y1]) rfl ⟨rfl, hB5⟩
end Go.Proofs.YtkfdhmeipnfhpaaGreatDoor
