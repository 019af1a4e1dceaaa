/- ref24.Lines: a verdict in words (written by tools/gen_rln.py). -/
import Derived.Test.YtkfdhmeipnfhpaaGreatDoorRpd
import Derived.Test.YtkfdhmeipnfhpaaGreatDoorWrd
set_option linter.unusedVariables false
set_option linter.unusedSimpArgs false
namespace Go.Proofs.YtkfdhmeipnfhpaaGreatDoor
open Go.RowKit

theorem rplace_says (s : ByteArray) (i : Int) (hs : s.size ≤ 100000) (n : Nat) (hn : max 0 (min i (s.size : Int)) = (n : Int)) (w : World) : SaysT 22 #[.string s, .int .i64 i] w (placeS s n) :=
  fun W _ => Rplw_calls s i hs n hn W
theorem rpiece_says (s : ByteArray) (x : Int × Int) (hs : s.size ≤ 100000) (w : World) : SaysT 24 #[.string s, .agg #[.int .i64 x.1, .int .i64 x.2]] w (pieceS s (clipLo s x) (clipHi s x)) :=
  fun W _ => by rw [← pieceB_eq]; exact Rpiece_calls s x.1 x.2 hs W
theorem Rcaret_says (s : ByteArray) (x : Int × Int) (hs : s.size ≤ 100000) (l1 l2 : ByteArray) (hc : CaretIs s (clipLo s x) (clipHi s x) l1 l2) (w : World) : SaysL 23 #[.string s, .agg #[.int .i64 x.1, .int .i64 x.2]] w [l1, l2] := by
  intro W _
  have e1 := clipLo_eq s x
  have e2 := clipHi_eq s x
  have hl : clipLo s x ≤ s.size := by omega
  refine (Rcaret_calls s x.1 x.2 (by omega) W (clipLo s x) (clipHi s x) (by omega) e2).mono ?_
  rintro e w' ⟨g, B, E, n1, M, rfl, hg, hb, hB, iB, iE, en, eM⟩
  obtain ⟨rfl, rfl⟩ := hc.uniq hl ⟨⟨B, E, n1, M, rfl, rfl, iB, iE, en, eM⟩⟩
  exact ⟨_, _, rfl, GRow.of_blk StrK_ok (xs := [s.extract B E, marksOf n1 M]) hb rfl (by simp), fun b hb2 => by simp [Value.ownBlock] at hb2; omega, hB⟩
set_option maxRecDepth 100000 in
set_option maxHeartbeats 2000000 in
theorem Rlines_k1 (w : World) (s sch : ByteArray) (x : Int × Int) (lim st : Int) (v5 v6 : Value) (h5 : v5.oneCell' = true) (h6 : v6.oneCell' = true) (hsch : sch.size ≤ 1000000) :
    Calls Tryz.prog 8 #[.string s, .agg #[.int .i64 1, .string sch, .int .i64 x.1, .int .i64 x.2, .int .i64 lim, v5, v6, .int .i64 st]] w (LnPost w [sType ++ sch]) := by
  obtain ⟨V, hV⟩ : ∃ V, V = w.alloc (.cells #[.int .i64 1, .string sch, .int .i64 x.1, .int .i64 x.2, .int .i64 lim, v5, v6, .int .i64 st] 27) := ⟨_, rfl⟩
  have hbv : Blk V w.heap.size 27 [.int .i64 1, .string sch, .int .i64 x.1, .int .i64 x.2, .int .i64 lim, v5, v6, .int .i64 st] := by rw [hV]; exact Blk.new _ _ _
  have hw : Below w.heap.size w V := by rw [hV]; exact (Below.refl _ _).alloc (Nat.le_refl _) _
  have HW := Sh.mk hw
  have HV := Sh.mk hbv
  have v0 := (hbv).cell 0
  have v1 := (hbv).cell 1
  have v2 := (hbv).cell 2
  have v3 := (hbv).cell 3
  have v4 := (hbv).cell 4
  have v5 := (hbv).cell 5
  have v6 := (hbv).cell 6
  have v7 := (hbv).cell 7
  simp only [List.getElem?_cons_zero, List.getElem?_cons_succ] at v0 v1 v2 v3 v4 v5 v6 v7
  have KV := Sh.mk hV
  clear hV hbv hw
  go_enter Tryz.func8, Tryz.ntmps8
  go_upto_region 1 with (fail)
  rw [← KV.out]
  clear KV
  have g1 : (9223372036854775807 < 6 + sch.size) = False := by simp; omega
  go_wp2
  go_ret
  exact ⟨_, _, rfl, GRow.of_blk StrK_ok (xs := [sType ++ sch]) (Blk.new _ _ _) rfl (by simp), fun b hb => by simp [Value.ownBlock] at hb; have := HW.out.size; omega, HW.out.alloc HW.out.size _⟩
set_option maxRecDepth 100000 in
set_option maxHeartbeats 2000000 in
theorem Rlines_k2 (w : World) (s sch : ByteArray) (x : Int × Int) (lim st : Int) (v5 v6 : Value) (h5 : v5.oneCell' = true) (h6 : v6.oneCell' = true) (q l1 l2 : ByteArray) (hq : ∀ W, SaysT 22 #[.string s, .int .i64 x.1] W q) (hc : ∀ W, SaysL 23 #[.string s, .agg #[.int .i64 x.1, .int .i64 x.2]] W [l1, l2]) (hqs : q.size ≤ 1000000) :
    Calls Tryz.prog 8 #[.string s, .agg #[.int .i64 2, .string sch, .int .i64 x.1, .int .i64 x.2, .int .i64 lim, v5, v6, .int .i64 st]] w (LnPost w [sSyntax ++ q, l1, l2]) := by
  obtain ⟨V, hV⟩ : ∃ V, V = w.alloc (.cells #[.int .i64 2, .string sch, .int .i64 x.1, .int .i64 x.2, .int .i64 lim, v5, v6, .int .i64 st] 27) := ⟨_, rfl⟩
  have hbv : Blk V w.heap.size 27 [.int .i64 2, .string sch, .int .i64 x.1, .int .i64 x.2, .int .i64 lim, v5, v6, .int .i64 st] := by rw [hV]; exact Blk.new _ _ _
  have hw : Below w.heap.size w V := by rw [hV]; exact (Below.refl _ _).alloc (Nat.le_refl _) _
  have HW := Sh.mk hw
  have HV := Sh.mk hbv
  have HQ := Sh.mk (hq V)
  have HC := Sh.mk (hc V)
  clear hq hc
  have v0 := (hbv).cell 0
  have v1 := (hbv).cell 1
  have v2 := (hbv).cell 2
  have v3 := (hbv).cell 3
  have v4 := (hbv).cell 4
  have v5 := (hbv).cell 5
  have v6 := (hbv).cell 6
  have v7 := (hbv).cell 7
  simp only [List.getElem?_cons_zero, List.getElem?_cons_succ] at v0 v1 v2 v3 v4 v5 v6 v7
  have KV := Sh.mk hV
  clear hV hbv hw
  go_enter Tryz.func8, Tryz.ntmps8
  go_upto_region 1 with (fail)
  rw [← KV.out]
  clear KV
  go_upto_region 5 with (fail)
  have HB0 : Sh (Below V.heap.size V V.drew) := ⟨(Below.refl _ _).drew⟩
  have g1 : (9223372036854775807 < 16 + q.size) = False := by simp; omega
  obtain ⟨T, hT⟩ : ∃ T : ByteArray, T = ⟨#[115, 121, 110, 116, 97, 120, 32, 101, 114, 114, 111, 114, 32, 97, 116, 32]⟩ ++ q := ⟨_, rfl⟩
  go_region_held_law (fun w' => w'.cell? ⟨w.heap.size, 2, none⟩ = some (.int .i64 x.1) ∧ w'.cell? ⟨w.heap.size, 3, none⟩ = some (.int .i64 x.2)) (first | exact ⟨v2, v3⟩ | exact ⟨p2, p3⟩ | exact ⟨q2, q3⟩ | exact ⟨(V2.out.alloc _).cell 2, (V2.out.alloc _).cell 3⟩ | exact ⟨V4.out.cell 2, V4.out.cell 3⟩ | exact ⟨(V4.out.alloc _).cell 2, (V4.out.alloc _).cell 3⟩ | exact ⟨V9.out.cell 2, V9.out.cell 3⟩) (first
    | (go_at_call 22; refine (HQ.out _ HB0.out).mono ?_; rintro e w2 ⟨rfl, hb2⟩; have HB2 := Sh.mk (HB0.out.trans (hb2.mono HB0.out.size)); have hv1 := HV.out.keep HB2.out; have q2 := hv1.cell 2; have q3 := hv1.cell 3; (simp only [List.getElem?_cons_zero, List.getElem?_cons_succ] at q2 q3); have V2 := Sh.mk hv1; clear hv1 hb2)
    | (go_at_call 23; (try rw [← hT]); refine (HC.out _ (by first | exact HB2.out | exact HB2.out.alloc HB2.out.size _)).mono ?_; rintro e w4 ⟨A4, c4, rfl, hr4, ho4, hb4⟩; have HB4 : Sh (Below V.heap.size V w4) := ⟨(by first | exact HB2.out.trans (hb4.mono HB2.out.size) | exact (HB2.out.alloc HB2.out.size _).trans (hb4.mono (HB2.out.alloc HB2.out.size _).size))⟩; (try (have HT4 : Sh (GRow StrK w4 (.slice (some ⟨w2.heap.size, 0, none⟩) 1 1) [T]) := ⟨(GRow.lit StrK_ok w2 T).keep hb4⟩)); have V4 := Sh.mk (HV.out.keep HB4.out); have HR4 := Sh.mk hr4; have HO4 := Sh.mk ho4; clear hr4 ho4 hb4)
    | (refine step_rowD StrK_ok rfl (.tmp 25) (.tmp 29) (some 30) rfl rfl (.slice (some ⟨w2.heap.size, 0, none⟩) 1 1) [T] [l1, l2] (.slice A4 2 c4) rfl rfl HT4.out HR4.out (by simp) (by simp [StrK]) ?_; intro A9 c9 w9 hI hg hv; have ho1 : ∀ b, (Value.slice (some ⟨w2.heap.size, 0, none⟩) 1 1).ownBlock = some b → V.heap.size ≤ b := (fun b hb => by { simp [Value.ownBlock] at hb; have := HB2.out.size; omega }); have HB9 : Sh (Below V.heap.size V w9) := ⟨grow_below HB4.out hg ho1⟩; have HO9 := Sh.mk (grow_own hv HB4.out ho1); have V9 := Sh.mk (HV.out.keep HB9.out); have I9 := Sh.mk hI; clear hI hg hv ho1)
    | ((try rw [← hT]); refine step_rowD StrK_ok rfl (.tmp 25) (.tmp 29) (some 30) rfl rfl (.slice (some ⟨w4.heap.size, 0, none⟩) 1 1) [T] [l1, l2] (.slice A4 2 c4) rfl rfl (GRow.lit StrK_ok w4 T) (HR4.out.keep ((Below.refl _ _).alloc (Nat.le_refl _) _)) (by simp) (by simp [StrK]) ?_; intro A9 c9 w9 hI hg hv; have ho1 : ∀ b, (Value.slice (some ⟨w4.heap.size, 0, none⟩) 1 1).ownBlock = some b → V.heap.size ≤ b := (fun b hb => by { simp [Value.ownBlock] at hb; have := HB4.out.size; omega }); have HB9 : Sh (Below V.heap.size V w9) := ⟨grow_below (HB4.out.alloc HB4.out.size _) hg ho1⟩; have HO9 := Sh.mk (grow_own hv (HB4.out.alloc HB4.out.size _) ho1); have V9 := Sh.mk (HV.out.keep HB9.out); have I9 := Sh.mk hI; clear hI hg hv ho1)
    | fail)
  all_goals
    go_wp2
    go_ret
    have hI := I9.out
    rw [hT] at hI
    exact ⟨A9, c9, rfl, hI, fun b hb => Nat.le_trans HW.out.size (HO9.out b hb), HW.out.trans (HB9.out.mono HW.out.size)⟩
set_option maxRecDepth 100000 in
set_option maxHeartbeats 2000000 in
theorem Rlines_k3 (w : World) (s sch : ByteArray) (x : Int × Int) (lim st : Int) (v5 v6 : Value) (h5 : v5.oneCell' = true) (h6 : v6.oneCell' = true) (p q l1 l2 : ByteArray) (hp : ∀ W, SaysT 24 #[.string s, .agg #[.int .i64 x.1, .int .i64 x.2]] W p) (hq : ∀ W, SaysT 22 #[.string s, .int .i64 x.1] W q) (hc : ∀ W, SaysL 23 #[.string s, .agg #[.int .i64 x.1, .int .i64 x.2]] W [l1, l2]) (hps : p.size ≤ 1000000) (hqs : q.size ≤ 1000000) :
    Calls Tryz.prog 8 #[.string s, .agg #[.int .i64 3, .string sch, .int .i64 x.1, .int .i64 x.2, .int .i64 lim, v5, v6, .int .i64 st]] w (LnPost w [sUnbound ++ p ++ sAt ++ q, l1, l2]) := by
  obtain ⟨V, hV⟩ : ∃ V, V = w.alloc (.cells #[.int .i64 3, .string sch, .int .i64 x.1, .int .i64 x.2, .int .i64 lim, v5, v6, .int .i64 st] 27) := ⟨_, rfl⟩
  have hbv : Blk V w.heap.size 27 [.int .i64 3, .string sch, .int .i64 x.1, .int .i64 x.2, .int .i64 lim, v5, v6, .int .i64 st] := by rw [hV]; exact Blk.new _ _ _
  have hw : Below w.heap.size w V := by rw [hV]; exact (Below.refl _ _).alloc (Nat.le_refl _) _
  have HW := Sh.mk hw
  have HV := Sh.mk hbv
  have HP := Sh.mk (hp V)
  have HQ := Sh.mk (hq V)
  have HC := Sh.mk (hc V)
  clear hp hq hc
  have v0 := (hbv).cell 0
  have v1 := (hbv).cell 1
  have v2 := (hbv).cell 2
  have v3 := (hbv).cell 3
  have v4 := (hbv).cell 4
  have v5 := (hbv).cell 5
  have v6 := (hbv).cell 6
  have v7 := (hbv).cell 7
  simp only [List.getElem?_cons_zero, List.getElem?_cons_succ] at v0 v1 v2 v3 v4 v5 v6 v7
  have KV := Sh.mk hV
  clear hV hbv hw
  go_enter Tryz.func8, Tryz.ntmps8
  go_upto_region 1 with (fail)
  rw [← KV.out]
  clear KV
  go_upto_region 7 with (fail)
  have HB0 : Sh (Below V.heap.size V V.drew) := ⟨(Below.refl _ _).drew⟩
  have g1 : (9223372036854775807 < 8 + p.size) = False := by simp; omega
  have g2 : (9223372036854775807 < 8 + p.size + 4) = False := by simp; omega
  have g3 : (9223372036854775807 < 8 + p.size + 4 + q.size) = False := by simp; omega
  obtain ⟨T, hT⟩ : ∃ T : ByteArray, T = ⟨#[117, 110, 98, 111, 117, 110, 100, 32]⟩ ++ p ++ ⟨#[32, 97, 116, 32]⟩ ++ q := ⟨_, rfl⟩
  go_region_held_law (fun w' => w'.cell? ⟨w.heap.size, 2, none⟩ = some (.int .i64 x.1) ∧ w'.cell? ⟨w.heap.size, 3, none⟩ = some (.int .i64 x.2)) (first | exact ⟨v2, v3⟩ | exact ⟨p2, p3⟩ | exact ⟨q2, q3⟩ | exact ⟨(V2.out.alloc _).cell 2, (V2.out.alloc _).cell 3⟩ | exact ⟨V4.out.cell 2, V4.out.cell 3⟩ | exact ⟨(V4.out.alloc _).cell 2, (V4.out.alloc _).cell 3⟩ | exact ⟨V9.out.cell 2, V9.out.cell 3⟩) (first
    | (go_at_call 24; refine (HP.out _ HB0.out).mono ?_; rintro e w1 ⟨rfl, hb1⟩; have HB1 := Sh.mk (HB0.out.trans (hb1.mono HB0.out.size)); have hv1 := HV.out.keep HB1.out; have p2 := hv1.cell 2; have p3 := hv1.cell 3; (simp only [List.getElem?_cons_zero, List.getElem?_cons_succ] at p2 p3); clear hv1 hb1)
    | (go_at_call 22; refine (HQ.out _ HB1.out).mono ?_; rintro e w2 ⟨rfl, hb2⟩; have HB2 := Sh.mk (HB1.out.trans (hb2.mono HB1.out.size)); have hv1 := HV.out.keep HB2.out; have q2 := hv1.cell 2; have q3 := hv1.cell 3; (simp only [List.getElem?_cons_zero, List.getElem?_cons_succ] at q2 q3); have V2 := Sh.mk hv1; clear hv1 hb2)
    | (go_at_call 23; (try rw [← hT]); refine (HC.out _ (by first | exact HB2.out | exact HB2.out.alloc HB2.out.size _)).mono ?_; rintro e w4 ⟨A4, c4, rfl, hr4, ho4, hb4⟩; have HB4 : Sh (Below V.heap.size V w4) := ⟨(by first | exact HB2.out.trans (hb4.mono HB2.out.size) | exact (HB2.out.alloc HB2.out.size _).trans (hb4.mono (HB2.out.alloc HB2.out.size _).size))⟩; (try (have HT4 : Sh (GRow StrK w4 (.slice (some ⟨w2.heap.size, 0, none⟩) 1 1) [T]) := ⟨(GRow.lit StrK_ok w2 T).keep hb4⟩)); have V4 := Sh.mk (HV.out.keep HB4.out); have HR4 := Sh.mk hr4; have HO4 := Sh.mk ho4; clear hr4 ho4 hb4)
    | (refine step_rowD StrK_ok rfl (.tmp 45) (.tmp 49) (some 50) rfl rfl (.slice (some ⟨w2.heap.size, 0, none⟩) 1 1) [T] [l1, l2] (.slice A4 2 c4) rfl rfl HT4.out HR4.out (by simp) (by simp [StrK]) ?_; intro A9 c9 w9 hI hg hv; have ho1 : ∀ b, (Value.slice (some ⟨w2.heap.size, 0, none⟩) 1 1).ownBlock = some b → V.heap.size ≤ b := (fun b hb => by { simp [Value.ownBlock] at hb; have := HB2.out.size; omega }); have HB9 : Sh (Below V.heap.size V w9) := ⟨grow_below HB4.out hg ho1⟩; have HO9 := Sh.mk (grow_own hv HB4.out ho1); have V9 := Sh.mk (HV.out.keep HB9.out); have I9 := Sh.mk hI; clear hI hg hv ho1)
    | ((try rw [← hT]); refine step_rowD StrK_ok rfl (.tmp 45) (.tmp 49) (some 50) rfl rfl (.slice (some ⟨w4.heap.size, 0, none⟩) 1 1) [T] [l1, l2] (.slice A4 2 c4) rfl rfl (GRow.lit StrK_ok w4 T) (HR4.out.keep ((Below.refl _ _).alloc (Nat.le_refl _) _)) (by simp) (by simp [StrK]) ?_; intro A9 c9 w9 hI hg hv; have ho1 : ∀ b, (Value.slice (some ⟨w4.heap.size, 0, none⟩) 1 1).ownBlock = some b → V.heap.size ≤ b := (fun b hb => by { simp [Value.ownBlock] at hb; have := HB4.out.size; omega }); have HB9 : Sh (Below V.heap.size V w9) := ⟨grow_below (HB4.out.alloc HB4.out.size _) hg ho1⟩; have HO9 := Sh.mk (grow_own hv (HB4.out.alloc HB4.out.size _) ho1); have V9 := Sh.mk (HV.out.keep HB9.out); have I9 := Sh.mk hI; clear hI hg hv ho1)
    | fail)
  all_goals
    go_wp2
    go_ret
    have hI := I9.out
    rw [hT] at hI
    exact ⟨A9, c9, rfl, hI, fun b hb => Nat.le_trans HW.out.size (HO9.out b hb), HW.out.trans (HB9.out.mono HW.out.size)⟩
set_option maxRecDepth 100000 in
set_option maxHeartbeats 2000000 in
theorem Rlines_k4 (w : World) (s sch : ByteArray) (x : Int × Int) (lim st : Int) (v5 v6 : Value) (h5 : v5.oneCell' = true) (h6 : v6.oneCell' = true) :
    Calls Tryz.prog 8 #[.string s, .agg #[.int .i64 4, .string sch, .int .i64 x.1, .int .i64 x.2, .int .i64 lim, v5, v6, .int .i64 st]] w (LnPost w [sLimit ++ limS lim]) := by
  obtain ⟨V, hV⟩ : ∃ V, V = w.alloc (.cells #[.int .i64 4, .string sch, .int .i64 x.1, .int .i64 x.2, .int .i64 lim, v5, v6, .int .i64 st] 27) := ⟨_, rfl⟩
  have hbv : Blk V w.heap.size 27 [.int .i64 4, .string sch, .int .i64 x.1, .int .i64 x.2, .int .i64 lim, v5, v6, .int .i64 st] := by rw [hV]; exact Blk.new _ _ _
  have hw : Below w.heap.size w V := by rw [hV]; exact (Below.refl _ _).alloc (Nat.le_refl _) _
  have HW := Sh.mk hw
  have HV := Sh.mk hbv
  have hz := hbv.lt
  have v0 := (hbv).cell 0
  have v1 := (hbv).cell 1
  have v2 := (hbv).cell 2
  have v3 := (hbv).cell 3
  have v4 := (hbv).cell 4
  have v5 := (hbv).cell 5
  have v6 := (hbv).cell 6
  have v7 := (hbv).cell 7
  simp only [List.getElem?_cons_zero, List.getElem?_cons_succ] at v0 v1 v2 v3 v4 v5 v6 v7
  have KV := Sh.mk hV
  clear hV hbv hw
  go_enter Tryz.func8, Tryz.ntmps8
  go_upto_region 1 with (fail)
  rw [← KV.out]
  clear KV
  by_cases hl : 1 ≤ lim ∧ lim ≤ 4
  · have hc : lim = 1 ∨ lim = 2 ∨ lim = 3 ∨ lim = 4 := by omega
    clear hl
    rcases hc with rfl | rfl | rfl | rfl <;>
    · go_wp2
      go_ret
      exact ⟨_, _, rfl, GRow.of_blk StrK_ok (xs := [_]) (Blk.new' _ _ _ (by simp)) rfl (by simp), fun b hb => by simp [Value.ownBlock] at hb; have := HW.out.size; omega, (HW.out.alloc HW.out.size _).alloc (by have := HW.out.size; simp; omega) _⟩
  · have hu : limS lim = ⟨#[117, 110, 107, 110, 111, 119, 110]⟩ := by
      unfold limS
      rw [if_neg (by omega), if_neg (by omega), if_neg (by omega), if_neg (by omega)]
    rw [hu]
    by_cases h1 : lim < 1
    · have h2 : ¬ 1 ≤ lim := by omega
      clear hl
      go_wp2
      go_ret
      exact ⟨_, _, rfl, GRow.of_blk StrK_ok (xs := [_]) (Blk.new' _ _ _ (by simp)) rfl (by simp), fun b hb => by simp [Value.ownBlock] at hb; have := HW.out.size; omega, (HW.out.alloc HW.out.size _).alloc (by have := HW.out.size; simp; omega) _⟩
    · have h2 : 1 ≤ lim := by omega
      have h3 : ¬ lim ≤ 4 := by omega
      clear hl h1
      go_wp2
      go_ret
      exact ⟨_, _, rfl, GRow.of_blk StrK_ok (xs := [_]) (Blk.new' _ _ _ (by simp)) rfl (by simp), fun b hb => by simp [Value.ownBlock] at hb; have := HW.out.size; omega, (HW.out.alloc HW.out.size _).alloc (by have := HW.out.size; simp; omega) _⟩
set_option maxRecDepth 100000 in
set_option maxHeartbeats 2000000 in
theorem Rlines_k0 (k : Int) (w : World) (s sch : ByteArray) (x : Int × Int) (lim st : Int) (v5 v6 : Value) (h5 : v5.oneCell' = true) (h6 : v6.oneCell' = true) (hk : k < 1 ∨ 6 ≤ k) :
    Calls Tryz.prog 8 #[.string s, .agg #[.int .i64 k, .string sch, .int .i64 x.1, .int .i64 x.2, .int .i64 lim, v5, v6, .int .i64 st]] w (LnPost w [sNothing]) := by
  obtain ⟨V, hV⟩ : ∃ V, V = w.alloc (.cells #[.int .i64 k, .string sch, .int .i64 x.1, .int .i64 x.2, .int .i64 lim, v5, v6, .int .i64 st] 27) := ⟨_, rfl⟩
  have hbv : Blk V w.heap.size 27 [.int .i64 k, .string sch, .int .i64 x.1, .int .i64 x.2, .int .i64 lim, v5, v6, .int .i64 st] := by rw [hV]; exact Blk.new _ _ _
  have hw : Below w.heap.size w V := by rw [hV]; exact (Below.refl _ _).alloc (Nat.le_refl _) _
  have HW := Sh.mk hw
  have HV := Sh.mk hbv
  have v0 := (hbv).cell 0
  have v1 := (hbv).cell 1
  have v2 := (hbv).cell 2
  have v3 := (hbv).cell 3
  have v4 := (hbv).cell 4
  have v5 := (hbv).cell 5
  have v6 := (hbv).cell 6
  have v7 := (hbv).cell 7
  simp only [List.getElem?_cons_zero, List.getElem?_cons_succ] at v0 v1 v2 v3 v4 v5 v6 v7
  have KV := Sh.mk hV
  clear hV hbv hw
  go_enter Tryz.func8, Tryz.ntmps8
  go_upto_region 1 with (fail)
  rw [← KV.out]
  clear KV
  have n1 : ¬ k = 1 := by omega
  have n2 : ¬ k = 2 := by omega
  have n3 : ¬ k = 3 := by omega
  have n4 : ¬ k = 4 := by omega
  have n5 : ¬ k = 5 := by omega
  clear hk
  go_wp2
  go_ret
  exact ⟨_, _, rfl, GRow.of_blk StrK_ok (xs := [sNothing]) (Blk.new _ _ _) rfl (by simp), fun b hb => by simp [Value.ownBlock] at hb; have := HW.out.size; omega, HW.out.alloc HW.out.size _⟩
end Go.Proofs.YtkfdhmeipnfhpaaGreatDoor
