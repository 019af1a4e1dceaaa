/- The law RenderCarets: whatever text and span, it says true. -/
import Derived.Test.YtmdpjeaiiohbdaaGreatDoorTxt
set_option linter.unusedVariables false
set_option linter.unusedSimpArgs false
namespace Go.Proofs.YtmdpjeaiiohbdaaGreatDoor
open Go.RowKit

set_option maxRecDepth 100000 in
set_option maxHeartbeats 2000000 in
theorem RenderCarets_calls (s : ByteArray) (a b : Int) (w : World) (hG : Gl w) (m : Int) (hm : w.cell? ⟨0, 0, none⟩ = some (.int .i64 m)) (h0 : 0 < w.heap.size) :
    Calls Tryz.prog 3 #[.string s, .agg #[.int .i64 a, .int .i64 b]] w fun e w' => e = .returned (.bool true) ∧ Below w.heap.size w w' := by
  have HA := Sh.mk (fun (W : World) (hb : Below w.heap.size w W) => awake_calls W (hG.below hb) m (by rw [hb.cell h0]; exact hm) (by have := hb.size; omega))
  obtain ⟨V, hV⟩ : ∃ V, V = w.alloc (.cells #[.int .i64 a, .int .i64 b] 23) := ⟨_, rfl⟩
  have hx : Blk V w.heap.size 23 [.int .i64 a, .int .i64 b] := by rw [hV]; exact Blk.new _ _ _
  have hw : Below w.heap.size w V := by rw [hV]; exact (Below.refl _ _).alloc (Nat.le_refl _) _
  have HW := Sh.mk hw
  have HX := Sh.mk hx
  clear hG hm h0
  by_cases hs : s.size ≤ 200
  · obtain ⟨lo, hlo⟩ : ∃ lo : Nat, max 0 (min a (s.size : Int)) = (lo : Int) := ⟨(max 0 (min a (s.size : Int))).toNat, by omega⟩
    obtain ⟨hi, hhi⟩ : ∃ hi : Nat, max 0 (max (min a (s.size : Int)) (max 0 (min b (s.size : Int)))) = (hi : Int) := ⟨(max 0 (max (min a (s.size : Int)) (max 0 (min b (s.size : Int))))).toNat, by omega⟩
    have hlo2 : min (max a 0) (s.size : Int) = (lo : Int) := by omega
    have HC := Sh.mk (fun W => Caret_any s a b (by omega) W lo hi hlo hhi)
    have HR := Sh.mk (fun W => Rcaret_calls s a b (by omega) W lo hi hlo2 hhi)
    have hlen : lo ≤ s.size := by omega
    have HLEN := Sh.mk hlen
    clear hlo hhi hlo2 hlen
    go_enter Tryz.func3, Tryz.ntmps3
    go_upto_region 1 with (fail)
    rw [← hV]
    have p0 := (hx).cell 0
    have p1 := (hx).cell 1
    simp only [List.getElem?_cons_zero, List.getElem?_cons_succ] at p0 p1
    clear hV hx hw
    have HB0 : Sh (Below w.heap.size w V.drew) := ⟨HW.out.drew⟩
    go_upto_region 3 with (fail)
    go_region_held_law (fun w' => w'.cell? ⟨w.heap.size, 0, none⟩ = some (.int .i64 a) ∧ w'.cell? ⟨w.heap.size, 1, none⟩ = some (.int .i64 b)) (first | exact ⟨p0, p1⟩ | exact ⟨HX1.out.cell 0, HX1.out.cell 1⟩ | exact ⟨HX2.out.cell 0, HX2.out.cell 1⟩ | exact ⟨HX3.out.cell 0, HX3.out.cell 1⟩ | exact ⟨HX4.out.cell 0, HX4.out.cell 1⟩) (first
      | (go_at_call 6; refine (HC.out _).mono ?_; rintro e w1 ⟨g, B, E, n1, M, rfl, hg1, hb1, hB1, iB, iE, en, eM⟩; have HX1 : Sh (Blk w1 w.heap.size 23 [.int .i64 a, .int .i64 b]) := ⟨HX.out.keep ((Below.refl _ V).drew.trans hB1)⟩; have HB1 := Sh.mk (HB0.out.trans (hB1.mono HB0.out.size)); have HR1 := Sh.mk (GRow.of_blk StrK_ok (xs := [s.extract B E, marksOf n1 M]) hb1 rfl (by simp)); have IB := Sh.mk iB; have IE := Sh.mk iE; have EN := Sh.mk en; have EM := Sh.mk eM; clear hg1 hb1 hB1 iB iE en eM)
      | (go_at_call 7; refine (HR.out _).mono ?_; rintro e w2 ⟨g2, B2, E2, n2, M2, rfl, hg2, hb2, hB2, iB2, iE2, en2, eM2⟩; obtain rfl := iB2.uniq HLEN.out IB.out; obtain rfl := iE2.uniq IE.out; obtain rfl : n2 = n1 := (by have := EN.out; omega); obtain rfl : M2 = M := (by have := EM.out; omega); have HX2 : Sh (Blk w2 w.heap.size 23 [.int .i64 a, .int .i64 b]) := ⟨HX1.out.keep hB2⟩; have HB2 := Sh.mk (HB1.out.trans (hB2.mono HB1.out.size)); have HR1' := Sh.mk (HR1.out.keep hB2); have HR2 := Sh.mk (GRow.of_blk StrK_ok (xs := [s.extract B2 E2, marksOf n2 M2]) hb2 rfl (by simp)); clear hg2 hb2 hB2 iB2 iE2 en2 eM2)
      | (go_at_call 5; refine (Texts_calls _ (some ⟨g, 0, none⟩) (some ⟨g2, 0, none⟩) 2 2 [s.extract B2 E2, marksOf n2 M2] HR1'.out HR2.out (by simp)).mono ?_; rintro e w3 ⟨rfl, hB3⟩; have HX3 : Sh (Blk w3 w.heap.size 23 [.int .i64 a, .int .i64 b]) := ⟨HX2.out.keep hB3⟩; have HB3 := Sh.mk (HB2.out.trans (hB3.mono HB2.out.size)); clear hB3)
      | (go_at_call 4; refine (HA.out _ HB3.out).mono ?_; rintro e w4 ⟨rfl, hB4⟩; have HX4 : Sh (Blk w4 w.heap.size 23 [.int .i64 a, .int .i64 b]) := ⟨HX3.out.keep hB4⟩; have HB4 := Sh.mk (HB3.out.trans (hB4.mono HB3.out.size)); clear hB4)
      | fail)
    all_goals
      go_wp2
      go_ret
      exact ⟨rfl, HB4.out⟩
  · have hs2 : (200 : Int) < (s.size : Int) := by omega
    go_enter Tryz.func3, Tryz.ntmps3
    go_upto_region 1 with (fail)
    rw [← hV]
    clear hV hx hw
    go_wp2_with (first
      | (go_at_call 4; refine (HA.out _ HW.out).mono ?_; rintro e w4 ⟨rfl, hB4⟩; have HB4 := Sh.mk (HW.out.trans (hB4.mono HW.out.size)); clear hB4))
    go_ret
    exact ⟨rfl, HB4.out⟩
end Go.Proofs.YtmdpjeaiiohbdaaGreatDoor
