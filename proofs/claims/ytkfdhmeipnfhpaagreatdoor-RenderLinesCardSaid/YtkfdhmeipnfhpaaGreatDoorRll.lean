/- The law RenderLines: whatever text and verdict, it says true. -/
import Derived.Test.YtkfdhmeipnfhpaaGreatDoorRlk
import Derived.Test.YtkfdhmeipnfhpaaGreatDoorTxt
set_option linter.unusedVariables false
set_option linter.unusedSimpArgs false
namespace Go.Proofs.YtkfdhmeipnfhpaaGreatDoor
open Go.RowKit

/-- What great says: if not, all is small. -/
structure GreatIs (e : Ending) (s sch : ByteArray) (n6 n5 : Nat) : Prop where
  is : ∃ g, e = .returned (.bool g) ∧ (g = false → s.size ≤ 200 ∧ sch.size ≤ 300 ∧ n6 ≤ 30 ∧ n5 ≤ 300)
set_option maxRecDepth 100000 in
set_option maxHeartbeats 2000000 in
theorem great_calls (w : World) (s sch : ByteArray) (k a b lim st : Int) (A5 A6 : Option Addr) (n5 c5 n6 c6 : Nat) :
    Calls Tryz.prog 4 #[.string s, .agg #[.int .i64 k, .string sch, .int .i64 a, .int .i64 b, .int .i64 lim, .slice A5 n5 c5, .slice A6 n6 c6, .int .i64 st]] w fun e w' =>
      GreatIs e s sch n6 n5 ∧ Below w.heap.size w w' := by
  by_cases h1 : (200 : Int) < (s.size : Int)
  · go_enter Tryz.func4, Tryz.ntmps4
    go_wp2
    go_ret
    exact ⟨⟨true, rfl, fun h => by cases h⟩, (Below.refl _ _).alloc (Nat.le_refl _) _⟩
  by_cases h2 : (300 : Int) < (sch.size : Int)
  · go_enter Tryz.func4, Tryz.ntmps4
    go_wp2
    go_ret
    exact ⟨⟨true, rfl, fun h => by cases h⟩, (Below.refl _ _).alloc (Nat.le_refl _) _⟩
  by_cases h3 : (30 : Int) < (n6 : Int)
  · go_enter Tryz.func4, Tryz.ntmps4
    go_wp2
    go_ret
    exact ⟨⟨true, rfl, fun h => by cases h⟩, (Below.refl _ _).alloc (Nat.le_refl _) _⟩
  by_cases h4 : (300 : Int) < (n5 : Int)
  · go_enter Tryz.func4, Tryz.ntmps4
    go_wp2
    go_ret
    exact ⟨⟨true, rfl, fun h => by cases h⟩, (Below.refl _ _).alloc (Nat.le_refl _) _⟩
  have H : Sh (s.size ≤ 200 ∧ sch.size ≤ 300 ∧ n6 ≤ 30 ∧ n5 ≤ 300) := ⟨by omega⟩
  go_enter Tryz.func4, Tryz.ntmps4
  go_wp2
  go_ret
  exact ⟨⟨false, rfl, fun _ => H.out⟩, (Below.refl _ _).alloc (Nat.le_refl _) _⟩
theorem LinesIs.len {s : ByteArray} {k : Int} {sch : ByteArray} {x : Int × Int} {lim : Int} {l : List (Int × Int)} {ls : List ByteArray} (h : LinesIs s k sch x lim l ls) : ls.length ≤ l.length + 3 := by
  rcases h with ⟨hk, rfl⟩ | ⟨hk, l1, l2, hc, rfl⟩ | ⟨hk, l1, l2, hc, rfl⟩ | ⟨hk, rfl⟩ | ⟨hk, rfl⟩ | ⟨hk, rfl⟩
  all_goals first
    | (have := slLines_len s l; omega)
    | (simp only [List.length_cons, List.length_nil]; omega)
theorem wordS_range (k : Int) (h : ¬ (1 ≤ k ∧ k ≤ 5)) : wordS k = ⟨#[]⟩ := by
  unfold wordS
  rw [if_neg (by omega), if_neg (by omega), if_neg (by omega), if_neg (by omega), if_neg (by omega)]
set_option maxRecDepth 100000 in
set_option maxHeartbeats 4000000 in
theorem RenderLines_calls (w : World) (s sch : ByteArray) (k a b lim st : Int) (A5 : Option Addr) (n5 c5 : Nat) (v6 : Value) (l : List (Int × Int)) (S : Nat → Prop) (hv6 : SpansAt w S l v6) (hG : Gl w) (hL : LimsAt w) (m : Int) (hm : w.cell? ⟨1, 0, none⟩ = some (.int .i64 m)) (h0 : 1 < w.heap.size) :
    Calls Tryz.prog 3 #[.string s, .agg #[.int .i64 k, .string sch, .int .i64 a, .int .i64 b, .int .i64 lim, .slice A5 n5 c5, v6, .int .i64 st]] w fun e w' => e = .returned (.bool true) ∧ Below w.heap.size w w' := by
  have HA := Sh.mk (fun (W : World) (hb : Below w.heap.size w W) => awake_calls W (hG.below hb) m (by rw [hb.cell h0]; exact hm) (by have := hb.size; omega))
  obtain ⟨A6, c6, rfl, hl6⟩ := hv6.shape
  obtain ⟨V, hV⟩ : ∃ V, V = w.alloc (.cells #[.int .i64 k, .string sch, .int .i64 a, .int .i64 b, .int .i64 lim, .slice A5 n5 c5, .slice A6 l.length c6, .int .i64 st] 27) := ⟨_, rfl⟩
  have hx : Blk V w.heap.size 27 [.int .i64 k, .string sch, .int .i64 a, .int .i64 b, .int .i64 lim, .slice A5 n5 c5, .slice A6 l.length c6, .int .i64 st] := by rw [hV]; exact Blk.new _ _ _
  have hw : Below w.heap.size w V := by rw [hV]; exact (Below.refl _ _).alloc (Nat.le_refl _) _
  have HW := Sh.mk hw
  have HX := Sh.mk hx
  have HV := Sh.mk hV
  have HP : Sh (s.size ≤ 200 ∧ sch.size ≤ 300 ∧ l.length ≤ 30 → LnPre w s l S (.slice A5 n5 c5) (.slice A6 l.length c6) sch m) := ⟨fun ⟨e1, e2, e3⟩ => ⟨by omega, by omega, by omega, rfl, hv6, hG, hL, hm, h0⟩⟩
  have HGR := Sh.mk (fun W => great_calls W s sch k a b lim st A5 A6 n5 c5 l.length c6)
  clear hG hL hm h0 hv6
  go_enter Tryz.func3, Tryz.ntmps3
  go_upto_region 1 with (fail)
  rw [← hV]
  have p0 := (hx).cell 0
  have p1 := (hx).cell 1
  have p2 := (hx).cell 2
  have p3 := (hx).cell 3
  have p4 := (hx).cell 4
  have p5 := (hx).cell 5
  have p6 := (hx).cell 6
  have p7 := (hx).cell 7
  simp only [List.getElem?_cons_zero, List.getElem?_cons_succ] at p0 p1 p2 p3 p4 p5 p6 p7
  clear hV hx hw
  go_upto_region 5 with (first
    | (go_at_call 4; refine (HGR.out _).mono ?_; rintro e w1 ⟨⟨g, rfl, hg⟩, hb1⟩; have HB1 := Sh.mk (HW.out.trans (hb1.mono HW.out.size)); have X1 := Sh.mk (HX.out.keep hb1); have HG := Sh.mk hg; clear hb1 hg p0 p1 p2 p3 p4 p5 p6 p7; cases g with | true => _ | false => _)
    | (go_at_call 5; refine (HA.out _ HB1.out).mono ?_; rintro e w4 ⟨rfl, hB4⟩; have HB4 := Sh.mk (HB1.out.trans (hB4.mono HB1.out.size)); clear hB4))
  · go_ret
    exact ⟨rfl, HB4.out⟩
  · obtain ⟨z1, z2, z3, z4⟩ := HG.out (by first | rfl | trivial)
    obtain ⟨V2, hV2⟩ : ∃ V2, V2 = w1.alloc (.cells #[.string ⟨#[116, 121, 112, 101]⟩, .string ⟨#[115, 121, 110, 116, 97, 120]⟩, .string ⟨#[115, 99, 111, 112, 101]⟩, .string ⟨#[108, 105, 109, 105, 116]⟩, .string ⟨#[101, 114, 114, 111, 114]⟩] 9) := ⟨_, rfl⟩
    have hy : Blk V2 w1.heap.size 9 [.string ⟨#[116, 121, 112, 101]⟩, .string ⟨#[115, 121, 110, 116, 97, 120]⟩, .string ⟨#[115, 99, 111, 112, 101]⟩, .string ⟨#[108, 105, 109, 105, 116]⟩, .string ⟨#[101, 114, 114, 111, 114]⟩] := by rw [hV2]; exact Blk.new _ _ _
    have hx2 : Blk V2 w.heap.size 27 [.int .i64 k, .string sch, .int .i64 a, .int .i64 b, .int .i64 lim, .slice A5 n5 c5, .slice A6 l.length c6, .int .i64 st] := by rw [hV2]; exact X1.out.alloc _
    have HB2 : Sh (Below w.heap.size w V2) := ⟨by rw [hV2]; exact HB1.out.alloc HB1.out.size _⟩
    rw [← hV2]
    clear hV2
    have p0 := (hx2).cell 0
    have p1 := (hx2).cell 1
    have p2 := (hx2).cell 2
    have p3 := (hx2).cell 3
    have p4 := (hx2).cell 4
    have p5 := (hx2).cell 5
    have p6 := (hx2).cell 6
    have p7 := (hx2).cell 7
    simp only [List.getElem?_cons_zero, List.getElem?_cons_succ] at p0 p1 p2 p3 p4 p5 p6 p7
    have y0 := (hy).cell 0
    have y1 := (hy).cell 1
    have y2 := (hy).cell 2
    have y3 := (hy).cell 3
    have y4 := (hy).cell 4
    simp only [List.getElem?_cons_zero, List.getElem?_cons_succ] at y0 y1 y2 y3 y4
    have HX2 := Sh.mk hx2
    clear hx2 hy
    have HLN := Sh.mk ((HP.out ⟨z1, z2, z3⟩).below HB2.out)
    have ZL := Sh.mk z3
    clear z1 z2 z3 z4 HP HG HGR
    go_cut [19] (fun s19 wx => s19 = .bool (decide (1 ≤ k ∧ k ≤ 5)) ∧ wx = V2)
    case first =>
      by_cases h1 : 1 ≤ k
      · by_cases h2 : k ≤ 5
        · have HD : Sh (decide (1 ≤ k ∧ k ≤ 5) = true) := ⟨by simp [h1, h2]⟩
          go_wp2
          go_meet
          exact ⟨by rw [HD.out], rfl⟩
        · have HD : Sh (decide (1 ≤ k ∧ k ≤ 5) = false) := ⟨by simp [h1, h2]⟩
          go_wp2
          go_meet
          exact ⟨by rw [HD.out], rfl⟩
      · have HD : Sh (decide (1 ≤ k ∧ k ≤ 5) = false) := ⟨by simp [h1]⟩
        go_wp2
        go_meet
        exact ⟨by rw [HD.out], rfl⟩
    obtain ⟨rfl, hwx⟩ := hcut
    rw [hwx]
    clear hwx
    obtain ⟨g, hg⟩ : ∃ g, decide (1 ≤ k ∧ k ≤ 5) = g := ⟨_, rfl⟩
    rw [hg]
    have HGK := Sh.mk hg
    clear hg
    go_upto_if 19 with (fail)
    go_cut [5] (fun s5 wx => s5 = .string (wordS k) ∧ wx = V2)
    case first =>
      cases g with
      | true =>
        have hk := of_decide_eq_true HGK.out
        have hc : k = 1 ∨ k = 2 ∨ k = 3 ∨ k = 4 ∨ k = 5 := by omega
        clear hk
        rcases hc with rfl | rfl | rfl | rfl | rfl
        all_goals
          go_wp2
          go_meet
          exact ⟨rfl, rfl⟩
      | false =>
        have hw := wordS_range k (of_decide_eq_false HGK.out)
        go_wp2
        go_meet
        exact ⟨by rw [hw], rfl⟩
    case rest =>
      obtain ⟨rfl, hwx⟩ := hcut
      rw [hwx]
      clear hwx y0 y1 y2 y3 y4
      have HB0 : Sh (Below w.heap.size w V2.drew) := ⟨HB2.out.drew⟩
      have HD0 : Sh (Below V2.heap.size V2 V2.drew) := ⟨(Below.refl _ _).drew⟩
      have HLA := Sh.mk (fun (W : World) (hb : Below V2.heap.size V2 W) => Lines_any k W s sch (a, b) lim st m (.slice A5 n5 c5) (.slice A6 l.length c6) l S (HLN.out.below hb))
      have HRA := Sh.mk (fun (W : World) (hb : Below V2.heap.size V2 W) => Rlines_any k W s sch (a, b) lim st (.slice A5 n5 c5) (.slice A6 l.length c6) l S HLN.out.hs HLN.out.hl HLN.out.hsch HLN.out.h5 (HLN.out.below hb).hv6)
      have HWD := Sh.mk (fun (W : World) => Word_calls k W sch a b lim st (.slice A5 n5 c5) (.slice A6 l.length c6) rfl rfl)
      have HWE : Sh (Value.string (wordS k) = Value.string (wordS k)) := ⟨rfl⟩
      have HLEN := Sh.mk (show ∀ ls, LinesIs s k sch (a, b) lim l ls → ls.length ≤ 1000000 from fun ls h => by have := h.len; have h3 := ZL.out; omega)
      obtain ⟨wk, hwk⟩ : ∃ wk, wordS k = wk := ⟨_, rfl⟩
      rw [hwk] at HWD ⊢
      clear hwk HLN
      go_upto_region 7 with (fail)
      go_region_held_law (fun w' => w'.cell? ⟨w.heap.size, 0, none⟩ = some (.int .i64 k) ∧ w'.cell? ⟨w.heap.size, 1, none⟩ = some (.string sch) ∧ w'.cell? ⟨w.heap.size, 2, none⟩ = some (.int .i64 a) ∧ w'.cell? ⟨w.heap.size, 3, none⟩ = some (.int .i64 b) ∧ w'.cell? ⟨w.heap.size, 4, none⟩ = some (.int .i64 lim) ∧ w'.cell? ⟨w.heap.size, 5, none⟩ = some (.slice A5 n5 c5) ∧ w'.cell? ⟨w.heap.size, 6, none⟩ = some (.slice A6 l.length c6) ∧ w'.cell? ⟨w.heap.size, 7, none⟩ = some (.int .i64 st)) (first | exact ⟨p0, p1, p2, p3, p4, p5, p6, p7⟩ | exact ⟨K3.out.cell 0, K3.out.cell 1, K3.out.cell 2, K3.out.cell 3, K3.out.cell 4, K3.out.cell 5, K3.out.cell 6, K3.out.cell 7⟩ | exact ⟨K4.out.cell 0, K4.out.cell 1, K4.out.cell 2, K4.out.cell 3, K4.out.cell 4, K4.out.cell 5, K4.out.cell 6, K4.out.cell 7⟩ | exact ⟨K5.out.cell 0, K5.out.cell 1, K5.out.cell 2, K5.out.cell 3, K5.out.cell 4, K5.out.cell 5, K5.out.cell 6, K5.out.cell 7⟩ | exact ⟨K6.out.cell 0, K6.out.cell 1, K6.out.cell 2, K6.out.cell 3, K6.out.cell 4, K6.out.cell 5, K6.out.cell 6, K6.out.cell 7⟩ | exact ⟨K7.out.cell 0, K7.out.cell 1, K7.out.cell 2, K7.out.cell 3, K7.out.cell 4, K7.out.cell 5, K7.out.cell 6, K7.out.cell 7⟩) (first
        | (go_at_call 7; obtain ⟨ls, hls, hcl⟩ := HLA.out _ HD0.out; refine hcl.mono ?_; rintro e w3 ⟨A1, c1, rfl, hr1, ho1, hb3⟩; have HLS := Sh.mk hls; have HR1 := Sh.mk hr1; have HD3 := Sh.mk (HD0.out.trans (hb3.mono HD0.out.size)); have HB3 := Sh.mk (HB0.out.trans (hb3.mono HB0.out.size)); have K3 := Sh.mk (HX2.out.keep HD3.out); clear hls hcl hr1 ho1 hb3)
        | (go_at_call 8; obtain ⟨ls2, hls2, hcl2⟩ := HRA.out _ HD3.out; obtain rfl := hls2.uniq HLS.out; refine hcl2.mono ?_; rintro e w4 ⟨A2, c2, rfl, hr2, ho2, hb4⟩; have HR2 := Sh.mk hr2; have HR1' := Sh.mk (HR1.out.keep hb4); have HD4 := Sh.mk (HD3.out.trans (hb4.mono HD3.out.size)); have HB4 := Sh.mk (HB3.out.trans (hb4.mono HB3.out.size)); have K4 := Sh.mk (HX2.out.keep HD4.out); clear hls2 hcl2 hr2 ho2 hb4)
        | (go_at_call 6; refine (Texts_calls _ A1 A2 c1 c2 _ HR1'.out HR2.out (HLEN.out _ HLS.out)).mono ?_; rintro e w5 ⟨rfl, hb5⟩; have HD5 := Sh.mk (HD4.out.trans (hb5.mono HD4.out.size)); have HB5 := Sh.mk (HB4.out.trans (hb5.mono HB4.out.size)); have K5 := Sh.mk (HX2.out.keep HD5.out); clear hb5)
        | (go_at_call 9; refine (HWD.out _).mono ?_; rintro e w6 ⟨rfl, hb6⟩; have HD6 := Sh.mk (HD5.out.trans (hb6.mono HD5.out.size)); have HB6 := Sh.mk (HB5.out.trans (hb6.mono HB5.out.size)); have K6 := Sh.mk (HX2.out.keep HD6.out); clear hb6)
        | (go_at_call 5; refine (HA.out _ HB6.out).mono ?_; rintro e w7 ⟨rfl, hb7⟩; have HD7 := Sh.mk (HD6.out.trans (hb7.mono HD6.out.size)); have HB7 := Sh.mk (HB6.out.trans (hb7.mono HB6.out.size)); have K7 := Sh.mk (HX2.out.keep HD7.out); clear hb7)
        | fail)
      all_goals
        go_wp2
        go_ret
        exact ⟨rfl, HB7.out⟩
end Go.Proofs.YtkfdhmeipnfhpaaGreatDoor
