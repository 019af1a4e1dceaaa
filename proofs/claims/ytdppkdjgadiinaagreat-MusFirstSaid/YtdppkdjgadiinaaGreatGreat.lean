/- The law's own words: whether equations are too many or too large. -/
import Derived.Test.YtdppkdjgadiinaaGreatRoom
import Derived.Deep.RegionHeld3
set_option linter.unusedVariables false
set_option linter.unusedSimpArgs false
namespace Go.Proofs.YtdppkdjgadiinaaGreat
open Go.RowKit

theorem sizes_take_succ {es : List Eqn} {k : Nat} {x : Eqn} (h : es[k]? = some x) : sizes (es.take (k + 1)) = sizes (es.take k) + (x.l.size + x.r.size) := by
  unfold sizes
  rw [List.take_add_one, h, List.map_append, List.sum_append]
  simp [Eqn.size]
theorem cell_on {w wx : World} {a : Addr} {v : Value} (hb : Below w.heap.size w wx) (h : w.cell? a = some v) (hl : a.block < w.heap.size) : wx.cell? a = some v := (hb.cell hl).trans h
def Small (es : List Eqn) : Prop := es.length ≤ 20 ∧ sizes es ≤ 160
set_option maxHeartbeats 1000000 in
set_option maxRecDepth 100000 in
theorem Great_calls (w : World) (S : Nat → Prop) (es : List Eqn) (v : Value) (h : EqsAt w S es v) :
    Calls Tryz.prog 5 #[v] w fun e w' => ∃ b : Bool, e = .returned (.bool b) ∧ (b = false → Small es) ∧ Below w.heap.size w w' := by
  obtain ⟨A, ca, rfl, hlen⟩ := h.shape
  obtain ⟨n, hn⟩ : ∃ n, n = es.length := ⟨_, rfl⟩
  rw [← hn] at h hlen ⊢
  have HN := Sh.mk hn
  have H := Sh.mk h
  clear h hn
  go_enter Tryz.func5, Tryz.ntmps5
  go_wp2
  go_loopw [3, 4] (fun v3 v4 wr => ∃ j m : Nat, v4 = .int .i64 j ∧ v3 = .int .i64 m ∧ j ≤ n ∧ j ≤ 30 ∧ m ≤ 200 * j ∧ Sh (m = sizes (es.take j)) ∧ Sh (Below w.heap.size w wr)) (fun _ v4 _ => n - (intOf v4).toNat)
  case atStart => exact ⟨0, 0, rfl, rfl, Nat.zero_le _, by omega, by omega, ⟨by simp [sizes]⟩, ⟨Below.refl _ _⟩⟩
  case round =>
    obtain ⟨j, m, rfl, rfl, hj, hj30, hm, HM, HB⟩ := hrel
    by_cases hlt : j < n
    · by_cases h30 : j < 30
      · obtain ⟨x, hx⟩ : ∃ x, es[j]? = some x := ⟨_, List.getElem?_eq_getElem (by have := HN.out; omega)⟩
        obtain ⟨ad, As, cs, At, ct, rfl, hS, hbl, c0, c1, c2, c3, c4, c5, c6, c7, hpl, hpr⟩ := eqRow_elem (H.out.below HB.out) hx
        have HPL := Sh.mk hpl
        have HPR := Sh.mk hpr
        have HTK := Sh.mk (sizes_take_succ hx)
        have hbl8 : (ad.add (j * 8)).block < wr.heap.size := by rw [add_block]; exact hbl
        clear hpl hpr hx hS c6 c7
        have HBIG := Sh.mk (big_calls x.l S _ wr HPL.out)
        have TOK : Sh True := ⟨trivial⟩
        have hd30 : decide ((j : Int) < 30) = true := by simp; omega
        go_upto_region 5 with (fail)
        go_cut [28] from 20 to 29 (fun s28 wx => ∃ b : Bool, s28 = .bool b ∧ Sh (b = false → x.l.size ≤ 100 ∧ x.r.size ≤ 100) ∧ Sh (Below wr.heap.size wr wx))
        case first =>
          go_wp2_with (first
            | (go_at_call 12; clear TOK; refine HBIG.out.mono ?_; rintro e w1 ⟨b, rfl, h1, hb1⟩; have c3 := cell_on hb1 c3 hbl8; have c4 := cell_on hb1 c4 hbl8; have c5 := cell_on hb1 c5 hbl8; have HB1 := Sh.mk hb1; have H1 := Sh.mk h1; clear hb1 h1; cases b)
            | (go_at_call 12; refine (big_calls x.r S _ _ (HPR.out.below HB1.out)).mono ?_; rintro e w2 ⟨b2, rfl, h2, hb2⟩; have HB2 := Sh.mk hb2; have H2 := Sh.mk h2; clear hb2 h2))
          all_goals (go_meet)
          · exact ⟨_, rfl, ⟨fun e => ⟨by have := H1.out; simpa using this, H2.out e⟩⟩, ⟨below_then HB1.out HB2.out⟩⟩
          · exact ⟨_, rfl, ⟨fun e => by simp at e⟩, HB1⟩
        case rest =>
          clear TOK HBIG
          obtain ⟨b, rfl, HBB, HW⟩ := hcut
          cases b with
          | true =>
            go_wp2
            go_ret
            exact ⟨_, rfl, fun e => by simp at e, below_then HB.out HW.out⟩
          | false =>
            have HZL := Sh.mk (HBB.out rfl)
            have q0 := cell_on HW.out c0 hbl8
            have q1 := cell_on HW.out c1 hbl8
            have q2 := cell_on HW.out c2 hbl8
            have q3 := cell_on HW.out c3 hbl8
            have q4 := cell_on HW.out c4 hbl8
            have q5 := cell_on HW.out c5 hbl8
            have hblc : Sh ((ad.add (j * 8)).block < wc.heap.size) := ⟨Nat.lt_of_lt_of_le hbl8 HW.out.size⟩
            clear c0 c1 c2 c3 c4 c5 HBB hbl8 hbl
            have hxl : x.l.size ≤ 100 := HZL.out.1
            have hxr : x.r.size ≤ 100 := HZL.out.2
            have TOK : Sh True := ⟨trivial⟩
            go_wp2
            go_region_held3 (fun w' => w'.cell? (ad.add (j * 8)) = some (.int .i64 x.l.kind) ∧ w'.cell? ⟨(ad.add (j * 8)).block, (ad.add (j * 8)).off + 1, none⟩ = some (.int .i64 x.l.n) ∧ w'.cell? ⟨(ad.add (j * 8)).block, (ad.add (j * 8)).off + 2, none⟩ = some (.slice As x.l.parts.length cs) ∧
              w'.cell? ⟨(ad.add (j * 8)).block, (ad.add (j * 8)).off + 3, none⟩ = some (.int .i64 x.r.kind) ∧ w'.cell? ⟨(ad.add (j * 8)).block, (ad.add (j * 8)).off + 4, none⟩ = some (.int .i64 x.r.n) ∧ w'.cell? ⟨(ad.add (j * 8)).block, (ad.add (j * 8)).off + 5, none⟩ = some (.slice At x.r.parts.length ct)) (first | exact ⟨q0, q1, q2, q3, q4, q5⟩) (first
              | (go_at_call 13; (first
                  | (clear TOK; refine (Size_calls x.l S _ wc.drew (by omega) (HPL.out.below HW.out.drew)).mono ?_; rintro e w3 ⟨rfl, hb3⟩; have q0 := cell_on hb3 q0 hblc.out; have q1 := cell_on hb3 q1 hblc.out; have q2 := cell_on hb3 q2 hblc.out; have q3 := cell_on hb3 q3 hblc.out; have q4 := cell_on hb3 q4 hblc.out; have q5 := cell_on hb3 q5 hblc.out; have hblc3 := Sh.mk (Nat.lt_of_lt_of_le hblc.out hb3.size); have HB3 := Sh.mk (below_then HW.out.drew hb3); clear hb3)
                  | (refine (Size_calls x.r S _ w3 (by omega) (HPR.out.below HB3.out)).mono ?_; rintro e w4 ⟨rfl, hb4⟩; have q0 := cell_on hb4 q0 hblc3.out; have q1 := cell_on hb4 q1 hblc3.out; have q2 := cell_on hb4 q2 hblc3.out; have q3 := cell_on hb4 q3 hblc3.out; have q4 := cell_on hb4 q4 hblc3.out; have q5 := cell_on hb4 q5 hblc3.out; have HB4 := Sh.mk hb4; clear hb4)))
              | fail)
            have hs1 : IntKind.i64.wrap ((m : Int) + (x.l.size : Int)) = ((m + x.l.size : Nat) : Int) := by rw [IntWalk.i64_in _ (by omega)]; omega
            have hs2 : IntKind.i64.wrap (((m + x.l.size : Nat) : Int) + (x.r.size : Int)) = ((m + (x.l.size + x.r.size) : Nat) : Int) := by rw [IntWalk.i64_in _ (by omega)]; omega
            have hme : m + (x.l.size + x.r.size) ≤ 200 * (j + 1) := by omega
            simp only [hs1, hs2]
            clear hs1 hs2 q0 q1 q2 q3 q4 q5
            go_wp2
            go_roundw
            case rel => exact ⟨j + 1, m + (x.l.size + x.r.size), by simp, rfl, by omega, by omega, hme, ⟨by rw [HTK.out, HM.out]⟩, ⟨below_then HB.out (below_then HB3.out HB4.out)⟩⟩
            case measure => simp [intOf]; omega
      · have hd30 : decide ((j : Int) < 30) = false := by simp; omega
        have hgt : decide ((n : Int) > 20) = true := by simp; omega
        go_wp2
        go_ret
        exact ⟨_, rfl, fun e => by simp at e, HB.out⟩
    · have HJ := Sh.mk (show j = n by omega)
      by_cases hn20 : n > 20
      · have hgt : decide ((n : Int) > 20) = true := by simp; omega
        go_wp2
        go_ret
        exact ⟨_, rfl, fun e => by simp at e, HB.out⟩
      · have hgt : decide ((n : Int) > 20) = false := by simp; omega
        by_cases hm160 : m > 160
        · go_wp2
          go_ret
          exact ⟨_, rfl, fun e => by simp at e; omega, HB.out⟩
        · go_wp2
          go_ret
          refine ⟨_, rfl, fun _ => ⟨by have := HN.out; omega, ?_⟩, HB.out⟩
          have := HM.out
          rw [HJ.out, HN.out, List.take_length] at this
          omega
end Go.Proofs.YtdppkdjgadiinaaGreat
