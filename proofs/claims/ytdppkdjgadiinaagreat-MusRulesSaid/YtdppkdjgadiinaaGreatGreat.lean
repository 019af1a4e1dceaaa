/- The law's own words: how large equations are. The law's own words: whether equations are too many or too large. -/
import Derived.Test.YtdppkdjgadiinaaGreatEqn
import Derived.Deep.RegionHeld3
set_option linter.unusedVariables false
set_option linter.unusedSimpArgs false
namespace Go.Proofs.YtdppkdjgadiinaaGreat
open Go.RowKit

theorem Ty.size_eq (t : Ty) : t.size = 1 + Ty.sizes t.parts := by
  cases t with
  | mk k n ps => rw [Ty.size]; rfl
theorem Ty.sizes_take_succ {ps : List Ty} {k : Nat} {x : Ty} (h : ps[k]? = some x) : Ty.sizes (ps.take (k + 1)) = Ty.sizes (ps.take k) + x.size := by
  rw [List.take_add_one, h, Ty.sizes_append]
  simp [Ty.sizes]
theorem Ty.sizes_take_le (ps : List Ty) (k : Nat) : Ty.sizes (ps.take k) ≤ Ty.sizes ps := by
  have := Ty.sizes_append (ps.take k) (ps.drop k)
  rw [List.take_append_drop] at this
  omega
def SizeSaid (t : Ty) : Prop := ∀ (S : Nat → Prop) (s : Value) (w : World), t.size ≤ 1000000 → PartsAt w S t s →
  Calls Tryz.prog 13 #[.agg #[.int .i64 t.kind, .int .i64 t.n, s]] w fun e w' => e = .returned (.int .i64 t.size) ∧ Below w.heap.size w w'
theorem Size_calls : ∀ t : Ty, SizeSaid t := by
  apply Ty.ind_
  intro k0 n0 ps ih S s w hsz h
  have IH := Sh.mk ih
  have H := Sh.mk h
  obtain ⟨A, c, rfl, hl⟩ := h.shape
  have EZ := Sh.mk (Ty.size_eq (Ty.mk k0 n0 ps))
  generalize ht : Ty.mk k0 n0 ps = t at *
  have HT := Sh.mk (show t.parts = ps by rw [← ht]; rfl)
  have HSZ := Sh.mk hsz
  obtain ⟨n, hn⟩ : ∃ n, n = t.parts.length := ⟨_, rfl⟩
  rw [← hn] at H hl ⊢
  have HN := Sh.mk hn
  clear ih h ht hsz hn
  go_enter Tryz.func13, Tryz.ntmps13
  go_wp2
  go_loopw [3, 4] (fun v3 v4 wr => ∃ j m : Nat, v4 = .int .i64 j ∧ v3 = .int .i64 m ∧ j ≤ n ∧ Sh (m = 1 + Ty.sizes (t.parts.take j)) ∧ Sh (Below w.heap.size w wr) ∧ Sh (Blk wr w.heap.size 36 [.int .i64 t.kind, .int .i64 t.n, .slice A n c])) (fun _ v4 _ => n - (intOf v4).toNat)
  case atStart => exact ⟨0, 1, rfl, rfl, Nat.zero_le _, ⟨by simp [Ty.sizes]⟩, ⟨(Below.refl _ _).alloc (Nat.le_refl _) _⟩, ⟨Blk.new _ _ _⟩⟩
  case round =>
    obtain ⟨j, m, rfl, rfl, hj, HM, HB, HK⟩ := hrel
    have c2 := HK.out.cell 2
    simp only [List.getElem?_cons_succ, List.getElem?_cons_zero] at c2
    by_cases hlt : j < n
    · obtain ⟨x, hx⟩ : ∃ x, t.parts[j]? = some x := ⟨_, List.getElem?_eq_getElem (by have := HN.out; omega)⟩
      obtain ⟨ad, A3, c3, rfl, hS, hbl, h0, h1, h2, h4⟩ := tyRow_elem (H.out.below HB.out) hx
      have HX := Sh.mk hx
      have H4 := Sh.mk h4
      have HTK := Sh.mk (Ty.sizes_take_succ hx)
      have HLE := Sh.mk (Ty.sizes_take_le t.parts (j + 1))
      have hm : m ≤ 1000000 := by have := HM.out; have := HTK.out; have := HLE.out; have := EZ.out; have := HSZ.out; omega
      have hxs : x.size ≤ 1000000 := by have := HM.out; have := HTK.out; have := HLE.out; have := EZ.out; have := HSZ.out; omega
      have HXZ := Sh.mk hxs
      clear hx h4 hS
      go_wp2_with (first | (go_at_call 13; refine (IH.out x (by rw [← HT.out]; exact List.mem_of_getElem? HX.out) S _ _ HXZ.out H4.out).mono ?_; rintro e w1 ⟨rfl, hb⟩; have HB1 := Sh.mk hb; clear hb))
      go_roundw
      case rel => exact ⟨j + 1, m + x.size, by simp, by go_num, by omega, ⟨by rw [HTK.out, HM.out]; omega⟩, ⟨below_then HB.out HB1.out⟩, ⟨HK.out.keep HB1.out⟩⟩
      case measure => simp [intOf]; omega
    · have HR := Sh.mk (show (m : Int) = t.size by have := HM.out; rw [show j = t.parts.length by have := HN.out; omega, List.take_length] at this; rw [EZ.out]; omega)
      go_wp2
      go_ret
      exact ⟨by rw [HR.out]; rfl, HB.out⟩
def RoomSaid (t : Ty) : Prop := ∀ (S : Nat → Prop) (s : Value) (w : World) (n deep : Nat), n ≤ 100 → deep ≤ 30 → PartsAt w S t s →
  Calls Tryz.prog 32 #[.agg #[.int .i64 t.kind, .int .i64 t.n, s], .int .i64 n, .int .i64 deep] w fun e w' => ∃ r : Int, e = .returned (.int .i64 r) ∧ -1 ≤ r ∧ r < n ∧ (0 ≤ r → r + t.size = n) ∧ Below w.heap.size w w'
set_option maxHeartbeats 1000000 in
theorem room_calls : ∀ t : Ty, RoomSaid t := by
  apply Ty.ind_
  intro k0 n0 ps ih S s w q deep hq hd h
  have IH := Sh.mk ih
  have H := Sh.mk h
  obtain ⟨A, c, rfl, hl⟩ := h.shape
  have EZ := Sh.mk (Ty.size_eq (Ty.mk k0 n0 ps))
  generalize ht : Ty.mk k0 n0 ps = t at *
  have HT := Sh.mk (show t.parts = ps by rw [← ht]; rfl)
  obtain ⟨n, hn⟩ : ∃ n, n = t.parts.length := ⟨_, rfl⟩
  rw [← hn] at H hl ⊢
  have HN := Sh.mk hn
  clear ih h ht hn
  go_enter Tryz.func32, Tryz.ntmps32
  by_cases hd0 : deep = 0
  · subst hd0
    go_wp2
    go_ret
    exact ⟨-1, rfl, by omega, by omega, by omega, (Below.refl _ _).alloc (Nat.le_refl _) _⟩
  · have hdq : ((deep : Int) == 0) = false := by simp; omega
    have HD0 := Sh.mk hd0
    clear hd0
    go_wp2
    go_loopw [1, 7] (fun v1 v7 wr => ∃ (j : Nat) (m : Int), v7 = .int .i64 j ∧ v1 = .int .i64 m ∧ j ≤ n ∧ -1 ≤ m ∧ m < q ∧ Sh (0 ≤ m → m + 1 + Ty.sizes (t.parts.take j) = q) ∧ Sh (j = 0 → m + 1 = q) ∧ Sh (Below w.heap.size w wr) ∧ Sh (Blk wr w.heap.size 36 [.int .i64 t.kind, .int .i64 t.n, .slice A n c])) (fun _ v7 _ => n - (intOf v7).toNat)
    case atStart => exact ⟨0, (q : Int) - 1, rfl, by go_num, Nat.zero_le _, by omega, by omega, ⟨by simp [Ty.sizes]⟩, ⟨fun _ => by omega⟩, ⟨(Below.refl _ _).alloc (Nat.le_refl _) _⟩, ⟨Blk.new _ _ _⟩⟩
    case round =>
      obtain ⟨j, m, rfl, rfl, hj, hm1, hm2, HM, HM0, HB, HK⟩ := hrel
      have c2 := HK.out.cell 2
      simp only [List.getElem?_cons_succ, List.getElem?_cons_zero] at c2
      by_cases hlt : j < n
      · by_cases hm0 : 0 ≤ m
        · obtain ⟨x, hx⟩ : ∃ x, t.parts[j]? = some x := ⟨_, List.getElem?_eq_getElem (by have := HN.out; omega)⟩
          obtain ⟨ad, A3, c3, rfl, hS, hbl, h0, h1, h2, h4⟩ := tyRow_elem (H.out.below HB.out) hx
          obtain ⟨m', rfl⟩ : ∃ m' : Nat, m = m' := ⟨m.toNat, by omega⟩
          obtain ⟨d', hd'⟩ : ∃ d' : Nat, deep = d' + 1 := ⟨deep - 1, by have := HD0.out; omega⟩
          have HD' := Sh.mk hd'
          have hdd : (deep : Int) - 1 = (d' : Int) := by omega
          have HX := Sh.mk hx
          have H4 := Sh.mk h4
          have HTK := Sh.mk (Ty.sizes_take_succ hx)
          clear hx h4 hS hd'
          go_wp2_with (first | (go_at_call 32; refine (IH.out x (by rw [← HT.out]; exact List.mem_of_getElem? HX.out) S _ _ m' d' (by omega) (by have := HD'.out; omega) H4.out).mono ?_; rintro e w1 ⟨r, rfl, hr1, hr2, hr3, hb⟩; have HB1 := Sh.mk hb; have HR3 := Sh.mk hr3; clear hb hr3))
          go_roundw
          case rel => exact ⟨j + 1, r, by simp, rfl, by omega, by omega, by omega, ⟨fun h0 => by have := HM.out (by omega); have := HR3.out h0; have := HTK.out; omega⟩, ⟨fun e => by omega⟩, ⟨below_then HB.out HB1.out⟩, ⟨HK.out.keep HB1.out⟩⟩
          case measure => simp [intOf]; omega
        · go_wp2
          go_ret
          exact ⟨m, rfl, by omega, by omega, fun h => absurd h (by omega), HB.out⟩
      · have HR := Sh.mk (show 0 ≤ m → m + t.size = q by
          intro h0
          have := HM.out h0
          rw [show j = t.parts.length by have := HN.out; omega, List.take_length] at this
          rw [EZ.out]; omega)
        go_wp2
        go_ret
        exact ⟨m, rfl, by omega, by omega, HR.out, HB.out⟩
theorem big_calls (t : Ty) (S : Nat → Prop) (s : Value) (w : World) (h : PartsAt w S t s) :
    Calls Tryz.prog 12 #[.agg #[.int .i64 t.kind, .int .i64 t.n, s]] w fun e w' => ∃ b : Bool, e = .returned (.bool b) ∧ (b = false → t.size ≤ 100) ∧ Below w.heap.size w w' := by
  obtain ⟨A, c, rfl, hl⟩ := h.shape
  have HA := Sh.mk ((Below.refl w.heap.size w).alloc (Nat.le_refl _) (.cells #[.int .i64 t.kind, .int .i64 t.n, .slice A t.parts.length c] 36))
  have H := Sh.mk (h.below HA.out)
  clear h
  go_enter Tryz.func12, Tryz.ntmps12
  go_wp2_with (first | (go_at_call 32; refine (room_calls t S _ _ 100 30 (by omega) (by omega) H.out).mono ?_; rintro e w1 ⟨r, rfl, hr1, hr2, hr3, hb⟩; have HB1 := Sh.mk (below_then HA.out hb); have HR3 := Sh.mk hr3; clear hb hr3))
  go_ret
  refine ⟨_, rfl, fun hb => ?_, HB1.out⟩
  have h0 : 0 ≤ r := by simpa using hb
  have := HR3.out h0
  omega
end Go.Proofs.YtdppkdjgadiinaaGreat
set_option linter.unusedVariables false
set_option linter.unusedSimpArgs false
namespace Go.Proofs.YtdppkdjgadiinaaGreat
open Go.RowKit

theorem sizes_take_succ {es : List Eqn} {k : Nat} {x : Eqn} (h : es[k]? = some x) : sizes (es.take (k + 1)) = sizes (es.take k) + (x.l.size + x.r.size) := by
  unfold sizes
  rw [List.take_add_one, h, List.map_append, List.sum_append]
  simp [Eqn.size]
theorem cell_on {w wx : World} {a : Addr} {v : Value} (hb : Below w.heap.size w wx) (h : w.cell? a = some v) (hl : a.block < w.heap.size) : wx.cell? a = some v := (hb.cell hl).trans h
def Small (es : List Eqn) : Prop := es.length ≤ 20 ∧ sizes es ≤ 160
set_option maxHeartbeats 1000000 in
set_option maxRecDepth 100000 in
theorem Great_calls (w : World) (S : Nat → Prop) (es : List Eqn) (v : Value) (h : EqsAt w S es v) :
    Calls Tryz.prog 5 #[v] w fun e w' => ∃ b : Bool, e = .returned (.bool b) ∧ (b = false → Small es) ∧ Below w.heap.size w w' := by
  obtain ⟨A, ca, rfl, hlen⟩ := h.shape
  obtain ⟨n, hn⟩ : ∃ n, n = es.length := ⟨_, rfl⟩
  rw [← hn] at h hlen ⊢
  have HN := Sh.mk hn
  have H := Sh.mk h
  clear h hn
  go_enter Tryz.func5, Tryz.ntmps5
  go_wp2
  go_loopw [3, 4] (fun v3 v4 wr => ∃ j m : Nat, v4 = .int .i64 j ∧ v3 = .int .i64 m ∧ j ≤ n ∧ j ≤ 30 ∧ m ≤ 200 * j ∧ Sh (m = sizes (es.take j)) ∧ Sh (Below w.heap.size w wr)) (fun _ v4 _ => n - (intOf v4).toNat)
  case atStart => exact ⟨0, 0, rfl, rfl, Nat.zero_le _, by omega, by omega, ⟨by simp [sizes]⟩, ⟨Below.refl _ _⟩⟩
  case round =>
    obtain ⟨j, m, rfl, rfl, hj, hj30, hm, HM, HB⟩ := hrel
    by_cases hlt : j < n
    · by_cases h30 : j < 30
      · obtain ⟨x, hx⟩ : ∃ x, es[j]? = some x := ⟨_, List.getElem?_eq_getElem (by have := HN.out; omega)⟩
        obtain ⟨ad, As, cs, At, ct, rfl, hS, hbl, c0, c1, c2, c3, c4, c5, c6, c7, hpl, hpr⟩ := eqRow_elem (H.out.below HB.out) hx
        have HPL := Sh.mk hpl
        have HPR := Sh.mk hpr
        have HTK := Sh.mk (sizes_take_succ hx)
        have hbl8 : (ad.add (j * 8)).block < wr.heap.size := by rw [add_block]; exact hbl
        clear hpl hpr hx hS c6 c7
        have HBIG := Sh.mk (big_calls x.l S _ wr HPL.out)
        have TOK : Sh True := ⟨trivial⟩
        have hd30 : decide ((j : Int) < 30) = true := by simp; omega
        go_upto_region 5 with (fail)
        go_cut [28] from 20 to 29 (fun s28 wx => ∃ b : Bool, s28 = .bool b ∧ Sh (b = false → x.l.size ≤ 100 ∧ x.r.size ≤ 100) ∧ Sh (Below wr.heap.size wr wx))
        case first =>
          go_wp2_with (first
            | (go_at_call 12; clear TOK; refine HBIG.out.mono ?_; rintro e w1 ⟨b, rfl, h1, hb1⟩; have c3 := cell_on hb1 c3 hbl8; have c4 := cell_on hb1 c4 hbl8; have c5 := cell_on hb1 c5 hbl8; have HB1 := Sh.mk hb1; have H1 := Sh.mk h1; clear hb1 h1; cases b)
            | (go_at_call 12; refine (big_calls x.r S _ _ (HPR.out.below HB1.out)).mono ?_; rintro e w2 ⟨b2, rfl, h2, hb2⟩; have HB2 := Sh.mk hb2; have H2 := Sh.mk h2; clear hb2 h2))
          all_goals (go_meet)
          · exact ⟨_, rfl, ⟨fun e => ⟨by have := H1.out; simpa using this, H2.out e⟩⟩, ⟨below_then HB1.out HB2.out⟩⟩
          · exact ⟨_, rfl, ⟨fun e => by simp at e⟩, HB1⟩
        case rest =>
          clear TOK HBIG
          obtain ⟨b, rfl, HBB, HW⟩ := hcut
          cases b with
          | true =>
            go_wp2
            go_ret
            exact ⟨_, rfl, fun e => by simp at e, below_then HB.out HW.out⟩
          | false =>
            have HZL := Sh.mk (HBB.out rfl)
            have q0 := cell_on HW.out c0 hbl8
            have q1 := cell_on HW.out c1 hbl8
            have q2 := cell_on HW.out c2 hbl8
            have q3 := cell_on HW.out c3 hbl8
            have q4 := cell_on HW.out c4 hbl8
            have q5 := cell_on HW.out c5 hbl8
            have hblc : Sh ((ad.add (j * 8)).block < wc.heap.size) := ⟨Nat.lt_of_lt_of_le hbl8 HW.out.size⟩
            clear c0 c1 c2 c3 c4 c5 HBB hbl8 hbl
            have hxl : x.l.size ≤ 100 := HZL.out.1
            have hxr : x.r.size ≤ 100 := HZL.out.2
            have TOK : Sh True := ⟨trivial⟩
            go_wp2
            go_region_held3 (fun w' => w'.cell? (ad.add (j * 8)) = some (.int .i64 x.l.kind) ∧ w'.cell? ⟨(ad.add (j * 8)).block, (ad.add (j * 8)).off + 1, none⟩ = some (.int .i64 x.l.n) ∧ w'.cell? ⟨(ad.add (j * 8)).block, (ad.add (j * 8)).off + 2, none⟩ = some (.slice As x.l.parts.length cs) ∧
              w'.cell? ⟨(ad.add (j * 8)).block, (ad.add (j * 8)).off + 3, none⟩ = some (.int .i64 x.r.kind) ∧ w'.cell? ⟨(ad.add (j * 8)).block, (ad.add (j * 8)).off + 4, none⟩ = some (.int .i64 x.r.n) ∧ w'.cell? ⟨(ad.add (j * 8)).block, (ad.add (j * 8)).off + 5, none⟩ = some (.slice At x.r.parts.length ct)) (first | exact ⟨q0, q1, q2, q3, q4, q5⟩) (first
              | (go_at_call 13; (first
                  | (clear TOK; refine (Size_calls x.l S _ wc.drew (by omega) (HPL.out.below HW.out.drew)).mono ?_; rintro e w3 ⟨rfl, hb3⟩; have q0 := cell_on hb3 q0 hblc.out; have q1 := cell_on hb3 q1 hblc.out; have q2 := cell_on hb3 q2 hblc.out; have q3 := cell_on hb3 q3 hblc.out; have q4 := cell_on hb3 q4 hblc.out; have q5 := cell_on hb3 q5 hblc.out; have hblc3 := Sh.mk (Nat.lt_of_lt_of_le hblc.out hb3.size); have HB3 := Sh.mk (below_then HW.out.drew hb3); clear hb3)
                  | (refine (Size_calls x.r S _ w3 (by omega) (HPR.out.below HB3.out)).mono ?_; rintro e w4 ⟨rfl, hb4⟩; have q0 := cell_on hb4 q0 hblc3.out; have q1 := cell_on hb4 q1 hblc3.out; have q2 := cell_on hb4 q2 hblc3.out; have q3 := cell_on hb4 q3 hblc3.out; have q4 := cell_on hb4 q4 hblc3.out; have q5 := cell_on hb4 q5 hblc3.out; have HB4 := Sh.mk hb4; clear hb4)))
              | fail)
            have hs1 : IntKind.i64.wrap ((m : Int) + (x.l.size : Int)) = ((m + x.l.size : Nat) : Int) := by rw [IntWalk.i64_in _ (by omega)]; omega
            have hs2 : IntKind.i64.wrap (((m + x.l.size : Nat) : Int) + (x.r.size : Int)) = ((m + (x.l.size + x.r.size) : Nat) : Int) := by rw [IntWalk.i64_in _ (by omega)]; omega
            have hme : m + (x.l.size + x.r.size) ≤ 200 * (j + 1) := by omega
            simp only [hs1, hs2]
            clear hs1 hs2 q0 q1 q2 q3 q4 q5
            go_wp2
            go_roundw
            case rel => exact ⟨j + 1, m + (x.l.size + x.r.size), by simp, rfl, by omega, by omega, hme, ⟨by rw [HTK.out, HM.out]⟩, ⟨below_then HB.out (below_then HB3.out HB4.out)⟩⟩
            case measure => simp [intOf]; omega
      · have hd30 : decide ((j : Int) < 30) = false := by simp; omega
        have hgt : decide ((n : Int) > 20) = true := by simp; omega
        go_wp2
        go_ret
        exact ⟨_, rfl, fun e => by simp at e, HB.out⟩
    · have HJ := Sh.mk (show j = n by omega)
      by_cases hn20 : n > 20
      · have hgt : decide ((n : Int) > 20) = true := by simp; omega
        go_wp2
        go_ret
        exact ⟨_, rfl, fun e => by simp at e, HB.out⟩
      · have hgt : decide ((n : Int) > 20) = false := by simp; omega
        by_cases hm160 : m > 160
        · go_wp2
          go_ret
          exact ⟨_, rfl, fun e => by simp at e; omega, HB.out⟩
        · go_wp2
          go_ret
          refine ⟨_, rfl, fun _ => ⟨by have := HN.out; omega, ?_⟩, HB.out⟩
          have := HM.out
          rw [HJ.out, HN.out, List.take_length] at this
          omega
end Go.Proofs.YtdppkdjgadiinaaGreat
