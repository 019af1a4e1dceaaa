/- ref24.Lines: a type's error's slices; any verdict. -/
import Derived.Test.YtkfdhmeipnfhpaaGreatDoorRln
set_option linter.unusedVariables false
set_option linter.unusedSimpArgs false
namespace Go.Proofs.YtkfdhmeipnfhpaaGreatDoor
open Go.RowKit

theorem slLine_ref (s : ByteArray) (x : Int × Int) : (max 0 x.1 < min (s.size : Int) x.2 → (clipLo s x : Int) = max 0 x.1 ∧ (clipHi s x : Int) = min (s.size : Int) x.2 ∧ clipLo s x < clipHi s x) ∧ (¬ max 0 x.1 < min (s.size : Int) x.2 → ¬ clipLo s x < clipHi s x) := by
  have e1 := clipLo_eq s x
  have e2 := clipHi_eq s x
  omega
set_option maxRecDepth 100000 in
set_option maxHeartbeats 4000000 in
theorem Rlines_k5 (w : World) (s sch : ByteArray) (x0 : Int × Int) (lim st : Int) (v5 v6 : Value) (h5 : v5.oneCell' = true) (l : List (Int × Int)) (S : Nat → Prop) (hs : s.size ≤ 100000) (hl : l.length ≤ 1000000) (hv6 : SpansAt w S l v6) :
    Calls Tryz.prog 8 #[.string s, .agg #[.int .i64 5, .string sch, .int .i64 x0.1, .int .i64 x0.2, .int .i64 lim, v5, v6, .int .i64 st]] w (LnPost w (slLines s l)) := by
  obtain ⟨A6, c6, rfl, hl6⟩ := hv6.shape
  obtain ⟨V0, hV0⟩ : ∃ V, V = w.alloc (.cells #[.int .i64 5, .string sch, .int .i64 x0.1, .int .i64 x0.2, .int .i64 lim, v5, .slice A6 l.length c6, .int .i64 st] 27) := ⟨_, rfl⟩
  have hbv : Blk V0 w.heap.size 27 [.int .i64 5, .string sch, .int .i64 x0.1, .int .i64 x0.2, .int .i64 lim, v5, .slice A6 l.length c6, .int .i64 st] := by rw [hV0]; exact Blk.new _ _ _
  have hw0 : Below w.heap.size w V0 := by rw [hV0]; exact (Below.refl _ _).alloc (Nat.le_refl _) _
  obtain ⟨V, hV⟩ : ∃ V, V = V0.alloc (.cells #[.string sTypeErr] 9) := ⟨_, rfl⟩
  have hr : GRow StrK V (.slice (some ⟨V0.heap.size, 0, none⟩) 1 1) [sTypeErr] := by
    rw [hV]
    exact GRow.of_blk StrK_ok (xs := [sTypeErr]) (Blk.new _ _ _) rfl (by simp)
  have hw : Below w.heap.size w V := by rw [hV]; exact hw0.alloc hw0.size _
  have HV := Sh.mk hv6
  have HBV0 := Sh.mk hbv
  have HBV : Sh (Blk V w.heap.size 27 [.int .i64 5, .string sch, .int .i64 x0.1, .int .i64 x0.2, .int .i64 lim, v5, .slice A6 l.length c6, .int .i64 st]) := ⟨by rw [hV]; exact hbv.alloc _⟩
  have HW := Sh.mk hw
  have HR := Sh.mk hr
  have HZ := Sh.mk hw0.size
  have HW0 := Sh.mk hw0
  have HLT0 := Sh.mk hbv.lt
  have v0 := (hbv).cell 0
  have v1 := (hbv).cell 1
  have v2 := (hbv).cell 2
  have v3 := (hbv).cell 3
  have v4 := (hbv).cell 4
  have v5 := (hbv).cell 5
  have v6 := (hbv).cell 6
  have v7 := (hbv).cell 7
  simp only [List.getElem?_cons_zero, List.getElem?_cons_succ] at v0 v1 v2 v3 v4 v5 v6 v7
  have KV0 := Sh.mk hV0
  have KV := Sh.mk hV
  clear hV0 hV hbv hw hw0 hr hv6
  go_enter Tryz.func8, Tryz.ntmps8
  go_upto_region 1 with (fail)
  rw [← KV0.out]
  go_upto_region 15 with (fail)
  rw [show (⟨#[116, 121, 112, 101, 32, 101, 114, 114, 111, 114]⟩ : ByteArray) = sTypeErr from rfl, ← KV.out]
  have HB0 : Sh (Below V0.heap.size V0 V) := ⟨by rw [KV.out]; exact (Below.refl _ _).alloc (Nat.le_refl _) _⟩
  clear KV KV0
  clear v0 v1 v2 v3 v4 v5 v6 v7
  go_wp2
  have hl7 : l.length ≤ 9223372036854775807 := hl6
  go_loopw [6, 7] (fun v6 v7 wr => ∃ (k : Nat) (A : Option Addr) (c : Nat), k ≤ l.length ∧ v7 = .int .i64 k ∧ v6 = .slice A (slLines s (l.take k)).length c ∧ Sh (GRow StrK wr (.slice A (slLines s (l.take k)).length c) (slLines s (l.take k))) ∧ Sh (∀ b, (Value.slice A (slLines s (l.take k)).length c).ownBlock = some b → V0.heap.size ≤ b) ∧ Sh (Below V0.heap.size V0 wr)) (fun _ v7 _ => l.length - (intOf v7).toNat)
  case atStart => exact ⟨0, _, _, Nat.zero_le _, rfl, rfl, HR, ⟨fun b hb => by simp [Value.ownBlock] at hb; omega⟩, HB0⟩
  case round =>
    clear HR HBV HW HB0
    obtain ⟨k, A, c, hk, rfl, rfl, HR, HO, HB⟩ := hrel
    have hv := HBV0.out.keep HB.out
    have v0 := (hv).cell 0
    have v1 := (hv).cell 1
    have v2 := (hv).cell 2
    have v3 := (hv).cell 3
    have v4 := (hv).cell 4
    have v5 := (hv).cell 5
    have v6 := (hv).cell 6
    have v7 := (hv).cell 7
    simp only [List.getElem?_cons_zero, List.getElem?_cons_succ] at v0 v1 v2 v3 v4 v5 v6 v7
    have HVR := Sh.mk hv
    clear hv v0 v1 v2 v3 v4 v5 v7
    have HWR : Sh (Below w.heap.size w wr) := ⟨HW0.out.trans (HB.out.mono HW0.out.size)⟩
    by_cases hlt : k < l.length
    · have hx : l[k]? = some l[k] := List.getElem?_eq_getElem hlt
      have htk : l.take (k + 1) = l.take k ++ [l[k]] := by rw [List.take_add_one, hx]; rfl
      generalize l[k] = x at hx htk
      obtain ⟨ad, rfl, hS, hbl, e0, e1⟩ := spanRow_elem (HV.out.below HWR.out) hx
      have HTK := Sh.mk htk
      clear hx htk
      have HE : Sh (∀ W : World, Below wr.heap.size wr W → W.cell? ⟨w.heap.size, 6, none⟩ = some (.slice (some ad) l.length c6) ∧ W.cell? (ad.add (k * 2)) = some (.int .i64 x.1) ∧ W.cell? ⟨(ad.add (k * 2)).block, (ad.add (k * 2)).off + 1, none⟩ = some (.int .i64 x.2)) := ⟨fun W hW => ⟨(HVR.out.keep hW).cell 6, (hW.cell (p := ad.add (k * 2)) (by rw [add_block]; exact hbl)).trans e0, (hW.cell (p := ⟨(ad.add (k * 2)).block, (ad.add (k * 2)).off + 1, none⟩) (by show (ad.add (k * 2)).block < _; rw [add_block]; exact hbl)).trans e1⟩⟩
      have hzz := HVR.out.lt
      obtain ⟨W3, hW3⟩ : ∃ W1, W1 = (wr.alloc (.cells #[.int .i64 (max 0 x.1), .int .i64 (min (s.size : Int) x.2)] 23)).drew := ⟨_, rfl⟩
      go_upto_region 18 with (fail)
      go_cut [8] (fun s8 wx => s8 = .pointer (some ⟨wr.heap.size, 0, none⟩) ∧ wx = W3)
      case first =>
        go_region_held_law (fun w' => w'.cell? ⟨w.heap.size, 6, none⟩ = some (.slice (some ad) l.length c6) ∧ w'.cell? (ad.add (k * 2)) = some (.int .i64 x.1) ∧ w'.cell? ⟨(ad.add (k * 2)).block, (ad.add (k * 2)).off + 1, none⟩ = some (.int .i64 x.2)) (first | exact HE.out _ (Below.refl _ _).drew | exact HE.out _ ((Below.refl _ _).drew.alloc (Nat.le_refl _) _)) (fail)
        all_goals
          go_wp2
          go_meet
          exact ⟨rfl, hW3.symm⟩
      case rest =>
        obtain ⟨rfl, hwx⟩ := hcut
        rw [hwx]
        clear hwx
        have hx3 : Blk W3 wr.heap.size 23 [.int .i64 (max 0 x.1), .int .i64 (min (s.size : Int) x.2)] := by rw [hW3]; exact (Blk.new _ _ _).drew
        have HW3 : Sh (Below wr.heap.size wr W3) := ⟨by rw [hW3]; exact ((Below.refl _ _).alloc (Nat.le_refl _) _).drew⟩
        clear hW3 HE e0 e1 v6
        have HBW : Sh (Below V0.heap.size V0 W3) := ⟨HB.out.trans (HW3.out.mono HB.out.size)⟩
        have HR3 := Sh.mk (HR.out.keep HW3.out)
        have SL := Sh.mk (slLine_ref s x)
        by_cases hlt2 : max 0 x.1 < min (s.size : Int) x.2
        · obtain ⟨q1, q2, q3⟩ := SL.out.1 hlt2
          rw [← q1, ← q2] at hx3
          have hhs : clipHi s x ≤ s.size := by have := clipHi_eq s x; omega
          have HPS := Sh.mk (rpiece_says s (((clipLo s x : Nat) : Int), ((clipHi s x : Nat) : Int)) (by omega) W3)
          have el : clipLo s (((clipLo s x : Nat) : Int), ((clipHi s x : Nat) : Int)) = clipLo s x := by have := clipLo_eq s (((clipLo s x : Nat) : Int), ((clipHi s x : Nat) : Int)); simp only at this; omega
          have eh : clipHi s (((clipLo s x : Nat) : Int), ((clipHi s x : Nat) : Int)) = clipHi s x := by have := clipHi_eq s (((clipLo s x : Nat) : Int), ((clipHi s x : Nat) : Int)); simp only at this; omega
          rw [el, eh] at HPS
          have hsl : slLine s x = some (sTwo ++ placeS s (clipLo s x) ++ sTo ++ placeS s (clipHi s x) ++ sColon ++ pieceS s (clipLo s x) (clipHi s x)) := by unfold slLine; rw [if_pos q3]
          clear el eh q1 q2 hlt2 SL
          obtain ⟨lo, hlo⟩ : ∃ lo, clipLo s x = lo := ⟨_, rfl⟩
          obtain ⟨hi, hhi⟩ : ∃ hi, clipHi s x = hi := ⟨_, rfl⟩
          rw [hlo, hhi] at hx3 HPS hsl q3
          rw [hhi] at hhs
          clear hlo hhi
          have hlt3 : (lo : Int) < (hi : Int) := by omega
          have y0 := (hx3).cell 0
          have y1 := (hx3).cell 1
          simp only [List.getElem?_cons_zero, List.getElem?_cons_succ] at y0 y1
          have HX3 := Sh.mk hx3
          clear hx3
          have HPL := Sh.mk (rplace_says s (lo : Int) (by omega) lo (by omega) W3)
          have HPH := Sh.mk (rplace_says s (hi : Int) (by omega) hi (by omega) W3)
          have zp := placeS_size s lo (by omega)
          have zq := placeS_size s hi (by omega)
          have zr := pieceS_size s lo hi
          obtain ⟨P, hP⟩ : ∃ P, placeS s lo = P := ⟨_, rfl⟩
          obtain ⟨Q, hQ⟩ : ∃ Q, placeS s hi = Q := ⟨_, rfl⟩
          obtain ⟨R, hRR⟩ : ∃ R, pieceS s lo hi = R := ⟨_, rfl⟩
          rw [hP] at HPL zp
          rw [hQ] at HPH zq
          rw [hRR] at HPS zr
          rw [hP, hQ, hRR] at hsl
          clear hP hQ hRR
          have g1 : (9223372036854775807 < 2 + P.size) = False := by simp; omega
          have g2 : (9223372036854775807 < 2 + P.size + 4) = False := by simp; omega
          have g3 : (9223372036854775807 < 2 + P.size + 4 + Q.size) = False := by simp; omega
          have g4 : (9223372036854775807 < 2 + P.size + 4 + Q.size + 2) = False := by simp; omega
          have g5 : (9223372036854775807 < 2 + P.size + 4 + Q.size + 2 + R.size) = False := by simp; omega
          obtain ⟨T, hT⟩ : ∃ T : ByteArray, T = ⟨#[32, 32]⟩ ++ P ++ ⟨#[32, 116, 111, 32]⟩ ++ Q ++ ⟨#[58, 32]⟩ ++ R := ⟨_, rfl⟩
          have hsl2 : slLine s x = some T := by rw [hsl, hT]; rfl
          have HSL : Sh (slLines s (l.take (k + 1)) = slLines s (l.take k) ++ [T]) := ⟨by rw [HTK.out]; unfold slLines; rw [List.filterMap_append]; simp [hsl2]⟩
          have hlenk := slLines_len s (l.take k)
          rw [List.length_take] at hlenk
          clear zp zq zr hsl hsl2
          have TOK : Sh (1 = 1) := ⟨rfl⟩
          have HD3 : Sh (Below W3.heap.size W3 W3.drew) := ⟨(Below.refl _ _).drew⟩
          go_upto_region 20 with (fail)
          go_region_held_law (fun w' => w'.cell? ⟨wr.heap.size, 0, none⟩ = some (.int .i64 lo) ∧ w'.cell? ⟨wr.heap.size, 1, none⟩ = some (.int .i64 hi)) (first | exact ⟨y0, y1⟩ | exact ⟨X4.out.cell 0, X4.out.cell 1⟩ | exact ⟨X5.out.cell 0, X5.out.cell 1⟩ | exact ⟨X6.out.cell 0, X6.out.cell 1⟩ | exact ⟨(X6.out.alloc _).cell 0, (X6.out.alloc _).cell 1⟩ | exact ⟨X9.out.cell 0, X9.out.cell 1⟩) (first
            | (go_at_call 22; clear TOK; refine (HPL.out _ HD3.out).mono ?_; rintro e w4 ⟨rfl, hb4⟩; have HB4 := Sh.mk (HD3.out.trans (hb4.mono HD3.out.size)); have X4 := Sh.mk (HX3.out.keep HB4.out); clear hb4)
            | (go_at_call 22; refine (HPH.out _ HB4.out).mono ?_; rintro e w5 ⟨rfl, hb5⟩; have HB5 := Sh.mk (HB4.out.trans (hb5.mono HB4.out.size)); have X5 := Sh.mk (HX3.out.keep HB5.out); clear hb5)
            | (go_at_call 24; refine (HPS.out _ HB5.out).mono ?_; rintro e w6 ⟨rfl, hb6⟩; have HB6 := Sh.mk (HB5.out.trans (hb6.mono HB5.out.size)); have X6 := Sh.mk (HX3.out.keep HB6.out); clear hb6)
            | ((try rw [← hT]); refine step_rowD StrK_ok rfl (.tmp 103) (.tmp 120) (some 121) rfl rfl (.slice A (slLines s (l.take k)).length c) (slLines s (l.take k)) [T] (.slice (some ⟨w6.heap.size, 0, none⟩) 1 1) rfl rfl (HR3.out.keep (HB6.out.alloc HB6.out.size _)) (GRow.lit StrK_ok w6 T) (by simp; omega) (by simp [StrK]; omega) ?_; intro A9 c9 w9 hI hg hv; have HA6 := Sh.mk (HBW.out.trans ((HB6.out.alloc HB6.out.size (.cells #[.string T] 9)).mono HBW.out.size)); have HB9 : Sh (Below V0.heap.size V0 w9) := ⟨grow_below HA6.out hg HO.out⟩; have HO9 := Sh.mk (grow_own hv HA6.out HO.out); have I9 := Sh.mk hI; have X9 : Sh (Blk w9 wr.heap.size 23 [.int .i64 lo, .int .i64 hi]) := ⟨(hg.block _ (X6.out.alloc _).lt (fun e => Nat.lt_irrefl _ (HR.out.lt _ e.symm))).trans (X6.out.alloc _)⟩; clear hI hg hv)
            | fail)
          go_wp2
          go_roundw
          case rel =>
            have hI := I9.out
            have hO := HO9.out
            have e3 : (slLines s (l.take (k + 1))).length = (slLines s (l.take k)).length + 1 := by rw [HSL.out]; simp
            refine ⟨k + 1, A9, c9, by omega, by go_num, by rw [e3], ⟨?_⟩, ⟨?_⟩, HB9⟩
            · rw [HSL.out]
              simpa using hI
            · rw [e3]
              simpa using hO
          case measure => simp [intOf]; omega
        · have hsl : slLine s x = none := by unfold slLine; rw [if_neg (SL.out.2 hlt2)]
          have HSL : Sh (slLines s (l.take (k + 1)) = slLines s (l.take k)) := ⟨by rw [HTK.out]; unfold slLines; rw [List.filterMap_append]; simp [hsl]⟩
          obtain ⟨P, hP⟩ : ∃ P, max 0 x.1 = P := ⟨_, rfl⟩
          obtain ⟨Q, hQ⟩ : ∃ Q, min (s.size : Int) x.2 = Q := ⟨_, rfl⟩
          rw [hP, hQ] at hx3 hlt2
          have y0 := (hx3).cell 0
          have y1 := (hx3).cell 1
          simp only [List.getElem?_cons_zero, List.getElem?_cons_succ] at y0 y1
          clear hx3 hsl hP hQ SL
          go_wp2
          go_roundw
          case rel => exact ⟨k + 1, A, c, by omega, by go_num, by rw [HSL.out], ⟨by rw [HSL.out]; exact HR3.out⟩, ⟨by rw [HSL.out]; exact HO.out⟩, HBW⟩
          case measure => simp [intOf]; omega
    · have hk2 : k = l.length := by omega
      subst hk2
      rw [List.take_length] at HR HO ⊢
      go_wp2
      go_ret
      exact ⟨A, c, rfl, HR.out, fun b hb => Nat.le_trans HW0.out.size (HO.out b hb), HWR.out⟩
theorem Rlines_any (k : Int) (w : World) (s sch : ByteArray) (x : Int × Int) (lim st : Int) (v5 v6 : Value) (l : List (Int × Int)) (S : Nat → Prop) (hs : s.size ≤ 100000) (hl : l.length ≤ 1000000) (hsch : sch.size ≤ 1000000) (h5 : v5.oneCell' = true) (hv6 : SpansAt w S l v6) :
    ∃ ls, LinesIs s k sch x lim l ls ∧ Calls Tryz.prog 8 #[.string s, .agg #[.int .i64 k, .string sch, .int .i64 x.1, .int .i64 x.2, .int .i64 lim, v5, v6, .int .i64 st]] w (LnPost w ls) := by
  obtain ⟨l1, l2, hci, -⟩ := Caret_says s x hs
  have h6 : v6.oneCell' = true := by obtain ⟨A6, c6, e6, _⟩ := hv6.shape; rw [e6]; rfl
  have e1 := clipLo_eq s x
  have hq := fun W => rplace_says s x.1 hs (clipLo s x) e1 W
  have hc := fun W => Rcaret_says s x hs l1 l2 hci W
  have zq := placeS_size s (clipLo s x) (by omega)
  by_cases e1 : k = 1
  · subst e1; exact ⟨_, .inl ⟨rfl, rfl⟩, Rlines_k1 w s sch x lim st v5 v6 h5 h6 hsch⟩
  by_cases e2 : k = 2
  · subst e2; exact ⟨_, .inr (.inl ⟨rfl, l1, l2, hci, rfl⟩), Rlines_k2 w s sch x lim st v5 v6 h5 h6 _ l1 l2 hq hc (by omega)⟩
  by_cases e3 : k = 3
  · subst e3
    have zp := pieceS_size s (clipLo s x) (clipHi s x)
    exact ⟨_, .inr (.inr (.inl ⟨rfl, l1, l2, hci, rfl⟩)), Rlines_k3 w s sch x lim st v5 v6 h5 h6 _ _ l1 l2 (fun W => rpiece_says s x hs W) hq hc (by omega) (by omega)⟩
  by_cases e4 : k = 4
  · subst e4; exact ⟨_, .inr (.inr (.inr (.inl ⟨rfl, rfl⟩))), Rlines_k4 w s sch x lim st v5 v6 h5 h6⟩
  by_cases e5 : k = 5
  · subst e5; exact ⟨_, .inr (.inr (.inr (.inr (.inl ⟨rfl, rfl⟩)))), Rlines_k5 w s sch x lim st v5 v6 h5 l S hs hl hv6⟩
  · have hk : k < 1 ∨ 6 ≤ k := by omega
    exact ⟨_, .inr (.inr (.inr (.inr (.inr ⟨hk, rfl⟩)))), Rlines_k0 k w s sch x lim st v5 v6 h5 h6 hk⟩
end Go.Proofs.YtkfdhmeipnfhpaaGreatDoor
