/- Package render: slices. -/
import Derived.Test.YtkfdhmeipnfhpaaGreatDoorLns
set_option linter.unusedVariables false
set_option linter.unusedSimpArgs false
namespace Go.Proofs.YtkfdhmeipnfhpaaGreatDoor
open Go.RowKit

/-- Spans in memory. -/
def spanD (x : Int × Int) : List Dat := [.raw (.int .i64 x.1), .raw (.int .i64 x.2)]
def SpansAt (w : World) (S : Nat → Prop) (l : List (Int × Int)) (v : Value) : Prop := (Dat.row 2 (l.map spanD)).at w S v
theorem spanRow_elem {w : World} {S : Nat → Prop} {l : List (Int × Int)} {A : Option Addr} {n c k : Nat} {x : Int × Int} (h : SpansAt w S l (.slice A n c)) (hx : l[k]? = some x) :
    ∃ ad, A = some ad ∧ S ad.block ∧ ad.block < w.heap.size ∧ w.cell? (ad.add (k * 2)) = some (.int .i64 x.1) ∧ w.cell? ⟨(ad.add (k * 2)).block, (ad.add (k * 2)).off + 1, none⟩ = some (.int .i64 x.2) := by
  obtain ⟨A', c', he, _, _, hel⟩ := Dat.row_at.1 h
  injection he with he _ _
  subst he
  obtain ⟨ad, us, rfl, hS, hbl, hus, hc, hk1⟩ := hel k (spanD x) (by rw [List.getElem?_map]; exact congrArg (Option.map spanD) hx)
  unfold spanD at hk1
  rw [CellsAt_cons] at hk1
  obtain ⟨u0, r0, rfl, h0, hk1⟩ := hk1
  rw [CellsAt_cons] at hk1
  obtain ⟨u1, r1, rfl, h1, hk1⟩ := hk1
  rw [Dat.raw_at] at h0 h1
  subst h0 h1
  have c0 := hc 0 _ rfl
  have c1 := hc 1 _ rfl
  rw [Nat.add_zero] at c0
  rw [add_field _ _ 1 (by omega)] at c1
  exact ⟨ad, rfl, hS, hbl, c0, c1⟩
theorem SpansAt.below {w w' : World} {S : Nat → Prop} {l : List (Int × Int)} {v : Value} (h : SpansAt w S l v) (hb : Below w.heap.size w w') : SpansAt w' S l v := Dat.at_below h hb
theorem SpansAt.shape {w : World} {S : Nat → Prop} {l : List (Int × Int)} {v : Value} (h : SpansAt w S l v) : ∃ A c, v = .slice A l.length c ∧ l.length ≤ 9223372036854775807 := by
  obtain ⟨A, c, rfl, h1, h2, _⟩ := Dat.row_at.1 h
  rw [List.length_map] at h1
  unfold maxLen at h2
  exact ⟨A, c, by rw [List.length_map], by omega⟩
/-- A part of a text, in one line. -/
def pieceS (s : ByteArray) (lo hi : Nat) : ByteArray := ⟨(blanked (List.take (hi - lo) (List.drop lo s.data.toList))).toArray⟩
theorem pieceS_size (s : ByteArray) (lo hi : Nat) : (pieceS s lo hi).size ≤ s.size := by
  show (blanked (List.take (hi - lo) (List.drop lo s.data.toList))).toArray.size ≤ _
  unfold blanked
  simp
  omega
theorem piece_any (s : ByteArray) (a b : Int) (hs : s.size ≤ 100000) (lo hi : Nat) (hlo : max 0 (min a (s.size : Int)) = (lo : Int)) (hhi : max 0 (max (min a (s.size : Int)) (max 0 (min b (s.size : Int)))) = (hi : Int)) (w : World) (m : Int) (hm : ∀ W : World, Below w.heap.size w W → W.cell? ⟨1, 0, none⟩ = some (.int .i64 m)) :
    Calls Tryz.prog 17 #[.string s, .agg #[.int .i64 a, .int .i64 b]] w fun e w' => e = .returned (.string (pieceS s lo hi)) ∧ Below w.heap.size w w' := by
  have h := piece_calls s a b m (by omega) w hm lo hi hlo hhi (by
    have h1 : (s.extract lo hi).size ≤ s.size := by rw [ByteArray.size_extract]; omega
    have h2 := Lib.countB_le ⟨#[10]⟩ (by decide) _ (s.extract lo hi) (Nat.le_refl _)
    have h3 : (⟨#[32]⟩ : ByteArray).size = 1 := rfl
    rw [h3]
    omega)
  rw [replaceAll_lf] at h
  exact h
def clipLo (s : ByteArray) (x : Int × Int) : Nat := (max 0 (min x.1 (s.size : Int))).toNat
def clipHi (s : ByteArray) (x : Int × Int) : Nat := (max 0 (max (min x.1 (s.size : Int)) (max 0 (min x.2 (s.size : Int))))).toNat
theorem clipLo_eq (s : ByteArray) (x : Int × Int) : max 0 (min x.1 (s.size : Int)) = (clipLo s x : Int) := by unfold clipLo; omega
theorem clipHi_eq (s : ByteArray) (x : Int × Int) : max 0 (max (min x.1 (s.size : Int)) (max 0 (min x.2 (s.size : Int)))) = (clipHi s x : Int) := by unfold clipHi; omega
def sTwo : ByteArray := ⟨#[32, 32]⟩
def sTo : ByteArray := ⟨#[32, 116, 111, 32]⟩
def sColon : ByteArray := ⟨#[58, 32]⟩
/-- A slice's line. -/
def slLine (s : ByteArray) (x : Int × Int) : Option ByteArray :=
  if clipLo s x < clipHi s x then some (sTwo ++ placeS s (clipLo s x) ++ sTo ++ placeS s (clipHi s x) ++ sColon ++ pieceS s (clipLo s x) (clipHi s x)) else none
def sTypeErr : ByteArray := ⟨#[116, 121, 112, 101, 32, 101, 114, 114, 111, 114]⟩
def slLines (s : ByteArray) (l : List (Int × Int)) : List ByteArray := sTypeErr :: l.filterMap (slLine s)
theorem slLines_len (s : ByteArray) (l : List (Int × Int)) : (slLines s l).length ≤ l.length + 1 := by
  unfold slLines
  have := List.length_filterMap_le (slLine s) l
  simp
  omega
theorem placeS_size (s : ByteArray) (k : Nat) (hk : k ≤ 100000) : (placeS s k).size ≤ 300000 := by
  unfold placeS
  have h1 := placeL_le s k
  have h2 := dec_size1 (placeL s k).1 (by omega)
  have h3 := dec_size1 (placeL s k).2 (by omega)
  rw [ByteArray.size_append, ByteArray.size_append]
  have : (⟨#[58]⟩ : ByteArray).size = 1 := rfl
  omega
set_option maxRecDepth 100000 in
set_option maxHeartbeats 4000000 in
theorem slices_calls (w : World) (s sch : ByteArray) (k0 a b lim st : Int) (v5 v6 : Value) (l : List (Int × Int)) (S : Nat → Prop) (hs : s.size ≤ 100000) (hl : l.length ≤ 1000000) (h5 : v5.oneCell' = true) (hv6 : SpansAt w S l v6) (hG : Gl w) (m : Int) (hm : w.cell? ⟨1, 0, none⟩ = some (.int .i64 m)) (h0 : 1 < w.heap.size) :
    Calls Tryz.prog 21 #[.string s, .agg (verdL k0 sch a b lim v5 v6 st).toArray] w fun e w' => ∃ A c, e = .returned (.slice A (slLines s l).length c) ∧ GRow StrK w' (.slice A (slLines s l).length c) (slLines s l) ∧ (∀ b, (Value.slice A (slLines s l).length c).ownBlock = some b → w.heap.size ≤ b) ∧ Below w.heap.size w w' := by
  obtain ⟨A6, c6, rfl, hl6⟩ := hv6.shape
  have HV := Sh.mk hv6
  have HG := Sh.mk hG
  have HM := Sh.mk hm
  have H0 := Sh.mk h0
  have HCL := Sh.mk (fun (x : Int × Int) W => clip_calls s x.1 x.2 (by omega) W)
  unfold verdL
  clear hv6 hG hm h0
  go_enter Tryz.func21, Tryz.ntmps21
  go_upto_region 2 with (fail)
  obtain ⟨V, hV⟩ : ∃ V, V = (w.alloc (.cells #[.int .i64 k0, .string sch, .int .i64 a, .int .i64 b, .int .i64 lim, v5, .slice A6 l.length c6, .int .i64 st] 27)).alloc (.cells #[.string sTypeErr] 9) := ⟨_, rfl⟩
  have hb : Blk V w.heap.size 27 [.int .i64 k0, .string sch, .int .i64 a, .int .i64 b, .int .i64 lim, v5, .slice A6 l.length c6, .int .i64 st] := by rw [hV]; exact (Blk.new _ _ _).alloc _
  have hr : GRow StrK V (.slice (some ⟨w.heap.size + 1, 0, none⟩) 1 1) [sTypeErr] := by
    rw [hV]
    exact GRow.of_blk StrK_ok (xs := [sTypeErr]) (Blk.new' _ _ _ (by simp)) rfl (by simp)
  have hw : Below w.heap.size w V := by rw [hV]; exact ((Below.refl _ _).alloc (Nat.le_refl _) _).alloc (by simp) _
  rw [show (⟨#[116, 121, 112, 101, 32, 101, 114, 114, 111, 114]⟩ : ByteArray) = sTypeErr from rfl, ← hV]
  have v0 := (hb).cell 0
  have v1 := (hb).cell 1
  have v2 := (hb).cell 2
  have v3 := (hb).cell 3
  have v4 := (hb).cell 4
  have v5 := (hb).cell 5
  have v6 := (hb).cell 6
  have v7 := (hb).cell 7
  simp only [List.getElem?_cons_zero, List.getElem?_cons_succ] at v0 v1 v2 v3 v4 v5 v6 v7
  have HB := Sh.mk hb
  have HR := Sh.mk hr
  have HW := Sh.mk hw
  clear hV hb hr hw
  go_wp2
  clear v0 v1 v2 v3 v4 v5 v6 v7
  have hl7 : l.length ≤ 9223372036854775807 := hl6
  go_loopw [5, 12] (fun v5 v12 wr => ∃ (k : Nat) (A : Option Addr) (c : Nat), k ≤ l.length ∧ v12 = .int .i64 k ∧ v5 = .slice A (slLines s (l.take k)).length c ∧ Sh (GRow StrK wr (.slice A (slLines s (l.take k)).length c) (slLines s (l.take k))) ∧ Sh (∀ b, (Value.slice A (slLines s (l.take k)).length c).ownBlock = some b → w.heap.size ≤ b) ∧ Sh (Below w.heap.size w wr)) (fun _ v12 _ => l.length - (intOf v12).toNat)
  case atStart => exact ⟨0, _, _, Nat.zero_le _, rfl, rfl, HR, ⟨fun b hb => by simp [Value.ownBlock] at hb; omega⟩, HW⟩
  case round =>
    clear HR HW HB
    obtain ⟨k, A, c, hk, rfl, rfl, HR, HO, HW⟩ := hrel
    by_cases hlt : k < l.length
    · have hx : l[k]? = some l[k] := List.getElem?_eq_getElem hlt
      have htk : l.take (k + 1) = l.take k ++ [l[k]] := by rw [List.take_add_one, hx]; rfl
      generalize l[k] = x at hx htk
      obtain ⟨ad, rfl, hS, hbl, e0, e1⟩ := spanRow_elem (HV.out.below HW.out) hx
      have HTK := Sh.mk htk
      clear hx htk
      go_upto_region 5 with (fail)
      obtain ⟨W1, hW1⟩ : ∃ W1, W1 = wr.alloc (.cells #[.int .i64 x.1, .int .i64 x.2] 23) := ⟨_, rfl⟩
      have hb1 : Blk W1 wr.heap.size 23 [.int .i64 x.1, .int .i64 x.2] := by rw [hW1]; exact Blk.new _ _ _
      have hw1 : Below wr.heap.size wr W1 := by rw [hW1]; exact (Below.refl _ _).alloc (Nat.le_refl _) _
      rw [← hW1]
      have y0 := (hb1).cell 0
      have y1 := (hb1).cell 1
      simp only [List.getElem?_cons_zero, List.getElem?_cons_succ] at y0 y1
      have HB1 := Sh.mk hb1
      have HW1 := Sh.mk hw1
      clear hW1 hb1 hw1
      obtain ⟨lo, hlo⟩ : ∃ lo, clipLo s x = lo := ⟨_, rfl⟩
      obtain ⟨hi, hhi⟩ : ∃ hi, clipHi s x = hi := ⟨_, rfl⟩
      have HC := Sh.mk (fun W => HCL.out x W)
      rw [clipLo_eq, clipHi_eq, hlo, hhi] at HC
      have hlh : lo ≤ hi := by have h1 := clipLo_eq s x; have h2 := clipHi_eq s x; omega
      have hhs : hi ≤ s.size := by have h2 := clipHi_eq s x; omega
      have HLO := Sh.mk hlo
      have HHI := Sh.mk hhi
      clear hlo hhi HCL
      go_upto_region 6 with (first
        | (go_at_call 31; refine (HC.out _).mono ?_; rintro e w2 ⟨rfl, hb2⟩; have hx2 := HB1.out.keep hb2; clear y0 y1; have y0 := (hx2).cell 0; have y1 := (hx2).cell 1; (simp only [List.getElem?_cons_zero, List.getElem?_cons_succ] at y0 y1); have f0 := (hx2).frozen 0; have f1 := (hx2).frozen 1;  have HX2 := Sh.mk hx2; have HW2 := Sh.mk (HW1.out.trans (hb2.mono HW1.out.size)); clear hx2 hb2))
      obtain ⟨W3, hW3⟩ : ∃ W3, W3 = (w2.setCell ⟨wr.heap.size, 0, none⟩ (.int .i64 lo)).setCell ⟨wr.heap.size, 1, none⟩ (.int .i64 hi) := ⟨_, rfl⟩
      have hx3 : Blk W3 wr.heap.size 23 [.int .i64 lo, .int .i64 hi] := by rw [hW3]; exact (HX2.out.set_ 0 _).set_ 1 _
      have HW3 : Sh (Below wr.heap.size wr W3) := ⟨by rw [hW3]; exact (HW2.out.setCell (Nat.le_refl _) _).setCell (Nat.le_refl _) _⟩
      rw [← hW3]
      clear hW3 y0 y1 f0 f1
      have y0 := (hx3).cell 0
      have y1 := (hx3).cell 1
      simp only [List.getElem?_cons_zero, List.getElem?_cons_succ] at y0 y1
      have HX3 := Sh.mk hx3
      clear hx3
      have HWW : Sh (Below w.heap.size w W3) := ⟨HW.out.trans (HW3.out.mono HW.out.size)⟩
      have HR3 := Sh.mk (HR.out.keep HW3.out)
      by_cases hlt2 : lo < hi
      · have hlt3 : (lo : Int) < (hi : Int) := by omega
        have hsl : slLine s x = some (sTwo ++ placeS s lo ++ sTo ++ placeS s hi ++ sColon ++ pieceS s lo hi) := by unfold slLine; rw [HLO.out, HHI.out, if_pos hlt2]
        have HSL := Sh.mk hsl
        clear hsl
        have HPL := Sh.mk (fun (W : World) (hW : Gl W) => place_any s (lo : Int) (by omega) lo (by omega) W hW)
        have HPH := Sh.mk (fun (W : World) (hW : Gl W) => place_any s (hi : Int) (by omega) hi (by omega) W hW)
        have HPC := Sh.mk (fun (W : World) (hW : ∀ W2 : World, Below W.heap.size W W2 → W2.cell? ⟨1, 0, none⟩ = some (.int .i64 m)) => piece_any s (lo : Int) (hi : Int) (by omega) lo hi (by omega) (by omega) W m hW)
        have zp := placeS_size s lo (by omega)
        have zq := placeS_size s hi (by omega)
        have zr := pieceS_size s lo hi
        obtain ⟨P, hP⟩ : ∃ P, placeS s lo = P := ⟨_, rfl⟩
        obtain ⟨Q, hQ⟩ : ∃ Q, placeS s hi = Q := ⟨_, rfl⟩
        obtain ⟨R, hRR⟩ : ∃ R, pieceS s lo hi = R := ⟨_, rfl⟩
        rw [hP] at HPL zp
        rw [hQ] at HPH zq
        rw [hRR] at HPC zr
        have hsl := HSL.out
        rw [hP, hQ, hRR] at hsl
        clear HSL hP hQ hRR
        have g1 : (9223372036854775807 < 2 + P.size) = False := by simp; omega
        have g2 : (9223372036854775807 < 2 + P.size + 4) = False := by simp; omega
        have g3 : (9223372036854775807 < 2 + P.size + 4 + Q.size) = False := by simp; omega
        have g4 : (9223372036854775807 < 2 + P.size + 4 + Q.size + 2) = False := by simp; omega
        have g5 : (9223372036854775807 < 2 + P.size + 4 + Q.size + 2 + R.size) = False := by simp; omega
        obtain ⟨T, hT⟩ : ∃ T : ByteArray, T = ⟨#[32, 32]⟩ ++ P ++ ⟨#[32, 116, 111, 32]⟩ ++ Q ++ ⟨#[58, 32]⟩ ++ R := ⟨_, rfl⟩
        have hsl2 : slLine s x = some T := by rw [hsl, hT]; rfl
        have HSL : Sh (slLines s (l.take (k + 1)) = slLines s (l.take k) ++ [T]) := ⟨by rw [HTK.out]; unfold slLines; rw [List.filterMap_append]; simp [hsl2]⟩
        have hlenk := slLines_len s (l.take k)
        rw [List.length_take] at hlenk
        clear zp zq zr hsl hsl2
        have TOK : Sh (1 = 1) := ⟨rfl⟩
        have HD3 : Sh (Below W3.heap.size W3 W3.drew) := ⟨(Below.refl _ _).drew⟩
        go_upto_region 7 with (fail)
        go_region_held_law (fun w' => w'.cell? ⟨wr.heap.size, 0, none⟩ = some (.int .i64 lo) ∧ w'.cell? ⟨wr.heap.size, 1, none⟩ = some (.int .i64 hi)) (first | exact ⟨y0, y1⟩ | exact ⟨X4.out.cell 0, X4.out.cell 1⟩ | exact ⟨X5.out.cell 0, X5.out.cell 1⟩ | exact ⟨X6.out.cell 0, X6.out.cell 1⟩ | exact ⟨(X6.out.alloc _).cell 0, (X6.out.alloc _).cell 1⟩ | exact ⟨X9.out.cell 0, X9.out.cell 1⟩) (first
          | (go_at_call 14; clear TOK; refine (HPL.out _ ((HG.out.below HWW.out).below HD3.out)).mono ?_; rintro e w4 ⟨rfl, hb4⟩; have HB4 := Sh.mk (HD3.out.trans (hb4.mono HD3.out.size)); have X4 := Sh.mk (HX3.out.keep HB4.out); clear hb4)
          | (go_at_call 14; refine (HPH.out _ ((HG.out.below HWW.out).below HB4.out)).mono ?_; rintro e w5 ⟨rfl, hb5⟩; have HB5 := Sh.mk (HB4.out.trans (hb5.mono HB4.out.size)); have X5 := Sh.mk (HX3.out.keep HB5.out); clear hb5)
          | (go_at_call 17; refine (HPC.out _ (fun W2 hW2 => by rw [(HWW.out.trans ((HB5.out.trans (hW2.mono HB5.out.size)).mono HWW.out.size)).cell H0.out]; exact HM.out)).mono ?_; rintro e w6 ⟨rfl, hb6⟩; have HB6 := Sh.mk (HB5.out.trans (hb6.mono HB5.out.size)); have X6 := Sh.mk (HX3.out.keep HB6.out); clear hb6)
          | ((try rw [← hT]); refine step_rowD StrK_ok rfl (.tmp 24) (.tmp 41) (some 42) rfl rfl (.slice A (slLines s (l.take k)).length c) (slLines s (l.take k)) [T] (.slice (some ⟨w6.heap.size, 0, none⟩) 1 1) rfl rfl (HR3.out.keep (HB6.out.alloc HB6.out.size _)) (GRow.lit StrK_ok w6 T) (by simp; omega) (by simp [StrK]; omega) ?_; intro A9 c9 w9 hI hg hv; have HA6 := Sh.mk (HWW.out.trans ((HB6.out.alloc HB6.out.size (.cells #[.string T] 9)).mono HWW.out.size)); have HB9 : Sh (Below w.heap.size w w9) := ⟨grow_below HA6.out hg HO.out⟩; have HO9 := Sh.mk (grow_own hv HA6.out HO.out); have I9 := Sh.mk hI; have X9 : Sh (Blk w9 wr.heap.size 23 [.int .i64 lo, .int .i64 hi]) := ⟨(hg.block _ (X6.out.alloc _).lt (fun e => Nat.lt_irrefl _ (HR.out.lt _ e.symm))).trans (X6.out.alloc _)⟩; clear hI hg hv)
          | fail)
        go_wp2
        go_roundw
        case rel =>
          have hI := I9.out
          have hO := HO9.out
          have e3 : (slLines s (l.take (k + 1))).length = (slLines s (l.take k)).length + 1 := by rw [HSL.out]; simp
          refine ⟨k + 1, A9, c9, by omega, by go_num, by rw [e3], ⟨?_⟩, ⟨?_⟩, HB9⟩
          · rw [HSL.out]
            simpa using hI
          · rw [e3]
            simpa using hO
        case measure => simp [intOf]; omega
      · have hlt3 : ¬ (lo : Int) < (hi : Int) := by omega
        have hsl : slLine s x = none := by unfold slLine; rw [HLO.out, HHI.out, if_neg hlt2]
        have HSL : Sh (slLines s (l.take (k + 1)) = slLines s (l.take k)) := ⟨by rw [HTK.out]; unfold slLines; rw [List.filterMap_append]; simp [hsl]⟩
        clear hsl
        go_wp2
        go_roundw
        case rel => exact ⟨k + 1, A, c, by omega, by go_num, by rw [HSL.out], ⟨by rw [HSL.out]; exact HR3.out⟩, ⟨by rw [HSL.out]; exact HO.out⟩, HWW⟩
        case measure => simp [intOf]; omega
    · have hk2 : k = l.length := by omega
      subst hk2
      have hR := HR.out
      have hO := HO.out
      rw [List.take_length] at hR hO ⊢
      clear HR HO
      have HR := Sh.mk hR
      have HO := Sh.mk hO
      clear hR hO
      go_wp2
      go_ret
      exact ⟨A, c, rfl, HR.out, HO.out, HW.out⟩
end Go.Proofs.YtkfdhmeipnfhpaaGreatDoor
