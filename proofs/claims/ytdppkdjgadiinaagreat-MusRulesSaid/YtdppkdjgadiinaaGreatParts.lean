/- Package unify: a part's parts. -/
import Derived.Test.YtdppkdjgadiinaaGreatPart
set_option linter.unusedVariables false
set_option linter.unusedSimpArgs false
namespace Go.Proofs.YtdppkdjgadiinaaGreat
open Go.RowKit

def PartsPost (w : World) (F : Nat → Prop) (c : Nat) (s : Cl) (r : Nat) (e : Ending) (w' : World) : Prop :=
  ∃ v, e = .returned v ∧ GRow (PartK c) w' v (s.parts r) ∧ (∀ k, v.ownBlock = some k → w.heap.size ≤ k ∧ ¬ F k) ∧ ClAt w' F c s ∧ Chg F w w'
/-- What a round knows. -/
structure PPLoop (w : World) (F : Nat → Prop) (c : Nat) (s : Cl) (r : Nat) (ns : List Nat) (vn v : Value) (j : Nat) (wr : World) : Prop where
  row : GRow (PartK c) wr v ((ns.take j).map (rtN s))
  ints : IRow wr vn (ns.map fun p : Nat => (p : Int))
  own : ∀ k, v.ownBlock = some k → w.heap.size < k ∧ vn.ownBlock ≠ some k
  own2 : ∀ k, vn.ownBlock = some k → w.heap.size < k
  box : Blk wr w.heap.size 137 [.pointer (some ⟨c, 0, none⟩), .int .i64 r]
  at_ : ClAt wr F c s
  chg : Chg F w wr
set_option maxRecDepth 100000 in
set_option maxHeartbeats 1000000 in
theorem Part_Parts (w : World) (F : Nat → Prop) (c : Nat) (s : Cl) (r : Nat) (h : ClAt w F c s) (hk : Cok s) (hr : r < s.whole.length) (hl : s.whole.length ≤ 1000000) :
    Calls Tryz.prog 113 #[.agg #[.pointer (some ⟨c, 0, none⟩), .int .i64 r]] w (PartsPost w F c s r) := by
  have hal := (Below.refl w.heap.size w).alloc (Nat.le_refl _) (.cells #[.pointer (some ⟨c, 0, none⟩), .int .i64 r] 137)
  have b := Blk.new w 137 [.pointer (some ⟨c, 0, none⟩), .int .i64 r]
  have b0 := b.cell 0
  have b1 := b.cell 1
  simp only [List.getElem?_cons_zero, List.getElem?_cons_succ] at b0 b1
  have H := Sh.mk h
  have HAL := Sh.mk hal
  have HB := Sh.mk b
  have HK := Sh.mk hk
  have HKD := Sh.mk (Part_Kind _ F c s r (h.keep hal) hk hr hl)
  have HRL := Sh.mk (And.intro hr hl)
  obtain ⟨kd, hkd⟩ : ∃ kd, kd = s.kind r := ⟨_, rfl⟩
  rw [← hkd] at HKD
  have HKE := Sh.mk hkd
  clear h hal b hk hr hl hkd
  go_enter Tryz.func113, Tryz.ntmps113
  by_cases hk0 : kd = 0
  · have HE := Sh.mk (show s.parts r = [] by rw [Cl.parts, ← HKE.out, if_pos hk0])
    go_wp2_with (first | (go_at_call 116; refine HKD.out.mono ?_; rintro e w1 ⟨rfl, hb⟩; have HB1 := Sh.mk hb; clear hb))
    go_ret
    refine ⟨.slice none 0 0, rfl, by rw [HE.out]; exact GRow.nil _ _, fun k hk => by simp [Value.ownBlock] at hk, H.out.keep (below_then HAL.out HB1.out), Chg.of_below (below_then HAL.out HB1.out)⟩
  · have hk1 : (kd == 0) = false := by simp [hk0]
    have HK0 := Sh.mk hk0
    clear hk0
    obtain ⟨x, hx⟩ : ∃ x, s.whole[r]? = some x := ⟨_, List.getElem?_eq_getElem HRL.out.1⟩
    have hxd : s.whole.getD r 0 = x := by rw [List.getD_eq_getElem?_getD, hx]; rfl
    rcases HK.out.whole hx with rfl | ⟨n, nd, rfl, hn, hnl⟩
    · exact absurd (by rw [HKE.out, Cl.kind, hxd]; simp) HK0.out
    have HE := Sh.mk (show s.parts r = nd.parts.map (rtN s) by rw [Cl.parts, ← HKE.out, if_neg HK0.out, hxd]; simp [partsOf, hn])
    have HX := Sh.mk hx
    have HN := Sh.mk hn
    have HNL := Sh.mk hnl
    clear hx hxd hn hnl
    go_upto_region 4 with (first | (go_at_call 116; refine HKD.out.mono ?_; rintro e w1 ⟨rfl, hb⟩; have HB1 := Sh.mk (below_then HAL.out hb); have HX1 := Sh.mk (HB.out.keep hb); clear hb))
    go_cut [23, 24, 25] from 9 to 22 (fun s23 s24 s25 wx => ∃ A ca, s23 = .slice A nd.ints.length ca ∧ s24 = .int .i64 nd.ints.length ∧ s25 = .int .i64 0 ∧ Sh (PPLoop w F c s r nd.parts (.slice A nd.ints.length ca) (.slice none 0 0) 0 wx))
    case first =>
      have hHH := (H.out.keep HB1.out).drew
      obtain ⟨FG, FF, g, m, f, vw, hp, hF⟩ := hHH.is
      obtain ⟨bw, cw, rfl, n4, _⟩ := hp.wh.at HX.out
      have n1 := hp.blk.cell 1
      have n3 := hp.blk.cell 3
      have n5 := HX1.out.drew.cell 0
      have n6 := HX1.out.drew.cell 1
      simp only [List.getElem?_cons_zero, List.getElem?_cons_succ] at n1 n3 n5 n6
      have hrl := HRL.out.1
      have HP := Sh.mk hp
      have HF := Sh.mk hF
      have hrl2 : s.whole.length ≤ 9223372036854775807 := by have := HRL.out.2; omega
      clear hp hF hHH b0 b1
      go_region_held3 (fun w' => w'.cell? ⟨c, 1, none⟩ = some (.pointer (some ⟨g, 0, none⟩)) ∧ w'.cell? ⟨c, 3, none⟩ = some (.slice (some ⟨bw, 0, none⟩) s.whole.length cw) ∧ w'.cell? ⟨bw, r, none⟩ = some (.int .i64 n) ∧ w'.cell? ⟨w.heap.size, 0, none⟩ = some (.pointer (some ⟨c, 0, none⟩)) ∧ w'.cell? ⟨w.heap.size, 1, none⟩ = some (.int .i64 r)) (first | exact ⟨n1, n3, n4, n5, n6⟩) (first
        | (go_at_call 88; refine (Graph_Parts _ FG g m _ _ n nd HP.out.gr HN.out HNL.out).mono ?_; rintro e w3 ⟨v3, rfl, hi3, hb3, hn3⟩; have hp3 := HP.out.keep hb3; have hx3 := (HX1.out.drew).keep hb3; have n1 := hp3.blk.cell 1; have n3 := hp3.blk.cell 3; have n4 := (hp3.wh.cell HX.out).1; have n5 := hx3.cell 0; have n6 := hx3.cell 1; (simp only [List.getElem?_cons_zero, List.getElem?_cons_succ] at n1 n3 n5 n6); obtain ⟨A12, c12, rfl⟩ := hi3.shape; have HI3 := Sh.mk hi3; have HN3 := Sh.mk hn3; have HB3 := Sh.mk hb3; have HP3 := Sh.mk hp3; have HX3 := Sh.mk hx3; clear hi3 hn3 hb3 hp3 hx3)
        | fail)
      all_goals
        have hsz := HX1.out.lt
        go_wp2
        go_meet
        exact ⟨A12, c12, rfl, rfl, rfl, ⟨by simpa using GRow.nil (PartK c) w3, HI3.out, fun k hk => by simp [Value.ownBlock] at hk, fun k hk => by have := HN3.out k hk; exact Nat.lt_of_lt_of_le hsz this, HX3.out, ⟨⟨FG, FF, g, m, f, _, HP3.out, HF.out⟩⟩, ((Chg.of_below HB1.out).drew).thenBelow HB3.out⟩⟩
    obtain ⟨A, ca, rfl, rfl, rfl, HL0⟩ := hcut
    clear b0 b1 HKD HB1 HX1 HAL HB
    obtain ⟨q, hq⟩ : ∃ q, q = nd.ints.length := ⟨_, rfl⟩
    have hq6 : q ≤ 1000000 := by rw [hq]; exact HNL.out
    have hqp : q = nd.parts.length := by rw [hq, Nd.ints, List.length_map]
    rw [← hq] at HL0 ⊢
    have HQ := Sh.mk hqp
    clear hq hqp HNL
    go_wp2
    go_loopw [3, 25] (fun v3 v25 wr => ∃ (j : Nat) (A3 : Option Addr) (c3 : Nat), v3 = .slice A3 j c3 ∧ v25 = .int .i64 j ∧ j ≤ q ∧ Sh (PPLoop w F c s r nd.parts (.slice A q ca) (.slice A3 j c3) j wr)) (fun _ v25 _ => q - (intOf v25).toNat)
    case atStart => exact ⟨0, none, 0, rfl, rfl, Nat.zero_le _, HL0⟩
    case round =>
      obtain ⟨j, A3, c3, rfl, rfl, hj, HP⟩ := hrel
      by_cases hlt : j < q
      · obtain ⟨p, hp⟩ : ∃ p, nd.parts[j]? = some p := ⟨_, List.getElem?_eq_getElem (by have := HQ.out; omega)⟩
        have hpi : (nd.parts.map fun p : Nat => (p : Int))[j]? = some (p : Int) := by rw [List.getElem?_map, hp]; rfl
        obtain ⟨g12, k12, e, hc, _⟩ := HP.out.ints.at hpi
        simp only [Value.slice.injEq] at e
        have e1 := e.1
        clear e
        subst e1
        have hn := HN.out
        have hnl : n < s.G.1.length := (List.getElem?_eq_some_iff.1 hn).1
        have hpl : p < s.G.1.length := by have := (HK.out.nodes n nd hn).2.1 p (List.mem_of_getElem? hp); omega
        obtain ⟨r1, r2, r3⟩ := HK.out.rtN hpl
        obtain ⟨rp, hrp⟩ : ∃ rp, rp = rtN s p := ⟨_, rfl⟩
        rw [← hrp] at r1
        have HTK : Sh ((nd.parts.take (j + 1)).map (rtN s) = (nd.parts.take j).map (rtN s) ++ [rp]) := ⟨by rw [List.take_add_one, hp, List.map_append, hrp]; rfl⟩
        obtain ⟨L, hL⟩ : ∃ L, L = (nd.parts.take j).map (rtN s) := ⟨_, rfl⟩
        have HLL : Sh (L.length = j) := ⟨by rw [hL, List.length_map, List.length_take]; have := HQ.out; omega⟩
        rw [← hL] at HTK
        have hrow : GRow (PartK c) wr.drew (.slice A3 j c3) L := by rw [hL]; exact HP.out.row.keep (Below.refl _ _).drew
        have HROW := Sh.mk hrow
        have R1 := Sh.mk r1
        have z0 := HP.out.box.drew.cell 0
        simp only [List.getElem?_cons_zero, List.getElem?_cons_succ] at z0
        have HAT := Sh.mk (HP.out.at_.drew)
        have HNF : Sh (∀ k, w.heap.size ≤ k → ¬ F k) := ⟨fun k hk e => by have := H.out.lt k e; omega⟩
        clear hp hpi hn hnl hpl r1 r2 r3 hrp hL hrow
        go_wp2
        go_region_law (first
          | (go_simp; go_at_call 86; refine (Clo_root _ F c s p rp HAT.out R1.out).mono ?_; rintro e w2 ⟨rfl, hc2, hd2⟩; have hx2 := (show Blk w2 _ _ _ from (hd2.block _ HP.out.box.lt (HNF.out _ (Nat.le_refl _))).trans HP.out.box); have z1 := hx2.cell 0; (simp only [List.getElem?_cons_zero, List.getElem?_cons_succ] at z1); have hr2 := HROW.out.step (w' := w2) (fun k hk => hd2.block k (HROW.out.lt k hk) (HNF.out k (Nat.le_of_lt (HP.out.own k hk).1))); have HC2 := Sh.mk hc2; have HD2 := Sh.mk hd2; have HX2 := Sh.mk hx2; have HR2 := Sh.mk (hr2.keep ((Below.refl w2.heap.size w2).alloc (Nat.le_refl _) (.cells #[.pointer (some ⟨c, 0, none⟩), .int .i64 rp] 137))); have HLIT := Sh.mk (show GRow (PartK c) (w2.alloc (.cells #[.pointer (some ⟨c, 0, none⟩), .int .i64 rp] 137)) (.slice (some ⟨w2.heap.size, 0, none⟩) 1 1) [rp] from GRow.lit (PartK_ok c) w2 rp); clear hc2 hd2 hx2 hr2)
          | (refine step_row (PartK_ok c) rfl (.tmp 29) (.tmp 37) rfl (.slice A3 j c3) L [rp] (.slice (some ⟨w2.heap.size, 0, none⟩) 1 1) rfl rfl HR2.out HLIT.out (by { have := HLL.out; simp only [List.length_singleton]; omega }) (by { have := HLL.out; simp only [List.length_singleton, PartK]; omega }) ?_; intro A5 c5 w3 hI3 hG3 hV3; have I3 := Sh.mk hI3; have G3 := Sh.mk hG3; have V3 := Sh.mk hV3; clear hI3 hG3 hV3))
        all_goals
          go_wp2
          go_roundw
          case rel =>
            have P := HP.out
            have hll := HLL.out
            have s1 := P.box.lt
            have s2 : wr.heap.size ≤ w2.heap.size := HD2.out.size
            have s3 : w2.heap.size + 1 ≤ w3.heap.size := by have := G3.out.size; simpa using this
            have hlow : ∀ k, k < wr.heap.size → ¬ F k → (Value.slice A3 j c3).ownBlock ≠ some k → w3.heap[k]? = wr.heap[k]? := fun k hk hf hn => by
              rw [G3.out.block k (by simp; omega) (fun e => hn e.symm), Below.heap_alloc w2 _ k (by omega)]
              exact HD2.out.block k hk hf
            have hbo : (Value.slice A3 j c3).ownBlock ≠ some w.heap.size := fun e => by have := (P.own _ e).1; omega
            refine ⟨j + 1, A5, c5, by simp [hll], by simp, by omega, ⟨?_, ?_, ?_, P.own2, ?_, ?_, ?_⟩⟩
            · rw [HTK.out]
              have := I3.out
              simp only [List.length_singleton, hll] at this
              exact this
            · exact P.ints.step (fun k hk => hlow k (P.ints.lt k hk) (HNF.out k (Nat.le_of_lt (P.own2 k hk))) (fun e => (P.own k e).2 hk))
            · intro k hk
              have hk' : (Value.slice A5 (L.length + [rp].length) c5).ownBlock = some k := by simpa [hll, Value.ownBlock] using hk
              rcases V3.out with e | e
              · exact P.own k (e.symm.trans hk')
              · have e2 := hk'.symm.trans e
                injection e2 with e2
                simp at e2
                refine ⟨by omega, fun e3 => ?_⟩
                have := P.ints.lt k e3
                omega
            · exact (hlow _ s1 (HNF.out _ (Nat.le_refl _)) hbo).trans P.box
            · exact HC2.out.step (fun k hk => by
                have hkl := HC2.out.lt k hk
                rw [G3.out.block k (by simp; omega) (fun e => HNF.out k (Nat.le_of_lt (P.own k e.symm).1) hk)]
                exact Below.heap_alloc w2 _ k hkl) (by omega)
            · exact (((P.chg.drew.trans HD2.out (fun k hk _ => .inl hk)).alloc _).grown G3.out (fun k hk => .inr (Nat.le_of_lt (P.own k hk).1)))
          case measure => simp [intOf]; omega
      · have HJ := Sh.mk (show j = q by omega)
        go_wp2
        go_ret
        refine ⟨.slice A3 j c3, rfl, ?_, fun k hk => ?_, HP.out.at_, HP.out.chg⟩
        · rw [HE.out]
          have := HP.out.row
          rw [HJ.out, HQ.out, List.take_length] at this
          rw [HJ.out, HQ.out]
          exact this
        · have := (HP.out.own k hk).1
          exact ⟨Nat.le_of_lt this, fun e => by have := H.out.lt k e; omega⟩
end Go.Proofs.YtdppkdjgadiinaaGreat
