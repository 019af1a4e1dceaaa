/- Package unify: two classes become one. -/
import Derived.Test.YtdppkdjgadiinaaGreatPairs
set_option linter.unusedVariables false
set_option linter.unusedSimpArgs false
namespace Go.Proofs.YtdppkdjgadiinaaGreat
open Go.RowKit

theorem Clo_rootP {w : World} {c : Nat} {s : Cl} {FG FF : Nat → Prop} {g m f : Nat} {vw : Value} (h : ClParts w c s FG FF g m f vw) (i r : Nat) (hr : s.rt[i]? = some (r : Int)) :
    Calls Tryz.prog 86 #[.pointer (some ⟨c, 0, none⟩), .int .i64 i] w fun e w' => e = .returned (.int .i64 r) ∧ ClParts w' c s FG FF g m f vw ∧ Chg FF w w' := by
  have c2 := h.blk.cell 2
  simp only [List.getElem?_cons_zero, List.getElem?_cons_succ] at c2
  have H := Sh.mk h
  have HR := Sh.mk hr
  clear h hr
  go_enter Tryz.func86, Tryz.ntmps86
  go_wp2_with (first | (go_at_call 100; refine (Forest_Root _ FF f s.rt s.rank i r H.out.fo HR.out).mono ?_; rintro e w1 ⟨rfl, hf, hc⟩; have KF := Sh.mk hf; have KC := Sh.mk hc; clear hf hc))
  go_ret
  exact ⟨rfl, H.out.forest KC.out KF.out (fun k hk => .inl hk), KC.out⟩
def partsOf (nodes : List Nd) (x : Nat) : List Nat := ((nodes[x]?).map (·.parts)).getD []
def kindOf (nodes : List Nd) (x : Nat) : Int := ((nodes[x]?).map (·.kind)).getD 0
/-- Two classes become one. -/
def Cl.joined (s : Cl) (a b : Nat) (x : Int) : Cl := { s with rt := joinRt s.rt (upper s.rank a b) (lower s.rank a b), rank := joinRank s.rank a b, whole := s.whole.set (upper s.rank a b) x }
def Cl.join (s : Cl) (a b : Nat) : Cl × List (Nat × Nat) × Bool :=
  if a = b then (s, [], true) else
  if s.whole.getD a 0 < 0 ∨ s.whole.getD b 0 < 0 then (s.joined a b (max (s.whole.getD a 0) (s.whole.getD b 0)), [], true) else
  if kindOf s.G.1 (s.whole.getD a 0).toNat = kindOf s.G.1 (s.whole.getD b 0).toNat ∧ (partsOf s.G.1 (s.whole.getD a 0).toNat).length = (partsOf s.G.1 (s.whole.getD b 0).toNat).length then
    (s.joined a b (s.whole.getD a 0), (partsOf s.G.1 (s.whole.getD a 0).toNat).zip (partsOf s.G.1 (s.whole.getD b 0).toNat), true)
  else (s.joined a b (s.whole.getD a 0), [], false)
def CloJoin (w : World) (F : Nat → Prop) (c : Nat) (s : Cl) (a b : Nat) (e : Ending) (w' : World) : Prop :=
  ∃ v, e = .returned (.tuple #[v, .bool (s.join a b).2.2]) ∧ PRow w' v (s.join a b).2.1 ∧ (∀ k, v.ownBlock = some k → w.heap.size ≤ k) ∧ ClAt w' F c (s.join a b).1 ∧ Chg F w w'
/-- A whole is a node, or there is none. -/
def Whole (s : Cl) (x : Int) : Prop := x = -1 ∨ ∃ (n : Nat) (nd : Nd), x = n ∧ s.G.1[n]? = some nd ∧ nd.ints.length ≤ 1000000
set_option maxRecDepth 100000 in
set_option maxHeartbeats 1000000 in
theorem Clo_join (w : World) (F : Nat → Prop) (c : Nat) (s : Cl) (i k a b : Nat) (x y : Int) (h : ClAt w F c s) (ha : s.rt[i]? = some (a : Int)) (hb : s.rt[k]? = some (b : Int)) (hx : s.whole[a]? = some x) (hy : s.whole[b]? = some y)
    (wx : Whole s x) (wy : Whole s y) (hl : s.whole.length ≤ 1000000) :
    Calls Tryz.prog 64 #[.pointer (some ⟨c, 0, none⟩), .int .i64 i, .int .i64 k] w (CloJoin w F c s a b) := by
  obtain ⟨FG, FF, g, m, f, vw, h, hF⟩ := h.is
  obtain ⟨bw, cw, rfl, hca, hfa⟩ := h.wh.at hx
  obtain ⟨bw', cw', e, hcb, hfb⟩ := h.wh.at hy
  simp only [Value.slice.injEq, Option.some.injEq, Addr.mk.injEq, and_true, true_and] at e
  obtain ⟨rfl, rfl⟩ := e
  have c2 := h.blk.cell 2
  have c3 := h.blk.cell 3
  simp only [List.getElem?_cons_zero, List.getElem?_cons_succ] at c2 c3
  have hal : a < s.whole.length := (List.getElem?_eq_some_iff.1 hx).1
  have hbl : b < s.whole.length := (List.getElem?_eq_some_iff.1 hy).1
  have H := Sh.mk h
  have HF := Sh.mk hF
  have HA := Sh.mk ha
  have HB := Sh.mk hb
  have HX := Sh.mk hx
  have HY := Sh.mk hy
  have WX := Sh.mk wx
  have WY := Sh.mk wy
  clear h hF ha hb hx hy wx wy
  go_enter Tryz.func64, Tryz.ntmps64
  go_upto_region 1 with (fail)
  go_cut [8, 9] from 10 to 33 (fun s8 s9 wx => s8 = .int .i64 x ∧ s9 = .int .i64 y ∧ Sh (ClParts wx c s FG FF g m f (.slice (some ⟨bw, 0, none⟩) s.whole.length cw)) ∧ Sh (Chg FF w wx))
  case first =>
    have HP := Sh.mk (show ClParts w.drew c s FG FF g m f (.slice (some ⟨bw, 0, none⟩) s.whole.length cw) from H.out.keep (Below.refl _ _).drew)
    have TOK : Sh (1 = 1) := ⟨rfl⟩
    have HC := Sh.mk (show Chg FF w w.drew from (Chg.refl _ _).drew)
    go_region_held3 (fun w' => w'.cell? ⟨c, 3, none⟩ = some (.slice (some ⟨bw, 0, none⟩) s.whole.length cw) ∧ w'.cell? ⟨c, 2, none⟩ = some (.pointer (some ⟨f, 0, none⟩)) ∧ w'.cell? ⟨bw, a, none⟩ = some (.int .i64 x) ∧ w'.cell? ⟨bw, b, none⟩ = some (.int .i64 y)) (first | exact ⟨n3, n2, na, nb⟩ | exact ⟨c3, c2, hca, hcb⟩) (first
      | (go_at_call 86; (first | (clear TOK; refine (Clo_rootP HP.out i a HA.out).mono ?_) | refine (Clo_rootP HP.out k b HB.out).mono ?_); rintro e w1 ⟨rfl, hp, hc⟩; have n2 := hp.blk.cell 2; have n3 := hp.blk.cell 3; (simp only [List.getElem?_cons_zero, List.getElem?_cons_succ] at n2 n3); have na := (hp.wh.cell HX.out).1; have nb := (hp.wh.cell HY.out).1; have HC' := Sh.mk (HC.out.trans hc (fun k hk _ => .inl hk)); clear HP HC; have HP := Sh.mk hp; have HC := HC'; clear hp hc HC')
      | fail)
    all_goals
      go_wp2
      go_meet
      exact ⟨rfl, rfl, HP, HC⟩
  obtain ⟨rfl, rfl, HP, HC⟩ := hcut
  clear c2 c3 hca hcb hfa hfb H
  have c2 := HP.out.blk.cell 2
  simp only [List.getElem?_cons_zero, List.getElem?_cons_succ] at c2
  have HD : Sh (s.whole.getD a 0 = x ∧ s.whole.getD b 0 = y) := ⟨by rw [List.getD_eq_getElem?_getD, HX.out]; rfl, by rw [List.getD_eq_getElem?_getD, HY.out]; rfl⟩
  by_cases hab : a = b
  · have HE := Sh.mk (show s.join a b = (s, [], true) by rw [Cl.join, if_pos hab])
    have HAB := Sh.mk hab
    clear hab
    go_wp2_with (first | (go_at_call 87; refine (Forest_Join _ FF f s.rt s.rank i k a b HP.out.fo HA.out HB.out).mono ?_; rintro e w2 ⟨j1, j2⟩; obtain ⟨rfl, hf, hc⟩ := j1 HAB.out; have KF := Sh.mk hf; have KC := Sh.mk hc; clear hf hc j1 j2))
    go_ret2
    refine ⟨.slice none 0 0, by rw [HE.out]; rfl, by rw [HE.out]; exact PRow.nil _, fun k hk => by simp [Value.ownBlock] at hk, ?_, ?_⟩
    · rw [HE.out]
      exact ⟨⟨FG, FF, g, m, f, _, HP.out.forest KC.out KF.out (fun k hk => .inl hk), HF.out⟩⟩
    · exact (HC.out.trans KC.out (fun k hk _ => .inl hk)).mono (fun k hk _ => (HF.out k).2 (.inr (.inr (.inl hk))))
  · have HAB := Sh.mk hab
    obtain ⟨u, hu⟩ : ∃ u, u = upper s.rank a b := ⟨_, rfl⟩
    have hul : u < s.whole.length := by rw [hu]; unfold upper; split <;> assumption
    obtain ⟨z, hz⟩ : ∃ z, s.whole[u]? = some z := ⟨_, List.getElem?_eq_getElem hul⟩
    have HU := Sh.mk hu
    have HZ := Sh.mk hz
    clear hab hu hz
    go_upto_region 5 with (first | (go_at_call 87; refine (Forest_Join _ FF f s.rt s.rank i k a b HP.out.fo HA.out HB.out).mono ?_; rintro e w2 ⟨j1, j2⟩; have j3 := j2 HAB.out; rw [← HU.out] at j3; obtain ⟨rfl, hf, hc⟩ := j3; have hq := HP.out.forest hc hf (fun k hk => .inl hk); have q3 := hq.blk.cell 3; (simp only [List.getElem?_cons_zero, List.getElem?_cons_succ] at q3); obtain ⟨q4, q5, q6⟩ := hq.wh.cell HZ.out; have HQ := Sh.mk hq; have KC := Sh.mk (HC.out.trans hc (fun k hk _ => .inl hk)); clear hf hc j1 j2 hq))
    go_cut [] from 46 to 53 (fun wx => Sh (ClParts wx c (s.joined a b (max x y)) FG FF g m f (.slice (some ⟨bw, 0, none⟩) s.whole.length cw)) ∧ Sh (Chg F w wx))
    case first =>
      have hbF : F bw := (HF.out bw).2 (.inr (.inr (.inr rfl)))
      have HBF := Sh.mk hbF
      have HCF := Sh.mk (KC.out.mono (F' := F) (fun k hk _ => (HF.out k).2 (.inr (.inr (.inl hk)))))
      clear hbF
      go_wp2
      all_goals
        go_meet
        refine ⟨⟨?_⟩, ⟨HCF.out.setCell (.inl HBF.out) _⟩⟩
        have := HQ.out.wset rfl (i := u) hul (max x y)
        unfold Cl.joined
        rw [← HU.out]
      · have e : max x y = y := by omega
        rw [e] at this ⊢
        exact this
      · have e : max x y = x := by omega
        rw [e] at this ⊢
        exact this
    obtain ⟨HQ1, HC1⟩ := hcut
    by_cases hx0 : x < 0
    · have HE := Sh.mk (show s.join a b = (s.joined a b (max x y), [], true) by rw [Cl.join, if_neg HAB.out, HD.out.1, HD.out.2, if_pos (.inl hx0)])
      go_wp2
      go_ret2
      exact ⟨.slice none 0 0, by rw [HE.out]; rfl, by rw [HE.out]; exact PRow.nil _, fun k hk => by simp [Value.ownBlock] at hk, by rw [HE.out]; exact ⟨⟨FG, FF, g, m, f, _, HQ1.out, HF.out⟩⟩, HC1.out⟩
    · by_cases hy0 : y < 0
      · have HE := Sh.mk (show s.join a b = (s.joined a b (max x y), [], true) by rw [Cl.join, if_neg HAB.out, HD.out.1, HD.out.2, if_pos (.inr hy0)])
        go_wp2
        go_ret2
        exact ⟨.slice none 0 0, by rw [HE.out]; rfl, by rw [HE.out]; exact PRow.nil _, fun k hk => by simp [Value.ownBlock] at hk, by rw [HE.out]; exact ⟨⟨FG, FF, g, m, f, _, HQ1.out, HF.out⟩⟩, HC1.out⟩
      · rcases WX.out with rfl | ⟨nx, ndx, rfl, hnx, hpx⟩
        · omega
        rcases WY.out with rfl | ⟨ny, ndy, rfl, hny, hpy⟩
        · omega
        have h3 := HQ1.out.blk.cell 3
        simp only [List.getElem?_cons_zero, List.getElem?_cons_succ] at h3
        have hlen : (s.joined a b (max (nx : Int) ny)).whole.length = s.whole.length := by simp [Cl.joined]
        have hz2 : (s.joined a b (max (nx : Int) ny)).whole[u]? = some (max (nx : Int) ny) := by
          simp only [Cl.joined]
          rw [← HU.out, List.getElem?_set_self (by exact hul)]
        obtain ⟨r4, r5, r6⟩ := HQ1.out.wh.cell hz2
        have HS2 := Sh.mk (HQ1.out.wset (by rw [hlen]) (i := u) (by rw [hlen]; exact hul) (nx : Int))
        have HC2 := Sh.mk (HC1.out.setCell (p := ⟨bw, u, none⟩) (.inl ((HF.out bw).2 (.inr (.inr (.inr rfl))))) (.int .i64 nx))
        have hst : ({ s.joined a b (max (nx : Int) ny) with whole := (s.joined a b (max (nx : Int) ny)).whole.set u nx } : Cl) = s.joined a b nx := by
          unfold Cl.joined
          simp only
          rw [HU.out, List.set_set]
        rw [hst] at HS2
        clear q3 q4 q5 q6 HQ KC HP HC c2 hst hlen hz2 hal hbl
        obtain ⟨s3, hs3⟩ : ∃ s3, s3 = s.joined a b nx := ⟨_, rfl⟩
        rw [← hs3] at HS2
        have HS3 := Sh.mk hs3
        have HNX : Sh (s3.G.1[nx]? = some ndx) := ⟨by rw [hs3]; exact hnx⟩
        have HNY : Sh (s3.G.1[ny]? = some ndy) := ⟨by rw [hs3]; exact hny⟩
        have HPX := Sh.mk hpx
        have HPY := Sh.mk hpy
        obtain ⟨px, hpx'⟩ : ∃ px, px = ndx.ints := ⟨_, rfl⟩
        obtain ⟨py, hpy'⟩ : ∃ py, py = ndy.ints := ⟨_, rfl⟩
        have HPX' := Sh.mk hpx'
        have HPY' := Sh.mk hpy'
        clear hs3 hnx hny hpx hpy hpx' hpy'
        go_upto_region 9 with (fail)
        go_cut [12, 13] from 61 to 79 (fun s12 s13 wx => ∃ A12 c12 A13 c13, s12 = .slice A12 px.length c12 ∧ s13 = .slice A13 py.length c13 ∧ Sh (IRow wx (.slice A12 px.length c12) px) ∧ Sh (IRow wx (.slice A13 py.length c13) py) ∧ Sh (∀ k, (Value.slice A12 px.length c12).ownBlock = some k → w.heap.size ≤ k) ∧ Sh (∀ k, (Value.slice A13 py.length c13).ownBlock = some k → w.heap.size ≤ k) ∧ Sh (ClParts wx c s3 FG FF g m f (.slice (some ⟨bw, 0, none⟩) s.whole.length cw)) ∧ Sh (Chg F w wx))
        case first =>
          have HP := Sh.mk (show ClParts (wc.setCell ⟨bw, u, none⟩ (.int .i64 nx)).drew c s3 FG FF g m f (.slice (some ⟨bw, 0, none⟩) s.whole.length cw) from HS2.out.keep (Below.refl _ _).drew)
          have HC := Sh.mk (show Chg F w (wc.setCell ⟨bw, u, none⟩ (.int .i64 nx)).drew from HC2.out.drew)
          have n1 := HP.out.blk.cell 1
          simp only [List.getElem?_cons_zero, List.getElem?_cons_succ] at n1
          have TOK : Sh (1 = 1) := ⟨rfl⟩
          go_region_held3 (fun w' => w'.cell? ⟨c, 1, none⟩ = some (.pointer (some ⟨g, 0, none⟩))) (first | exact n1) (first
            | (go_at_call 88; (first | (clear TOK; refine (Graph_Parts _ FG g m _ _ nx ndx HP.out.gr HNX.out HPX.out).mono ?_; rintro e w3 ⟨v3, rfl, hi3, hb3, hn3⟩; have hp3 := HP.out.keep hb3; have n1 := hp3.blk.cell 1; (simp only [List.getElem?_cons_zero, List.getElem?_cons_succ] at n1); rw [← HPX'.out] at hi3; obtain ⟨A12, c12, rfl⟩ := hi3.shape; have HI3 := Sh.mk hi3; have HN3 := Sh.mk hn3; have HB3 := Sh.mk hb3; have HP3 := Sh.mk hp3; clear hi3 hn3 hb3 hp3) | (refine (Graph_Parts _ FG g m _ _ ny ndy HP3.out.gr HNY.out HPY.out).mono ?_; rintro e w4 ⟨v4, rfl, hi4, hb4, hn4⟩; have hp4 := HP3.out.keep hb4; have n1 := hp4.blk.cell 1; (simp only [List.getElem?_cons_zero, List.getElem?_cons_succ] at n1); rw [← HPY'.out] at hi4; obtain ⟨A13, c13, rfl⟩ := hi4.shape; have HI4 := Sh.mk hi4; have HN4 := Sh.mk hn4; have HB4 := Sh.mk hb4; have HP4 := Sh.mk hp4; clear hi4 hn4 hb4 hp4)))
            | fail)
          all_goals
            go_wp2
            go_meet
            exact ⟨A12, c12, A13, c13, rfl, rfl, ⟨HI3.out.keep HB4.out⟩, HI4, ⟨fun k hk => Nat.le_trans HC.out.size (HN3.out k hk)⟩, ⟨fun k hk => Nat.le_trans HC.out.size (Nat.le_trans HB3.out.size (HN4.out k hk))⟩, HP4, ⟨(HC.out.thenBelow HB3.out).thenBelow HB4.out⟩⟩
        obtain ⟨A12, c12, A13, c13, rfl, rfl, HI3, HI4, HN3, HN4, HP3, HC3⟩ := hcut
        have n1 := HP3.out.blk.cell 1
        simp only [List.getElem?_cons_zero, List.getElem?_cons_succ] at n1
        have hll1 : px.length ≤ 1000000 := by rw [HPX'.out]; exact HPX.out
        have hll2 : py.length ≤ 1000000 := by rw [HPY'.out]; exact HPY.out
        have hpl1 : px.length = ndx.parts.length := by rw [HPX'.out, Nd.ints, List.length_map]
        have hpl2 : py.length = ndy.parts.length := by rw [HPY'.out, Nd.ints, List.length_map]
        have HPL := Sh.mk (And.intro hpl1 hpl2)
        have HK1 : Sh (kindOf s.G.1 nx = ndx.kind ∧ kindOf s.G.1 ny = ndy.kind ∧ partsOf s.G.1 nx = ndx.parts ∧ partsOf s.G.1 ny = ndy.parts) := ⟨by
          have e1 : s.G.1[nx]? = some ndx := by have := HNX.out; rw [HS3.out] at this; exact this
          have e2 : s.G.1[ny]? = some ndy := by have := HNY.out; rw [HS3.out] at this; exact this
          simp [kindOf, partsOf, e1, e2]⟩
        have HKX := Sh.mk (fun n : Nat => Graph_Kind (wc.drewN n) FG g m _ _ nx ndx (HP3.out.gr.step (w' := wc.drewN n) (fun _ _ => rfl) (Nat.le_refl _)) HNX.out)
        have HKY := Sh.mk (fun n : Nat => Graph_Kind (wc.drewN n) FG g m _ _ ny ndy (HP3.out.gr.step (w' := wc.drewN n) (fun _ _ => rfl) (Nat.le_refl _)) HNY.out)
        have HXY := Sh.mk (And.intro hx0 hy0)
        have TOK : Sh (1 = 1) := ⟨rfl⟩
        clear hpl1 hpl2 hx0 hy0 r4 r5 r6 h3
        by_cases hk : ndx.kind = ndy.kind
        · have hk' : (ndx.kind != ndy.kind) = false := by simp [hk]
          have HK := Sh.mk hk
          clear hk
          by_cases hlen : px.length = py.length
          · have HE := Sh.mk (show s.join a b = (s3, ndx.parts.zip ndy.parts, true) by
              obtain ⟨e1, e2, e3, e4⟩ := HK1.out
              obtain ⟨x0, y0⟩ := HXY.out
              obtain ⟨l1, l2⟩ := HPL.out
              rw [Cl.join, if_neg HAB.out, HD.out.1, HD.out.2, if_neg (by omega), if_pos (by simp only [Int.toNat_natCast, e1, e2, e3, e4]; exact ⟨HK.out, by omega⟩), HS3.out]
              simp only [Int.toNat_natCast, e3, e4])
            have hlen' : ((px.length : Int) != (py.length : Int)) = false := by simp [hlen]
            have HLE := Sh.mk hlen
            have hll3 : px.length ≤ 9223372036854775807 := by omega
            clear hlen
            go_wp2_with fail
            go_quiet (first | (go_at_call_of 85 (Value.int .i64 nx); exact Calls.quiet_of_same (HKX.out _)) | (go_at_call_of 85 (Value.int .i64 ny); exact Calls.quiet_of_same (HKY.out _)))
            obtain ⟨zs, hzs⟩ : ∃ zs, zs = ndx.parts.zip ndy.parts := ⟨_, rfl⟩
            rw [← hzs] at HE
            have HZS := Sh.mk hzs
            have HZL := Sh.mk (show zs.length = px.length by rw [hzs, List.length_zip]; have := HPL.out; have := HLE.out; omega)
            clear hzs
            go_wp2
            go_loopw [14, 102] (fun v14 v102 wr => ∃ (j : Nat) (L : List (Nat × Nat)) (A14 : Option Addr) (c14 : Nat), v14 = .slice A14 L.length c14 ∧ v102 = .int .i64 j ∧ j ≤ px.length ∧ Sh (L = zs.take j) ∧ Sh (PRow wr (.slice A14 L.length c14) L) ∧ Sh (∀ k, (Value.slice A14 L.length c14).ownBlock = some k → wc.heap.size ≤ k) ∧
              Sh (IRow wr (.slice A12 px.length c12) px) ∧ Sh (IRow wr (.slice A13 py.length c13) py) ∧ Sh (ClParts wr c s3 FG FF g m f (.slice (some ⟨bw, 0, none⟩) s.whole.length cw)) ∧ Sh (Chg F w wr) ∧ Sh (wc.heap.size ≤ wr.heap.size)) (fun _ v102 _ => px.length - (intOf v102).toNat)
            case atStart =>
              exact ⟨0, [], none, 0, rfl, rfl, Nat.zero_le _, ⟨by simp⟩, ⟨PRow.nil _⟩, ⟨fun k hk => by simp [Value.ownBlock] at hk⟩, ⟨HI3.out.keep (Below.drewN' (Below.refl _ _) nq)⟩, ⟨HI4.out.keep (Below.drewN' (Below.refl _ _) nq)⟩, ⟨HP3.out.keep (Below.drewN' (Below.refl _ _) nq)⟩, ⟨HC3.out.drewN nq⟩, ⟨Nat.le_refl _⟩⟩
            case round =>
              obtain ⟨j, L, A14, c14, rfl, rfl, hj, HL, R1, R2, R3, R4, R5, R6, R7⟩ := hrel
              by_cases hlt : j < px.length
              · have hl1 : j < ndx.parts.length := by have := HPL.out; omega
                have hl2 : j < ndy.parts.length := by have := HPL.out; have := HLE.out; omega
                obtain ⟨p, hp⟩ : ∃ p, p = ndx.parts[j] := ⟨_, rfl⟩
                obtain ⟨q, hq⟩ : ∃ q, q = ndy.parts[j] := ⟨_, rfl⟩
                have hpx : px[j]? = some (p : Int) := by rw [HPX'.out, Nd.ints, List.getElem?_map, List.getElem?_eq_getElem hl1, hp]; rfl
                have hqy : py[j]? = some (q : Int) := by rw [HPY'.out, Nd.ints, List.getElem?_map, List.getElem?_eq_getElem hl2, hq]; rfl
                have HZJ : Sh (zs.take (j + 1) = L ++ [(p, q)]) := ⟨by rw [List.take_add_one, ← HL.out, HZS.out, show (ndx.parts.zip ndy.parts)[j]? = some (p, q) from List.getElem?_zip_eq_some.2 ⟨by rw [List.getElem?_eq_getElem hl1, hp], by rw [List.getElem?_eq_getElem hl2, hq]⟩]; rfl⟩
                have HLL : Sh (L.length = j) := ⟨by rw [HL.out, List.length_take]; have := HZL.out; omega⟩
                obtain ⟨g12, k12, e, hcx, _⟩ := R3.out.at hpx
                obtain ⟨g13, k13, e', hcy, _⟩ := R4.out.at hqy
                simp only [Value.slice.injEq, true_and] at e e'
                obtain ⟨rfl, rfl⟩ := e
                obtain ⟨rfl, rfl⟩ := e'
                have hlty : j < py.length := by have := HLE.out; omega
                have H16 := Sh.mk (show (L.length + 1) * 16 ≤ 140737488355328 by have := HLL.out; omega)
                have n3 := HI3.out.lt g12 rfl
                have n4 := HI4.out.lt g13 rfl
                have N3 := Sh.mk n3
                have N4 := Sh.mk n4
                have hal : Below wr.drew.heap.size wr.drew (wr.drew.alloc (.cells #[.int .i64 p, .int .i64 q] 98)) := (Below.refl _ _).alloc (Nat.le_refl _) _
                have HRD := Sh.mk (show PRow (wr.drew.alloc (.cells #[.int .i64 p, .int .i64 q] 98)) (.slice A14 L.length c14) L from PRow.keep (show PRow wr.drew _ _ from PRow.keep R1.out (Below.refl _ _).drew) hal)
                have HLIT := Sh.mk (PRow.lit wr.drew (p, q))
                clear hp hq hpx hqy hl1 hl2 n3 n4 hal
                go_wp2
                go_region_law (first
                  | (refine step_pairs rfl (.tmp 105) (.tmp 115) rfl (.slice A14 L.length c14) L [(p, q)] (.slice (some ⟨wr.drew.heap.size, 0, none⟩) 1 1) rfl rfl HRD.out HLIT.out H16.out ?_; intro A5 c5 w3 hI3 hG3 hV3; have I3 := Sh.mk hI3; have G3 := Sh.mk hG3; have V3 := Sh.mk hV3; clear hI3 hG3 hV3))
                all_goals
                  go_wp2
                  go_roundw
                  case rel =>
                    have hr7 := R7.out
                    have hlow : ∀ k, k < wc.heap.size → w3.heap[k]? = wr.heap[k]? := fun k hk => by
                      rw [G3.out.block k (by simp; omega) (fun e => by have := R2.out k e.symm; omega)]
                      exact Below.heap_alloc wr.drew _ k (by show k < wr.heap.size; omega)
                    have hsz : wr.heap.size + 1 ≤ w3.heap.size := by have := G3.out.size; simpa using this
                    refine ⟨j + 1, L ++ [(p, q)], A5, c5, by simp, by simp, by omega, ⟨HZJ.out.symm⟩, ⟨by simpa using I3.out⟩, ⟨fun k hk => ?_⟩, ⟨R3.out.step (fun k hk => hlow k ?_)⟩, ⟨R4.out.step (fun k hk => hlow k ?_)⟩, ⟨R5.out.step (fun k hk => hlow k (HP3.out.lt k hk)) (by omega)⟩, ⟨((R6.out.drew.alloc _).grown G3.out (fun k hk => .inr (Nat.le_trans HC3.out.size (R2.out k hk))))⟩, ⟨by omega⟩⟩
                    · have hk' : (Value.slice A5 (L.length + 1) c5).ownBlock = some k := by simpa using hk
                      rcases V3.out with e | e
                      · exact R2.out k (e.symm.trans hk')
                      · have e2 := hk'.symm.trans e; injection e2 with e2; simp at e2; omega
                    · have : k = g12 := by simpa [Value.ownBlock] using hk.symm
                      rw [this]; exact N3.out
                    · have : k = g13 := by simpa [Value.ownBlock] using hk.symm
                      rw [this]; exact N4.out
                  case measure => simp [intOf]; omega
              · have HJ := Sh.mk (show j = px.length by omega)
                go_wp2
                go_ret2
                refine ⟨.slice A14 L.length c14, by rw [HE.out]; rfl, ?_, fun k hk => Nat.le_trans HC3.out.size (R2.out k hk), by rw [HE.out]; exact ⟨⟨FG, FF, g, m, f, _, R5.out, HF.out⟩⟩, R6.out⟩
                rw [HE.out]
                have e : L = zs := by rw [HL.out, HJ.out, ← HZL.out, List.take_length]
                rw [← e]
                exact R1.out
          · have HE := Sh.mk (show s.join a b = (s3, [], false) by
              obtain ⟨e1, e2, e3, e4⟩ := HK1.out
              obtain ⟨x0, y0⟩ := HXY.out
              obtain ⟨l1, l2⟩ := HPL.out
              rw [Cl.join, if_neg HAB.out, HD.out.1, HD.out.2, if_neg (by omega), if_neg (by simp only [Int.toNat_natCast, e1, e2, e3, e4]; omega), HS3.out])
            have hlen' : ((px.length : Int) != (py.length : Int)) = true := by simp; omega
            have hll3 : px.length ≤ 9223372036854775807 := by omega
            have hll4 : py.length ≤ 9223372036854775807 := by omega
            go_wp2_with fail
            go_quiet (first | (go_at_call_of 85 (Value.int .i64 nx); exact Calls.quiet_of_same (HKX.out _)) | (go_at_call_of 85 (Value.int .i64 ny); exact Calls.quiet_of_same (HKY.out _)))
            go_wp2
            go_ret2
            exact ⟨.slice none 0 0, by rw [HE.out]; rfl, by rw [HE.out]; exact PRow.nil _, fun k hk => by simp [Value.ownBlock] at hk, by rw [HE.out]; exact ⟨⟨FG, FF, g, m, f, _, HP3.out.keep (Below.drewN' (Below.refl _ _) nq), HF.out⟩⟩, HC3.out.drewN nq⟩
        · have hk' : (ndx.kind != ndy.kind) = true := by simp [hk]
          have HE := Sh.mk (show s.join a b = (s3, [], false) by
            obtain ⟨e1, e2, e3, e4⟩ := HK1.out
            obtain ⟨x0, y0⟩ := HXY.out
            rw [Cl.join, if_neg HAB.out, HD.out.1, HD.out.2, if_neg (by omega), if_neg (by simp [e1, e2, hk]), HS3.out])
          have HK := Sh.mk hk
          clear hk
          go_wp2_with fail
          go_quiet (first | (go_at_call_of 85 (Value.int .i64 nx); exact Calls.quiet_of_same (HKX.out _)) | (go_at_call_of 85 (Value.int .i64 ny); exact Calls.quiet_of_same (HKY.out _)))
          go_wp2
          go_ret2
          exact ⟨.slice none 0 0, by rw [HE.out]; rfl, by rw [HE.out]; exact PRow.nil _, fun k hk => by simp [Value.ownBlock] at hk, by rw [HE.out]; exact ⟨⟨FG, FF, g, m, f, _, HP3.out.keep (Below.drewN' (Below.refl _ _) nq), HF.out⟩⟩, HC3.out.drewN nq⟩
end Go.Proofs.YtdppkdjgadiinaaGreat
