/- Package unify: a type is laid. -/
import Derived.Test.YtdppkdjgadiinaaGreatClo
set_option linter.unusedVariables false
set_option linter.unusedSimpArgs false
namespace Go.Proofs.YtdppkdjgadiinaaGreat
open Go.RowKit

theorem Clo_tickP {w : World} {c : Nat} {s : Cl} {FG FF : Nat → Prop} {g m f : Nat} {vw : Value} (h : ClParts w c s FG FF g m f vw) :
    Calls Tryz.prog 63 #[.pointer (some ⟨c, 0, none⟩)] w fun e w' => e = .returned (.tuple #[]) ∧ ClParts w' c s.tick FG FF g m f vw ∧ Chg (fun k => k = c) w w' := by
  have c0 := h.blk.cell 0
  have f0 := h.blk.frozen 0
  simp only [List.getElem?_cons_zero] at c0
  have H := Sh.mk h
  clear h
  go_enter Tryz.func63, Tryz.ntmps63
  go_wp2
  refine bodyPost_end (results_none rfl _ _ _) rfl ?_
  exact ⟨rfl, H.out.field0 _, (Chg.refl (fun k => k = c) w).setCell (p := ⟨c, 0, none⟩) (.inl rfl) _⟩
def wholeOf (nodes : List Nd) (k : Nat) : Int := if (nodes[k]?).map (·.kind) = some 1 then -1 else k
def Cl.one (s : Cl) : Cl := { s.tick with rt := s.rt ++ [(s.rt.length : Int)], rank := s.rank ++ [0], whole := s.whole ++ [wholeOf s.G.1 s.whole.length] }
def Cl.grow : Nat → Cl → Cl
  | 0, s => s
  | n + 1, s => (Cl.grow n s).one
def Cl.lay (s : Cl) (t : Ty) : Cl := Cl.grow ((t.addTo s.G).1.1.length - s.whole.length) { s with G := (t.addTo s.G).1 }
theorem Cl.grow_G (s : Cl) : ∀ n, (Cl.grow n s).G = s.G
  | 0 => rfl
  | n + 1 => by rw [Cl.grow, Cl.one]; exact Cl.grow_G s n
theorem Cl.grow_len (s : Cl) : ∀ n, (Cl.grow n s).whole.length = s.whole.length + n ∧ (Cl.grow n s).rt.length = s.rt.length + n
  | 0 => ⟨rfl, rfl⟩
  | n + 1 => by
    obtain ⟨h1, h2⟩ := Cl.grow_len s n
    rw [Cl.grow, Cl.one]
    simp only [List.length_append, List.length_singleton]
    omega
theorem Cl.grow_clash (s : Cl) : ∀ n, (Cl.grow n s).clash = s.clash
  | 0 => rfl
  | n + 1 => by rw [Cl.grow, Cl.one]; exact Cl.grow_clash s n
structure LayLoop (w : World) (F : Nat → Prop) (c : Nat) (s : Cl) (wr : World) : Prop where
  is : ∃ FG FF g m f vw, ClParts wr c s FG FF g m f vw ∧ Chg F w wr ∧ ∀ k, clF c FG FF vw k → F k ∨ w.heap.size ≤ k
set_option maxRecDepth 100000 in
set_option maxHeartbeats 1000000 in
theorem Clo_lay (t : Ty) (w : World) (F S : Nat → Prop) (c : Nat) (s : Cl) (v : Value) (h : ClAt w F c s) (hp : PartsAt w S t v) (hS : ∀ k, S k → k < w.heap.size → ¬ F k) (hG : Gok s.G)
    (hth : t.thin) (hr : t.right = true) (hsz : s.G.1.length + t.size ≤ 1000000) (hl1 : s.whole.length = s.G.1.length) (hl2 : s.rt.length = s.G.1.length) :
    Calls Tryz.prog 62 #[.pointer (some ⟨c, 0, none⟩), .agg #[.int .i64 t.kind, .int .i64 t.n, v]] w fun e w' => e = .returned (.int .i64 ((t.addTo s.G).2 : Nat)) ∧ ClStep w F c (s.lay t) w' := by
  obtain ⟨FG, FF, g, m, f, vw, h, hF⟩ := h.is
  obtain ⟨A, cp, rfl, _⟩ := hp.shape
  have hal := (Below.refl w.heap.size w).alloc (Nat.le_refl _) (.cells #[.int .i64 t.kind, .int .i64 t.n, .slice A t.parts.length cp] 36)
  have hP := h.keep hal
  have c1 := hP.blk.cell 1
  simp only [List.getElem?_cons_zero, List.getElem?_cons_succ] at c1
  have b := Blk.new w 36 [.int .i64 t.kind, .int .i64 t.n, .slice A t.parts.length cp]
  have b0 := b.cell 0
  have b1 := b.cell 1
  have b2 := b.cell 2
  simp only [List.getElem?_cons_zero, List.getElem?_cons_succ] at b0 b1 b2
  have HAL := Sh.mk hal
  have HP := Sh.mk hP
  have HF := Sh.mk hF
  have HADD := Sh.mk (Graph_Add t (w.alloc (.cells #[.int .i64 t.kind, .int .i64 t.n, .slice A t.parts.length cp] 36)).drew FG (fun k => S k ∧ k < w.heap.size) g m s.G.1 s.G.2 _ hP.gr.drew (hp.bound.below hal.drew) (fun k hk _ e => hS k hk.1 hk.2 ((hF k).2 (.inr (.inl e)))) hG hth hr hsz)
  obtain ⟨a1, a2, a3, a4⟩ := add_law t s.G hG
  obtain ⟨G', hG'⟩ : ∃ G', G' = (t.addTo s.G).1 := ⟨_, rfl⟩
  rw [← hG'] at a1 a2 a3 a4
  have HG' := Sh.mk hG'
  have HA3 := Sh.mk a3
  have HL1 := Sh.mk hl1
  have HL2 := Sh.mk hl2
  obtain ⟨ix, hix⟩ : ∃ ix, ix = (t.addTo s.G).2 := ⟨_, rfl⟩
  rw [← hix] at a4
  have HIX := Sh.mk hix
  obtain ⟨k0, hk0⟩ : ∃ k0, k0 = s.whole.length := ⟨_, rfl⟩
  have HK0 := Sh.mk hk0
  have HN := Sh.mk (show k0 ≤ G'.1.length ∧ G'.1.length ≤ 1000000 ∧ s.whole.length ≤ G'.1.length by omega)
  clear hix hk0 hl1 hl2 hG' b hP h hF hal a1 a2 a3 a4 hsz hG hr hth hp hS
  go_enter Tryz.func62, Tryz.ntmps62
  go_upto_region 1 with (fail)
  go_cut [5] from 6 to 16 (fun s5 wx => s5 = .int .i64 ix ∧ Sh (LayLoop w F c (Cl.grow 0 { s with G := G' }) wx))
  case first =>
    go_region_law (first
      | (go_simp; go_at_call 83; refine HADD.out.mono ?_; rw [← HIX.out, ← HG'.out]; rintro e w1 ⟨rfl, FG1, hg, hc, hf⟩; have hq := (show ClParts (w.alloc (.cells #[.int .i64 t.kind, .int .i64 t.n, .slice A t.parts.length cp] 36)).drew c s FG FF g m f vw from HP.out.keep (Below.refl _ _).drew).graph (G := G') hc hg hf; have HQ := Sh.mk hq; have HC := Sh.mk hc; have HFG := Sh.mk hf; clear hq hc hf hg)
      | fail)
    all_goals
      have HLP : Sh (LayLoop w F c (Cl.grow 0 { s with G := G' }) w1) := ⟨⟨FG1, FF, g, m, f, vw, HQ.out, (Chg.of_below HAL.out).drew.trans HC.out (fun k hk _ => .inl ((HF.out k).2 (.inr (.inl hk)))), fun k hk => by
        rcases hk with e | e | e | e
        · exact .inl ((HF.out k).2 (.inl e))
        · rcases HFG.out k e with e | e
          · exact .inl ((HF.out k).2 (.inr (.inl e)))
          · exact .inr (Nat.le_trans HAL.out.drew.size e)
        · exact .inl ((HF.out k).2 (.inr (.inr (.inl e))))
        · exact .inl ((HF.out k).2 (.inr (.inr (.inr e))))⟩⟩
      go_wp2
      go_meet
      exact ⟨rfl, HLP⟩
  obtain ⟨rfl, HLP⟩ := hcut
  obtain ⟨⟨FG1, FF1, g1, m1, f1, vw1, q, q1, q2⟩⟩ := HLP
  have HLP : Sh (LayLoop w F c (Cl.grow 0 { s with G := G' }) wc) := ⟨⟨FG1, FF1, g1, m1, f1, vw1, q, q1, q2⟩⟩
  have d3 := q.blk.cell 3
  simp only [List.getElem?_cons_zero, List.getElem?_cons_succ] at d3
  obtain ⟨Aw, cw, hvw⟩ := q.wh.shape
  rw [hvw] at d3
  simp only [Cl.grow] at d3
  have hw0 := HN.out
  rw [← HK0.out] at d3
  have hk0l : k0 ≤ 9223372036854775807 := by omega
  clear q hw0 hvw q1 q2 c1 b0 b1 b2
  go_wp2
  go_loopw [7] (fun v7 wr => ∃ j k : Nat, k = k0 + j ∧ k ≤ G'.1.length ∧ v7 = .int .i64 k ∧ Sh (LayLoop w F c (Cl.grow j { s with G := G' }) wr)) (fun v7 _ => G'.1.length - (intOf v7).toNat)
  case atStart => exact ⟨0, k0, rfl, HN.out.1, rfl, HLP⟩
  case round =>
    obtain ⟨j, k, hk, hkn, rfl, ⟨⟨FG2, FF2, g2, m2, f2, vw2, P, C, N⟩⟩⟩ := hrel
    obtain ⟨l1, l2⟩ := Cl.grow_len { s with G := G' } j
    have l3 := Cl.grow_G { s with G := G' } j
    have l4 := HL1.out
    have l5 := HL2.out
    have l6 := HK0.out
    have l7 := HN.out
    simp only at l1 l2 l3
    obtain ⟨sj, hsj⟩ : ∃ sj, sj = Cl.grow j { s with G := G' } := ⟨_, rfl⟩
    rw [← hsj] at P l1 l2 l3
    have c1 := P.blk.cell 1
    have c2 := P.blk.cell 2
    simp only [List.getElem?_cons_zero, List.getElem?_cons_succ] at c1 c2
    have HP2 := Sh.mk P
    have HKK := Sh.mk hk
    have HC2 := Sh.mk C
    have HN2 := Sh.mk N
    have HSJ := Sh.mk hsj
    have HL := Sh.mk (show sj.whole.length = k ∧ sj.rt.length = k ∧ sj.G = G' by exact ⟨by omega, by omega, l3⟩)
    have hgl : sj.G.1.length = G'.1.length := by rw [l3]
    have hkl : k < 9223372036854775807 := by omega
    have HLEN := Sh.mk (Graph_Len wr FG2 g2 m2 _ _ P.gr)
    rw [hgl] at HLEN
    clear hk hsj hgl l1 l2 l3 l4 l5 l6 l7 P C N HADD
    by_cases hlt : k < G'.1.length
    · obtain ⟨x, hxe⟩ : ∃ x, x = G'.1[k] := ⟨_, rfl⟩
      have HX : Sh (sj.G.1[k]? = some x) := ⟨by rw [HL.out.2.2, hxe]; exact List.getElem?_eq_getElem hlt⟩
      clear hxe
      have hn6 := HN.out.2.1
      go_upto_if 46 with (first
        | (go_at_call 84; refine HLEN.out.mono ?_; rintro e w2 ⟨rfl, rfl⟩)
        | (go_at_call 63; refine (Clo_tickP HP2.out).mono ?_; rintro e w2 ⟨rfl, hp2, hc2⟩; have p2 := hp2.blk.cell 2; (simp only [List.getElem?_cons_zero, List.getElem?_cons_succ] at p2); have HP3 := Sh.mk hp2; have HC3 := Sh.mk hc2; clear hp2 hc2)
        | (go_at_call 82; refine (Forest_Add _ FF2 f2 _ _ HP3.out.fo (by have := HL.out.2.1; simp only [Cl.tick]; omega)).mono ?_; rintro e w3 ⟨rfl, FF3, hf, hc3, hF3⟩; have hq := HP3.out.forest hc3 hf hF3; have p1 := hq.blk.cell 1; have p3 := hq.blk.cell 3; have fz3 := hq.blk.frozen 3; (simp only [List.getElem?_cons_zero, List.getElem?_cons_succ] at p1 p3); have HKD := Sh.mk (Graph_Kind w3 FG2 g2 m2 sj.G.1 sj.G.2 k x hq.gr HX.out); have HQ := Sh.mk hq; have HC4 := Sh.mk hc3; have HF3 := Sh.mk hF3; clear hq hf hc3 hF3)
        | (go_at_call 85; refine HKD.out.mono ?_; rintro e w4 ⟨rfl, rfl⟩))
      obtain ⟨A2, c2', rfl⟩ := HQ.out.wh.shape
      simp only [Cl.tick] at p3
      have HI := Sh.mk (show IRow w4 (.slice A2 sj.whole.length c2') sj.whole from HQ.out.wh)
      have H8 := Sh.mk (show (sj.whole.length + 1) * 8 ≤ 140737488355328 by have := HL.out.1; omega)
      have hwl : sj.whole.length ≤ 9223372036854775807 := by have := HL.out.1; omega
      by_cases hv : x.kind = 1
      · have hv' : (x.kind == 1) = true := by simp [hv]
        have HV := Sh.mk hv
        clear hv
        go_wp2_with (at_builtin; refine append_int (W := w4) rfl rfl (.tmp 51) (.tmp 52) rfl (.slice A2 sj.whole.length c2') sj.whole (-1) rfl rfl HI.out H8.out ?_; intro A3 c3 w5 hI hg hv; have hfz := (HQ.out.blk.grown hg (fun e => HQ.out.c3 e.symm)).frozen 3; have hcz := (HQ.out.blk.grown hg (fun e => HQ.out.c3 e.symm)).cell 3; (simp only [List.getElem?_cons_zero, List.getElem?_cons_succ] at hcz); have HI5 := Sh.mk hI; have HG5 := Sh.mk hg; have HV5 := Sh.mk hv; clear hI hg hv)
        go_roundw
        case rel =>
          refine ⟨j + 1, k + 1, by have := HKK.out; omega, by omega, by simp, ⟨⟨FG2, FF3, g2, m2, f2, .slice A3 (sj.whole.length + 1) c3, ?_, ?_, ?_⟩⟩⟩
          · have e := HQ.out.grow HI5.out HG5.out HV5.out
            rw [Cl.grow, ← HSJ.out, Cl.one, show wholeOf sj.G.1 sj.whole.length = (-1) by unfold wholeOf; rw [HL.out.1, HX.out]; simp [HV.out]]
            exact e
          · exact ((((HC2.out.trans HC3.out (fun b hb _ => by subst hb; exact HN2.out _ (.inl rfl))).trans HC4.out (fun b hb _ => HN2.out _ (.inr (.inr (.inl hb))))).grown HG5.out (fun b hb => HN2.out _ (.inr (.inr (.inr hb))))).setCell (p := ⟨c, 3, none⟩) (HN2.out _ (.inl rfl)) _)
          · have e1 := HC2.out.size
            have e2 := HC3.out.size
            have e3 := HC4.out.size
            intro b hb
            rcases hb with e | e | e | e
            · exact HN2.out _ (.inl e)
            · exact HN2.out _ (.inr (.inl e))
            · rcases HF3.out b e with e | e
              · exact HN2.out _ (.inr (.inr (.inl e)))
              · exact .inr (by omega)
            · rcases HV5.out with e4 | ⟨b', e4, hb'⟩
              · exact HN2.out _ (.inr (.inr (.inr (e4.symm.trans e))))
              · rw [e] at e4; injection e4 with e4; exact .inr (by omega)
        case measure => simp [intOf]; omega
      · have hv' : (x.kind == 1) = false := by simp [hv]
        have HV := Sh.mk hv
        clear hv
        go_wp2_with (at_builtin; refine append_int (W := w4) rfl rfl (.tmp 60) (.tmp 62) rfl (.slice A2 sj.whole.length c2') sj.whole (k : Int) rfl rfl HI.out H8.out ?_; intro A3 c3 w5 hI hg hv; have hfz := (HQ.out.blk.grown hg (fun e => HQ.out.c3 e.symm)).frozen 3; have hcz := (HQ.out.blk.grown hg (fun e => HQ.out.c3 e.symm)).cell 3; (simp only [List.getElem?_cons_zero, List.getElem?_cons_succ] at hcz); have HI5 := Sh.mk hI; have HG5 := Sh.mk hg; have HV5 := Sh.mk hv; clear hI hg hv)
        go_roundw
        case rel =>
          refine ⟨j + 1, k + 1, by have := HKK.out; omega, by omega, by simp, ⟨⟨FG2, FF3, g2, m2, f2, .slice A3 (sj.whole.length + 1) c3, ?_, ?_, ?_⟩⟩⟩
          · have e := HQ.out.grow HI5.out HG5.out HV5.out
            rw [Cl.grow, ← HSJ.out, Cl.one, show wholeOf sj.G.1 sj.whole.length = (k : Int) by unfold wholeOf; rw [HL.out.1, HX.out]; simp [HV.out]]
            exact e
          · exact ((((HC2.out.trans HC3.out (fun b hb _ => by subst hb; exact HN2.out _ (.inl rfl))).trans HC4.out (fun b hb _ => HN2.out _ (.inr (.inr (.inl hb))))).grown HG5.out (fun b hb => HN2.out _ (.inr (.inr (.inr hb))))).setCell (p := ⟨c, 3, none⟩) (HN2.out _ (.inl rfl)) _)
          · have e1 := HC2.out.size
            have e2 := HC3.out.size
            have e3 := HC4.out.size
            intro b hb
            rcases hb with e | e | e | e
            · exact HN2.out _ (.inl e)
            · exact HN2.out _ (.inr (.inl e))
            · rcases HF3.out b e with e | e
              · exact HN2.out _ (.inr (.inr (.inl e)))
              · exact .inr (by omega)
            · rcases HV5.out with e4 | ⟨b', e4, hb'⟩
              · exact HN2.out _ (.inr (.inr (.inr (e4.symm.trans e))))
              · rw [e] at e4; injection e4 with e4; exact .inr (by omega)
        case measure => simp [intOf]; omega
    · have HEND := Sh.mk (show k = G'.1.length by omega)
      go_wp2_with (go_at_call 84; refine HLEN.out.mono ?_; rintro e w2 ⟨rfl, rfl⟩)
      go_ret
      refine ⟨by rw [← HIX.out]; rfl, ⟨⟨clF c FG2 FF2 vw2, ?_, HC2.out, HN2.out⟩⟩⟩
      have e : s.lay t = sj := by
        rw [HSJ.out, Cl.lay, ← HG'.out]
        congr 1
        have h1 := HKK.out
        have h2 := HK0.out
        have h3 := HEND.out
        omega
      rw [e]
      exact HP2.out.at
end Go.Proofs.YtdppkdjgadiinaaGreat
