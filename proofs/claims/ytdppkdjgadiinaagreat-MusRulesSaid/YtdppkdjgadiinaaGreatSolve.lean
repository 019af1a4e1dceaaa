/- Package solve: whether equations can be solved. -/
import Derived.Test.YtdppkdjgadiinaaGreatEqn
set_option linter.unusedVariables false
set_option linter.unusedSimpArgs false
namespace Go.Proofs.YtdppkdjgadiinaaGreat
open Go.RowKit

/-- What a round of the second loop knows. -/
structure SolL (w : World) (es : List Eqn) (c : Nat) (j : Nat) (wr : World) : Prop where
  is : ∃ s F, ClAt wr F c s ∧ Cok s ∧ s.clash = false ∧ KeysOk s.G ∧ (∀ s', EqsRun (es.drop j) s s' → EqsRun es Cl.new s') ∧ s.G.1.length + sizes (es.drop j) ≤ 1000000 ∧ (∀ k, F k → w.heap.size ≤ k)
  below : Below w.heap.size w wr
def EqtPost (w : World) (es : List Eqn) (e : Ending) (w' : World) : Prop :=
  ∃ (cv : Value) (code n : Int), SatIs es code ∧ e = .returned (.tuple #[cv, .int .i64 code, .int .i64 n]) ∧ Below w.heap.size w w'
set_option maxRecDepth 100000 in
set_option maxHeartbeats 1000000 in
theorem equate_calls (w : World) (S : Nat → Prop) (es : List Eqn) (v : Value) (h : EqsAt w S es v) (hsz : sizes es ≤ 1000000) :
    Calls Tryz.prog 38 #[v] w (EqtPost w es) := by
  obtain ⟨A, ca, rfl, hlen⟩ := h.shape
  have h' : EqsAt w (fun k => k < w.heap.size) es (.slice A es.length ca) := Dat.at_mono h (fun k _ hk => hk)
  obtain ⟨n, hn⟩ : ∃ n, n = es.length := ⟨_, rfl⟩
  rw [← hn] at h h' hlen ⊢
  have HN := Sh.mk hn
  have H := Sh.mk h'
  have HSZ := Sh.mk hsz
  clear h h' hn hsz
  go_enter Tryz.func38, Tryz.ntmps38
  go_wp2
  go_loopw [15] (fun v15 wr => ∃ j : Nat, v15 = .int .i64 j ∧ j ≤ n ∧ Sh ((es.take j).all Eqn.right = true ∧ Below w.heap.size w wr)) (fun v15 _ => n - (intOf v15).toNat)
  case atStart => exact ⟨0, rfl, Nat.zero_le _, ⟨by simp, Below.refl _ _⟩⟩
  case round =>
    obtain ⟨j, rfl, hj, HR⟩ := hrel
    by_cases hlt : j < n
    · obtain ⟨x, hx⟩ : ∃ x, es[j]? = some x := ⟨_, List.getElem?_eq_getElem (by have := HN.out; omega)⟩
      obtain ⟨ad, As, cs, At, ct, rfl, hS, hbl, c0, c1, c2, c3, c4, c5, c6, c7, hpl, hpr⟩ := eqRow_elem (H.out.below HR.out.2) hx
      have HPL := Sh.mk hpl
      have HPR := Sh.mk hpr
      have HX := Sh.mk hx
      obtain ⟨w2, hw2⟩ : ∃ w2, w2 = wr.alloc (.cells #[.int .i64 x.l.kind, .int .i64 x.l.n, .slice As x.l.parts.length cs, .int .i64 x.r.kind, .int .i64 x.r.n, .slice At x.r.parts.length ct, .int .i64 x.a, .int .i64 x.b] 40) := ⟨_, rfl⟩
      have HW2 := Sh.mk hw2
      have HB2 : Sh (Below wr.heap.size wr w2) := ⟨by rw [hw2]; exact (Below.refl _ _).alloc (Nat.le_refl _) _⟩
      have HX2 : Sh (Blk w2 wr.heap.size 40 [.int .i64 x.l.kind, .int .i64 x.l.n, .slice As x.l.parts.length cs, .int .i64 x.r.kind, .int .i64 x.r.n, .slice At x.r.parts.length ct, .int .i64 x.a, .int .i64 x.b]) := ⟨by rw [hw2]; exact Blk.new _ _ _⟩
      clear hpl hpr hx hw2 hS
      go_upto_region 4 with (fail)
      rw [← HW2.out]
      clear HW2 c0 c1 c2 c3 c4 c5 c6 c7
      have x0 := HX2.out.cell 0
      have x1 := HX2.out.cell 1
      have x2 := HX2.out.cell 2
      simp only [List.getElem?_cons_zero, List.getElem?_cons_succ] at x0 x1 x2
      have HRL := Sh.mk (Right_calls x.l _ _ _ (HPL.out.below HB2.out))
      have HPR2 := Sh.mk (HPR.out.below HB2.out)
      have HAB : Sh (∀ b, x.right = b → (es.take (j + 1)).all Eqn.right = b) := ⟨fun b hb => by rw [List.take_add_one, HX.out]; simp [HR.out.1, hb]⟩
      have HBW := Sh.mk (below_then HR.out.2 HB2.out)
      have HBAD : Sh (x.right = false → SatIs es 1) := ⟨fun hb => by
        unfold SatIs
        have : es.all Eqn.right = false := by
          rw [List.all_eq_false]
          exact ⟨x, List.mem_of_getElem? HX.out, by simp [hb]⟩
        rw [this]; simp⟩
      cases hl : x.l.right with
      | false =>
        have HXR : Sh (x.right = false) := ⟨by unfold Eqn.right; rw [hl]; rfl⟩
        rw [hl] at HRL
        clear hl
        go_wp2_with (first | (go_at_call 44; refine HRL.out.mono ?_; rintro e w3 ⟨rfl, hb3⟩; have HB3 := Sh.mk hb3; clear hb3))
        refine bodyPost_ret (v := .tuple #[.pointer none, .int .i64 1, .int .i64 0]) (by simp [results, Tryz.results38, go_sem, *]) rfl ⟨_, 1, 0, HBAD.out HXR.out, rfl, below_then HBW.out HB3.out⟩
      | true =>
        rw [hl] at HRL
        have HXR : Sh (x.right = x.r.right) := ⟨by unfold Eqn.right; rw [hl]; rfl⟩
        clear hl
        have TOK : Sh True := ⟨trivial⟩
        cases hr : x.r.right with
        | false =>
          rw [hr] at HXR
          have HRR := Sh.mk hr
          clear hr
          go_wp2_with (first
            | (go_at_call 44; clear TOK; refine HRL.out.mono ?_; rintro e w3 ⟨rfl, hb3⟩; have hx3 := HX2.out.keep hb3; have x3 := hx3.cell 3; have x4 := hx3.cell 4; have x5 := hx3.cell 5; (simp only [List.getElem?_cons_zero, List.getElem?_cons_succ] at x3 x4 x5); have HB3 := Sh.mk hb3; clear hb3 hx3)
            | (go_at_call 44; refine (Right_calls x.r _ _ _ (HPR2.out.below HB3.out)).mono ?_; rw [HRR.out]; rintro e w4 ⟨rfl, hb4⟩; have HB4 := Sh.mk hb4; clear hb4))
          refine bodyPost_ret (v := .tuple #[.pointer none, .int .i64 1, .int .i64 0]) (by simp [results, Tryz.results38, go_sem, *]) rfl ⟨_, 1, 0, HBAD.out HXR.out, rfl, below_then (below_then HBW.out HB3.out) HB4.out⟩
        | true =>
          rw [hr] at HXR
          have HRR := Sh.mk hr
          clear hr
          go_wp2_with (first
            | (go_at_call 44; clear TOK; refine HRL.out.mono ?_; rintro e w3 ⟨rfl, hb3⟩; have hx3 := HX2.out.keep hb3; have x3 := hx3.cell 3; have x4 := hx3.cell 4; have x5 := hx3.cell 5; (simp only [List.getElem?_cons_zero, List.getElem?_cons_succ] at x3 x4 x5); have HB3 := Sh.mk hb3; clear hb3 hx3)
            | (go_at_call 44; refine (Right_calls x.r _ _ _ (HPR2.out.below HB3.out)).mono ?_; rw [HRR.out]; rintro e w4 ⟨rfl, hb4⟩; have HB4 := Sh.mk hb4; clear hb4))
          case roundEnd => exact ⟨⟨j + 1, by simp, by omega, ⟨HAB.out _ HXR.out, below_then (below_then HBW.out HB3.out) HB4.out⟩⟩, by simp [intOf]; omega⟩
    · have HALL : Sh (es.all Eqn.right = true) := ⟨by have := HR.out.1; rw [show j = es.length by have := HN.out; omega, List.take_length] at this; exact this⟩
      go_wp2_with (first | (go_at_call 48; refine (Clo_New _).mono ?_; rintro e w1 ⟨c, F, rfl, k1, k2, k3⟩; have K1 := Sh.mk k1; have K2 := Sh.mk (below_then HR.out.2 k2); have K3 := Sh.mk (show ∀ k, F k → w.heap.size ≤ k from fun k hk => Nat.le_trans HR.out.2.size (k3 k hk)); clear k1 k2 k3))
      have HL0 : Sh (SolL w es c 0 w1) := ⟨⟨⟨Cl.new, F, K1.out, Cl.new_ok, rfl, Cl.new_keys, fun s' h => h, by simpa [Cl.new] using HSZ.out, K3.out⟩, K2.out⟩⟩
      clear K1 K2 K3 HR
      go_loopw [33] (fun v33 wr => ∃ j : Nat, v33 = .int .i64 j ∧ j ≤ n ∧ Sh (SolL w es c j wr)) (fun v33 _ => n - (intOf v33).toNat)
      case atStart => exact ⟨0, rfl, Nat.zero_le _, HL0⟩
      case round =>
        obtain ⟨j, rfl, hj, HR⟩ := hrel
        clear HL0
        obtain ⟨s, F, ha, hok, hcl, hky, hgo, hlen2, hnew⟩ := HR.out.is
        have HA := Sh.mk ha
        have HOK := Sh.mk hok
        have HCL := Sh.mk hcl
        have HKY := Sh.mk hky
        have HGO := Sh.mk hgo
        have HLEN := Sh.mk hlen2
        have HNEW := Sh.mk hnew
        clear ha hok hcl hky hgo hlen2 hnew
        by_cases hlt : j < n
        · obtain ⟨x, hx⟩ : ∃ x, es[j]? = some x := ⟨_, List.getElem?_eq_getElem (by have := HN.out; omega)⟩
          obtain ⟨ad, As, cs, At, ct, rfl, hS, hbl, c0, c1, c2, c3, c4, c5, c6, c7, hpl, hpr⟩ := eqRow_elem (H.out.below HR.out.below) hx
          have hxr : x.right = true := List.all_eq_true.1 HALL.out x (List.mem_of_getElem? hx)
          have hdrop : es.drop j = x :: es.drop (j + 1) := by
            obtain ⟨hlt2, he⟩ := List.getElem?_eq_some_iff.1 hx
            rw [← he]
            exact List.drop_eq_getElem_cons hlt2
          obtain ⟨w2, hw2⟩ : ∃ w2, w2 = wr.alloc (.cells #[.int .i64 x.l.kind, .int .i64 x.l.n, .slice As x.l.parts.length cs, .int .i64 x.r.kind, .int .i64 x.r.n, .slice At x.r.parts.length ct, .int .i64 x.a, .int .i64 x.b] 40) := ⟨_, rfl⟩
          have hB2 : Below wr.heap.size wr w2 := by rw [hw2]; exact (Below.refl _ _).alloc (Nat.le_refl _) _
          have hX2 : Blk w2 wr.heap.size 40 [.int .i64 x.l.kind, .int .i64 x.l.n, .slice As x.l.parts.length cs, .int .i64 x.r.kind, .int .i64 x.r.n, .slice At x.r.parts.length ct, .int .i64 x.a, .int .i64 x.b] := by rw [hw2]; exact Blk.new _ _ _
          have hrr : x.l.right = true ∧ x.r.right = true := by unfold Eqn.right at hxr; simpa using hxr
          have hsz2 : s.G.1.length + x.l.size + x.r.size ≤ 1000000 := by
            have := HLEN.out
            rw [hdrop] at this
            simp only [sizes, List.map_cons, List.sum_cons, Eqn.size] at this
            omega
          have HE := Sh.mk (Clo_Equate x.l x.r w2 F (fun k => k < w.heap.size) c s _ _ (HA.out.keep hB2) HOK.out HCL.out (hpl.below hB2) (hpr.below hB2) (fun k hk _ e => by have := HNEW.out k e; omega) (Ty.right_thin _ hrr.1) (Ty.right_thin _ hrr.2) hrr.1 hrr.2 hsz2)
          have HW2 := Sh.mk hw2
          have HB2 := Sh.mk (below_then HR.out.below hB2)
          have x0 := hX2.cell 0
          have x1 := hX2.cell 1
          have x2 := hX2.cell 2
          have x3 := hX2.cell 3
          have x4 := hX2.cell 4
          have x5 := hX2.cell 5
          simp only [List.getElem?_cons_zero, List.getElem?_cons_succ] at x0 x1 x2 x3 x4 x5
          have HRR := Sh.mk hrr
          have HDR := Sh.mk hdrop
          have HSZ2 := Sh.mk hsz2
          clear hpl hpr hx hw2 hS hxr hdrop hB2 hX2 hrr hsz2
          go_upto_region 11 with (fail)
          rw [← HW2.out]
          clear HW2 c0 c1 c2 c3 c4 c5 c6 c7
          go_upto_region 12 with (first | (go_at_call 49; refine HE.out.mono ?_; rintro e w3 ⟨s1, h1, rfl, h3⟩; have H1 := Sh.mk h1; have H3 := Sh.mk h3; clear h1 h3))
          obtain ⟨F1, a1, a2, a3⟩ := H3.out.is
          have HNEW1 : Sh (∀ k, F1 k → w.heap.size ≤ k) := ⟨fun k hk => by
            rcases a3 k hk with e | e
            · exact HNEW.out k e
            · exact Nat.le_trans HB2.out.size e⟩
          have HB3 : Sh (Below w.heap.size w w3) := ⟨HB2.out.trans (a2.below HNEW.out HB2.out.size)⟩
          have HA1 := Sh.mk a1
          clear a1 a2 a3 H3 HE x0 x1 x2 x3 x4 x5
          cases hc1 : s1.clash with
          | true =>
            have HGO1 : Sh (EqsRun es Cl.new s1) := ⟨HGO.out s1 (by rw [HDR.out]; exact ⟨s1, H1.out, by rw [hc1]; rfl⟩)⟩
            have HC1 := Sh.mk hc1
            clear hc1
            go_wp2_with (first | (go_at_call 50; refine (Clo_Steps _ F1 c s1 HA1.out).mono ?_; rintro e w4 ⟨rfl, rfl⟩))
            refine bodyPost_ret (v := .tuple #[.pointer none, .int .i64 7, .int .i64 s1.steps]) (by simp [results, Tryz.results38, go_sem, *]) rfl ⟨_, 7, _, ?_, rfl, HB3.out⟩
            unfold SatIs
            rw [HALL.out]
            exact ⟨s1, HGO1.out, by unfold codeOf; rw [HC1.out]; rfl⟩
          | false =>
            have hok1 := H1.out.ok HOK.out HKY.out HRR.out.1 HRR.out.2
            have HL1 : Sh (SolL w es c (j + 1) w3) := ⟨⟨⟨s1, F1, HA1.out, hok1.ok, hc1, hok1.keys, fun s' h => HGO.out s' (by rw [HDR.out]; exact ⟨s1, H1.out, by rw [hc1]; exact h⟩), by
              have := HLEN.out
              have := hok1.len
              rw [HDR.out] at *
              simp only [sizes, List.map_cons, List.sum_cons, Eqn.size] at *
              omega, HNEW1.out⟩, HB3.out⟩⟩
            clear hc1 hok1
            go_wp2
            case roundEnd => exact ⟨⟨j + 1, by simp, by omega, HL1⟩, by simp [intOf]; omega⟩
        · have hdrop : es.drop j = [] := List.drop_eq_nil_of_le (by have := HN.out; omega)
          have hg6 : s.G.1.length ≤ 1000000 := by have := HLEN.out; omega
          have HRUN : Sh (EqsRun es Cl.new s) := ⟨HGO.out s (by rw [hdrop]; exact rfl)⟩
          have HG6 := Sh.mk hg6
          obtain ⟨bd, hbd⟩ : ∃ bd, bd = s.walked.bad := ⟨_, rfl⟩
          obtain ⟨stp, hstp⟩ : ∃ stp, stp = s.walked.steps := ⟨_, rfl⟩
          have HSAT : Sh (SatIs es (if bd then 8 else 0)) := ⟨by
            unfold SatIs
            rw [HALL.out]
            exact ⟨s, HRUN.out, by unfold codeOf; rw [HCL.out, ← hbd]; rfl⟩⟩
          have HCNT := Sh.mk (Count_calls wr F c s HA.out HOK.out HCL.out HKY.out hg6)
          unfold CountPost at HCNT
          rw [← hbd, ← hstp] at HCNT
          clear hbd hstp hdrop hg6
          cases bd with
          | true =>
            go_wp2_with (first
              | (go_at_call 51; refine HCNT.out.mono ?_; rintro e w3 ⟨rfl, a1, a2⟩; have A1 := Sh.mk a1; have A2 := Sh.mk (HR.out.below.trans (a2.below HNEW.out HR.out.below.size)); clear a1 a2)
              | (go_at_call 50; refine (Clo_Steps _ F c s A1.out).mono ?_; rintro e w4 ⟨rfl, rfl⟩))
            refine bodyPost_ret (v := .tuple #[.pointer none, .int .i64 8, .int .i64 (wrap64 (stp + s.steps))]) (by simp [results, Tryz.results38, go_sem, *]) rfl ⟨_, 8, _, HSAT.out, rfl, A2.out⟩
          | false =>
            go_wp2_with (first
              | (go_at_call 51; refine HCNT.out.mono ?_; rintro e w3 ⟨rfl, a1, a2⟩; have A1 := Sh.mk a1; have A2 := Sh.mk (HR.out.below.trans (a2.below HNEW.out HR.out.below.size)); clear a1 a2)
              | (go_at_call 50; refine (Clo_Steps _ F c s A1.out).mono ?_; rintro e w4 ⟨rfl, rfl⟩))
            refine bodyPost_ret (v := .tuple #[.pointer (some ⟨c, 0, none⟩), .int .i64 0, .int .i64 (wrap64 (stp + s.steps))]) (by simp [results, Tryz.results38, go_sem, *]) rfl ⟨_, 0, _, HSAT.out, rfl, A2.out⟩
theorem solveCount_calls (w : World) (S : Nat → Prop) (es : List Eqn) (v : Value) (h : EqsAt w S es v) (hsz : sizes es ≤ 1000000) :
    Calls Tryz.prog 22 #[v] w fun e w' => ∃ code n : Int, SatIs es code ∧ e = .returned (.tuple #[.int .i64 code, .int .i64 n]) ∧ Below w.heap.size w w' := by
  have HE := Sh.mk (equate_calls w S es v h hsz)
  clear h hsz
  go_enter Tryz.func22, Tryz.ntmps22
  go_wp2_with (first | (go_at_call 38; refine HE.out.mono ?_; rintro e w3 ⟨cv, code, n, h1, rfl, h3⟩; have H1 := Sh.mk h1; have H3 := Sh.mk h3; clear h1 h3))
  go_ret2
  exact ⟨code, n, H1.out, rfl, H3.out⟩
theorem Sat_calls (w : World) (S : Nat → Prop) (es : List Eqn) (v : Value) (h : EqsAt w S es v) (hsz : sizes es ≤ 1000000) :
    Calls Tryz.prog 10 #[v] w fun e w' => ∃ code : Int, SatIs es code ∧ e = .returned (.int .i64 code) ∧ Below w.heap.size w w' := by
  have HE := Sh.mk (solveCount_calls w S es v h hsz)
  clear h hsz
  go_enter Tryz.func10, Tryz.ntmps10
  go_wp2_with (first | (go_at_call 22; refine HE.out.mono ?_; rintro e w3 ⟨code, n, h1, rfl, h3⟩; have H1 := Sh.mk h1; have H3 := Sh.mk h3; clear h1 h3))
  go_ret
  exact ⟨code, H1.out, rfl, H3.out⟩
end Go.Proofs.YtdppkdjgadiinaaGreat
