/- Package union: sets that become one. -/
import Derived.Test.YtdppkdjgadiinaaGreatObj
import Derived.WalkMore
set_option linter.unusedVariables false
set_option linter.unusedSimpArgs false
namespace Go.Proofs.YtdppkdjgadiinaaGreat
open Go.RowKit

theorem Forest_there (w : World) (F : Nat → Prop) (f : Nat) (rt rank : List Int) (i : Int) (h : ForestAt w F f rt rank) :
    Calls Tryz.prog 101 #[.pointer (some ⟨f, 0, none⟩), .int .i64 i] w fun e w' => e = .returned (.bool (decide (0 ≤ i ∧ i < rt.length))) ∧ w' = w := by
  obtain ⟨vu, vr, up, sets, steps, h1, h2, h3, h4, h5, h6, h7, h8, h9⟩ := h.is
  have c0 := h1.cell 0
  simp only [List.getElem?_cons_zero] at c0
  obtain ⟨A, c, rfl⟩ := h2.shape
  have hl := h2.len
  have HE := Sh.mk h4.len
  have hln : rt.length ≤ 9223372036854775807 := by rw [← HE.out]; exact hl
  clear h1 h2 h3 h4 h5 h6 h7 h8 h9 h
  by_cases hi : 0 ≤ i
  · go_enter Tryz.func101, Tryz.ntmps101
    go_wp2
    go_ret
    rw [HE.out]
    simp [hi]
  · go_enter Tryz.func101, Tryz.ntmps101
    go_wp2
    go_ret
    refine ⟨?_, rfl⟩
    rw [decide_eq_false (by omega)]
    rfl
theorem Forest_Add (w : World) (F : Nat → Prop) (f : Nat) (rt rank : List Int) (h : ForestAt w F f rt rank) (hn : rt.length < 1048576) :
    Calls Tryz.prog 82 #[.pointer (some ⟨f, 0, none⟩)] w fun e w' => e = .returned (.int .i64 rt.length) ∧ ∃ F', ForestAt w' F' f (rt ++ [(rt.length : Int)]) (rank ++ [0]) ∧ Chg F w w' ∧ ∀ k, F' k → F k ∨ w.heap.size ≤ k := by
  obtain ⟨vu, vr, up, sets, steps, h1, h2, h3, h4, h5, h6, h7, h8, h9⟩ := h.is
  have c0 := h1.cell 0
  have c1 := h1.cell 1
  have c2 := h1.cell 2
  have f0 := h1.frozen 0
  have f1 := h1.frozen 1
  have f2 := h1.frozen 2
  simp only [List.getElem?_cons_zero, List.getElem?_cons_succ] at c0 c1 c2
  obtain ⟨A, c, hv⟩ := h2.shape
  have HE := Sh.mk h4.len
  have hul : up.length < 1048576 := by rw [HE.out]; exact hn
  have hne : ((up.length : Int) == 1048576) = false := by simp; omega
  obtain ⟨A2, k2, rfl⟩ := h3.shape
  have HL5 := Sh.mk h5
  have H6 := Sh.mk (show (rank.length + 1) * 8 ≤ 140737488355328 by omega)
  clear h5
  have H1 := Sh.mk h1
  have H2 := Sh.mk h2
  have H3 := Sh.mk h3
  have H4 := Sh.mk h4
  have HL2 := Sh.mk h2.lt
  have HL3 := Sh.mk h3.lt
  have HL1 := Sh.mk h1.lt
  have H5 := Sh.mk (show (up.length + 1) * 8 ≤ 140737488355328 by omega)
  clear h1 h2 h3 h4 h
  subst hv
  go_enter Tryz.func82, Tryz.ntmps82
  go_upto_region 5 with (at_builtin; refine append_int (W := w) rfl rfl (.tmp 23) (.tmp 25) rfl (.slice A up.length c) up up.length rfl rfl H2.out H5.out ?_; intro A1 k1 w1 hI hg hv1; have B1 := (H1.out.grown hg (fun e => h6 e.symm)); have c0' := B1.cell 0; have c1' := B1.cell 1; have c2' := B1.cell 2; have f0' := B1.frozen 0; have f1' := B1.frozen 1; have f2' := B1.frozen 2; (simp only [List.getElem?_cons_zero, List.getElem?_cons_succ] at c0' c1' c2'); have HB1 := Sh.mk B1; have HI := Sh.mk hI; have HG := Sh.mk hg; have HV := Sh.mk hv1; clear B1 hI hg hv1)
  clear c0 c1 c2 f0 f1 f2
  have hA := Sh.mk HG.out.size
  have H3a : IRow w1 (.slice A2 rank.length k2) rank := H3.out.grown HG.out (fun k hk e => h8 k e hk)
  have H3' := Sh.mk (H3a.far (p := ⟨f, 0, none⟩) h7 (.slice A1 (up.length + 1) k1))
  clear H3a
  go_wp2_with (at_builtin; refine append_int (W := w1.setCell ⟨f, 0, none⟩ (.slice A1 (up.length + 1) k1)) (by simp) rfl (.tmp 33) (.tmp 34) rfl (.slice A2 rank.length k2) rank 0 rfl rfl H3'.out H6.out ?_; intro A3 k3 w2 hI2 hg2 hv2; have B2 := ((HB1.out.set_ 0 (.slice A1 (up.length + 1) k1)).grown hg2 (fun e => h7 e.symm)); have d1 := B2.cell 1; have d2 := B2.cell 2; have g1 := B2.frozen 1; have g2 := B2.frozen 2; (simp only [List.set_cons_zero, List.getElem?_cons_zero, List.getElem?_cons_succ] at d1 d2); have HB2 := Sh.mk B2; have HI2 := Sh.mk hI2; have HG2 := Sh.mk hg2; have HV2 := Sh.mk hv2; clear B2 hI2 hg2 hv2)
  go_ret
  have n1 : (Value.slice A1 (up.length + 1) k1).ownBlock ≠ some f := by
    rcases HV.out with e | ⟨b, e, hb⟩
    · rw [e]; exact h6
    · rw [e]; intro e2; injection e2 with e2; have := HL1.out; omega
  have n2 : ∀ k, (Value.slice A1 (up.length + 1) k1).ownBlock = some k → (Value.slice A2 rank.length k2).ownBlock ≠ some k := by
    intro k hk
    rcases HV.out with e | ⟨b, e, hb⟩
    · rw [e] at hk; exact h8 k hk
    · rw [e] at hk; injection hk with hk; intro e2; have := HL3.out k e2; omega
  have hsz : (w1.setCell ⟨f, 0, none⟩ (.slice A1 (up.length + 1) k1)).heap.size = w1.heap.size := by simp
  have n3 : (Value.slice A3 (rank.length + 1) k3).ownBlock ≠ some f := by
    rcases HV2.out with e | ⟨b, e, hb⟩
    · rw [e]; exact h7
    · rw [e]; intro e2; injection e2 with e2; have := HL1.out; have := hA.out; omega
  have n4 : ∀ k, (Value.slice A1 (up.length + 1) k1).ownBlock = some k → (Value.slice A3 (rank.length + 1) k3).ownBlock ≠ some k := by
    intro k hk
    rcases HV2.out with e | ⟨b, e, hb⟩
    · rw [e]; exact n2 k hk
    · rw [e]; intro e2; injection e2 with e2; have := HI.out.lt k hk; omega
  refine ⟨by rw [← HE.out]; rfl, fun k => k = f ∨ (Value.slice A1 (up.length + 1) k1).ownBlock = some k ∨ (Value.slice A3 (rank.length + 1) k3).ownBlock = some k, ⟨⟨.slice A1 (up.length + 1) k1, .slice A3 (rank.length + 1) k3, up ++ [(up.length : Int)], wrap64 (sets + 1), steps, ?_, ?_, ?_, ?_, ?_, n1, n3, n4, fun k => Iff.rfl⟩⟩, ?_, ?_⟩
  · have := (HB2.out.set_ 1 (.slice A3 (rank.length + 1) k3)).set_ 2 (.int .i64 (wrap64 (sets + 1)))
    simpa using this
  · exact (((HI.out.far (p := ⟨f, 0, none⟩) n1 _).grown HG2.out (fun k hk e => n2 k hk e)).far (p := ⟨f, 1, none⟩) n1 _).far (p := ⟨f, 2, none⟩) n1 _
  · exact (HI2.out.far (p := ⟨f, 1, none⟩) n3 _).far (p := ⟨f, 2, none⟩) n3 _
  · rw [HE.out]; exact H4.out.push
  · simp [HL5.out]
  · have e1 : Chg F w w1 := (Chg.refl F w).grown HG.out (fun k hk => .inl ((h9 k).2 (.inr (.inl hk))))
    have e2 := (e1.setCell (p := ⟨f, 0, none⟩) (.inl ((h9 f).2 (.inl rfl))) (.slice A1 (up.length + 1) k1)).grown HG2.out (fun k hk => .inl ((h9 k).2 (.inr (.inr hk))))
    exact (e2.setCell (p := ⟨f, 1, none⟩) (.inl ((h9 f).2 (.inl rfl))) _).setCell (p := ⟨f, 2, none⟩) (.inl ((h9 f).2 (.inl rfl))) _
  · rintro k (rfl | hk | hk)
    · exact .inl ((h9 k).2 (.inl rfl))
    · rcases HV.out with e | ⟨b, e, hb⟩
      · exact .inl ((h9 k).2 (.inr (.inl (by rw [← e]; exact hk))))
      · rw [e] at hk; injection hk with hk; exact .inr (by omega)
    · rcases HV2.out with e | ⟨b, e, hb⟩
      · exact .inl ((h9 k).2 (.inr (.inr (by rw [← e]; exact hk))))
      · rw [e] at hk; injection hk with hk; have := hA.out; exact .inr (by omega)
theorem Forest_find (w : World) (F : Nat → Prop) (f : Nat) (rt rank : List Int) (i r : Nat) (h : ForestAt w F f rt rank) (hr : rt[i]? = some (r : Int)) :
    Calls Tryz.prog 102 #[.pointer (some ⟨f, 0, none⟩), .int .i64 i] w fun e w' => e = .returned (.int .i64 r) ∧ ForestAt w' F f rt rank ∧ Chg F w w' := by
  obtain ⟨vu, vr, up, sets, steps, h1, h2, h3, h4, h5, h6, h7, h8, h9⟩ := h.is
  obtain ⟨A2, k2, rfl⟩ := h3.shape
  have hi : i < rt.length := (List.getElem?_eq_some_iff.1 hr).1
  have HC := Sh.mk h4
  obtain ⟨_, d, hd⟩ := h4
  obtain ⟨u0, _, hu0, _⟩ := hd i hi
  obtain ⟨g, c, rfl, _, _, hiu⟩ := h2.at hu0
  have HI := Sh.mk hi
  have H1 := Sh.mk h1
  have H2 := Sh.mk h2
  have H3 := Sh.mk h3
  have HD := Sh.mk hd
  have H5 := Sh.mk h5
  have HR := Sh.mk hr
  have H9 := Sh.mk h9
  have H8 := Sh.mk h8
  have H67 := Sh.mk (And.intro h6 h7)
  have HCL := Sh.mk HC.out.len
  have hul : up.length ≤ 9223372036854775807 := h2.len
  clear h h1 h2 h3 h5 h6 h7 hr h8 h9 hd hu0
  go_enter Tryz.func102, Tryz.ntmps102
  go_wp2
  go_step3
  go_wp2
  go_step3
  go_upto_block 0 with (fail)
  go_cut [5] from 6 to 26 (fun s5 wx => s5 = .int .i64 r ∧ Sh (∃ steps', Blk wx f 127 [.slice (some ⟨g, 0, none⟩) up.length c, .slice A2 rank.length k2, .int .i64 sets, .int .i64 steps']) ∧ Sh (IRow wx (.slice (some ⟨g, 0, none⟩) up.length c) up) ∧ Sh (IRow wx (.slice A2 rank.length k2) rank) ∧ Sh (Chg F w wx))
  case first =>
    go_wp2
    go_loopw [5] (fun s5 wx => ∃ j : Nat, s5 = .int .i64 j ∧ Sh (j < rt.length ∧ rt[j]? = some (r : Int)) ∧ Sh (∃ steps', Blk wx f 127 [.slice (some ⟨g, 0, none⟩) up.length c, .slice A2 rank.length k2, .int .i64 sets, .int .i64 steps']) ∧ Sh (IRow wx (.slice (some ⟨g, 0, none⟩) up.length c) up) ∧ Sh (IRow wx (.slice A2 rank.length k2) rank) ∧ Sh (Chg F w wx)) (fun s5 _ => d (intOf s5).toNat)
    case atStart => exact ⟨i, rfl, ⟨HI.out, HR.out⟩, ⟨steps, H1.out⟩, H2, H3, ⟨Chg.refl _ _⟩⟩
    case round =>
      obtain ⟨j, rfl, ⟨hj, hjr⟩, ⟨st, B⟩, I1, I2, C⟩ := hrel
      obtain ⟨u, r', hu, hr', hul', hrl, hc⟩ := HD.out j hj
      have hrr : r' = r := by rw [hjr] at hr'; injection hr' with hr'; omega
      subst hrr
      obtain ⟨x1, x2, x3, _⟩ := I1.out.cell hu
      have c0 := B.cell 0
      have c3 := B.cell 3
      have f3 := B.frozen 3
      simp only [List.getElem?_cons_zero, List.getElem?_cons_succ] at c0 c3
      have HB := Sh.mk B
      have HC1 := Sh.mk hc
      have hgf : ¬ g = f := fun e => H67.out.1 (by rw [e]; rfl)
      have hfg : ¬ f = g := fun e => hgf e.symm
      clear B hc hr' hu
      have HJR := Sh.mk hjr
      clear hjr
      have e1 := HB.out.set_ 3 (.int .i64 (wrap64 (st + 1)))
      have E1 := Sh.mk e1
      have E2 := Sh.mk (I1.out.far (p := ⟨f, 3, none⟩) H67.out.1 (.int .i64 (wrap64 (st + 1))))
      have E3 := Sh.mk (I2.out.far (p := ⟨f, 3, none⟩) H67.out.2 (.int .i64 (wrap64 (st + 1))))
      have E4 := Sh.mk (C.out.setCell (p := ⟨f, 3, none⟩) (.inl ((H9.out f).2 (.inl rfl))) (.int .i64 (wrap64 (st + 1))))
      clear e1
      by_cases huj : u = j
      · have hrj : r' = j := by
          rcases HC1.out with ⟨_, h⟩ | ⟨_, _, h⟩
          · exact h
          · rw [huj] at h; omega
        have HRJ := Sh.mk hrj
        clear hrj
        go_wp2
        go_meet
        exact ⟨by rw [HRJ.out], ⟨_, by simpa using E1.out⟩, E2, E3, E4⟩
      · have hlt : Sh (rt[u]? = some (r' : Int) ∧ d u < d j) := ⟨by
          rcases HC1.out with ⟨h, _⟩ | ⟨_, h1, h2⟩
          · exact absurd h huj
          · exact ⟨h1, h2⟩⟩
        go_wp2
        go_roundw
        case rel => exact ⟨u, rfl, ⟨hul', hlt.out.1⟩, ⟨_, by simpa using E1.out⟩, E2, E3, E4⟩
        case measure => simp only [intOf, Int.toNat_natCast]; exact hlt.out.2
  case rest =>
    obtain ⟨rfl, HB, I1, I2, C⟩ := hcut
    go_wp2
    have hr0 := Sh.mk HR.out
    go_loopw [1] (fun s1 wx => ∃ (j : Nat) (up' : List Int), s1 = .int .i64 j ∧ Sh (j < rt.length ∧ rt[j]? = some (r : Int)) ∧ Sh (up'.length = up.length ∧ Way d up' rt) ∧ Sh (∃ steps', Blk wx f 127 [.slice (some ⟨g, 0, none⟩) up.length c, .slice A2 rank.length k2, .int .i64 sets, .int .i64 steps']) ∧ Sh (IRow wx (.slice (some ⟨g, 0, none⟩) up.length c) up') ∧ Sh (IRow wx (.slice A2 rank.length k2) rank) ∧ Sh (Chg F w wx)) (fun s1 _ => d (intOf s1).toNat)
    case atStart => exact ⟨i, up, rfl, ⟨HI.out, HR.out⟩, ⟨rfl, HD.out⟩, HB, I1, I2, C⟩
    case round =>
      clear HB I1 I2 C
      obtain ⟨j, up', rfl, ⟨hj, hjr⟩, ⟨hlu, hch⟩, ⟨st, B⟩, I1, I2, C⟩ := hrel
      obtain ⟨u, r', hu, hr', hul', hrl, hc⟩ := hch j hj
      have hrr : r' = r := by rw [hjr] at hr'; injection hr' with hr'; omega
      subst hrr
      obtain ⟨x1, x2, x3, _⟩ := I1.out.cell hu
      have c0 := B.cell 0
      have c3 := B.cell 3
      have f3 := B.frozen 3
      simp only [List.getElem?_cons_zero, List.getElem?_cons_succ] at c0 c3
      have HB := Sh.mk B
      have HC1 := Sh.mk hc
      have HCH := Sh.mk hch
      have HLU := Sh.mk hlu
      have hgf : ¬ g = f := fun e => H67.out.1 (by rw [e]; rfl)
      have hfg : ¬ f = g := fun e => hgf e.symm
      have HJR := Sh.mk hjr
      have HUE := Sh.mk hu
      clear B hc hr' hu hch hlu hjr
      by_cases hur : u = r'
      · go_wp2
        rw [Exit.noGoto_ret]
        go_ret
        refine ⟨rfl, ⟨⟨_, _, up', sets, st, HB.out, ?_, I2.out, ⟨by rw [HLU.out]; exact HCL.out, d, HCH.out⟩, H5.out, H67.out.1, H67.out.2, H8.out, H9.out⟩⟩, C.out⟩
        exact I1.out
      · have e1 := HB.out.set_ 3 (.int .i64 (wrap64 (st + 1)))
        have E1 := Sh.mk (e1.far (p := ⟨g, j, none⟩) (fun e => hfg e) (.int .i64 r'))
        have e2 := (I1.out.far (p := ⟨f, 3, none⟩) H67.out.1 (.int .i64 (wrap64 (st + 1))))
        have E2 := Sh.mk (IRow.set e2 (show Value.slice (some ⟨g, 0, none⟩) up.length c = Value.slice (some ⟨g, 0, none⟩) up'.length c by rw [HLU.out]) (i := j) (by rw [HLU.out, HCL.out]; exact hj) (r' : Int))
        have hA2 : (Value.slice A2 rank.length k2).ownBlock ≠ some g := fun e => H8.out g rfl e
        have E3 := Sh.mk ((I2.out.far (p := ⟨f, 3, none⟩) H67.out.2 (.int .i64 (wrap64 (st + 1)))).far (p := ⟨g, j, none⟩) hA2 (.int .i64 r'))
        have E4 := Sh.mk (((C.out.setCell (p := ⟨f, 3, none⟩) (.inl ((H9.out f).2 (.inl rfl))) (.int .i64 (wrap64 (st + 1)))).setCell (p := ⟨g, j, none⟩) (.inl ((H9.out g).2 (.inr (.inl rfl)))) (.int .i64 r')).drew)
        have hrj : r' ≠ j := by
          intro h
          rcases HC1.out with ⟨h1, h2⟩ | ⟨h1, _, _⟩
          · omega
          · exact h1 h
        have E5 := Sh.mk (Way.compress HCH.out (by rw [HLU.out]; exact HCL.out) hj HJR.out hrj)
        have hlt : Sh (rt[u]? = some (r' : Int) ∧ d u < d j) := ⟨by
          rcases HC1.out with ⟨h1, h2⟩ | ⟨_, h1, h2⟩
          · omega
          · exact ⟨h1, h2⟩⟩
        clear e1 e2 hA2
        go_wp2
        go_region
        go_wp2
        go_roundw
        case rel => exact ⟨u, up'.set j (r' : Int), rfl, ⟨hul', hlt.out.1⟩, ⟨by simp [HLU.out], E5.out⟩, ⟨_, by have := E1.out.drew; simpa using this⟩, E2, E3, E4⟩
        case measure => simp only [intOf, Int.toNat_natCast]; exact hlt.out.2
theorem Forest_Root (w : World) (F : Nat → Prop) (f : Nat) (rt rank : List Int) (i r : Nat) (h : ForestAt w F f rt rank) (hr : rt[i]? = some (r : Int)) :
    Calls Tryz.prog 100 #[.pointer (some ⟨f, 0, none⟩), .int .i64 i] w fun e w' => e = .returned (.tuple #[.int .i64 r, .bool true]) ∧ ForestAt w' F f rt rank ∧ Chg F w w' := by
  have hi : i < rt.length := (List.getElem?_eq_some_iff.1 hr).1
  have hd : decide (0 ≤ (i : Int) ∧ (i : Int) < rt.length) = true := by simp; omega
  go_enter Tryz.func100, Tryz.ntmps100
  go_wp2_with (first
    | (go_at_call 101; refine (Forest_there w F f rt rank _ h).mono ?_; rintro e w1 ⟨rfl, rfl⟩)
    | (go_at_call 102; refine (Forest_find _ F f rt rank i r h hr).mono ?_; rintro e w1 ⟨rfl, hf, hc⟩))
  go_ret2
  exact ⟨rfl, hf, hc⟩
/-- Which of two roots comes to be the root of both. -/
def upper (rank : List Int) (a b : Nat) : Nat := if rank.getD a 0 < rank.getD b 0 then b else a
def lower (rank : List Int) (a b : Nat) : Nat := if rank.getD a 0 < rank.getD b 0 then a else b
def joinRank (rank : List Int) (a b : Nat) : List Int := if rank.getD a 0 = rank.getD b 0 then rank.set a (wrap64 (rank.getD a 0 + 1)) else rank
def joinRt (rt : List Int) (a b : Nat) : List Int := rt.map fun x => if x = (b : Int) then (a : Int) else x
def JoinPost (w : World) (F : Nat → Prop) (f : Nat) (rt rank : List Int) (a b : Nat) (e : Ending) (w' : World) : Prop :=
  (a = b → e = .returned (.tuple #[.int .i64 a, .bool false]) ∧ ForestAt w' F f rt rank ∧ Chg F w w') ∧
  (a ≠ b → e = .returned (.tuple #[.int .i64 (upper rank a b), .bool true]) ∧ ForestAt w' F f (joinRt rt (upper rank a b) (lower rank a b)) (joinRank rank a b) ∧ Chg F w w')
set_option maxHeartbeats 800000 in
theorem Forest_Join (w : World) (F : Nat → Prop) (f : Nat) (rt rank : List Int) (i k a b : Nat) (h : ForestAt w F f rt rank) (ha : rt[i]? = some (a : Int)) (hb : rt[k]? = some (b : Int)) :
    Calls Tryz.prog 87 #[.pointer (some ⟨f, 0, none⟩), .int .i64 i, .int .i64 k] w (JoinPost w F f rt rank a b) := by
  have hi : i < rt.length := (List.getElem?_eq_some_iff.1 ha).1
  have hk : k < rt.length := (List.getElem?_eq_some_iff.1 hb).1
  have hdi : decide (0 ≤ (i : Int) ∧ (i : Int) < rt.length) = true := by simp; omega
  have hdk : decide (0 ≤ (k : Int) ∧ (k : Int) < rt.length) = true := by simp; omega
  go_enter Tryz.func87, Tryz.ntmps87
  go_wp2_with fail
  refine (Forest_there w F f rt rank _ h).mono ?_
  rintro e w1 ⟨rfl, rfl⟩
  go_wp2_with fail
  refine (Forest_there _ F f rt rank _ h).mono ?_
  rintro e w1 ⟨rfl, rfl⟩
  go_wp2_with fail
  refine (Forest_find _ F f rt rank i a h ha).mono ?_
  rintro e w1 ⟨rfl, h1, c1⟩
  go_wp2_with fail
  refine (Forest_find _ F f rt rank k b h1 hb).mono ?_
  rintro e w2 ⟨rfl, h2, c2⟩
  have HA := Sh.mk ha
  have HBB := Sh.mk hb
  have C2 := Sh.mk (c1.trans c2 (fun k hk _ => .inl hk))
  have H2 := Sh.mk h2
  clear h h1 h2 c1 c2 ha hb hdi hdk
  by_cases hab : a = b
  · subst hab
    go_wp2
    go_ret2
    exact ⟨fun _ => ⟨rfl, H2.out, C2.out⟩, fun h => absurd rfl h⟩
  · obtain ⟨vu, vr, up, sets, steps, h1, h2, h3, h4, h5, h6, h7, h8, h9⟩ := H2.out.is
    have HC := Sh.mk h4
    obtain ⟨_, d, hd⟩ := h4
    obtain ⟨ui, _, hui, _⟩ := hd i hi
    obtain ⟨g, c, rfl, _, _, _⟩ := h2.at hui
    have hua := (Chains.root_root hd (d i + 1) i a (by omega) hi HA.out)
    have hub := (Chains.root_root hd (d k + 1) k b (by omega) hk HBB.out)
    obtain ⟨z1, z2, _, _⟩ := h2.cell hua.2
    obtain ⟨z3, z4, _, _⟩ := h2.cell hub.2
    have HUA := Sh.mk hua
    have HUB := Sh.mk hub
    have hal : a < rt.length := by obtain ⟨_, r', _, hr', _, hl, _⟩ := hd i hi; rw [HA.out] at hr'; injection hr' with hr'; omega
    have hbl : b < rt.length := by obtain ⟨_, r', _, hr', _, hl, _⟩ := hd k hk; rw [HBB.out] at hr'; injection hr' with hr'; omega
    have hRA : rank[a]? = some (rank.getD a 0) := by rw [List.getD_eq_getElem?_getD, List.getElem?_eq_getElem (by omega)]; rfl
    have hRB : rank[b]? = some (rank.getD b 0) := by rw [List.getD_eq_getElem?_getD, List.getElem?_eq_getElem (by omega)]; rfl
    obtain ⟨g2, k2, rfl, _, _, _⟩ := h3.at hRA
    obtain ⟨x1, x2, _, _⟩ := h3.cell hRA
    obtain ⟨y1, y2, _, _⟩ := h3.cell hRB
    generalize hx : rank.getD a 0 = x at *
    generalize hy : rank.getD b 0 = y at *
    have HX := Sh.mk hx
    have HY := Sh.mk hy
    have c0 := h1.cell 0
    have c1 := h1.cell 1
    have c2 := h1.cell 2
    have f2 := h1.frozen 2
    simp only [List.getElem?_cons_zero, List.getElem?_cons_succ] at c0 c1 c2
    have r1 := HC.out.len
    have hln := h2.len
    have hln2 := h3.len
    have e1 : (a : Int) < (rank.length : Int) := by omega
    have e2 : (b : Int) < (rank.length : Int) := by omega
    have e3 : (a : Int) < (up.length : Int) := by omega
    have e4 : (b : Int) < (up.length : Int) := by omega
    have e3' : a < up.length := by omega
    have e1' : a < rank.length := by omega
    have e4' : b < up.length := by omega
    have H1 := Sh.mk h1
    have I1 := Sh.mk h2
    have I2 := Sh.mk h3
    have HL := Sh.mk h5
    have H9 := Sh.mk h9
    have H8 := Sh.mk h8
    have H67 := Sh.mk (And.intro h6 h7)
    have HR1 := Sh.mk r1
    have gf : ¬ g = f := fun e => h6 (by rw [e]; rfl)
    have gf2 : ¬ g2 = f := fun e => h7 (by rw [e]; rfl)
    have fg : ¬ f = g := fun e => gf e.symm
    have fg2 : ¬ f = g2 := fun e => gf2 e.symm
    have gg : ¬ g = g2 := fun e => h8 g rfl (by rw [e]; rfl)
    have gg2 : ¬ g2 = g := fun e => gg e.symm
    clear h1 h2 h3 h5 h6 h7 h8 h9 r1 hx hy hui hd hua hub hRA hRB
    have hab1 : ((a : Int) == (b : Int)) = false := by simp; omega
    have n1 : (Value.slice (some ⟨g, 0, none⟩) up.length c).ownBlock ≠ some f := by simp [Value.ownBlock, gf]
    have n2 : (Value.slice (some ⟨g2, 0, none⟩) rank.length k2).ownBlock ≠ some f := by simp [Value.ownBlock, gf2]
    have n3 : (Value.slice (some ⟨g2, 0, none⟩) rank.length k2).ownBlock ≠ some g := by simp [Value.ownBlock, gg2]
    have n4 : (Value.slice (some ⟨g, 0, none⟩) up.length c).ownBlock ≠ some g2 := by simp [Value.ownBlock, gg]
    have N1 := Sh.mk n1
    have N2 := Sh.mk n2
    have N3 := Sh.mk n3
    have N4 := Sh.mk n4
    clear n1 n2 n3 n4
    have HI1 : Sh (∀ n, IRow (w2.drewN n) (.slice (some ⟨g, 0, none⟩) up.length c) up) := ⟨fun n => I1.out⟩
    have HI2 : Sh (∀ n, IRow (w2.drewN n) (.slice (some ⟨g2, 0, none⟩) rank.length k2) rank) := ⟨fun n => I2.out⟩
    have F1 := Sh.mk ((H9.out f).2 (.inl rfl))
    have F2 := Sh.mk ((H9.out g).2 (.inr (.inl rfl)))
    have F3 := Sh.mk ((H9.out g2).2 (.inr (.inr rfl)))
    by_cases hxy : x < y
    · have hne : (y == x) = false := by simp; omega
      have hne2 : (x == y) = false := by simp; omega
      have hdx : decide (x < y) = true := by simp [hxy]
      have HXY := Sh.mk hxy
      go_wp2
      go_quiet (fail)
      go_wp2
      go_quiet (fail)
      go_wp2
      go_ret2
      refine ⟨fun h => absurd h hab, fun _ => ?_⟩
      have eu : upper rank a b = b := by unfold upper; rw [HX.out, HY.out, if_pos HXY.out]
      have el : lower rank a b = a := by unfold lower; rw [HX.out, HY.out, if_pos HXY.out]
      have er : joinRank rank a b = rank := by unfold joinRank; rw [HX.out, HY.out, if_neg (by have := HXY.out; omega)]
      rw [eu, el, er]
      refine ⟨rfl, ⟨⟨_, _, up.set a (b : Int), wrap64 (sets - 1), steps, ?_, ?_, ?_, HC.out.join hbl hal HUB.out.1 HUA.out.1 (fun e => hab e.symm), by unfold joinRt; simp [HL.out], N1.out, N2.out, H8.out, H9.out⟩⟩, ?_⟩
      · exact (((H1.out.drewN _).far (p := ⟨g, a, none⟩) fg (.int .i64 b)).set_ 2 (.int .i64 (wrap64 (sets - 1))))
      · have h1 := HI1.out
        exact ((IRow.set (h1 _) rfl e3' (b : Int)).far (p := ⟨f, 2, none⟩) N1.out _)
      · have h1 := HI2.out
        exact (((h1 _).far (p := ⟨g, a, none⟩) N3.out _).far (p := ⟨f, 2, none⟩) N2.out _)
      · exact ((C2.out.drewN _).setCell (p := ⟨g, a, none⟩) (.inl F2.out) _).setCell (p := ⟨f, 2, none⟩) (.inl F1.out) _
    · have hdx : decide (x < y) = false := by simp; omega
      have hxy1 : upper rank a b = a := by unfold upper; rw [HX.out, HY.out, if_neg hxy]
      have hxy2 : lower rank a b = b := by unfold lower; rw [HX.out, HY.out, if_neg hxy]
      have HXY1 := Sh.mk hxy1
      have HXY2 := Sh.mk hxy2
      clear hxy1 hxy2
      by_cases hxe : x = y
      · have hne : (x == y) = true := by simp [hxe]
        have hne1 : (y == y) = true := by simp
        have er : joinRank rank a b = rank.set a (wrap64 (x + 1)) := by unfold joinRank; rw [HX.out, HY.out, if_pos hxe]
        have ER := Sh.mk er
        clear er hxe
        go_wp2
        go_quiet (fail)
        go_wp2
        go_quiet (fail)
        go_wp2
        go_ret2
        refine ⟨fun h => absurd h hab, fun _ => ?_⟩
        rw [HXY1.out, HXY2.out, ER.out]
        refine ⟨rfl, ⟨⟨_, _, up.set b (a : Int), wrap64 (sets - 1), steps, ?_, ?_, ?_, HC.out.join hal hbl HUA.out.1 HUB.out.1 hab, by unfold joinRt; simp [HL.out], N1.out, N2.out, H8.out, H9.out⟩⟩, ?_⟩
        · exact ((((H1.out.drewN _).far (p := ⟨g2, a, none⟩) fg2 _).far (p := ⟨g, b, none⟩) fg (.int .i64 a)).set_ 2 (.int .i64 (wrap64 (sets - 1))))
        · have h1 := HI1.out
          exact ((IRow.set ((h1 _).far (p := ⟨g2, a, none⟩) N4.out _) rfl e4' (a : Int)).far (p := ⟨f, 2, none⟩) N1.out _)
        · have h1 := HI2.out
          exact (((IRow.set (h1 _) rfl e1' (wrap64 (x + 1))).far (p := ⟨g, b, none⟩) N3.out _).far (p := ⟨f, 2, none⟩) N2.out _)
        · exact (((C2.out.drewN _).setCell (p := ⟨g2, a, none⟩) (.inl F3.out) _).setCell (p := ⟨g, b, none⟩) (.inl F2.out) _).setCell (p := ⟨f, 2, none⟩) (.inl F1.out) _
      · have hne : (x == y) = false := by simp [hxe]
        have er : joinRank rank a b = rank := by unfold joinRank; rw [HX.out, HY.out, if_neg hxe]
        have ER := Sh.mk er
        clear er
        go_wp2
        go_quiet (fail)
        go_wp2
        go_quiet (fail)
        go_wp2
        go_ret2
        refine ⟨fun h => absurd h hab, fun _ => ?_⟩
        rw [HXY1.out, HXY2.out, ER.out]
        refine ⟨rfl, ⟨⟨_, _, up.set b (a : Int), wrap64 (sets - 1), steps, ?_, ?_, ?_, HC.out.join hal hbl HUA.out.1 HUB.out.1 hab, by unfold joinRt; simp [HL.out], N1.out, N2.out, H8.out, H9.out⟩⟩, ?_⟩
        · exact (((H1.out.drewN _).far (p := ⟨g, b, none⟩) fg (.int .i64 a)).set_ 2 (.int .i64 (wrap64 (sets - 1))))
        · have h1 := HI1.out
          exact ((IRow.set (h1 _) rfl e4' (a : Int)).far (p := ⟨f, 2, none⟩) N1.out _)
        · have h1 := HI2.out
          exact (((h1 _).far (p := ⟨g, b, none⟩) N3.out _).far (p := ⟨f, 2, none⟩) N2.out _)
        · exact ((C2.out.drewN _).setCell (p := ⟨g, b, none⟩) (.inl F2.out) _).setCell (p := ⟨f, 2, none⟩) (.inl F1.out) _
end Go.Proofs.YtdppkdjgadiinaaGreat
