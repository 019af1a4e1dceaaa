/- Package unify: an equation comes in. -/
import Derived.Test.YtdppkdjgadiinaaGreatCok
set_option linter.unusedVariables false
set_option linter.unusedSimpArgs false
namespace Go.Proofs.YtdppkdjgadiinaaGreat
open Go.RowKit

def Equated (s : Cl) (l r : Ty) (s' : Cl) : Prop := Work ((s.lay l).lay r) [((l.addTo s.G).2, (r.addTo (s.lay l).G).2)] s'
def EqPost (w : World) (F : Nat → Prop) (c : Nat) (s : Cl) (l r : Ty) (e : Ending) (w' : World) : Prop :=
  ∃ s', Equated s l r s' ∧ e = .returned (.int .i64 (if s'.clash then 7 else 0)) ∧ ClStep w F c s' w'
theorem PRow.cap {w : World} {a : Addr} {n c : Nat} {ps : List (Nat × Nat)} (h : PRow w (.slice (some a) n c) ps) : n ≤ c ∧ c ≤ 9223372036854775807 := by
  rcases h.2 with ⟨e, _⟩ | ⟨g, cap, cur, e, _, _, h1, h2, _⟩
  · simp at e
  · simp only [Value.slice.injEq] at e
    obtain ⟨_, rfl, rfl⟩ := e
    exact ⟨h1, by simpa [maxLen] using h2⟩
structure EqLoop (w : World) (F : Nat → Prop) (c : Nat) (s0 : Cl) (w0 : List (Nat × Nat)) (s : Cl) (wt : List (Nat × Nat)) (v : Value) (wr : World) : Prop where
  goes : ∀ t, Work s wt t → Work s0 w0 t
  ok : Cok s
  clash : s.clash = false
  g : s.G.1.length ≤ 1000000
  lt : ∀ p, p ∈ wt → p.1 < s.G.1.length ∧ p.2 < s.G.1.length
  len : wt.length + 10 * nroots s.rt ≤ 100000000
  is : ∃ F', ClAt wr F' c s ∧ Chg F w wr ∧ (∀ k, F' k → F k ∨ w.heap.size ≤ k) ∧ (∀ k, v.ownBlock = some k → w.heap.size ≤ k ∧ ¬ F' k)
  row : PRow wr v wt
theorem exists_least {p : Nat → Prop} (h : ∃ n, p n) : ∃ n, p n ∧ ∀ m, p m → n ≤ m := by
  obtain ⟨n, hn⟩ := h
  induction n using Nat.strongRecOn with
  | _ n ih =>
    by_cases hx : ∃ m, m < n ∧ p m
    · obtain ⟨m, hm, hp⟩ := hx
      exact ih m hm hp
    · exact ⟨n, hn, fun m hm => Nat.le_of_not_lt fun e => hx ⟨m, e, hm⟩⟩
open Classical in
noncomputable def leastOf (p : Nat → Prop) : Nat := if h : ∃ n, p n then Classical.choose (exists_least h) else 0
theorem leastOf_spec {p : Nat → Prop} (h : ∃ n, p n) : p (leastOf p) := by
  unfold leastOf
  rw [dif_pos h]
  exact (Classical.choose_spec (exists_least h)).1
theorem leastOf_le {p : Nat → Prop} {n : Nat} (h : p n) : leastOf p ≤ n := by
  unfold leastOf
  rw [dif_pos ⟨n, h⟩]
  exact (Classical.choose_spec (exists_least ⟨n, h⟩)).2 n h
def EqM (w : World) (F : Nat → Prop) (c : Nat) (s0 : Cl) (w0 : List (Nat × Nat)) (v : Value) (wr : World) (m : Nat) : Prop := ∃ s wt, EqLoop w F c s0 w0 s wt v wr ∧ 10 * nroots s.rt + wt.length = m
theorem nroots_le (rt : List Int) : nroots rt ≤ rt.length := by
  unfold nroots
  exact Nat.le_trans List.countP_le_length (by simp)
theorem Clo_Err (w : World) (F : Nat → Prop) (c : Nat) (s : Cl) (h : ClAt w F c s) :
    Calls Tryz.prog 65 #[.pointer (some ⟨c, 0, none⟩)] w fun e w' => e = .returned (.int .i64 (if s.clash then 7 else 0)) ∧ w' = w := by
  obtain ⟨FG, FF, g, m, f, vw, h, hF⟩ := h.is
  have c4 := h.blk.cell 4
  simp only [List.getElem?_cons_zero, List.getElem?_cons_succ] at c4
  clear h hF
  go_enter Tryz.func65, Tryz.ntmps65
  cases hc : s.clash with
  | true =>
    rw [hc] at c4
    go_wp2
    go_ret
    exact ⟨rfl, rfl⟩
  | false =>
    rw [hc] at c4
    go_wp2
    go_ret
    exact ⟨rfl, rfl⟩
set_option maxRecDepth 100000 in
set_option maxHeartbeats 1000000 in
theorem Clo_Equate (l r : Ty) (w : World) (F S : Nat → Prop) (c : Nat) (s : Cl) (vl vr : Value) (h : ClAt w F c s) (hk : Cok s) (hcl : s.clash = false) (hpl : PartsAt w S l vl) (hpr : PartsAt w S r vr) (hS : ∀ k, S k → k < w.heap.size → ¬ F k)
    (tl : l.thin) (tr : r.thin) (rl : l.right = true) (rr : r.right = true) (hsz : s.G.1.length + l.size + r.size ≤ 1000000) :
    Calls Tryz.prog 49 #[.pointer (some ⟨c, 0, none⟩), .agg #[.int .i64 l.kind, .int .i64 l.n, vl], .agg #[.int .i64 r.kind, .int .i64 r.n, vr]] w (EqPost w F c s l r) := by
  obtain ⟨Al, cpl, rfl, _⟩ := hpl.shape
  obtain ⟨Ar, cpr, rfl, _⟩ := hpr.shape
  have hal := ((Below.refl w.heap.size w).alloc (Nat.le_refl _) (.cells #[.int .i64 l.kind, .int .i64 l.n, .slice Al l.parts.length cpl] 36)).alloc (by simp) (.cells #[.int .i64 r.kind, .int .i64 r.n, .slice Ar r.parts.length cpr] 36)
  have b1 := (Blk.new w 36 [.int .i64 l.kind, .int .i64 l.n, .slice Al l.parts.length cpl]).alloc (.cells #[.int .i64 r.kind, .int .i64 r.n, .slice Ar r.parts.length cpr] 36)
  have b2 := Blk.new' (w.alloc (.cells #[.int .i64 l.kind, .int .i64 l.n, .slice Al l.parts.length cpl] 36)) 36 [.int .i64 r.kind, .int .i64 r.n, .slice Ar r.parts.length cpr] (B := w.heap.size + 1) (by simp)
  obtain ⟨w0, hw0⟩ : ∃ w0, w0 = (w.alloc (.cells #[.int .i64 l.kind, .int .i64 l.n, .slice Al l.parts.length cpl] 36)).alloc (.cells #[.int .i64 r.kind, .int .i64 r.n, .slice Ar r.parts.length cpr] 36) := ⟨_, rfl⟩
  have H := Sh.mk h
  have HK := Sh.mk hk
  have HCL := Sh.mk hcl
  have HPL := Sh.mk hpl.bound
  have HPR := Sh.mk hpr.bound
  have HS := Sh.mk hS
  have HT := Sh.mk (And.intro tl tr)
  have HR := Sh.mk (And.intro rl rr)
  have HZ := Sh.mk hsz
  have HAL := Sh.mk hal
  have B1 := Sh.mk b1
  have B2 := Sh.mk b2
  obtain ⟨FG0, FF0, g0, m0, f0, vw0, hp0, hF0⟩ := (h.keep hal).is
  have c4 := hp0.blk.cell 4
  simp only [List.getElem?_cons_zero, List.getElem?_cons_succ] at c4
  rw [hcl] at c4
  clear h hk hcl hpl hpr hS tl tr rl rr hsz hal b1 b2 hp0 hF0 hw0
  go_enter Tryz.func49, Tryz.ntmps49
  go_wp2
  go_step3
  go_wp2_with fail
  refine (Right_calls l _ _ _ (HPL.out.below HAL.out)).mono ?_
  rintro e w1 ⟨rfl, hb⟩
  rw [HR.out.1]
  have y0 := (B2.out.keep hb).cell 0
  have y1 := (B2.out.keep hb).cell 1
  have y2 := (B2.out.keep hb).cell 2
  simp only [List.getElem?_cons_zero, List.getElem?_cons_succ] at y0 y1 y2
  have HAL1 := Sh.mk (below_then HAL.out hb)
  have B1' := Sh.mk (B1.out.keep hb)
  have B2' := Sh.mk (B2.out.keep hb)
  clear hb
  go_wp2_with fail
  refine (Right_calls r _ _ _ (HPR.out.below HAL1.out)).mono ?_
  rintro e w2 ⟨rfl, hb⟩
  rw [HR.out.2]
  have HAL2 := Sh.mk (below_then HAL1.out hb)
  have C1 := Sh.mk ((B1'.out.keep hb).drew)
  have C2 := Sh.mk ((B2'.out.keep hb).drew)
  clear hb y0 y1 y2 c4
  go_upto_region 7 with (fail)
  obtain ⟨s0, hs0⟩ : ∃ s0, s0 = (s.lay l).lay r := ⟨_, rfl⟩
  obtain ⟨il, hil⟩ : ∃ il, il = (l.addTo s.G).2 := ⟨_, rfl⟩
  obtain ⟨ir, hir⟩ : ∃ ir, ir = (r.addTo (s.lay l).G).2 := ⟨_, rfl⟩
  have HS0 := Sh.mk hs0
  have HIL := Sh.mk hil
  have HIR := Sh.mk hir
  clear hs0 hil hir
  go_cut [7] from 28 to 35 (fun s7 wx => ∃ A7 c7, s7 = .slice A7 1 c7 ∧ Sh (EqLoop w F c s0 [(il, ir)] s0 [(il, ir)] (.slice A7 1 c7) wx))
  case first =>
    have HH := Sh.mk (H.out.keep HAL2.out.drew)
    have q0 := C1.out.cell 0
    have q1 := C1.out.cell 1
    have q2 := C1.out.cell 2
    have r0 := C2.out.cell 0
    have r1 := C2.out.cell 1
    have r2 := C2.out.cell 2
    simp only [List.getElem?_cons_zero, List.getElem?_cons_succ] at q0 q1 q2 r0 r1 r2
    have TOK : Sh (1 = 1) := ⟨rfl⟩
    have HSD : Sh (∀ (w' : World) k, (fun k => S k ∧ k < w.heap.size) k → k < w'.heap.size → ¬ F k) := ⟨fun w' k hk _ => HS.out k hk.1 hk.2⟩
    have HLY := Sh.mk (Clo_lay l w2.drew F (fun k => S k ∧ k < w.heap.size) c s _ HH.out (HPL.out.below HAL2.out.drew) (HSD.out _) HK.out.vars HT.out.1 HR.out.1 (by have := HZ.out; omega) HK.out.whl HK.out.rtl)
    rw [← HIL.out] at HLY
    go_region_held3 (fun w' => w'.cell? ⟨w.heap.size, 0, none⟩ = some (.int .i64 l.kind) ∧ w'.cell? ⟨w.heap.size, 1, none⟩ = some (.int .i64 l.n) ∧ w'.cell? ⟨w.heap.size, 2, none⟩ = some (.slice Al l.parts.length cpl) ∧
        w'.cell? ⟨w.heap.size + 1, 0, none⟩ = some (.int .i64 r.kind) ∧ w'.cell? ⟨w.heap.size + 1, 1, none⟩ = some (.int .i64 r.n) ∧ w'.cell? ⟨w.heap.size + 1, 2, none⟩ = some (.slice Ar r.parts.length cpr)) (first | exact ⟨q0, q1, q2, r0, r1, r2⟩ | exact ⟨(D3.out.alloc _).cell 0, (D3.out.alloc _).cell 1, (D3.out.alloc _).cell 2, (D4.out.alloc _).cell 0, (D4.out.alloc _).cell 1, (D4.out.alloc _).cell 2⟩) (first
      | (go_at_call 62; (first | (clear TOK; refine HLY.out.mono ?_; rintro e w3 ⟨rfl, ⟨F1, hC1, hD1, hN1⟩⟩; have hf1 : ¬ F w.heap.size := fun e => by { have := H.out.lt _ e; omega }; have hf2 : ¬ F (w.heap.size + 1) := fun e => by { have := H.out.lt _ e; omega }; have D1 := Sh.mk (show Blk w3 _ _ _ from (hD1.block _ C1.out.lt hf1).trans C1.out); have D2 := Sh.mk (show Blk w3 _ _ _ from (hD1.block _ C2.out.lt hf2).trans C2.out); have q0 := D1.out.cell 0; have q1 := D1.out.cell 1; have q2 := D1.out.cell 2; have r0 := D2.out.cell 0; have r1 := D2.out.cell 1; have r2 := D2.out.cell 2; (simp only [List.getElem?_cons_zero, List.getElem?_cons_succ] at q0 q1 q2 r0 r1 r2); have L1 := Cl.layAt HK.out l; have K1 := HK.out.lay HR.out.1; have HC1 := Sh.mk hC1; have HD1 := Sh.mk hD1; have HN1 := Sh.mk hN1; have HPR3 := Sh.mk (PartsAt.chg (HPR.out.below HAL2.out.drew) hD1 (fun k hk _ => HS.out k hk.1 hk.2)); have HK1 := Sh.mk K1; have HL1 := Sh.mk L1; clear hC1 hD1 hN1 hf1 hf2 L1 K1) | (refine (Clo_lay r w3 F1 (fun k => S k ∧ k < w.heap.size) c (s.lay l) _ HC1.out HPR3.out (fun k hk _ e => (HN1.out k e).elim (fun e => HS.out k hk.1 hk.2 e) (fun e => by { have := HAL2.out.drew.size; have := hk.2; omega })) HK1.out.vars HT.out.2 HR.out.2 (by { have := HZ.out; have := (add_law l s.G HK.out.vars).2.1; rw [HL1.out.g]; omega }) HK1.out.whl HK1.out.rtl).mono ?_; rw [← HIR.out, ← HS0.out]; rintro e w4 ⟨rfl, ⟨F2, hC2, hD2, hN2⟩⟩; have HC2 := Sh.mk hC2; have HD2 := Sh.mk hD2; have HN2 := Sh.mk hN2; have hf1 : ¬ F1 w.heap.size := fun e => (HN1.out _ e).elim (fun e => by { have := H.out.lt _ e; omega }) (fun e => by { have := C1.out.lt; omega }); have hf2 : ¬ F1 (w.heap.size + 1) := fun e => (HN1.out _ e).elim (fun e => by { have := H.out.lt _ e; omega }) (fun e => by { have := C2.out.lt; omega }); have D3 := Sh.mk (show Blk w4 _ _ _ from (HD2.out.block _ D1.out.lt hf1).trans D1.out); have D4 := Sh.mk (show Blk w4 _ _ _ from (HD2.out.block _ D2.out.lt hf2).trans D2.out); have q0 := D3.out.cell 0; have q1 := D3.out.cell 1; have q2 := D3.out.cell 2; have r0 := D4.out.cell 0; have r1 := D4.out.cell 1; have r2 := D4.out.cell 2; (simp only [List.getElem?_cons_zero, List.getElem?_cons_succ] at q0 q1 q2 r0 r1 r2); clear hC2 hD2 hN2 hf1 hf2)))
      | fail)
    all_goals
      have hk1 := HK1.out
      have hk2 := hk1.lay HR.out.2
      have L2 := Cl.layAt hk1 r
      rw [← HS0.out] at hk2 L2
      obtain ⟨l1, l2, l3, l4⟩ := add_law l s.G HK.out.vars
      obtain ⟨m1, m2, m3, m4⟩ := add_law r (s.lay l).G hk1.vars
      have e1 := HL1.out.g
      have e2 := L2.g
      have e3 := HZ.out
      have e4 := hk2.rtl
      have e5 := nroots_le s0.rt
      have hsz := HAL2.out.drew.size
      have hfin : Sh (EqLoop w F c s0 [(il, ir)] s0 [(il, ir)] (.slice (some ⟨w4.heap.size, 0, none⟩) 1 1) (w4.alloc (.cells #[.int .i64 il, .int .i64 ir] 98))) := ⟨by
        refine ⟨fun t h => h, hk2, by rw [L2.clash, HL1.out.clash]; exact HCL.out, by rw [e2]; rw [e1] at m2 ⊢; omega, ?_, by rw [e2] at e4; rw [e1] at m2 e4; simp only [List.length_singleton]; omega, ?_, PRow.lit w4 (il, ir)⟩
        · intro p hp
          simp only [List.mem_singleton] at hp
          subst hp
          simp only
          rw [e2, HIL.out, HIR.out]
          rw [e1] at m1
          exact ⟨by rw [e1]; omega, m4⟩
        · refine ⟨F2, HC2.out.keep ((Below.refl _ _).alloc (Nat.le_refl _) _), (((Chg.of_below HAL2.out).drew.trans HD1.out (fun k hk _ => .inl hk)).trans HD2.out (fun k hk _ => ?_)).alloc _, fun k hk => ?_, fun k hk => ?_⟩
          · rcases HN1.out k hk with e | e
            · exact .inl e
            · exact .inr (Nat.le_trans hsz e)
          · rcases HN2.out k hk with e | e
            · rcases HN1.out k e with e | e
              · exact .inl e
              · exact .inr (Nat.le_trans hsz e)
            · exact .inr (Nat.le_trans hsz (Nat.le_trans HD1.out.size e))
          · have hk' : w4.heap.size = k := by simpa [Value.ownBlock] using hk
            subst hk'
            exact ⟨Nat.le_trans hsz (Nat.le_trans HD1.out.size HD2.out.size), fun e => by have := HC2.out.lt _ e; omega⟩⟩
      clear hk1 hk2 L2 l1 l2 l3 l4 m1 m2 m3 m4 e1 e2 e3 e4 e5 hsz
      go_wp2
      go_meet
      exact ⟨_, _, rfl, hfin⟩
  obtain ⟨A7, c7, rfl, HL⟩ := hcut
  clear HAL HAL1 HAL2 B1 B2 B1' B2' C1 C2 HPL HPR HS HT
  go_wp2
  go_step3
  go_upto_block 1 with (fail)
  go_cut [] from 7 to 70 (fun wx => Sh (∃ s', Work s0 [(il, ir)] s' ∧ ClStep w F c s' wx))
  case first =>
    go_wp2
    go_loopw [7] (fun v7 wr => ∃ A n cp, v7 = .slice A n cp ∧ Sh (∃ m, EqM w F c s0 [(il, ir)] (.slice A n cp) wr m)) (fun v7 wr => leastOf (EqM w F c s0 [(il, ir)] v7 wr))
    case atStart => exact ⟨A7, 1, c7, rfl, ⟨_, _, _, HL.out, rfl⟩⟩
    case round =>
      obtain ⟨A, n, cp, rfl, hex⟩ := hrel
      obtain ⟨s1, wt, hE, hm⟩ := leastOf_spec hex.out
      have HM := Sh.mk hm
      have HE := Sh.mk hE
      clear hm hE hex
      obtain ⟨A', c', e⟩ := HE.out.row.shape
      simp only [Value.slice.injEq] at e
      have hn := e.2.1
      clear e A' c'
      subst hn
      by_cases hwt : wt = []
      · subst hwt
        go_wp2
        go_meet
        obtain ⟨F1, a1, a2, a3, _⟩ := HE.out.is
        exact ⟨s1, HE.out.goes _ (.done _), ⟨F1, a1, a2, a3⟩⟩
      · obtain ⟨wt', p, rfl⟩ : ∃ wt' p, wt = wt' ++ [p] := ⟨wt.dropLast, wt.getLast hwt, (List.dropLast_concat_getLast hwt).symm⟩
        clear hwt
        obtain ⟨F1, a1, a2, a3, a4⟩ := HE.out.is
        have hrow := HE.out.row
        have hlen := HE.out.len
        obtain ⟨k, hkk⟩ : ∃ k, k = wt'.length := ⟨_, rfl⟩
        have hkl : (wt' ++ [p]).length = k + 1 := by simp [hkk]
        rw [hkl] at hrow a4 hlen ⊢
        have hk1 : k ≤ 1000000000 := by omega
        obtain ⟨g7, c7', e, _, _⟩ := hrow.at (i := k) (p := p) (by rw [hkk, List.getElem?_append_right (Nat.le_refl _)]; simp)
        simp only [Value.slice.injEq] at e
        have hA := e.1
        clear e c7'
        subst hA
        obtain ⟨a5, a6⟩ := a4 g7 rfl
        obtain ⟨hp1, hp2⟩ := HE.out.lt p (by simp)
        have hck := HE.out.ok.tick
        obtain ⟨x1, x2, x3⟩ := hck.rtN hp1
        obtain ⟨y1, y2, y3⟩ := hck.rtN hp2
        obtain ⟨ra, hra⟩ : ∃ ra, ra = rtN s1.tick p.1 := ⟨_, rfl⟩
        obtain ⟨rb, hrb⟩ : ∃ rb, rb = rtN s1.tick p.2 := ⟨_, rfl⟩
        rw [← hra] at x1 x2 x3
        rw [← hrb] at y1 y2 y3
        have hcp := hrow.cap
        have hcp1 : k ≤ cp := by omega
        have hcp2 : cp ≤ 9223372036854775807 := hcp.2
        clear hcp
        have HA1 := Sh.mk a1
        have HA2 := Sh.mk a2
        have HA3 := Sh.mk a3
        have HA5 := Sh.mk (And.intro a5 a6)
        have HROW := Sh.mk hrow
        have HCK := Sh.mk hck
        have HX := Sh.mk (And.intro x1 y1)
        have HX3 := Sh.mk (And.intro x3 y3)
        have HKK := Sh.mk hkk
        have HKL := Sh.mk hkl
        have HLEN := Sh.mk hlen
        have HRA := Sh.mk (And.intro hra hrb)
        have HXL := Sh.mk (And.intro x2 y2)
        clear a1 a2 a3 a4 a5 a6 hrow hck x1 x2 x3 y1 y2 y3 hkk hkl hlen hra hrb hp1 hp2
        go_upto_region 12 with (first
          | (go_at_call 63; refine (Clo_tick _ F1 c s1 HA1.out).mono ?_; rintro e w3 ⟨rfl, hc3, hd3⟩; have hr3 := HROW.out.step (w' := w3) (fun b hb => hd3.block b (HROW.out.lt b hb) (fun e => HA5.out.2 ((show g7 = b from (by simpa [Value.ownBlock] using hb)) ▸ e))); obtain ⟨g7', c7', e, z1, z2⟩ := hr3.at (i := k) (p := p) (by rw [HKK.out, List.getElem?_append_right (Nat.le_refl _)]; simp); (simp only [Value.slice.injEq, Option.some.injEq, Addr.mk.injEq, and_true] at e); have e1 := e.1; clear e; subst e1; have HC3 := Sh.mk hc3; have HD3 := Sh.mk hd3; have HR3 := Sh.mk hr3; clear hc3 hd3 hr3))
        have hxa : s1.tick.whole[ra]? = some (s1.tick.whole.getD ra 0) := by rw [List.getD_eq_getElem?_getD, List.getElem?_eq_getElem (by have := HCK.out.whl; have := HXL.out.1; omega : ra < s1.tick.whole.length)]; rfl
        have hxb : s1.tick.whole[rb]? = some (s1.tick.whole.getD rb 0) := by rw [List.getD_eq_getElem?_getD, List.getElem?_eq_getElem (by have := HCK.out.whl; have := HXL.out.2; omega : rb < s1.tick.whole.length)]; rfl
        have HJC := Sh.mk (Clo_join (w3.alloc (.cells #[.int .i64 p.1, .int .i64 p.2] 98)) F1 c s1.tick p.1 p.2 ra rb _ _ (HC3.out.keep ((Below.refl _ _).alloc (Nat.le_refl _) _)) HX.out.1 HX.out.2 hxa hxb (HCK.out.whole hxa) (HCK.out.whole hxb) (by have := HCK.out.whl; have := HE.out.g; simp only [Cl.tick] at *; omega))
        obtain ⟨J, hJ⟩ : ∃ J, J = s1.tick.join ra rb := ⟨_, rfl⟩
        have HJ := Sh.mk hJ
        have hjok := HCK.out.join HX3.out.1 HX3.out.2
        rw [← hJ] at hjok
        obtain ⟨sj, mr, ok⟩ := J
        have HJO := Sh.mk hjok
        clear hxa hxb hJ hjok z1 z2
        go_upto_region 13 with (first
          | (go_at_call 64; refine HJC.out.mono ?_; unfold CloJoin; rw [← HJ.out]; rintro e w4 ⟨v4, rfl, j1, j2, j3, j4⟩; obtain ⟨A4, c4, rfl⟩ := j1.shape; have J1 := Sh.mk j1; have J2 := Sh.mk j2; have J3 := Sh.mk j3; have J4 := Sh.mk j4; clear j1 j2 j3 j4))
        cases ok with
        | false =>
          obtain ⟨FG, FF, g, m, f, vw, q, qF⟩ := J3.out.is
          have k4 := q.blk.cell 4
          have f4 := q.blk.frozen 4
          simp only [List.getElem?_cons_zero, List.getElem?_cons_succ] at k4
          have HQ := Sh.mk q
          have HQF := Sh.mk qF
          clear q qF
          go_wp2
          go_meet
          have e1 : s1.tick.join (rtN s1 p.1) (rtN s1 p.2) = (sj, mr, false) := by
            rw [show rtN s1 p.1 = ra from HRA.out.1.symm, show rtN s1 p.2 = rb from HRA.out.2.symm]
            exact HJ.out.symm
          have hw := Work.clash s1 wt' p (by rw [e1])
          rw [e1] at hw
          have hc1 : F1 c := (HQF.out c).2 (.inl rfl)
          exact ⟨_, HE.out.goes _ hw, ⟨F1, ⟨⟨FG, FF, g, m, f, vw, HQ.out.field4 true, HQF.out⟩⟩, (((HA2.out.trans HD3.out (fun b hb _ => HA3.out b hb)).alloc _).trans J4.out (fun b hb _ => HA3.out b hb)).setCell (p := ⟨c, 4, none⟩) (HA3.out c hc1) _, HA3.out⟩⟩
        | true =>
          have hg7 : ∀ b, (Value.slice (some ⟨g7, 0, none⟩) k cp).ownBlock = some b → b = g7 := fun b hb => by simpa [Value.ownBlock] using hb.symm
          have h74 : (w3.alloc (.cells #[.int .i64 p.1, .int .i64 p.2] 98)).heap[g7]? = w3.heap[g7]? := Below.heap_alloc _ _ _ (HR3.out.lt g7 rfl)
          have hal7 : g7 < (w3.alloc (.cells #[.int .i64 p.1, .int .i64 p.2] 98)).heap.size := by have := HR3.out.lt g7 rfl; simp; omega
          have HPOP := Sh.mk ((HR3.out.pop HKK.out).step (w' := w4) (fun b hb => by rw [hg7 b hb]; exact (J4.out.block g7 hal7 HA5.out.2).trans h74))
          have H16 := Sh.mk (show (wt'.length + mr.length) * 16 ≤ 140737488355328 by have := HLEN.out; have := HKK.out; have := HJO.out.2.2.2.2.2; omega)
          have HG7 := Sh.mk hg7
          clear hg7 h74 hal7
          go_wp2_with (at_builtin; refine append_pairs (W := w4) rfl (.tmp 68) (.tmp 69) rfl (.slice (some ⟨g7, 0, none⟩) k cp) wt' mr (.slice A4 mr.length c4) rfl rfl HPOP.out J1.out H16.out ?_; intro A5 c5 w5 hI hg hv; have I5 := Sh.mk hI; have G5 := Sh.mk hg; have V5 := Sh.mk hv; clear hI hg hv)
          have e1 : s1.tick.join (rtN s1 p.1) (rtN s1 p.2) = (sj, mr, true) := by
            rw [show rtN s1 p.1 = ra from HRA.out.1.symm, show rtN s1 p.2 = rb from HRA.out.2.symm]
            exact HJ.out.symm
          obtain ⟨o1, o2, o3, o4, o5, o6⟩ := HJO.out
          have hn1 : nroots s1.tick.rt = nroots s1.rt := rfl
          have hlen := HLEN.out
          have hkk := HKK.out
          have hnew : EqLoop w F c s0 [(il, ir)] sj (wt' ++ mr) (.slice A5 (wt'.length + mr.length) c5) w5 := by
            refine ⟨fun t ht => HE.out.goes t (Work.more s1 wt' p t (by rw [e1]) (by rw [e1]; exact ht)), o1, by rw [o3]; exact HE.out.clash, by rw [o2]; exact HE.out.g, ?_, by rw [List.length_append]; omega, ?_, I5.out⟩
            · intro q hq
              rw [o2]
              rcases List.mem_append.1 hq with h | h
              · exact HE.out.lt q (List.mem_append_left _ h)
              · exact o4 q h
            · refine ⟨F1, J3.out.step (fun b hb => G5.out.block b (J3.out.lt b hb) (fun e => HA5.out.2 ((HG7.out b e.symm) ▸ hb))) G5.out.size, ((((HA2.out.trans HD3.out (fun b hb _ => HA3.out b hb)).alloc _).trans J4.out (fun b hb _ => HA3.out b hb)).grown G5.out (fun b hb => .inr ((HG7.out b hb) ▸ HA5.out.1))), HA3.out, fun b hb => ?_⟩
              rcases V5.out with e | e
              · have hb7 := HG7.out b (e.symm.trans hb)
                rw [hb7]; exact HA5.out
              · have e2 := hb.symm.trans e
                injection e2 with e2
                have z1 := HA2.out.size
                have z2 := HD3.out.size
                have z3 := J4.out.size
                simp at z3
                exact ⟨by omega, fun e3 => by have := J3.out.lt b e3; omega⟩
          have HNEW := Sh.mk hnew
          have hm := HM.out
          rw [HKL.out] at hm
          have HM2 := Sh.mk (show 10 * nroots sj.rt + (wt' ++ mr).length < leastOf (EqM w F c s0 [(il, ir)] (.slice (some ⟨g7, 0, none⟩) (k + 1) cp) wr) by rw [← hm, List.length_append]; omega)
          clear hnew hm o1 o2 o3 o4 o5 o6 hn1 hlen hkk e1
          go_roundw
          case rel => exact ⟨A5, _, c5, rfl, ⟨_, sj, wt' ++ mr, HNEW.out, rfl⟩⟩
          case measure => exact Nat.lt_of_le_of_lt (leastOf_le ⟨sj, wt' ++ mr, HNEW.out, rfl⟩) HM2.out
  obtain ⟨⟨s', hW, ⟨F1, h1, h2, h3⟩⟩⟩ := hcut
  have HW := Sh.mk hW
  have H1 := Sh.mk h1
  have H2 := Sh.mk h2
  have H3 := Sh.mk h3
  have HERR := Sh.mk (fun wx (hx : ClAt wx F1 c s') => Clo_Err wx F1 c s' hx)
  obtain ⟨rv, hrv⟩ : ∃ rv : Int, rv = if s'.clash then 7 else 0 := ⟨_, rfl⟩
  rw [← hrv] at HERR
  have HRV := Sh.mk hrv
  clear hW h1 h2 h3 hrv
  go_wp2_with (first | (go_at_call 65; refine (HERR.out _ H1.out).mono ?_; rintro e w3 ⟨rfl, rfl⟩))
  go_ret
  refine ⟨s', ?_, by rw [← HRV.out]; rfl, ⟨F1, H1.out, H2.out, H3.out⟩⟩
  unfold Equated
  rw [← HS0.out, ← HIL.out, ← HIR.out]
  exact HW.out
end Go.Proofs.YtdppkdjgadiinaaGreat
