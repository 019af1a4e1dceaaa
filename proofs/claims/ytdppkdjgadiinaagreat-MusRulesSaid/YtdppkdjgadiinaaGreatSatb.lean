/- Plain: equations can be solved just if the closure says so. -/
import Derived.Test.YtdppkdjgadiinaaGreatSat
set_option linter.unusedVariables false
set_option linter.unusedSimpArgs false
namespace Go.Proofs.YtdppkdjgadiinaaGreat
open Go.RowKit

/-- No node's kind is none. -/
def Kd (nodes : List Nd) : Prop := ∀ (i : Nat) (nd : Nd), nodes[i]? = some nd → nd.kind ≠ 0
theorem Kd.push {nodes : List Nd} (h : Kd nodes) {x : Nd} (hx : x.kind ≠ 0) : Kd (nodes ++ [x]) := by
  intro i nd hi
  rcases Nat.lt_or_ge i nodes.length with hl | hl
  · rw [List.getElem?_append_left hl] at hi
    exact h i nd hi
  · rw [List.getElem?_append_right hl] at hi
    have h0 : i - nodes.length = 0 := by
      have := (List.getElem?_eq_some_iff.1 hi).1
      simp at this
      omega
    rw [h0] at hi
    simp only [List.getElem?_cons_zero, Option.some.injEq] at hi
    subst hi
    exact hx
theorem Ty.right_kind {k n : Int} {ps : List Ty} (h : (Ty.mk k n ps).right = true) : k ≠ 0 := by
  rw [Ty.right_eq] at h
  simp only [Ty.kind, Ty.n, Ty.parts, Bool.and_eq_true] at h
  rintro rfl
  have h1 := h.1
  unfold Ty.plainB at h1
  simp at h1
theorem addAll_kd : ∀ (ps : List Ty), (∀ p, p ∈ ps → ∀ G : GSt, p.right = true → Kd G.1 → Kd (p.addTo G).1.1) → (∀ p, p ∈ ps → p.right = true) → ∀ G : GSt, Kd G.1 → Kd (Ty.addAll ps G).1.1
  | [], _, _, G, h => by rw [Ty.addAll]; exact h
  | p :: ps, ih, hr, G, h => by
    rw [Ty.addAll]
    exact addAll_kd ps (fun q hq => ih q (List.mem_cons_of_mem _ hq)) (fun q hq => hr q (List.mem_cons_of_mem _ hq)) _ (ih p List.mem_cons_self G (hr p List.mem_cons_self) h)
theorem add_kd : ∀ (t : Ty) (G : GSt), t.right = true → Kd G.1 → Kd (t.addTo G).1.1 := by
  apply Ty.ind_
  intro k n ps ih G hr hG
  rw [Ty.addTo]
  split
  · split
    · exact hG
    · exact hG.push (show (1 : Int) ≠ 0 by decide)
  · exact (addAll_kd ps ih (Ty.right_cases hr).2 G hG).push (Ty.right_kind hr)
/-- What holds behind some equations. -/
structure SInv (s : Cl) (es : List Eqn) : Prop where
  ok : Cok s
  ci : CI s
  co : Cong s []
  gv : GVar s.G
  kd : Kd s.G.1
  clash : s.clash = false
  eqs : ∀ e, e ∈ es → ∃ il ir, il < s.n ∧ ir < s.n ∧ rtN s il = rtN s ir ∧ ∀ (σ : Int → Ty) (val : Nat → Ty), NodeEq s.G.1 σ val → val il = e.l.inst σ ∧ val ir = e.r.inst σ
theorem SInv.new : SInv Cl.new [] := ⟨Cl.new_ok, fun r hr => absurd hr (Nat.not_lt_zero _), fun f _ i hi => absurd hi (Nat.not_lt_zero _), ⟨fun n i h => by simp [Cl.new, mget_nil] at h, fun i nd h => by simp [Cl.new] at h⟩, fun i nd h => by simp [Cl.new] at h, rfl, fun e he => by simp at he⟩
/-- Both sides are laid. -/
structure Laid (s : Cl) (e : Eqn) (s2 : Cl) (il ir : Nat) : Prop where
  ok : Cok s2
  le : s.n ≤ s2.n
  old : ∀ i, i < s.n → rtN s2 i = rtN s i
  new : ∀ i, s.n ≤ i → i < s2.n → rtN s2 i = i
  ci : CI s2
  co : Cong s2 []
  gv : GVar s2.G
  pre : s.G.1 <+: s2.G.1
  ilt : il < s2.n
  irt : ir < s2.n
  sem : ∀ (σ : Int → Ty) (val : Nat → Ty), NodeEq s2.G.1 σ val → val il = e.l.inst σ ∧ val ir = e.r.inst σ
  clash : s2.clash = s.clash
  kd : Kd s.G.1 → Kd s2.G.1
theorem laid {s : Cl} {e : Eqn} (h : Cok s) (hci : CI s) (hco : Cong s []) (hgv : GVar s.G) (he : e.right = true) : Laid s e ((s.lay e.l).lay e.r) (e.l.addTo s.G).2 (e.r.addTo (s.lay e.l).G).2 := by
  have hlr : e.l.right = true ∧ e.r.right = true := by unfold Eqn.right at he; simpa using he
  have h1 := h.lay hlr.1
  have h2 := h1.lay hlr.2
  have L1 := lay_inv h hci hco hlr.1
  have L2 := lay_inv h1 L1.ci L1.co hlr.2
  have g1 := h.layG e.l
  have g2 := h1.layG e.r
  obtain ⟨a1, a2, a3, a4⟩ := add_law e.l s.G h.vars
  obtain ⟨b1, b2, b3, b4⟩ := add_law e.r (s.lay e.l).G h1.vars
  obtain ⟨w1, w2⟩ := add_wf e.l s.G hlr.1 h.vars h.nodes
  obtain ⟨v1, v2⟩ := add_wf e.r (s.lay e.l).G hlr.2 h1.vars h1.nodes
  obtain ⟨s1, s2⟩ := add_sem e.l s.G hlr.1 h.vars h.nodes hgv
  rw [← g1] at s1 s2 w2 a4
  obtain ⟨t1, t2⟩ := add_sem e.r (s.lay e.l).G hlr.2 h1.vars h1.nodes s1
  rw [← g2] at t1 t2 v2 b4
  have hle := L2.le
  have hle1 := L1.le
  have c1 := (Cl.layAt h e.l).clash
  have c2 := (Cl.layAt h1 e.r).clash
  exact ⟨h2, by omega, fun i hi => by rw [L2.old i (by omega), L1.old i hi], fun i hi hl => by
    rcases Nat.lt_or_ge i (s.lay e.l).n with q | q
    · rw [L2.old i q, L1.new i hi q]
    · exact L2.new i q hl, L2.ci, L2.co, t1, w2.trans v2, Nat.lt_of_lt_of_le a4 hle, b4, fun σ val hv => ⟨s2 σ val (hv.front v2), t2 σ val hv⟩, c2.trans c1, fun hk => by rw [g2]; exact add_kd e.r _ hlr.2 (by rw [g1]; exact add_kd e.l _ hlr.1 hk)⟩
theorem SInv.eqn {s s1 : Cl} {es : List Eqn} {e : Eqn} (h : SInv s es) (he : e.right = true) (hq : Equated s e.l e.r s1) (hc : s1.clash = false) : SInv s1 (es ++ [e]) := by
  have L := laid h.ok h.ci h.co h.gv he
  have hlt : ∀ p, p ∈ [((e.l.addTo s.G).2, (e.r.addTo (s.lay e.l).G).2)] → p.1 < ((s.lay e.l).lay e.r).n ∧ p.2 < ((s.lay e.l).lay e.r).n := fun p hp => by
    simp only [List.mem_singleton] at hp
    subst hp
    exact ⟨L.ilt, L.irt⟩
  have hco : Cong ((s.lay e.l).lay e.r) [((e.l.addTo s.G).2, (e.r.addTo (s.lay e.l).G).2)] := fun f hf => L.co f ⟨hf.1, fun q hq => by simp at hq⟩
  have W := Work.inv hq L.ok hlt L.ci hco hc
  obtain ⟨k1, k2⟩ := Work.keeps hq L.ok hlt
  have hn : s1.n = ((s.lay e.l).lay e.r).n := by unfold Cl.n; rw [k2]
  refine ⟨k1, W.ci, W.co, by rw [k2]; exact L.gv, by rw [k2]; exact L.kd h.kd, hc, fun x hx => ?_⟩
  rcases List.mem_append.1 hx with hx | hx
  · obtain ⟨il, ir, i1, i2, i3, i4⟩ := h.eqs x hx
    have := L.le
    refine ⟨il, ir, by omega, by omega, W.mono _ _ (by omega) (by omega) (by rw [L.old _ i1, L.old _ i2]; exact i3), fun σ val hv => i4 σ val ?_⟩
    rw [k2] at hv
    exact hv.front L.pre
  · simp only [List.mem_singleton] at hx
    subst hx
    exact ⟨_, _, by rw [hn]; exact L.ilt, by rw [hn]; exact L.irt, W.eqs _ (List.mem_singleton.2 rfl), fun σ val hv => L.sem σ val (by rw [k2] at hv; exact hv)⟩
theorem SInv.run : ∀ {es : List Eqn} {s s' : Cl} {done : List Eqn}, SInv s done → (∀ e, e ∈ es → e.right = true) → EqsRun es s s' → s'.clash = false → SInv s' (done ++ es)
  | [], s, s', done, h, _, hr, _ => by
    have : s' = s := hr
    rw [this, List.append_nil]
    exact h
  | e :: es, s, s', done, h, hri, ⟨s1, hq, hs⟩, hc => by
    cases h1 : s1.clash with
    | true =>
      rw [h1] at hs
      have : s' = s1 := hs
      rw [this, h1] at hc
      cases hc
    | false =>
      rw [h1] at hs
      have h2 := SInv.run (h.eqn (hri e List.mem_cons_self) hq h1) (fun x hx => hri x (List.mem_cons_of_mem _ hx)) hs hc
      rwa [List.append_assoc] at h2
/-- What nodes stand for agrees with the classes. -/
def Agree (s : Cl) (σ : Int → Ty) : Prop := ∀ val : Nat → Ty, NodeEq s.G.1 σ val → Resp s [] val
theorem Agree.run : ∀ {es : List Eqn} {s s' : Cl} {done : List Eqn} {σ : Int → Ty}, SInv s done → (∀ e, e ∈ es → e.right = true ∧ e.l.inst σ = e.r.inst σ) → Agree s σ → EqsRun es s s' → s'.clash = false ∧ Agree s' σ
  | [], s, s', done, σ, h, _, ha, hr => by
    have : s' = s := hr
    rw [this]
    exact ⟨h.clash, ha⟩
  | e :: es, s, s', done, σ, h, hri, ha, ⟨s1, hq, hs⟩ => by
    obtain ⟨he, heq⟩ := hri e List.mem_cons_self
    have L := laid h.ok h.ci h.co h.gv he
    have hlt : ∀ p, p ∈ [((e.l.addTo s.G).2, (e.r.addTo (s.lay e.l).G).2)] → p.1 < ((s.lay e.l).lay e.r).n ∧ p.2 < ((s.lay e.l).lay e.r).n := fun p hp => by
      simp only [List.mem_singleton] at hp
      subst hp
      exact ⟨L.ilt, L.irt⟩
    have hco : Cong ((s.lay e.l).lay e.r) [((e.l.addTo s.G).2, (e.r.addTo (s.lay e.l).G).2)] := fun f hf => L.co f ⟨hf.1, fun q hq => by simp at hq⟩
    have hresp : ∀ val : Nat → Ty, NodeEq ((s.lay e.l).lay e.r).G.1 σ val → Resp ((s.lay e.l).lay e.r) [((e.l.addTo s.G).2, (e.r.addTo (s.lay e.l).G).2)] val := fun val hv => by
      have hs0 := ha val (hv.front L.pre)
      refine ⟨fun i j hi hj hij => ?_, fun p hp => ?_⟩
      · rcases Nat.lt_or_ge i s.n with a | a
        · rcases Nat.lt_or_ge j s.n with b | b
          · exact hs0.1 i j a b (by rw [L.old i a, L.old j b] at hij; exact hij)
          · rw [L.old i a, L.new j b hj] at hij
            have := (rtN_lt h.ok a).1
            omega
        · rcases Nat.lt_or_ge j s.n with b | b
          · rw [L.old j b, L.new i a hi] at hij
            have := (rtN_lt h.ok b).1
            omega
          · rw [L.new i a hi, L.new j b hj] at hij
            rw [hij]
      · simp only [List.mem_singleton] at hp
        subst hp
        obtain ⟨x1, x2⟩ := L.sem σ val hv
        simp only
        rw [x1, x2, heq]
    obtain ⟨k1, k2⟩ := Work.keeps hq L.ok hlt
    obtain ⟨v0, hv0⟩ := exists_val L.ok.nodes σ
    have hcl := (Work.fwd hq L.ok hlt L.ci hco hv0 (hresp v0 hv0) (by rw [L.clash]; exact h.clash)).1
    rw [hcl] at hs
    refine Agree.run (h.eqn he hq hcl) (fun x hx => hri x (List.mem_cons_of_mem _ hx)) (fun val hv => ?_) hs
    rw [k2] at hv
    exact (Work.fwd hq L.ok hlt L.ci hco hv (hresp val hv) (by rw [L.clash]; exact h.clash)).2
theorem Agree.new (σ : Int → Ty) : Agree Cl.new σ := fun val _ => ⟨fun i j hi => absurd hi (Nat.not_lt_zero _), fun p hp => by simp at hp⟩

/-! ### classes that come to themselves -/
theorem parts_is {s : Cl} (h : Cok s) (hci : CI s) {r : Nat} (hr : r < s.n) (hrr : rtN s r = r) : (s.wh r < 0 ∧ s.parts r = []) ∨ (0 ≤ s.wh r ∧ (s.parts r = (partsOf s.G.1 (s.wh r).toNat).map (rtN s) ∨ kindOf s.G.1 (s.wh r).toNat = 0 ∧ s.parts r = [])) := by
  unfold Cl.parts Cl.kind
  rcases Int.lt_or_le (s.wh r) 0 with e | e
  · left
    refine ⟨e, ?_⟩
    rw [if_pos (by rw [if_pos e])]
  · right
    refine ⟨e, ?_⟩
    rw [if_neg (show ¬ s.whole.getD r 0 < 0 by have : 0 ≤ s.whole.getD r 0 := e; omega)]
    by_cases hk : kindOf s.G.1 (s.whole.getD r 0).toNat = 0
    · exact .inr ⟨hk, by rw [if_pos hk]⟩
    · exact .inl (by rw [if_neg hk])
theorem visits_inv {s : Cl} (h : Cok s) : ∀ (vs : List Int) (x : Wk), WInv s.parts x → x.stack = [] → x.Low s.whole.length → (∀ v, v ∈ vs → clsOf s v < s.whole.length) → WInv s.parts (s.visits vs x) ∧ (s.visits vs x).Low s.whole.length ∧ (∀ v, v ∈ vs → (s.visits vs x).at (clsOf s v) = 2) ∧ ∀ t : Nat, x.at t = 2 → (s.visits vs x).at t = 2
  | [], x, hx, hs, hlo, _ => ⟨hx, hlo, fun v hv => by simp at hv, fun t ht => ht⟩
  | v :: vs, x, hx, hs, hlo, hl => by
    obtain ⟨g1, g2, g3, g4⟩ := hx.goes hs (enter_ends h x (hl v List.mem_cons_self))
    obtain ⟨r1, r2, r3, r4⟩ := visits_inv h vs (x.goes s.parts (clsOf s v)) g1 g2 (hlo.goes (fun r hr q hq => parts_lt h hr hq) (hl v List.mem_cons_self) (enter_ends h x (hl v List.mem_cons_self))) (fun u hu => hl u (List.mem_cons_of_mem _ hu))
    refine ⟨r1, r2, fun u hu => ?_, fun t ht => r4 t (g4 t ht)⟩
    rcases List.mem_cons.1 hu with rfl | hu
    · exact r4 _ g3
    · exact r3 u hu
theorem walked_inv {s : Cl} (h : Cok s) : WInv s.parts s.walked ∧ s.walked.Low s.whole.length ∧ ∀ n i, mget s.G.2 n = some i → s.walked.at (rtN s i) = 2 := by
  obtain ⟨r1, r2, r3, _⟩ := visits_inv h (varList s.G) ⟨[], [], 0, false⟩ (WInv.zero _) rfl (fun q hq => absurd rfl hq) (fun v hv => by
    obtain ⟨i, hi⟩ := (mem_varList s.G v).1 hv
    unfold clsOf
    rw [hi, Option.getD_some, h.whl]
    exact (rtN_lt h (h.vars v i hi)).1)
  refine ⟨r1, r2, fun n i hi => ?_⟩
  have := r3 n ((mem_varList s.G n).2 ⟨i, hi⟩)
  unfold clsOf at this
  rw [hi, Option.getD_some] at this
  exact this
end Go.Proofs.YtdppkdjgadiinaaGreat
