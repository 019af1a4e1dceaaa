/- Package unify, plain: what holds of a closure's state. -/
import Derived.Test.YtdppkdjgadiinaaGreatCjoin
set_option linter.unusedVariables false
set_option linter.unusedSimpArgs false
namespace Go.Proofs.YtdppkdjgadiinaaGreat
open Go.RowKit

theorem plainB_len {k n : Int} {m : Nat} (h : Ty.plainB k n m = true) : m ≤ 8 := by
  unfold Ty.plainB at h
  repeat' split at h
  all_goals first | (cases h; done) | (simp only [Bool.and_eq_true, decide_eq_true_eq, beq_iff_eq] at h; omega)
theorem Ty.right_cases {k n : Int} {ps : List Ty} (h : (Ty.mk k n ps).right = true) : ps.length ≤ 8 ∧ ∀ p, p ∈ ps → p.right = true := by
  rw [Ty.right_eq] at h
  simp only [Ty.kind, Ty.n, Ty.parts, Bool.and_eq_true, Bool.not_eq_true', List.any_eq_false] at h
  refine ⟨plainB_len h.1, fun p hp => ?_⟩
  have := h.2 p hp
  simpa using this
/-- A graph's nodes: few parts, each ahead of its node; a variable has none. -/
def GWf (nodes : List Nd) : Prop := ∀ (i : Nat) (nd : Nd), nodes[i]? = some nd → nd.parts.length ≤ 8 ∧ (∀ p, p ∈ nd.parts → p < i) ∧ (nd.kind = 1 → nd.parts = [])
theorem GWf.push {nodes : List Nd} (h : GWf nodes) {x : Nd} (h1 : x.parts.length ≤ 8) (h2 : ∀ p, p ∈ x.parts → p < nodes.length) (h3 : x.kind = 1 → x.parts = []) : GWf (nodes ++ [x]) := by
  intro i nd hi
  rcases Nat.lt_or_ge i nodes.length with hl | hl
  · rw [List.getElem?_append_left hl] at hi
    exact h i nd hi
  · rw [List.getElem?_append_right hl] at hi
    have : i - nodes.length = 0 := by
      have := (List.getElem?_eq_some_iff.1 hi).1
      simp at this
      omega
    rw [this] at hi
    simp only [List.getElem?_cons_zero, Option.some.injEq] at hi
    subst hi
    exact ⟨h1, fun p hp => by have := h2 p hp; omega, h3⟩
theorem addAll_length : ∀ (l : List Ty) (G : GSt), (Ty.addAll l G).2.length = l.length
  | [], G => by rw [Ty.addAll]; rfl
  | a :: l, G => by rw [Ty.addAll]; simp [addAll_length l]
/-- What adding a right type does: the nodes grow at their end. -/
def AddWf (t : Ty) : Prop := ∀ G : GSt, t.right = true → Gok G → GWf G.1 → GWf (t.addTo G).1.1 ∧ G.1 <+: (t.addTo G).1.1
theorem addAll_wf : ∀ (ps : List Ty), (∀ p, p ∈ ps → AddWf p) → ∀ G : GSt, (∀ p, p ∈ ps → p.right = true) → Gok G → GWf G.1 → GWf (Ty.addAll ps G).1.1 ∧ G.1 <+: (Ty.addAll ps G).1.1
  | [], _, G, _, _, hw => by rw [Ty.addAll]; exact ⟨hw, List.prefix_refl _⟩
  | p :: ps, ih, G, hr, hG, hw => by
    obtain ⟨h1, h2⟩ := ih p List.mem_cons_self G (hr p List.mem_cons_self) hG hw
    obtain ⟨h3, h4⟩ := addAll_wf ps (fun q hq => ih q (List.mem_cons_of_mem _ hq)) (p.addTo G).1 (fun q hq => hr q (List.mem_cons_of_mem _ hq)) (add_law p G hG).2.2.1 h1
    rw [Ty.addAll]
    exact ⟨h3, h2.trans h4⟩
theorem add_wf : ∀ t : Ty, AddWf t := by
  apply Ty.ind_
  intro k n ps ih G hr hG hw
  obtain ⟨h8, hps⟩ := Ty.right_cases hr
  rw [Ty.addTo]
  split
  · rename_i hk
    split
    · exact ⟨hw, List.prefix_refl _⟩
    · exact ⟨hw.push (by simp) (fun p hp => by simp at hp) (fun _ => rfl), List.prefix_append _ _⟩
  · rename_i hk
    obtain ⟨h1, h2⟩ := addAll_wf ps ih G hps hG hw
    obtain ⟨_, _, _, l4⟩ := addAll_law ps (fun p _ => add_law p) G hG
    exact ⟨h1.push (by rw [addAll_length]; exact h8) l4 (fun e => absurd e hk), h2.trans (List.prefix_append _ _)⟩
/-- What holds of a closure's state. -/
structure Cok (s : Cl) : Prop where
  vars : Gok s.G
  nodes : GWf s.G.1
  rtl : s.rt.length = s.G.1.length
  whl : s.whole.length = s.G.1.length
  rt : ∀ (i : Nat) (x : Int), s.rt[i]? = some x → ∃ r : Nat, x = r ∧ r < s.rt.length ∧ s.rt[r]? = some (r : Int)
  wh : ∀ (i : Nat) (x : Int), s.whole[i]? = some x → x = -1 ∨ ∃ n : Nat, x = n ∧ n < s.G.1.length
theorem Cok.whole {s : Cl} (h : Cok s) {i : Nat} {x : Int} (hx : s.whole[i]? = some x) : Whole s x := by
  rcases h.wh i x hx with rfl | ⟨n, rfl, hn⟩
  · exact .inl rfl
  · have hg : s.G.1[n]? = some s.G.1[n] := List.getElem?_eq_getElem hn
    exact .inr ⟨n, _, rfl, hg, by have := (h.nodes n _ hg).1; rw [Nd.ints, List.length_map]; omega⟩
theorem Cok.root {s : Cl} (h : Cok s) {i : Nat} (hi : i < s.G.1.length) : ∃ r : Nat, s.rt[i]? = some (r : Int) ∧ r < s.G.1.length ∧ s.rt[r]? = some (r : Int) ∧ ∃ x, s.whole[r]? = some x := by
  have hl := h.rtl
  have e : s.rt[i]? = some s.rt[i] := List.getElem?_eq_getElem (by omega)
  obtain ⟨r, h1, h2, h3⟩ := h.rt i _ e
  refine ⟨r, by rw [e, h1], by omega, h3, s.whole[r]'(by have := h.whl; omega), List.getElem?_eq_getElem _⟩
theorem Cok.tick {s : Cl} (h : Cok s) : Cok s.tick := ⟨h.vars, h.nodes, h.rtl, h.whl, h.rt, h.wh⟩
/-- How many sets. -/
def nroots (rt : List Int) : Nat := (List.range rt.length).countP fun i : Nat => rt[i]? == some (i : Int)
theorem joinRt_at (rt : List Int) (a b i : Nat) : (joinRt rt a b)[i]? = (rt[i]?).map fun x => if x = (b : Int) then (a : Int) else x := by unfold joinRt; rw [List.getElem?_map]
theorem countP_lt {α : Type} {l : List α} {p q : α → Bool} (h : ∀ x, x ∈ l → q x = true → p x = true) {y : α} (hy : y ∈ l) (h1 : p y = true) (h2 : q y = false) : l.countP q < l.countP p := by
  induction l with
  | nil => simp at hy
  | cons a l ih =>
    have hle : l.countP q ≤ l.countP p := List.countP_mono_left (fun x hx => h x (List.mem_cons_of_mem _ hx))
    rcases List.mem_cons.1 hy with rfl | hy
    · rw [List.countP_cons_of_pos h1, List.countP_cons_of_neg (by simp [h2])]
      omega
    · have := ih (fun x hx => h x (List.mem_cons_of_mem _ hx)) hy
      by_cases hq : q a = true
      · rw [List.countP_cons_of_pos hq, List.countP_cons_of_pos (h a List.mem_cons_self hq)]; omega
      · rw [List.countP_cons_of_neg hq]
        have := List.countP_cons (p := p) (a := a) (l := l)
        split at this <;> omega
theorem nroots_join {rt : List Int} {a b : Nat} (hab : a ≠ b) (ha : rt[a]? = some (a : Int)) (hb : rt[b]? = some (b : Int)) : nroots (joinRt rt a b) < nroots rt := by
  unfold nroots
  have hl : (joinRt rt a b).length = rt.length := by simp [joinRt]
  rw [hl]
  have hbl : b < rt.length := (List.getElem?_eq_some_iff.1 hb).1
  refine countP_lt (fun i _ hq => ?_) (List.mem_range.2 hbl) (by simp [hb]) ?_
  · simp only [beq_iff_eq] at hq ⊢
    rw [joinRt_at] at hq
    obtain ⟨x, hx, he⟩ := Option.map_eq_some_iff.1 hq
    split at he
    · have : a = i := by exact Int.ofNat_inj.1 he
      subst this; exact ha
    · rw [hx, he]
  · rw [joinRt_at, hb]
    simp
    omega
theorem upper_lower {rank : List Int} {a b : Nat} : (upper rank a b = a ∧ lower rank a b = b) ∨ (upper rank a b = b ∧ lower rank a b = a) := by
  unfold upper lower
  split
  · exact .inr ⟨rfl, rfl⟩
  · exact .inl ⟨rfl, rfl⟩
theorem Cok.joined {s : Cl} (h : Cok s) {a b : Nat} (hab : a ≠ b) (ha : s.rt[a]? = some (a : Int)) (hb : s.rt[b]? = some (b : Int)) {x : Int} (hx : x = -1 ∨ ∃ n : Nat, x = n ∧ n < s.G.1.length) : Cok (s.joined a b x) ∧ nroots (s.joined a b x).rt < nroots s.rt := by
  obtain ⟨u, l, hu, hl, hul, hru, hrl⟩ : ∃ u l, u = upper s.rank a b ∧ l = lower s.rank a b ∧ u ≠ l ∧ s.rt[u]? = some (u : Int) ∧ s.rt[l]? = some (l : Int) := by
    rcases upper_lower (rank := s.rank) (a := a) (b := b) with ⟨e1, e2⟩ | ⟨e1, e2⟩
    · exact ⟨a, b, e1.symm, e2.symm, hab, ha, hb⟩
    · exact ⟨b, a, e1.symm, e2.symm, fun e => hab e.symm, hb, ha⟩
  have hlen : (joinRt s.rt u l).length = s.rt.length := by simp [joinRt]
  have hrt := h.rtl
  have hwh := h.whl
  unfold Cl.joined
  rw [← hu, ← hl]
  refine ⟨⟨h.vars, h.nodes, by simp only; omega, by simp only [List.length_set]; exact hwh, ?_, ?_⟩, nroots_join hul hru hrl⟩
  · intro i y hy
    simp only at hy ⊢
    rw [joinRt_at] at hy
    obtain ⟨z, hz, he⟩ := Option.map_eq_some_iff.1 hy
    have hu' : (joinRt s.rt u l)[u]? = some (u : Int) := by
      rw [joinRt_at, hru]
      simp only [Option.map_some]
      rw [if_neg (by omega)]
    split at he
    · exact ⟨u, he.symm, by rw [hlen]; exact (List.getElem?_eq_some_iff.1 hru).1, hu'⟩
    · rename_i hne
      obtain ⟨r, h1, h2, h3⟩ := h.rt i z hz
      refine ⟨r, by rw [← he, h1], by omega, ?_⟩
      rw [joinRt_at, h3]
      simp only [Option.map_some]
      rw [if_neg (by rw [← h1]; exact hne)]
  · intro i y hy
    simp only at hy ⊢
    rw [List.getElem?_set] at hy
    split at hy
    · split at hy
      · injection hy with hy; rw [← hy]; exact hx
      · cases hy
    · exact h.wh i y hy
/-! ### a type is laid -/
theorem grow_rt (s : Cl) : ∀ n i : Nat, (i < s.rt.length → (Cl.grow n s).rt[i]? = s.rt[i]?) ∧ (s.rt.length ≤ i → i < s.rt.length + n → (Cl.grow n s).rt[i]? = some (i : Int))
  | 0, i => ⟨fun _ => rfl, fun h1 h2 => by omega⟩
  | n + 1, i => by
    obtain ⟨h1, h2⟩ := grow_rt s n i
    have hl := (Cl.grow_len s n).2
    rw [Cl.grow, Cl.one]
    simp only
    refine ⟨fun h => ?_, fun h h' => ?_⟩
    · rw [List.getElem?_append_left (by omega)]; exact h1 h
    · rcases Nat.lt_or_ge i (s.rt.length + n) with e | e
      · rw [List.getElem?_append_left (by omega)]; exact h2 h e
      · rw [List.getElem?_append_right (by omega), show i - (Cl.grow n s).rt.length = 0 by omega]
        simp only [List.getElem?_cons_zero]
        rw [hl, show s.rt.length + n = i by omega]
theorem grow_wh (s : Cl) : ∀ n i : Nat, (i < s.whole.length → (Cl.grow n s).whole[i]? = s.whole[i]?) ∧ (s.whole.length ≤ i → i < s.whole.length + n → (Cl.grow n s).whole[i]? = some (wholeOf s.G.1 i))
  | 0, i => ⟨fun _ => rfl, fun h1 h2 => by omega⟩
  | n + 1, i => by
    obtain ⟨h1, h2⟩ := grow_wh s n i
    have hl := (Cl.grow_len s n).1
    have hg := Cl.grow_G s n
    rw [Cl.grow, Cl.one]
    simp only
    refine ⟨fun h => ?_, fun h h' => ?_⟩
    · rw [List.getElem?_append_left (by omega)]; exact h1 h
    · rcases Nat.lt_or_ge i (s.whole.length + n) with e | e
      · rw [List.getElem?_append_left (by omega)]; exact h2 h e
      · rw [List.getElem?_append_right (by omega), show i - (Cl.grow n s).whole.length = 0 by omega]
        simp only [List.getElem?_cons_zero]
        rw [hl, hg, show s.whole.length + n = i by omega]
structure LayAt (s : Cl) (G : GSt) (s' : Cl) : Prop where
  g : s'.G = G
  rt0 : ∀ i, i < s.G.1.length → s'.rt[i]? = s.rt[i]?
  rt1 : ∀ i, s.G.1.length ≤ i → i < G.1.length → s'.rt[i]? = some (i : Int)
  wh0 : ∀ i, i < s.G.1.length → s'.whole[i]? = s.whole[i]?
  wh1 : ∀ i, s.G.1.length ≤ i → i < G.1.length → s'.whole[i]? = some (wholeOf G.1 i)
  clash : s'.clash = s.clash
  rtl : s'.rt.length = G.1.length
  whl : s'.whole.length = G.1.length
theorem Cl.layAt {s : Cl} (h : Cok s) (t : Ty) : LayAt s (t.addTo s.G).1 (s.lay t) := by
  obtain ⟨a1, a2, a3, a4⟩ := add_law t s.G h.vars
  have h1 := h.rtl
  have h2 := h.whl
  obtain ⟨G', hG'⟩ : ∃ G', G' = (t.addTo s.G).1 := ⟨_, rfl⟩
  unfold Cl.lay
  rw [← hG'] at a1 ⊢
  obtain ⟨n, hn⟩ : ∃ n, n = G'.1.length - s.whole.length := ⟨_, rfl⟩
  rw [← hn]
  have e1 := fun i => grow_rt { s with G := G' } n i
  have e2 := fun i => grow_wh { s with G := G' } n i
  obtain ⟨l1, l2⟩ := Cl.grow_len { s with G := G' } n
  simp only at e1 e2 l1 l2
  exact ⟨Cl.grow_G _ _, fun i hi => (e1 i).1 (by omega), fun i hi hj => (e1 i).2 (by omega) (by omega), fun i hi => (e2 i).1 (by omega), fun i hi hj => (e2 i).2 (by omega) (by omega), Cl.grow_clash _ _, by omega, by omega⟩
theorem Cok.lay {s : Cl} (h : Cok s) {t : Ty} (hr : t.right = true) : Cok (s.lay t) := by
  have L := Cl.layAt h t
  obtain ⟨a1, a2, a3, a4⟩ := add_law t s.G h.vars
  obtain ⟨w1, w2⟩ := add_wf t s.G hr h.vars h.nodes
  have h1 := h.rtl
  have h2 := h.whl
  refine ⟨by rw [L.g]; exact a3, by rw [L.g]; exact w1, by rw [L.g]; exact L.rtl, by rw [L.g]; exact L.whl, ?_, ?_⟩
  · intro i x hx
    have hi : i < (s.lay t).rt.length := (List.getElem?_eq_some_iff.1 hx).1
    have hrl := L.rtl
    rcases Nat.lt_or_ge i s.G.1.length with e | e
    · rw [L.rt0 i e] at hx
      obtain ⟨r, e1, e2, e3⟩ := h.rt i x hx
      exact ⟨r, e1, by omega, by rw [L.rt0 r (by omega)]; exact e3⟩
    · have e1 := L.rt1 i e (by omega)
      rw [e1] at hx
      injection hx with hx
      exact ⟨i, hx.symm, hi, e1⟩
  · intro i x hx
    have hi : i < (s.lay t).whole.length := (List.getElem?_eq_some_iff.1 hx).1
    have hwl := L.whl
    rw [L.g]
    rcases Nat.lt_or_ge i s.G.1.length with e | e
    · rw [L.wh0 i e] at hx
      rcases h.wh i x hx with e1 | ⟨n, e1, e2⟩
      · exact .inl e1
      · exact .inr ⟨n, e1, by omega⟩
    · rw [L.wh1 i e (by omega)] at hx
      injection hx with hx
      unfold wholeOf at hx
      split at hx
      · exact .inl hx.symm
      · exact .inr ⟨i, hx.symm, by omega⟩
/-! ### two classes become one -/
def rtN (s : Cl) (i : Nat) : Nat := (s.rt.getD i 0).toNat
theorem Cok.rtN {s : Cl} (h : Cok s) {i : Nat} (hi : i < s.G.1.length) : s.rt[i]? = some (rtN s i : Int) ∧ rtN s i < s.G.1.length ∧ s.rt[rtN s i]? = some (rtN s i : Int) := by
  obtain ⟨r, h1, h2, h3, _⟩ := h.root hi
  have e : Go.Proofs.YtdppkdjgadiinaaGreat.rtN s i = r := by unfold Go.Proofs.YtdppkdjgadiinaaGreat.rtN; rw [List.getD_eq_getElem?_getD, h1]; simp
  rw [e]
  exact ⟨h1, h2, h3⟩
theorem partsOf_wf {nodes : List Nd} (h : GWf nodes) {x : Nat} (hx : x < nodes.length) : (partsOf nodes x).length ≤ 8 ∧ ∀ p, p ∈ partsOf nodes x → p < nodes.length := by
  have e : nodes[x]? = some nodes[x] := List.getElem?_eq_getElem hx
  obtain ⟨h1, h2, _⟩ := h x _ e
  unfold partsOf
  rw [e]
  exact ⟨h1, fun p hp => by have := h2 p hp; omega⟩
theorem Cok.join {s : Cl} (h : Cok s) {a b : Nat} (ha : s.rt[a]? = some (a : Int)) (hb : s.rt[b]? = some (b : Int)) :
    Cok (s.join a b).1 ∧ (s.join a b).1.G = s.G ∧ (s.join a b).1.clash = s.clash ∧ (∀ p, p ∈ (s.join a b).2.1 → p.1 < s.G.1.length ∧ p.2 < s.G.1.length) ∧ 10 * nroots (s.join a b).1.rt + (s.join a b).2.1.length ≤ 10 * nroots s.rt ∧ (s.join a b).2.1.length ≤ 8 := by
  have hal : a < s.rt.length := (List.getElem?_eq_some_iff.1 ha).1
  have hbl : b < s.rt.length := (List.getElem?_eq_some_iff.1 hb).1
  have h1 := h.rtl
  have h2 := h.whl
  have ea : s.whole[a]? = some (s.whole.getD a 0) := by rw [List.getD_eq_getElem?_getD, List.getElem?_eq_getElem (by omega : a < s.whole.length)]; rfl
  have eb : s.whole[b]? = some (s.whole.getD b 0) := by rw [List.getD_eq_getElem?_getD, List.getElem?_eq_getElem (by omega : b < s.whole.length)]; rfl
  have wa := h.wh a _ ea
  have wb := h.wh b _ eb
  obtain ⟨x, hx⟩ : ∃ x, x = s.whole.getD a 0 := ⟨_, rfl⟩
  obtain ⟨y, hy⟩ : ∃ y, y = s.whole.getD b 0 := ⟨_, rfl⟩
  unfold Cl.join
  rw [← hx] at wa ⊢
  rw [← hy] at wb ⊢
  split
  · exact ⟨h, rfl, rfl, fun p hp => by simp at hp, by simp, by simp⟩
  · rename_i hab
    have wm : max x y = -1 ∨ ∃ n : Nat, max x y = n ∧ n < s.G.1.length := by
      rcases Int.le_total x y with e | e
      · rw [Int.max_eq_right e]; exact wb
      · rw [Int.max_eq_left e]; exact wa
    split
    · obtain ⟨c1, c2⟩ := h.joined hab ha hb wm
      exact ⟨c1, rfl, rfl, fun p hp => by simp at hp, by simp; omega, by simp⟩
    · rename_i hn
      obtain ⟨c1, c2⟩ := h.joined hab ha hb wa
      split
      · have hxl : x.toNat < s.G.1.length := by rcases wa with e | ⟨n, e, e2⟩ <;> omega
        have hyl : y.toNat < s.G.1.length := by rcases wb with e | ⟨n, e, e2⟩ <;> omega
        obtain ⟨p1, p2⟩ := partsOf_wf h.nodes hxl
        obtain ⟨q1, q2⟩ := partsOf_wf h.nodes hyl
        refine ⟨c1, rfl, rfl, fun p hp => ?_, ?_, ?_⟩
        · have := List.of_mem_zip (show (p.1, p.2) ∈ _ from hp)
          exact ⟨p2 _ this.1, q2 _ this.2⟩
        · simp only [List.length_zip]; omega
        · simp only [List.length_zip]; omega
      · exact ⟨c1, rfl, rfl, fun p hp => by simp at hp, by simp; omega, by simp⟩
/-- The work list's end. -/
inductive Work : Cl → List (Nat × Nat) → Cl → Prop
  | done (s : Cl) : Work s [] s
  | clash (s : Cl) (wait : List (Nat × Nat)) (p : Nat × Nat) (h : (s.tick.join (rtN s p.1) (rtN s p.2)).2.2 = false) : Work s (wait ++ [p]) { (s.tick.join (rtN s p.1) (rtN s p.2)).1 with clash := true }
  | more (s : Cl) (wait : List (Nat × Nat)) (p : Nat × Nat) (t : Cl) (h : (s.tick.join (rtN s p.1) (rtN s p.2)).2.2 = true) (k : Work (s.tick.join (rtN s p.1) (rtN s p.2)).1 (wait ++ (s.tick.join (rtN s p.1) (rtN s p.2)).2.1) t) : Work s (wait ++ [p]) t
end Go.Proofs.YtdppkdjgadiinaaGreat
