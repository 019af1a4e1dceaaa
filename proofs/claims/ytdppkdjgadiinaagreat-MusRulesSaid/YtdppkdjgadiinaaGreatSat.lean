/- Plain: equations can be solved just if the closure says so. -/
import Derived.Test.YtdppkdjgadiinaaGreatInv
set_option linter.unusedVariables false
set_option linter.unusedSimpArgs false
namespace Go.Proofs.YtdppkdjgadiinaaGreat
open Go.RowKit

theorem joinG (s : Cl) (a b : Nat) : (s.join a b).1.G = s.G := by
  unfold Cl.join
  split
  · rfl
  · split
    · rfl
    · split <;> rfl
theorem joinClash (s : Cl) (a b : Nat) : (s.join a b).1.clash = s.clash := by
  unfold Cl.join
  split
  · rfl
  · split
    · rfl
    · split <;> rfl
/-- What the work leaves, if it doesn't clash. -/
structure WorkInv (s : Cl) (wt : List (Nat × Nat)) (t : Cl) : Prop where
  ci : CI t
  co : Cong t []
  mono : ∀ i j, i < s.n → j < s.n → rtN s i = rtN s j → rtN t i = rtN t j
  eqs : ∀ p, p ∈ wt → rtN t p.1 = rtN t p.2
theorem Work.inv {s t : Cl} {wt : List (Nat × Nat)} (h : Work s wt t) : Cok s → (∀ p, p ∈ wt → p.1 < s.n ∧ p.2 < s.n) → CI s → Cong s wt → t.clash = false → WorkInv s wt t := by
  induction h with
  | done s => exact fun _ _ hc hco _ => ⟨hc, hco, fun i j _ _ e => e, fun p hp => by simp at hp⟩
  | clash s wait p h => exact fun _ _ _ _ h => by cases h
  | more s wait p t h k ih =>
    intro hk hw hc hco ht
    obtain ⟨p1, p2⟩ := hw p (by simp)
    obtain ⟨s1, s2, s3, s4⟩ := step_inv hk p1 p2 hc hco h
    obtain ⟨c1, c2, c3, c4, _⟩ := hk.tick.join (hk.tick.rtN p1).2.2 (hk.tick.rtN p2).2.2
    have hn : (s.tick.join (rtN s p.1) (rtN s p.2)).1.n = s.n := by unfold Cl.n; rw [joinG]; rfl
    have r := ih c1 (fun q hq => by
      rw [hn]
      rcases List.mem_append.1 hq with e | e
      · exact hw q (by simp [e])
      · exact c4 q e) s1 s2 ht
    refine ⟨r.ci, r.co, fun i j hi hj e => r.mono i j (by rw [hn]; exact hi) (by rw [hn]; exact hj) (s3 i j hi hj e), fun q hq => ?_⟩
    rcases List.mem_append.1 hq with e | e
    · exact r.eqs q (List.mem_append_left _ e)
    · simp only [List.mem_singleton] at e
      subst e
      exact r.mono _ _ (by rw [hn]; exact p1) (by rw [hn]; exact p2) s4
theorem nodeEq_at {nodes : List Nd} {σ : Int → Ty} {val : Nat → Ty} (h : NodeEq nodes σ val) {i : Nat} (hi : i < nodes.length) (hk : kindOf nodes i ≠ 1) : val i = .mk (kindOf nodes i) 0 ((partsOf nodes i).map val) := by
  have e : nodes[i]? = some nodes[i] := List.getElem?_eq_getElem hi
  have h1 := h i _ e
  unfold kindOf partsOf at *
  rw [e] at hk ⊢
  simp only [Option.map_some, Option.getD_some] at hk ⊢
  rw [h1, if_neg hk]
/-- A step where what nodes stand for agrees with the classes. -/
theorem step_fwd {s : Cl} (h : Cok s) {wait : List (Nat × Nat)} {p : Nat × Nat} (h1 : p.1 < s.n) (h2 : p.2 < s.n) (hci : CI s) {σ : Int → Ty} {val : Nat → Ty} (hn : NodeEq s.G.1 σ val) (hr : Resp s (wait ++ [p]) val) :
    (s.tick.join (rtN s p.1) (rtN s p.2)).2.2 = true ∧ Resp (s.tick.join (rtN s p.1) (rtN s p.2)).1 (wait ++ (s.tick.join (rtN s p.1) (rtN s p.2)).2.1) val := by
  have hT : Cok s.tick := h.tick
  obtain ⟨a1, a2⟩ := rtN_lt h h1
  obtain ⟨b1, b2⟩ := rtN_lt h h2
  have hwait : ∀ q, q ∈ wait → val q.1 = val q.2 := fun q hq => hr.2 q (List.mem_append_left _ hq)
  by_cases hab : rtN s p.1 = rtN s p.2
  · have hj : s.tick.join (rtN s p.1) (rtN s p.2) = (s.tick, [], true) := by unfold Cl.join; rw [if_pos hab]
    rw [hj]
    exact ⟨rfl, hr.1, fun q hq => hwait q (by simpa using hq)⟩
  · have hv12 : val p.1 = val p.2 := hr.2 p (by simp)
    have hva : ∀ i, i < s.n → val i = val (rtN s i) := fun i hi => hr.1 i _ hi (rtN_lt h hi).1 (rtN_lt h hi).2.symm
    have key : ∀ (x : Int) (new : List (Nat × Nat)), ((x < 0 ∧ s.wh (rtN s p.1) < 0 ∧ s.wh (rtN s p.2) < 0) ∨ (0 ≤ x ∧ (x = s.wh (rtN s p.1) ∨ x = s.wh (rtN s p.2)))) → (∀ q, q ∈ new → val q.1 = val q.2) → Resp (s.tick.joined (rtN s p.1) (rtN s p.2) x) (wait ++ new) val := by
      intro x new hx hnew
      obtain ⟨_, _, _, _, j5⟩ := joined_inv hT (p := p) h1 h2 hab x hci hx
      refine ⟨fun i j hi hj hij => ?_, fun q hq => ?_⟩
      · rcases j5 i j hi hj hij with e | ⟨e1, e2⟩
        · exact hr.1 i j hi hj e
        · have one : ∀ i, i < s.n → (rtN s i = rtN s p.1 ∨ rtN s i = rtN s p.2) → val i = val p.1 := fun i hi e => by
            rcases e with e | e
            · exact hr.1 i _ hi h1 e
            · rw [hv12]; exact hr.1 i _ hi h2 e
          rw [one i hi e1, one j hj e2]
      · rcases List.mem_append.1 hq with e | e
        · exact hwait q e
        · exact hnew q e
    unfold Cl.join
    rw [if_neg hab]
    by_cases hv : s.tick.whole.getD (rtN s p.1) 0 < 0 ∨ s.tick.whole.getD (rtN s p.2) 0 < 0
    · rw [if_pos hv]
      have hv' : s.wh (rtN s p.1) < 0 ∨ s.wh (rtN s p.2) < 0 := hv
      refine ⟨rfl, key (max (s.wh (rtN s p.1)) (s.wh (rtN s p.2))) [] ?_ (fun q hq => by simp at hq)⟩
      clear hv
      rcases Int.le_total (s.wh (rtN s p.1)) (s.wh (rtN s p.2)) with e | e
      · rw [Int.max_eq_right e]
        rcases Int.lt_or_le (s.wh (rtN s p.2)) 0 with e2 | e2
        · exact .inl ⟨e2, by omega, e2⟩
        · exact .inr ⟨e2, .inr rfl⟩
      · rw [Int.max_eq_left e]
        rcases Int.lt_or_le (s.wh (rtN s p.1)) 0 with e2 | e2
        · exact .inl ⟨e2, e2, by omega⟩
        · exact .inr ⟨e2, .inl rfl⟩
    · rw [if_neg hv]
      have hv' : 0 ≤ s.wh (rtN s p.1) ∧ 0 ≤ s.wh (rtN s p.2) := by
        have : ¬ (s.wh (rtN s p.1) < 0 ∨ s.wh (rtN s p.2) < 0) := hv
        omega
      obtain ⟨x1, x2, x3⟩ := (hci _ a1 a2).2 hv'.1
      obtain ⟨y1, y2, y3⟩ := (hci _ b1 b2).2 hv'.2
      have ex := nodeEq_at hn x1 x3
      have ey := nodeEq_at hn y1 y3
      have exy : val (s.wh (rtN s p.1)).toNat = val (s.wh (rtN s p.2)).toNat := by
        rw [hva _ x1, hva _ y1, x2, y2, ← hva _ h1, ← hva _ h2, hv12]
      rw [ex, ey] at exy
      injection exy with e1 _ e3
      have hlen : (partsOf s.G.1 (s.wh (rtN s p.1)).toNat).length = (partsOf s.G.1 (s.wh (rtN s p.2)).toNat).length := by
        have := congrArg List.length e3
        simpa using this
      rw [if_pos ⟨e1, hlen⟩]
      exact ⟨rfl, key _ _ (.inr ⟨hv'.1, .inl rfl⟩) (zip_of_map e3)⟩
theorem Work.fwd {s t : Cl} {wt : List (Nat × Nat)} (h : Work s wt t) {σ : Int → Ty} {val : Nat → Ty} : Cok s → (∀ p, p ∈ wt → p.1 < s.n ∧ p.2 < s.n) → CI s → Cong s wt → NodeEq s.G.1 σ val → Resp s wt val → s.clash = false → t.clash = false ∧ Resp t [] val := by
  induction h with
  | done s => exact fun _ _ _ _ _ hr hc => ⟨hc, hr⟩
  | clash s wait p h =>
    intro hk hw hc _ hn hr _
    obtain ⟨p1, p2⟩ := hw p (by simp)
    rw [(step_fwd hk p1 p2 hc hn hr).1] at h
    cases h
  | more s wait p t h k ih =>
    intro hk hw hc hco hn hr hcl
    obtain ⟨p1, p2⟩ := hw p (by simp)
    obtain ⟨s1, s2, _, _⟩ := step_inv hk p1 p2 hc hco h
    obtain ⟨_, f2⟩ := step_fwd hk p1 p2 hc hn hr
    obtain ⟨c1, c2, c3, c4, _⟩ := hk.tick.join (hk.tick.rtN p1).2.2 (hk.tick.rtN p2).2.2
    have hnn : (s.tick.join (rtN s p.1) (rtN s p.2)).1.n = s.n := by unfold Cl.n; rw [joinG]; rfl
    exact ih c1 (fun q hq => by
      rw [hnn]
      rcases List.mem_append.1 hq with e | e
      · exact hw q (by simp [e])
      · exact c4 q e) s1 s2 (by rw [joinG]; exact hn) f2 (by rw [joinClash]; exact hcl)

/-! ### a type is laid -/
theorem kindOf_prefix {nodes nodes' : List Nd} (hp : nodes <+: nodes') {i : Nat} (hi : i < nodes.length) : kindOf nodes' i = kindOf nodes i ∧ partsOf nodes' i = partsOf nodes i := by
  obtain ⟨t, rfl⟩ := hp
  unfold kindOf partsOf
  rw [List.getElem?_append_left hi]
  exact ⟨rfl, rfl⟩
structure LayInv (s s' : Cl) : Prop where
  le : s.n ≤ s'.n
  old : ∀ i, i < s.n → rtN s' i = rtN s i
  new : ∀ i, s.n ≤ i → i < s'.n → rtN s' i = i
  ci : CI s'
  co : Cong s' []
theorem lay_inv {s : Cl} (h : Cok s) (hci : CI s) (hco : Cong s []) {t : Ty} (hr : t.right = true) : LayInv s (s.lay t) := by
  have L := Cl.layAt h t
  obtain ⟨a1, a2, a3, a4⟩ := add_law t s.G h.vars
  obtain ⟨w1, w2⟩ := add_wf t s.G hr h.vars h.nodes
  have hk := h.lay hr
  have hG : (s.lay t).G = (t.addTo s.G).1 := L.g
  have hn : (s.lay t).n = (t.addTo s.G).1.1.length := by unfold Cl.n; rw [hG]
  have hle : s.n ≤ (s.lay t).n := by rw [hn]; exact a1
  have old : ∀ i, i < s.n → rtN (s.lay t) i = rtN s i := fun i hi => by
    unfold rtN
    rw [List.getD_eq_getElem?_getD, List.getD_eq_getElem?_getD, L.rt0 i hi]
  have new : ∀ i, s.n ≤ i → i < (s.lay t).n → rtN (s.lay t) i = i := fun i hi hl => by
    unfold rtN
    rw [List.getD_eq_getElem?_getD, L.rt1 i hi (by rw [hn] at hl; exact hl)]
    simp
  have who : ∀ r, r < s.n → (s.lay t).wh r = s.wh r := fun r hr => by
    unfold Cl.wh
    rw [List.getD_eq_getElem?_getD, List.getD_eq_getElem?_getD, L.wh0 r hr]
  have whn : ∀ r, s.n ≤ r → r < (s.lay t).n → (s.lay t).wh r = wholeOf (t.addTo s.G).1.1 r := fun r hr hl => by
    unfold Cl.wh
    rw [List.getD_eq_getElem?_getD, L.wh1 r hr (by rw [hn] at hl; exact hl)]
    rfl
  have kn : ∀ i, i < (s.lay t).n → (((t.addTo s.G).1.1[i]?).map (·.kind) = some 1 ↔ kindOf (t.addTo s.G).1.1 i = 1) := fun i hi => by
    unfold kindOf
    rw [hn] at hi
    rw [List.getElem?_eq_getElem hi]
    simp
  refine ⟨hle, old, new, ?_, ?_⟩
  · intro r hrl hrr
    rw [hG]
    rcases Nat.lt_or_ge r s.n with e | e
    · rw [old r e] at hrr
      rw [who r e]
      obtain ⟨c1, c2⟩ := hci r e hrr
      constructor
      · intro hx i hi hi2
        rcases Nat.lt_or_ge i s.n with e2 | e2
        · rw [old i e2] at hi2
          rw [(kindOf_prefix w2 e2).1]
          exact c1 hx i e2 hi2
        · rw [new i e2 hi] at hi2
          omega
      · intro hx
        obtain ⟨d1, d2, d3⟩ := c2 hx
        exact ⟨by omega, by rw [old _ d1]; exact d2, by rw [(kindOf_prefix w2 d1).1]; exact d3⟩
    · rw [whn r e hrl]
      have hk1 := kn r hrl
      unfold wholeOf
      constructor
      · intro hx i hi hi2
        have hir : i = r := by
          rcases Nat.lt_or_ge i s.n with e2 | e2
          · rw [old i e2] at hi2
            have := (rtN_lt h e2).1
            omega
          · rw [new i e2 hi] at hi2
            exact hi2
        subst hir
        split at hx
        · rename_i h1; exact hk1.1 h1
        · omega
      · intro hx
        split at hx
        · omega
        · rename_i h1
          rw [if_neg h1]
          simp only [Int.toNat_natCast]
          exact ⟨hrl, hrr, fun e => h1 (hk1.2 e)⟩
  · intro f hf i hi hki
    rw [hG] at hki ⊢
    rcases Nat.lt_or_ge i s.n with e | e
    · obtain ⟨p1, p2⟩ := kindOf_prefix w2 e
      rw [p1] at hki
      have hfs : Resp s [] f := ⟨fun a b ha hb hab => hf.1 a b (by omega) (by omega) (by rw [old a ha, old b hb]; exact hab), fun q hq => by simp at hq⟩
      obtain ⟨k1, k2⟩ := hco f hfs i e hki
      have hge : 0 ≤ s.wh (rtN s i) := by
        rcases Int.lt_or_le (s.wh (rtN s i)) 0 with e2 | e2
        · exact absurd ((hci _ (rtN_lt h e).1 (rtN_lt h e).2).1 e2 i e rfl) hki
        · exact e2
      obtain ⟨d1, _, _⟩ := (hci _ (rtN_lt h e).1 (rtN_lt h e).2).2 hge
      obtain ⟨q1, q2⟩ := kindOf_prefix w2 d1
      rw [old i e, who _ (rtN_lt h e).1, p1, p2, q1, q2]
      exact ⟨k1, k2⟩
    · have hx : (s.lay t).wh (rtN (s.lay t) i) = i := by
        rw [new i e hi, whn i e hi]
        unfold wholeOf
        rw [if_neg (fun h1 => hki ((kn i hi).1 h1))]
      rw [hx]
      simp
end Go.Proofs.YtdppkdjgadiinaaGreat
