/- Plain: equations can be solved just if the closure says so. -/
import Derived.Test.YtdppkdjgadiinaaGreatSatb
set_option linter.unusedVariables false
set_option linter.unusedSimpArgs false
namespace Go.Proofs.YtdppkdjgadiinaaGreat
open Go.RowKit

def Edge (s : Cl) (q r : Nat) : Prop := q ∈ s.parts r
theorem resp_rtN (s : Cl) : Resp s [] (rtN s) := ⟨fun _ _ _ _ e => e, fun p hp => by simp at hp⟩
theorem kindOf_ne {nodes : List Nd} (h : Kd nodes) {i : Nat} (hi : i < nodes.length) : kindOf nodes i ≠ 0 := by
  unfold kindOf
  rw [List.getElem?_eq_getElem hi]
  exact h i _ (List.getElem?_eq_getElem hi)
/-- A node that is no variable: its class. -/
theorem node_class {s : Cl} {es : List Eqn} (h : SInv s es) {i : Nat} (hi : i < s.n) (hk : kindOf s.G.1 i ≠ 1) : s.kind (rtN s i) = kindOf s.G.1 i ∧ s.parts (rtN s i) = (partsOf s.G.1 i).map (rtN s) := by
  obtain ⟨l1, l2⟩ := rtN_lt h.ok hi
  obtain ⟨k1, k2⟩ := h.co (rtN s) (resp_rtN s) i hi hk
  have hge : 0 ≤ s.wh (rtN s i) := by
    rcases Int.lt_or_le (s.wh (rtN s i)) 0 with e | e
    · exact absurd ((h.ci _ l1 l2).1 e i hi rfl) hk
    · exact e
  obtain ⟨c1, c2, c3⟩ := (h.ci _ l1 l2).2 hge
  have hkd : s.kind (rtN s i) = kindOf s.G.1 i := by
    unfold Cl.kind
    rw [if_neg (show ¬ s.whole.getD (rtN s i) 0 < 0 by have : 0 ≤ s.whole.getD (rtN s i) 0 := hge; omega)]
    exact k1.symm
  refine ⟨hkd, ?_⟩
  unfold Cl.parts
  rw [if_neg (by rw [hkd]; exact kindOf_ne h.kd hi)]
  exact k2.symm
theorem acyclic {s : Cl} {es : List Eqn} (h : SInv s es) (hb : s.walked.bad = false) : ∀ i, i < s.n → Acc (Edge s) (rtN s i) := by
  obtain ⟨W, _, hv⟩ := walked_inv h.ok
  obtain ⟨⟨g, hg⟩, _⟩ := W.good hb
  have done : ∀ m r, g r < m → s.walked.at r = 2 → Acc (Edge s) r := by
    intro m
    induction m with
    | zero => exact fun r hr => absurd hr (Nat.not_lt_zero _)
    | succ m ih =>
      intro r hr h2
      refine ⟨r, fun q hq => ?_⟩
      obtain ⟨a1, a2⟩ := hg r h2 q hq
      exact ih q (by omega) a1
  intro i
  induction i using Nat.strongRecOn with
  | _ i ih =>
    intro hi
    by_cases h2 : s.walked.at (rtN s i) = 2
    · exact done _ _ (Nat.lt_succ_self _) h2
    · have hk : kindOf s.G.1 i ≠ 1 := fun e => by
        have hnd : s.G.1[i]? = some s.G.1[i] := List.getElem?_eq_getElem hi
        unfold kindOf at e
        rw [hnd] at e
        exact h2 (hv _ i (h.gv.back i _ hnd e))
      refine ⟨_, fun q hq => ?_⟩
      unfold Edge at hq
      rw [(node_class h hi hk).2] at hq
      obtain ⟨p, hp, rfl⟩ := List.mem_map.1 hq
      have hpi : p < i := by
        have hnd : s.G.1[i]? = some s.G.1[i] := List.getElem?_eq_getElem hi
        unfold partsOf at hp
        rw [hnd] at hp
        exact (h.ok.nodes i _ hnd).2.1 p hp
      exact ih p hpi (by omega)
def EdgeA (s : Cl) (q r : Nat) : Prop := Acc (Edge s) r ∧ Edge s q r
theorem edgeA_wf (s : Cl) : WellFounded (EdgeA s) := by
  refine ⟨fun r => ?_⟩
  by_cases h : Acc (Edge s) r
  · induction h with
    | intro r _ ih => exact ⟨r, fun q hq => ih q hq.2⟩
  · exact ⟨r, fun q hq => absurd hq.1 h⟩
open Classical in
/-- The tree of a class. -/
noncomputable def treeOf (s : Cl) : Nat → Ty := (edgeA_wf s).fix fun r rec => if s.kind r = 0 then .mk 2 0 [] else .mk (s.kind r) 0 ((s.parts r).attach.map fun q => if h : Acc (Edge s) r then rec q.1 ⟨h, q.2⟩ else .mk 2 0 [])
open Classical in
theorem treeOf_eq {s : Cl} {r : Nat} (h : Acc (Edge s) r) : treeOf s r = if s.kind r = 0 then .mk 2 0 [] else .mk (s.kind r) 0 ((s.parts r).map (treeOf s)) := by
  conv => lhs; unfold treeOf; rw [WellFounded.fix_eq]
  split
  · rfl
  · congr 1
    have e : ((s.parts r).attach.map fun q => treeOf s q.1) = (s.parts r).map (treeOf s) := by simp
    rw [← e]
    refine List.map_congr_left fun q _ => ?_
    first | exact dif_pos h | rfl
theorem sound {s : Cl} {es : List Eqn} (h : SInv s es) (hb : s.walked.bad = false) : Solvable es := by
  have hacc := acyclic h hb
  refine ⟨fun n => treeOf s (clsOf s n), ?_⟩
  have hn : NodeEq s.G.1 (fun n => treeOf s (clsOf s n)) (fun i => treeOf s (rtN s i)) := by
    intro i nd hnd
    have hi : i < s.n := (List.getElem?_eq_some_iff.1 hnd).1
    have hki : kindOf s.G.1 i = nd.kind := by unfold kindOf; rw [hnd]; rfl
    have hpi : partsOf s.G.1 i = nd.parts := by unfold partsOf; rw [hnd]; rfl
    split
    · rename_i hk
      have := h.gv.back i nd hnd hk
      simp only
      unfold clsOf
      rw [this]
      rfl
    · rename_i hk
      obtain ⟨c1, c2⟩ := node_class h hi (by rw [hki]; exact hk)
      simp only
      rw [treeOf_eq (hacc i hi), if_neg (by rw [c1]; exact kindOf_ne h.kd hi), c1, c2, hki, hpi, List.map_map]
      rfl
  intro e he
  obtain ⟨il, ir, i1, i2, i3, i4⟩ := h.eqs e he
  obtain ⟨v1, v2⟩ := i4 _ _ hn
  rw [← v1, ← v2]
  show treeOf s (rtN s il) = treeOf s (rtN s ir)
  rw [i3]
theorem Ty.size_part {k n : Int} : ∀ {ps : List Ty} {p : Ty}, p ∈ ps → p.size < (Ty.mk k n ps).size
  | [], p, h => by simp at h
  | q :: ps, p, h => by
    rw [Ty.size, Ty.sizes]
    rcases List.mem_cons.1 h with rfl | h
    · omega
    · have := Ty.size_part (k := k) (n := n) h
      rw [Ty.size] at this
      omega
theorem complete {s : Cl} {es : List Eqn} {σ : Int → Ty} (h : SInv s es) (ha : Agree s σ) : s.walked.bad = false := by
  cases hb : s.walked.bad with
  | false => rfl
  | true =>
    exfalso
    obtain ⟨W, hlow, hv⟩ := walked_inv h.ok
    obtain ⟨q, hq1, hq2⟩ := W.cyc hb
    obtain ⟨val, hval⟩ := exists_val h.ok.nodes σ
    have hr := ha val hval
    have hwl := h.ok.whl
    have edge : ∀ r q, r < s.n → q ∈ s.parts r → q < s.n ∧ rtN s q = q ∧ (rtN s r = r → (val q).size < (val r).size) := by
      intro r q hrn hq
      have hr' : r < s.whole.length := by rw [hwl]; exact hrn
      have hql := parts_lt h.ok hr' hq
      unfold Cl.parts at hq
      split at hq
      · simp at hq
      · rename_i hk0
        obtain ⟨p, hp, rfl⟩ := List.mem_map.1 hq
        have e : s.whole[r]? = some (s.whole.getD r 0) := by rw [List.getD_eq_getElem?_getD, List.getElem?_eq_getElem hr']; rfl
        have hx : ¬ s.whole.getD r 0 < 0 := fun hn => hk0 (by unfold Cl.kind; rw [if_pos hn])
        have hxl : (s.whole.getD r 0).toNat < s.n := by
          rcases h.ok.wh r _ e with e1 | ⟨n, e1, e2⟩
          · omega
          · have : s.n = s.G.1.length := rfl
            omega
        have hpl := (partsOf_wf h.ok.nodes hxl).2 p hp
        obtain ⟨p1, p2⟩ := rtN_lt h.ok hpl
        refine ⟨p1, p2, fun hrr => ?_⟩
        obtain ⟨c1, c2, c3⟩ := (h.ci r hrn hrr).2 (by show 0 ≤ s.whole.getD r 0; omega)
        have v1 : val r = val (s.wh r).toNat := hr.1 _ _ hrn c1 (by rw [hrr, c2])
        have v2 : val (rtN s p) = val p := hr.1 _ _ p1 hpl p2
        rw [v1, v2, nodeEq_at hval c1 c3]
        exact Ty.size_part (List.mem_map.2 ⟨p, hp, rfl⟩)
    have path : ∀ r t, Path s.parts r t → r < s.n → t < s.n ∧ rtN s t = t ∧ (rtN s r = r → (val t).size < (val r).size) := by
      intro r t hp
      induction hp with
      | one hq => exact fun hr => edge _ _ hr hq
      | step hq _ ih =>
        intro hr
        obtain ⟨a1, a2, a3⟩ := edge _ _ hr hq
        obtain ⟨b1, b2, b3⟩ := ih a1
        exact ⟨b1, b2, fun e => Nat.lt_trans (b3 a2) (a3 e)⟩
    have hqn : q < s.n := by have := hlow q hq1; rw [hwl] at this; exact this
    obtain ⟨c1, c2, c3⟩ := path q q hq2 hqn
    exact Nat.lt_irrefl _ (c3 c2)
/-- Equations can be solved just if that is told. -/
theorem sat_iff {es : List Eqn} {code : Int} (hr : es.all Eqn.right = true) (h : SatIs es code) : code = 0 ↔ Solvable es := by
  unfold SatIs at h
  rw [hr] at h
  obtain ⟨s, hrun, rfl⟩ := h
  have hri : ∀ e, e ∈ es → e.right = true := List.all_eq_true.1 hr
  unfold codeOf
  constructor
  · intro hc
    cases hcl : s.clash with
    | true => rw [hcl] at hc; cases hc
    | false =>
      rw [hcl] at hc
      cases hb : s.walked.bad with
      | true => rw [hb] at hc; cases hc
      | false =>
        have := SInv.run SInv.new hri hrun hcl
        rw [List.nil_append] at this
        exact sound this hb
  · rintro ⟨σ, hσ⟩
    obtain ⟨h1, h2⟩ := Agree.run SInv.new (fun e he => ⟨hri e he, hσ e he⟩) (Agree.new σ) hrun
    have h3 := SInv.run SInv.new hri hrun h1
    rw [List.nil_append] at h3
    rw [h1, complete h3 h2]
    rfl
theorem Solvable.mono {a b : List Eqn} (h : Solvable b) (hs : ∀ e, e ∈ a → e ∈ b) : Solvable a := by
  obtain ⟨σ, hσ⟩ := h
  exact ⟨σ, fun e he => hσ e (hs e he)⟩
end Go.Proofs.YtdppkdjgadiinaaGreat
