/- Plain: equations can be solved just if the closure says so: what nodes stand for. -/
import Derived.Test.YtdppkdjgadiinaaGreatEqn
import Derived.Test.YtdppkdjgadiinaaGreatWinv
set_option linter.unusedVariables false
set_option linter.unusedSimpArgs false
namespace Go.Proofs.YtdppkdjgadiinaaGreat
open Go.RowKit

mutual
/-- Variables are replaced. -/
def Ty.inst (σ : Int → Ty) : Ty → Ty
  | .mk k n ps => if k = 1 then σ n else .mk k 0 (Ty.insts σ ps)
def Ty.insts (σ : Int → Ty) : List Ty → List Ty
  | [] => []
  | p :: ps => p.inst σ :: Ty.insts σ ps
end
theorem Ty.insts_eq (σ : Int → Ty) : ∀ ps : List Ty, Ty.insts σ ps = ps.map (Ty.inst σ)
  | [] => by rw [Ty.insts]; rfl
  | p :: ps => by rw [Ty.insts, Ty.insts_eq σ ps]; rfl
/-- Some types in variables' places make both sides of each equation the same. -/
def Solvable (es : List Eqn) : Prop := ∃ σ : Int → Ty, ∀ e, e ∈ es → e.l.inst σ = e.r.inst σ
/-- What nodes stand for. -/
def NodeEq (nodes : List Nd) (σ : Int → Ty) (val : Nat → Ty) : Prop := ∀ (i : Nat) (nd : Nd), nodes[i]? = some nd → val i = if nd.kind = 1 then σ nd.name else .mk nd.kind 0 (nd.parts.map val)
theorem NodeEq.front {nodes nodes' : List Nd} {σ : Int → Ty} {val : Nat → Ty} (h : NodeEq nodes' σ val) (hp : nodes <+: nodes') : NodeEq nodes σ val := by
  intro i nd hi
  obtain ⟨t, rfl⟩ := hp
  exact h i nd (by rw [List.getElem?_append_left (List.getElem?_eq_some_iff.1 hi).1]; exact hi)
theorem exists_val {nodes : List Nd} (hw : GWf nodes) (σ : Int → Ty) : ∃ val, NodeEq nodes σ val := by
  have step : ∀ n, n ≤ nodes.length → ∃ val : Nat → Ty, ∀ (i : Nat) (nd : Nd), i < n → nodes[i]? = some nd → val i = if nd.kind = 1 then σ nd.name else .mk nd.kind 0 (nd.parts.map val) := by
    intro n
    induction n with
    | zero => exact fun _ => ⟨fun _ => .mk 2 0 [], fun i nd hi => absurd hi (Nat.not_lt_zero _)⟩
    | succ n ih =>
      intro hn
      obtain ⟨val, hv⟩ := ih (by omega)
      obtain ⟨nd, hnd⟩ : ∃ nd, nodes[n]? = some nd := ⟨_, List.getElem?_eq_getElem (by omega)⟩
      refine ⟨fun i => if i = n then (if nd.kind = 1 then σ nd.name else .mk nd.kind 0 (nd.parts.map val)) else val i, fun i nd' hi hnd' => ?_⟩
      have hmap : ∀ {j : Nat} {nj : Nd}, nodes[j]? = some nj → j ≤ n → nj.parts.map (fun i => if i = n then (if nd.kind = 1 then σ nd.name else .mk nd.kind 0 (nd.parts.map val)) else val i) = nj.parts.map val := fun {j nj} hj hjn =>
        List.map_congr_left fun p hp => by
          have := (hw j nj hj).2.1 p hp
          exact if_neg (by omega)
      rw [hmap hnd' (by omega)]
      by_cases he : i = n
      · subst he
        rw [hnd] at hnd'
        injection hnd' with hnd'
        subst hnd'
        simp
      · simp only [if_neg he]
        exact hv i nd' (by omega) hnd'
  obtain ⟨val, hv⟩ := step nodes.length (Nat.le_refl _)
  exact ⟨val, fun i nd hi => hv i nd (List.getElem?_eq_some_iff.1 hi).1 hi⟩
/-- A graph's variables and their nodes. -/
structure GVar (G : GSt) : Prop where
  there : ∀ n i, mget G.2 n = some i → ∃ nd, G.1[i]? = some nd ∧ nd.kind = 1 ∧ nd.name = n
  back : ∀ (i : Nat) (nd : Nd), G.1[i]? = some nd → nd.kind = 1 → mget G.2 nd.name = some i
theorem GVar.push {G : GSt} (h : GVar G) (hG : Gok G) {x : Nd} (hx : x.kind ≠ 1) : GVar (G.1 ++ [x], G.2) := by
  refine ⟨fun n i hi => ?_, fun i nd hi hk => ?_⟩
  · obtain ⟨nd, h1, h2⟩ := h.there n i hi
    exact ⟨nd, by simp only; rw [List.getElem?_append_left (hG n i hi)]; exact h1, h2⟩
  · simp only at hi ⊢
    rcases Nat.lt_or_ge i G.1.length with hl | hl
    · rw [List.getElem?_append_left hl] at hi
      exact h.back i nd hi hk
    · rw [List.getElem?_append_right hl] at hi
      have h0 : i - G.1.length = 0 := by
        have := (List.getElem?_eq_some_iff.1 hi).1
        simp at this
        omega
      rw [h0] at hi
      simp only [List.getElem?_cons_zero, Option.some.injEq] at hi
      subst hi
      exact absurd hk hx
def AddSem (t : Ty) : Prop := ∀ G : GSt, t.right = true → Gok G → GWf G.1 → GVar G → GVar (t.addTo G).1 ∧ ∀ (σ : Int → Ty) (val : Nat → Ty), NodeEq (t.addTo G).1.1 σ val → val (t.addTo G).2 = t.inst σ
theorem addAll_sem : ∀ (ps : List Ty), (∀ p, p ∈ ps → AddSem p) → ∀ G : GSt, (∀ p, p ∈ ps → p.right = true) → Gok G → GWf G.1 → GVar G →
    GVar (Ty.addAll ps G).1 ∧ ∀ (σ : Int → Ty) (val : Nat → Ty), NodeEq (Ty.addAll ps G).1.1 σ val → (Ty.addAll ps G).2.map val = ps.map (Ty.inst σ)
  | [], _, G, _, _, _, hv => by rw [Ty.addAll]; exact ⟨hv, fun _ _ _ => rfl⟩
  | p :: ps, ih, G, hr, hG, hw, hv => by
    have hrp := hr p List.mem_cons_self
    obtain ⟨h1, h2⟩ := ih p List.mem_cons_self G hrp hG hw hv
    obtain ⟨_, _, hG1, _⟩ := add_law p G hG
    obtain ⟨hw1, _⟩ := add_wf p G hrp hG hw
    have hrs : ∀ q, q ∈ ps → q.right = true := fun q hq => hr q (List.mem_cons_of_mem _ hq)
    obtain ⟨h3, h4⟩ := addAll_sem ps (fun q hq => ih q (List.mem_cons_of_mem _ hq)) (p.addTo G).1 hrs hG1 hw1 h1
    obtain ⟨_, hpre⟩ := addAll_wf ps (fun q _ => add_wf q) (p.addTo G).1 hrs hG1 hw1
    rw [Ty.addAll]
    refine ⟨h3, fun σ val hn => ?_⟩
    simp only [List.map_cons]
    rw [h4 σ val hn, h2 σ val (hn.front hpre)]
theorem add_sem : ∀ t : Ty, AddSem t := by
  apply Ty.ind_
  intro k n ps ih G hr hG hw hv
  obtain ⟨h8, hps⟩ := Ty.right_cases hr
  rw [Ty.addTo]
  split
  · rename_i hk
    subst hk
    split
    · rename_i i hi
      refine ⟨hv, fun σ val hn => ?_⟩
      obtain ⟨nd, h1, h2, h3⟩ := hv.there n i hi
      simp only
      rw [hn i nd h1, if_pos h2, h3, Ty.inst, if_pos rfl]
    · rename_i hi
      refine ⟨⟨fun m i hm => ?_, fun i nd hnd hk => ?_⟩, fun σ val hn => ?_⟩
      · simp only at hm ⊢
        rw [mget_mput] at hm
        split at hm
        · rename_i e
          injection hm with hm
          subst hm
          exact ⟨⟨1, n, []⟩, by simp, rfl, e⟩
        · obtain ⟨nd, h1, h2⟩ := hv.there m i hm
          exact ⟨nd, by rw [List.getElem?_append_left (hG m i hm)]; exact h1, h2⟩
      · simp only at hnd ⊢
        rw [mget_mput]
        rcases Nat.lt_or_ge i G.1.length with hl | hl
        · rw [List.getElem?_append_left hl] at hnd
          have hb := hv.back i nd hnd hk
          rw [if_neg (fun e => by rw [← e, hi] at hb; cases hb)]
          exact hb
        · rw [List.getElem?_append_right hl] at hnd
          have h0 : i - G.1.length = 0 := by
            have := (List.getElem?_eq_some_iff.1 hnd).1
            simp at this
            omega
          rw [h0] at hnd
          simp only [List.getElem?_cons_zero, Option.some.injEq] at hnd
          subst hnd
          rw [if_pos rfl]
          congr 1
          omega
      · have := hn G.1.length ⟨1, n, []⟩ (by simp)
        simp only at this ⊢
        rw [this, Ty.inst]
        simp
  · rename_i hk
    obtain ⟨h1, h2⟩ := addAll_sem ps ih G hps hG hw hv
    obtain ⟨_, _, hG1, _⟩ := addAll_law ps (fun p _ => add_law p) G hG
    refine ⟨GVar.push h1 hG1 hk, fun σ val hn => ?_⟩
    have h3 := hn (Ty.addAll ps G).1.1.length ⟨k, 0, (Ty.addAll ps G).2⟩ (by simp)
    simp only at h3 ⊢
    rw [h3, if_neg hk, Ty.inst, if_neg hk, Ty.insts_eq, h2 σ val (hn.front (List.prefix_append _ _))]
end Go.Proofs.YtdppkdjgadiinaaGreat
