/- A region that draws its order: what a load reads may be taken first, though a later operation writes it, if that one waits for the load. -/
import Derived.Test.YtdppkdjgadiinaaGreatSea
import Derived.StillTail
set_option linter.unusedVariables false
set_option linter.unusedSimpArgs false
namespace Go.Proofs.YtdppkdjgadiinaaGreat
open Go.RowKit

section
variable {P : Program} {md : Region.Mode} {ops : Array Oper} {Q : Exit → Act → World → Prop} {S : World → Prop} {t : Nat}
/-- Whatever order is picked, and S holds till operation t has been carried out. -/
def wpTill (P : Program) (md : Region.Mode) (ops : Array Oper) (Q : Exit → Act → World → Prop) (S : World → Prop) (t : Nat) : Nat → Array Bool → Act → World → Prop
  | 0, listed, a, w => Region.ready md ops listed = [] ∧ Q .normal a w
  | fuel + 1, listed, a, w =>
    (Region.ready md ops listed = [] → Q .normal a w) ∧
    ∀ i ∈ Region.ready md ops listed, wpOp P ops Q i (fun a' w' => (i ≠ t → S w' ∧ wpTill P md ops Q S t fuel (listed.setIfInBounds i true) a' w') ∧ (i = t → wpAny P md ops Q fuel (listed.setIfInBounds i true) a' w')) a w
theorem wpAny_of_till : ∀ (fuel : Nat) (listed : Array Bool) (a : Act) (w : World), wpTill P md ops Q S t fuel listed a w → wpAny P md ops Q fuel listed a w
  | 0, _, _, _, h => h
  | fuel + 1, _, _, _, h => ⟨h.1, fun i hi => wpOp_mono (fun a' w' h' => by
      by_cases e : i = t
      · exact h'.2 e
      · exact wpAny_of_till fuel _ a' w' (h'.1 e).2) (h.2 i hi)⟩
theorem wpTill_first {i : Nat} {oi : Oper} {v : Value} (hi : ops[i]? = some oi) (hsel : ∀ (j : Nat) (o : Oper) cs b, ops[j]? = some o → o.op ≠ .select cs b)
    (hQ : ∀ c a w, Q (.panic c) (a.put oi.dst v) w → Q (.panic c) a w) (hit : i ≠ t) (hw : Region.waitsFor md ops t i = true) :
    ∀ (fuel : Nat) (listed : Array Bool) (a : Act) (w : World),
      (∀ j oj, ops[j]? = some oj → j ≠ i → listed.getD j true = false → (∀ e ∈ oj.after, Region.binds md e = true → e.on ≠ i) → oi.apart ops oj = true) →
      i ∈ Region.ready md ops listed → YieldsIf P ops S oi v a → S w →
      wpTill P md ops Q S t fuel (listed.setIfInBounds i true) (a.put oi.dst v) w → wpTill P md ops Q S t (fuel + 1) listed a w := by
  intro fuel
  induction fuel with
  | zero =>
    intro listed a w _ hr hy hS H
    refine ⟨fun h => (by rw [h] at hr; cases hr), fun j hj => ?_⟩
    by_cases hji : j = i
    · subst hji; exact hy.wpOp hi hS ⟨fun _ => ⟨hS, H⟩, fun e => absurd e hit⟩
    · have := ready_mono hj hji
      rw [H.1] at this
      cases this
  | succ fuel ih =>
    intro listed a w hfree hr hy hS H
    refine ⟨fun h => (by rw [h] at hr; cases hr), fun j hj => ?_⟩
    by_cases hji : j = i
    · subst hji; exact hy.wpOp hi hS ⟨fun _ => ⟨hS, H⟩, fun e => absurd e hit⟩
    · have h1 := H.2 j (ready_mono hj hji)
      obtain ⟨hjun, oj, hoj, hall⟩ := mem_ready.1 hj
      have hnot : ∀ e ∈ oj.after, Region.binds md e = true → e.on ≠ i := fun e he hb heq => by
        have h1 := hall e he hb
        have h0 := (mem_ready.1 hr).1
        rw [heq] at h1
        rcases Nat.lt_or_ge i listed.size with h' | h'
        · simp [h'] at h0 h1; rw [h0] at h1; cases h1
        · simp [Array.getElem?_eq_none h'] at h1
      have hjt : j ≠ t := fun e => by
        subst e
        obtain ⟨oj', hoj', e, he, hb, hon⟩ := Region.waitsFor_spec hw
        have : oj' = oj := Option.some.inj (hoj'.symm.trans hoj)
        subst this
        exact hnot e he hb hon
      have h2 := wpOp_putIf hoj (hfree j oj hoj hji hjun hnot) (fun cs b => hsel i oi cs b hi) (fun cs b => hsel j oj cs b hoj) hQ hy h1
      have hfree' : ∀ k ok, ops[k]? = some ok → k ≠ i → (listed.setIfInBounds j true).getD k true = false →
          (∀ e ∈ ok.after, Region.binds md e = true → e.on ≠ i) → oi.apart ops ok = true := fun k ok hk hki hun hno => by
        refine hfree k ok hk hki ?_ hno
        by_cases hjk : j = k
        · subst hjk; exact hjun
        · rw [getD_set_ne true hjk] at hun; exact hun
      refine wpOp_mono (fun a' w' h3 => ⟨fun _ => ?_, fun e => absurd e hjt⟩) h2
      obtain ⟨s1, s2⟩ := h3.2.1 hjt
      refine ⟨s1, ih (listed.setIfInBounds j true) a' w' hfree' (ready_mono hr (Ne.symm hji)) h3.1 s1 ?_⟩
      rw [Array.setIfInBounds_comm _ _ hji]
      exact s2
theorem wpTill_take {i : Nat} {oi : Oper} {v : Value} {fuel : Nat} {listed : Array Bool} {a : Act} {w : World} (d : Option Tmp) (hi : ops.toList[i]? = some oi) (hd : oi.dst = d)
    (hs : Region.noSelect ops = true) (hf : Region.free md ops listed i = true) (hr : (Region.ready md ops listed).contains i = true) (hw : (i != t && Region.waitsFor md ops t i) = true)
    (hQ : ∀ c a w, Q (.panic c) (a.put d v) w → Q (.panic c) a w) (hy : YieldsIf P ops S oi v a) (hS : S w)
    (h : wpTill P md ops Q S t fuel (listed.setIfInBounds i true) (a.put d v) w) : wpTill P md ops Q S t (fuel + 1) listed a w := by
  subst hd
  rw [Array.getElem?_toList] at hi
  simp only [Bool.and_eq_true, bne_iff_ne, ne_eq] at hw
  exact wpTill_first hi (Region.noSelect_spec hs) hQ hw.1 hw.2 fuel listed a w (Region.free_spec hi hf) (by simpa using hr) hy hS h
/-- What yields in every world may be taken first. -/
theorem wpTill_firstY {i : Nat} {oi : Oper} {v : Value} (hi : ops[i]? = some oi) (hsel : ∀ (j : Nat) (o : Oper) cs b, ops[j]? = some o → o.op ≠ .select cs b)
    (hQ : ∀ c a w, Q (.panic c) (a.put oi.dst v) w → Q (.panic c) a w) (hit : i ≠ t) :
    ∀ (fuel : Nat) (listed : Array Bool) (a : Act) (w : World),
      (∀ j oj, ops[j]? = some oj → j ≠ i → listed.getD j true = false → (∀ e ∈ oj.after, Region.binds md e = true → e.on ≠ i) → oi.apart ops oj = true) →
      i ∈ Region.ready md ops listed → Yields P ops oi v a → S w →
      wpTill P md ops Q S t fuel (listed.setIfInBounds i true) (a.put oi.dst v) w → wpTill P md ops Q S t (fuel + 1) listed a w := by
  intro fuel
  induction fuel with
  | zero =>
    intro listed a w _ hr hy hS H
    refine ⟨fun h => (by rw [h] at hr; cases hr), fun j hj => ?_⟩
    by_cases hji : j = i
    · subst hji; exact hy.wpOp hi ⟨fun _ => ⟨hS, H⟩, fun e => absurd e hit⟩
    · have := ready_mono hj hji
      rw [H.1] at this
      cases this
  | succ fuel ih =>
    intro listed a w hfree hr hy hS H
    refine ⟨fun h => (by rw [h] at hr; cases hr), fun j hj => ?_⟩
    by_cases hji : j = i
    · subst hji; exact hy.wpOp hi ⟨fun _ => ⟨hS, H⟩, fun e => absurd e hit⟩
    · have h1 := H.2 j (ready_mono hj hji)
      obtain ⟨hjun, oj, hoj, hall⟩ := mem_ready.1 hj
      have hnot : ∀ e ∈ oj.after, Region.binds md e = true → e.on ≠ i := fun e he hb heq => by
        have h1 := hall e he hb
        have h0 := (mem_ready.1 hr).1
        rw [heq] at h1
        rcases Nat.lt_or_ge i listed.size with h' | h'
        · simp [h'] at h0 h1; rw [h0] at h1; cases h1
        · simp [Array.getElem?_eq_none h'] at h1
      have h2 := wpOp_put hoj (hfree j oj hoj hji hjun hnot) (fun cs b => hsel i oi cs b hi) (fun cs b => hsel j oj cs b hoj) hQ hy h1
      have hfree' : ∀ k ok, ops[k]? = some ok → k ≠ i → (listed.setIfInBounds j true).getD k true = false →
          (∀ e ∈ ok.after, Region.binds md e = true → e.on ≠ i) → oi.apart ops ok = true := fun k ok hk hki hun hno => by
        refine hfree k ok hk hki ?_ hno
        by_cases hjk : j = k
        · subst hjk; exact hjun
        · rw [getD_set_ne true hjk] at hun; exact hun
      refine wpOp_mono (fun a' w' h3 => ⟨fun hjt => ?_, fun hjt => ?_⟩) h2
      · obtain ⟨s1, s2⟩ := h3.2.1 hjt
        refine ⟨s1, ih (listed.setIfInBounds j true) a' w' hfree' (ready_mono hr (Ne.symm hji)) h3.1 s1 ?_⟩
        rw [Array.setIfInBounds_comm _ _ hji]
        exact s2
      · have h4 := h3.2.2 hjt
        refine wpAny_first hi hsel hQ fuel (listed.setIfInBounds j true) a' w' hfree' (ready_mono hr (Ne.symm hji)) h3.1 ?_
        rw [Array.setIfInBounds_comm _ _ hji]
        exact h4
theorem wpTill_takeY {i : Nat} {oi : Oper} {v : Value} {fuel : Nat} {listed : Array Bool} {a : Act} {w : World} (d : Option Tmp) (hi : ops.toList[i]? = some oi) (hd : oi.dst = d)
    (hs : Region.noSelect ops = true) (hf : Region.free md ops listed i = true) (hr : (Region.ready md ops listed).contains i = true) (hw : (i != t) = true)
    (hQ : ∀ c a w, Q (.panic c) (a.put d v) w → Q (.panic c) a w) (hy : Yields P ops oi v a) (hS : S w)
    (h : wpTill P md ops Q S t fuel (listed.setIfInBounds i true) (a.put d v) w) : wpTill P md ops Q S t (fuel + 1) listed a w := by
  subst hd
  rw [Array.getElem?_toList] at hi
  exact wpTill_firstY hi (Region.noSelect_spec hs) hQ (by simpa using hw) fuel listed a w (Region.free_spec hi hf) (by simpa using hr) hy hS h
/-- One that alone may come up. -/
theorem wpTill_one {i : Nat} {o : Oper} {fuel : Nat} {listed : Array Bool} {a : Act} {w : World} (hr : Region.ready md ops listed = [i]) (ho' : ops.toList[i]? = some o) (hit : (i != t) = true)
    (h : ∀ K' : Act → World → Prop, Sh (∀ a w, S w → wpTill P md ops Q S t fuel (listed.setIfInBounds i true) a w → K' a w) → if Region.wanted o (yielded ops a.tmps) = true then Oper.wp P o a w K' Q else K' (a.put o.dst undef) w) : wpTill P md ops Q S t (fuel + 1) listed a w := by
  have ho := ho'
  rw [Array.getElem?_toList] at ho
  refine ⟨fun e => (by rw [hr] at e; cases e), fun j hj => ?_⟩
  rw [hr, List.mem_singleton] at hj
  subst hj
  have hne : j ≠ t := by simpa using hit
  exact wpOp_step ho (fun K' hK => h K' ⟨fun a w hS hT => hK a w ⟨fun _ => ⟨hS, hT⟩, fun e => absurd e hne⟩⟩)
/-- One of two may come up. -/
theorem wpTill_two {i k : Nat} {o o2 : Oper} {fuel : Nat} {listed : Array Bool} {a : Act} {w : World} (hr : Region.ready md ops listed = [i, k]) (ho' : ops.toList[i]? = some o) (ho2' : ops.toList[k]? = some o2) (hit : (i != t && k != t) = true)
    (h : ∀ K' : Act → World → Prop, Sh (∀ a w, S w → wpTill P md ops Q S t fuel (listed.setIfInBounds i true) a w → K' a w) → if Region.wanted o (yielded ops a.tmps) = true then Oper.wp P o a w K' Q else K' (a.put o.dst undef) w)
    (h2 : ∀ K' : Act → World → Prop, Sh (∀ a w, S w → wpTill P md ops Q S t fuel (listed.setIfInBounds k true) a w → K' a w) → if Region.wanted o2 (yielded ops a.tmps) = true then Oper.wp P o2 a w K' Q else K' (a.put o2.dst undef) w) : wpTill P md ops Q S t (fuel + 1) listed a w := by
  have ho := ho'
  rw [Array.getElem?_toList] at ho
  have ho2 := ho2'
  rw [Array.getElem?_toList] at ho2
  simp only [Bool.and_eq_true, bne_iff_ne, ne_eq] at hit
  refine ⟨fun e => (by rw [hr] at e; cases e), fun j hj => ?_⟩
  rw [hr] at hj
  rcases List.mem_cons.1 hj with e | hj
  · subst e
    exact wpOp_step ho (fun K' hK => h K' ⟨fun a w hS hT => hK a w ⟨fun _ => ⟨hS, hT⟩, fun e => absurd e hit.1⟩⟩)
  · rw [List.mem_singleton] at hj
    subst hj
    exact wpOp_step ho2 (fun K' hK => h2 K' ⟨fun a w hS hT => hK a w ⟨fun _ => ⟨hS, hT⟩, fun e => absurd e hit.2⟩⟩)
/-- The one that S held for. -/
theorem wpTill_last {o : Oper} {fuel : Nat} {listed : Array Bool} {a : Act} {w : World} (hr : Region.ready md ops listed = [t]) (ho' : ops.toList[t]? = some o)
    (h : ∀ K' : Act → World → Prop, Sh (∀ a w, wpAny P md ops Q fuel (listed.setIfInBounds t true) a w → K' a w) → if Region.wanted o (yielded ops a.tmps) = true then Oper.wp P o a w K' Q else K' (a.put o.dst undef) w) : wpTill P md ops Q S t (fuel + 1) listed a w := by
  have ho := ho'
  rw [Array.getElem?_toList] at ho
  refine ⟨fun e => (by rw [hr] at e; cases e), fun j hj => ?_⟩
  rw [hr, List.mem_singleton] at hj
  subst hj
  exact wpOp_step ho (fun K' hK => h K' ⟨fun a w hT => hK a w ⟨fun e => absurd rfl e, fun _ => hT⟩⟩)
theorem any_take {i : Nat} {oi : Oper} {v : Value} {fuel : Nat} {listed : Array Bool} {a : Act} {w : World} (d : Option Tmp) (hi : ops.toList[i]? = some oi) (hd : oi.dst = d)
    (hs : Region.noSelect ops = true) (hf : Region.free md ops listed i = true) (hr : (Region.ready md ops listed).contains i = true)
    (hQ : ∀ c a w, Q (.panic c) (a.put d v) w → Q (.panic c) a w) (hy : Yields P ops oi v a)
    (h : wpAny P md ops Q fuel (listed.setIfInBounds i true) (a.put d v) w) : wpAny P md ops Q (fuel + 1) listed a w := by
  subst hd
  rw [Array.getElem?_toList] at hi
  exact wpAny_take hi hs hf hr hQ hy h
theorem any_one {i : Nat} {o : Oper} {fuel : Nat} {listed : Array Bool} {a : Act} {w : World} (hr : Region.ready md ops listed = [i]) (ho' : ops.toList[i]? = some o)
    (h : ∀ K' : Act → World → Prop, Sh (∀ a w, wpAny P md ops Q fuel (listed.setIfInBounds i true) a w → K' a w) → if Region.wanted o (yielded ops a.tmps) = true then Oper.wp P o a w K' Q else K' (a.put o.dst undef) w) : wpAny P md ops Q (fuel + 1) listed a w := by
  rw [Array.getElem?_toList] at ho'
  exact wpAny_all hr (by simp) (fun j hj => by
    rw [List.mem_singleton] at hj
    subst hj
    exact wpOp_step ho' (fun K' hK => h K' ⟨hK⟩))
end
end Go.Proofs.YtdppkdjgadiinaaGreat
