/- Plain: what the walk tells: whether a class comes to itself. -/
import Derived.Test.YtdppkdjgadiinaaGreatWends
set_option linter.unusedVariables false
set_option linter.unusedSimpArgs false
namespace Go.Proofs.YtdppkdjgadiinaaGreat
open Go.RowKit

/-- One comes from a class to another one, part by part. -/
inductive Path (P : Nat → List Nat) : Nat → Nat → Prop
  | one {r q : Nat} (h : q ∈ P r) : Path P r q
  | step {r q t : Nat} (h : q ∈ P r) (k : Path P q t) : Path P r t
theorem Path.snoc {P : Nat → List Nat} {r q t : Nat} (h : Path P r q) (k : t ∈ P q) : Path P r t := by
  induction h with
  | one h => exact .step h (.one k)
  | step h _ ih => exact .step h (ih k)
/-- Each class of the stack is a part of the one beneath. -/
def Chn (P : Nat → List Nat) : List (Nat × Nat) → Prop
  | [] => True
  | [_] => True
  | (q, _) :: (r, j) :: rest => q ∈ P r ∧ Chn P ((r, j) :: rest)
theorem Chn.next {P : Nat → List Nat} {r j j' : Nat} {rest : List (Nat × Nat)} (h : Chn P ((r, j) :: rest)) : Chn P ((r, j') :: rest) := by
  cases rest with
  | nil => exact trivial
  | cons b rest => exact h
theorem Chn.tail {P : Nat → List Nat} {a : Nat × Nat} {rest : List (Nat × Nat)} (h : Chn P (a :: rest)) : Chn P rest := by
  cases rest with
  | nil => exact trivial
  | cons b rest => exact h.2
theorem Chn.path {P : Nat → List Nat} : ∀ {rest : List (Nat × Nat)} {r j q : Nat}, Chn P ((r, j) :: rest) → q ∈ ((r, j) :: rest).map (·.1) → q = r ∨ Path P q r
  | [], r, j, q, h, hq => by
    simp at hq
    exact .inl hq
  | (r2, j2) :: rest, r, j, q, h, hq => by
    simp only [List.map_cons, List.mem_cons] at hq
    rcases hq with e | hq
    · exact .inl e
    · have h2 : r ∈ P r2 := h.1
      rcases Chn.path (r := r2) (j := j2) h.2 (by simp only [List.map_cons, List.mem_cons]; exact hq) with e | e
      · exact .inr (e ▸ .one h2)
      · exact .inr (e.snoc h2)
/-- What is behind the next part of each class of the stack. -/
def SOk (P : Nat → List Nat) (st : List (Int × Int)) : Option Nat → List (Nat × Nat) → Prop
  | _, [] => True
  | up, (r, j) :: rest => (∀ (i q : Nat), i < j → (P r)[i]? = some q → (mget st (q : Int)).getD 0 = 2 ∨ up = some q) ∧ SOk P st (some r) rest
theorem SOk.mono {P : Nat → List Nat} {st st' : List (Int × Int)} (hm : ∀ q : Nat, (mget st (q : Int)).getD 0 = 2 → (mget st' (q : Int)).getD 0 = 2) : ∀ {l : List (Nat × Nat)} {up : Option Nat}, SOk P st up l → SOk P st' up l
  | [], _, _ => trivial
  | (r, j) :: rest, up, h => ⟨fun i q hi hq => (h.1 i q hi hq).imp (hm q) id, SOk.mono hm h.2⟩
structure WInv (P : Nat → List Nat) (x : Wk) : Prop where
  open_ : ∀ q : Nat, x.at q = 1 → q ∈ x.stack.map (·.1)
  inv : x.Inv
  vals : ∀ q : Nat, x.at q = 0 ∨ x.at q = 1 ∨ x.at q = 2
  chain : Chn P x.stack
  good : x.bad = false → (∃ h : Nat → Nat, ∀ r : Nat, x.at r = 2 → ∀ q, q ∈ P r → x.at q = 2 ∧ h q < h r) ∧ SOk P x.st none x.stack
  cyc : x.bad = true → ∃ q : Nat, x.at q ≠ 0 ∧ Path P q q
theorem exists_bound (h : Nat → Nat) : ∀ l : List Nat, ∃ B, ∀ q, q ∈ l → h q < B
  | [] => ⟨0, fun q hq => by simp at hq⟩
  | a :: l => by
    obtain ⟨B, hB⟩ := exists_bound h l
    refine ⟨B + h a + 1, fun q hq => ?_⟩
    rcases List.mem_cons.1 hq with rfl | hq
    · omega
    · have := hB q hq
      omega
theorem WInv.step {P : Nat → List Nat} {x : Wk} (hx : WInv P x) : WInv P (x.step P) := by
  have hinv := hx.inv.step P
  unfold Wk.step at hinv ⊢
  split
  · exact hx
  · rename_i r j rest hs
    rw [hs] at hinv
    simp only at hinv
    obtain ⟨o1, o2, o3, o4, o5, o6⟩ := hx
    rw [hs] at o1 o4 o5
    have hr1 : x.at r = 1 := o2.2 (r, j) (by rw [hs]; exact List.mem_cons_self)
    cases hq : (P r)[j]? with
    | some q =>
      rw [hq] at hinv
      have hqm : q ∈ P r := List.mem_of_getElem? hq
      by_cases h0 : x.at q = 0
      · simp only [if_pos h0] at hinv ⊢
        have hput : ∀ t : Nat, Wk.at ⟨mput x.st q 1, (q, 0) :: (r, j + 1) :: rest, tick64 (tick64 (tick64 x.steps)), x.bad⟩ t = if q = t then 1 else x.at t := fun t => Wk.at_put _ _ _ _ _ _ _
        refine ⟨fun t ht => ?_, hinv, fun t => ?_, ⟨hqm, o4.next⟩, fun hb => ?_, fun hb => by
          obtain ⟨t, t1, t2⟩ := o6 hb
          refine ⟨t, ?_, t2⟩
          rw [hput]
          split
          · decide
          · exact t1⟩
        · rw [hput] at ht
          split at ht
          · rename_i e; rw [← e]; exact List.mem_cons_self
          · have := o1 t ht
            simp only [List.map_cons] at this ⊢
            exact List.mem_cons_of_mem _ this
        · rw [hput]
          split
          · exact .inr (.inl rfl)
          · exact o3 t
        · obtain ⟨⟨h, hh⟩, g2⟩ := o5 hb
          have m2 : ∀ t : Nat, (mget x.st (t : Int)).getD 0 = 2 → (mget (mput x.st q 1) (t : Int)).getD 0 = 2 := fun t ht => by
            have := hput t
            unfold Wk.at at this
            simp only at this
            rw [this]
            split
            · rename_i e; rw [e] at h0; unfold Wk.at at h0; omega
            · exact ht
          refine ⟨⟨h, fun r2 hr2 q2 hq2 => ?_⟩, fun i t hi _ => absurd hi (Nat.not_lt_zero _), ?_, ?_⟩
          · rw [hput] at hr2
            split at hr2
            · cases hr2
            · obtain ⟨a1, a2⟩ := hh r2 hr2 q2 hq2
              exact ⟨m2 q2 a1, a2⟩
          · intro i t hi ht
            rcases Nat.lt_or_ge i j with h | h
            · rcases g2.1 i t h ht with e | e
              · exact .inl (m2 t e)
              · cases e
            · have : i = j := by omega
              subst this
              rw [hq] at ht
              exact .inr ht
          · exact g2.2.mono m2
      · simp only [if_neg h0] at hinv ⊢
        by_cases h1 : x.at q = 1
        · simp only [if_pos h1] at hinv ⊢
          refine ⟨fun t ht => by have := o1 t ht; simpa using this, hinv, o3, o4.next, (fun hb => nomatch hb), fun _ => ?_⟩
          have h1' : Wk.at ⟨x.st, (r, j + 1) :: rest, tick64 x.steps, true⟩ q ≠ 0 := h0
          rcases o4.path (o1 q h1) with e | e
          · exact ⟨q, h1', e ▸ .one (e ▸ hqm)⟩
          · exact ⟨q, h1', e.snoc hqm⟩
        · simp only [if_neg h1] at hinv ⊢
          have h2 : x.at q = 2 := by rcases o3 q with e | e | e <;> first | exact absurd e h0 | exact absurd e h1 | exact e
          refine ⟨fun t ht => by have := o1 t ht; simpa using this, hinv, o3, o4.next, fun hb => ?_, o6⟩
          obtain ⟨g1, g2⟩ := o5 hb
          refine ⟨g1, fun i t hi ht => ?_, g2.2⟩
          rcases Nat.lt_or_ge i j with h | h
          · exact g2.1 i t h ht
          · have : i = j := by omega
            subst this
            rw [hq] at ht
            injection ht with ht
            exact .inl (ht ▸ h2)
    | none =>
      rw [hq] at hinv
      simp only at hinv ⊢
      have hput : ∀ t : Nat, Wk.at ⟨mput x.st r 2, rest, if rest = [] then x.steps else tick64 x.steps, x.bad⟩ t = if r = t then 2 else x.at t := fun t => Wk.at_put _ _ _ _ _ _ _
      refine ⟨fun t ht => ?_, hinv, fun t => ?_, o4.tail, fun hb => ?_, fun hb => by
        obtain ⟨t, t1, t2⟩ := o6 hb
        refine ⟨t, ?_, t2⟩
        rw [hput]
        split
        · decide
        · exact t1⟩
      · rw [hput] at ht
        split at ht
        · cases ht
        · rename_i hne
          have := o1 t ht
          simp only [List.map_cons, List.mem_cons] at this
          rcases this with e | e
          · exact absurd e.symm hne
          · exact e
      · rw [hput]
        split
        · exact .inr (.inr rfl)
        · exact o3 t
      · obtain ⟨⟨h, hh⟩, g2⟩ := o5 hb
        have hall : ∀ q, q ∈ P r → x.at q = 2 := fun q hqm => by
          obtain ⟨i, hi⟩ := List.mem_iff_getElem?.1 hqm
          have hij : i < j := by
            rcases Nat.lt_or_ge i j with e | e
            · exact e
            · have h1 := (List.getElem?_eq_some_iff.1 hi).1
              rw [List.getElem?_eq_none_iff] at hq
              omega
          rcases g2.1 i q hij hi with e | e
          · exact e
          · cases e
        have m2 : ∀ t : Nat, (mget x.st (t : Int)).getD 0 = 2 → (mget (mput x.st r 2) (t : Int)).getD 0 = 2 := fun t ht => by
          have := hput t
          unfold Wk.at at this
          simp only at this
          rw [this]
          split
          · rfl
          · exact ht
        obtain ⟨B, hB⟩ := exists_bound h (P r)
        refine ⟨⟨fun y => if y = r then B else h y, fun r2 hr2 q hqm => ?_⟩, ?_⟩
        · rw [hput] at hr2
          have hqr : ∀ q, x.at q = 2 → q ≠ r := fun q h2 e => by rw [e, hr1] at h2; cases h2
          split at hr2
          · rename_i e
            subst e
            have h2 := hall q hqm
            refine ⟨m2 q h2, ?_⟩
            simp only [if_neg (hqr q h2), if_true]
            exact hB q hqm
          · rename_i e
            obtain ⟨a1, a2⟩ := hh r2 hr2 q hqm
            refine ⟨m2 q a1, ?_⟩
            simp only [if_neg (hqr q a1), if_neg (Ne.symm e)]
            exact a2
        · have g3 := g2.2
          cases rest with
          | nil => exact trivial
          | cons b rest =>
            obtain ⟨r2, j2⟩ := b
            refine ⟨fun i t hi ht => ?_, g3.2.mono m2⟩
            rcases g3.1 i t hi ht with e | e
            · exact .inl (m2 t e)
            · injection e with e
              refine .inl ?_
              have := hput t
              unfold Wk.at at this
              simp only at this
              rw [this, if_pos e]
theorem Wk.seen_step {P : Nat → List Nat} {x : Wk} (hx : WInv P x) {t : Nat} (h : x.at t ≠ 0) : (x.step P).at t ≠ 0 := by
  unfold Wk.step
  split
  · exact h
  · split
    · split
      · rw [Wk.at_put]
        split
        · decide
        · exact h
      · split
        · exact h
        · exact h
    · rw [Wk.at_put]
      split
      · decide
      · exact h
theorem WInv.steps {P : Nat → List Nat} : ∀ (n : Nat) {x : Wk}, WInv P x → WInv P (Wk.steps_ P n x) ∧ ∀ t : Nat, x.at t ≠ 0 → (Wk.steps_ P n x).at t ≠ 0
  | 0, x, h => ⟨h, fun _ h => h⟩
  | n + 1, x, h => by
    obtain ⟨h1, h2⟩ := WInv.steps n h.step
    exact ⟨h1, fun t ht => h2 t (Wk.seen_step h ht)⟩
theorem WInv.goes {P : Nat → List Nat} {x : Wk} (h : WInv P x) (hs : x.stack = []) {r : Nat} (hE : (x.enter r).Ends P) : WInv P (x.goes P r) ∧ (x.goes P r).stack = [] ∧ (x.goes P r).at r = 2 ∧ ∀ t : Nat, x.at t = 2 → (x.goes P r).at t = 2 := by
  have done : ∀ {y : Wk}, WInv P y → y.stack = [] → ∀ t : Nat, y.at t ≠ 0 → y.at t = 2 := fun {y} hy hys t ht => by
    rcases hy.vals t with e | e | e
    · exact absurd e ht
    · have := hy.open_ t e
      rw [hys] at this
      simp at this
    · exact e
  unfold Wk.goes
  split
  · rename_i h0
    have hput : ∀ t : Nat, (x.enter r).at t = if r = t then 1 else x.at t := fun t => Wk.at_put _ _ _ _ _ _ _
    have he : WInv P (x.enter r) := by
      refine ⟨fun t ht => ?_, Wk.Inv.enter x r, fun t => ?_, trivial, fun hb => ?_, fun hb => by
        obtain ⟨t, t1, t2⟩ := h.cyc hb
        refine ⟨t, ?_, t2⟩
        rw [hput]
        split
        · decide
        · exact t1⟩
      · rw [hput] at ht
        split at ht
        · rename_i e; rw [← e]; exact List.mem_cons_self
        · have := h.open_ t ht
          rw [hs] at this
          simp at this
      · rw [hput]
        split
        · exact .inr (.inl rfl)
        · exact h.vals t
      · obtain ⟨⟨g, hg⟩, _⟩ := h.good hb
        refine ⟨⟨g, fun r2 hr2 q hq => ?_⟩, fun i t hi _ => absurd hi (Nat.not_lt_zero _), trivial⟩
        rw [hput] at hr2
        split at hr2
        · cases hr2
        · obtain ⟨a1, a2⟩ := hg r2 hr2 q hq
          refine ⟨?_, a2⟩
          rw [hput, if_neg (fun e => by rw [e] at h0; omega)]
          exact a1
    obtain ⟨n, hn⟩ := hE
    rw [Wk.finish_is hn]
    obtain ⟨h1, h2⟩ := WInv.steps n he
    refine ⟨h1, hn, done h1 hn r (h2 r (by rw [hput, if_pos rfl]; decide)), fun t ht => done h1 hn t (h2 t (by rw [hput]; split; decide; omega))⟩
  · rename_i h0
    exact ⟨h, hs, done h hs r h0, fun _ ht => ht⟩
theorem WInv.zero (P : Nat → List Nat) : WInv P ⟨[], [], 0, false⟩ := by
  have h0 : ∀ q : Nat, Wk.at ⟨[], [], 0, false⟩ q = 0 := fun q => rfl
  refine ⟨fun q hq => ?_, ⟨by simp, fun p hp => by simp at hp⟩, fun q => .inl rfl, trivial, fun _ => ⟨⟨fun _ => 0, fun r hr => ?_⟩, trivial⟩, (fun hb => nomatch hb)⟩
  · rw [h0] at hq; cases hq
  · rw [h0] at hr; cases hr
/-- All classes that were met are below N. -/
def Wk.Low (N : Nat) (x : Wk) : Prop := ∀ q : Nat, x.at q ≠ 0 → q < N
theorem Wk.Low.step {P : Nat → List Nat} {N : Nat} (hP : ∀ r, r < N → ∀ q, q ∈ P r → q < N) {x : Wk} (hi : x.Inv) (h : x.Low N) : (x.step P).Low N := by
  have keep : ∀ (stack : List (Nat × Nat)) (n v : Int) (b : Bool) (r : Nat), r < N → Wk.Low N ⟨mput x.st r v, stack, n, b⟩ := fun stack n v b r hr q hq => by
    rw [Wk.at_put] at hq
    split at hq
    · rename_i e; rw [← e]; exact hr
    · exact h q hq
  unfold Wk.step
  split
  · exact h
  · rename_i r j rest hs
    have hr : r < N := h r (by rw [hi.2 (r, j) (by rw [hs]; exact List.mem_cons_self)]; decide)
    split
    · rename_i q hq
      have hqN := hP r hr q (List.mem_of_getElem? hq)
      split
      · exact keep _ _ _ _ q hqN
      · split
        · exact h
        · exact h
    · exact keep _ _ _ _ r hr
theorem Wk.Low.steps {P : Nat → List Nat} {N : Nat} (hP : ∀ r, r < N → ∀ q, q ∈ P r → q < N) : ∀ (n : Nat) {x : Wk}, x.Inv → x.Low N → (Wk.steps_ P n x).Low N
  | 0, x, _, h => h
  | n + 1, x, hi, h => Wk.Low.steps hP n (hi.step P) (h.step hP hi)
theorem Wk.Low.goes {P : Nat → List Nat} {N : Nat} (hP : ∀ r, r < N → ∀ q, q ∈ P r → q < N) {x : Wk} (h : x.Low N) {r : Nat} (hr : r < N) (hE : (x.enter r).Ends P) : (x.goes P r).Low N := by
  unfold Wk.goes
  split
  · obtain ⟨n, hn⟩ := hE
    rw [Wk.finish_is hn]
    refine Wk.Low.steps hP n (Wk.Inv.enter x r) (fun q hq => ?_)
    unfold Wk.enter at hq
    rw [Wk.at_put] at hq
    split at hq
    · rename_i e; rw [← e]; exact hr
    · exact h q hq
  · exact h
end Go.Proofs.YtdppkdjgadiinaaGreat
