/- Plain: what holds of a closure's classes while equations come in. -/
import Derived.Test.YtdppkdjgadiinaaGreatSem
set_option linter.unusedVariables false
set_option linter.unusedSimpArgs false
namespace Go.Proofs.YtdppkdjgadiinaaGreat
open Go.RowKit

abbrev Cl.n (s : Cl) : Nat := s.G.1.length
abbrev Cl.wh (s : Cl) (r : Nat) : Int := s.whole.getD r 0
/-- A function that gives the nodes of a class the same, and both of each pair that waits. -/
def Resp {α : Type} (s : Cl) (wt : List (Nat × Nat)) (f : Nat → α) : Prop := (∀ i j, i < s.n → j < s.n → rtN s i = rtN s j → f i = f j) ∧ ∀ p, p ∈ wt → f p.1 = f p.2
/-- A class's whole is one of its nodes that is no variable; none, if all are. -/
def CI (s : Cl) : Prop := ∀ r, r < s.n → rtN s r = r → (s.wh r < 0 → ∀ i, i < s.n → rtN s i = r → kindOf s.G.1 i = 1) ∧ (0 ≤ s.wh r → (s.wh r).toNat < s.n ∧ rtN s (s.wh r).toNat = r ∧ kindOf s.G.1 (s.wh r).toNat ≠ 1)
/-- Nodes of a class are alike, part by part. -/
def Cong (s : Cl) (wt : List (Nat × Nat)) : Prop := ∀ f : Nat → Nat, Resp s wt f → ∀ i, i < s.n → kindOf s.G.1 i ≠ 1 → kindOf s.G.1 i = kindOf s.G.1 (s.wh (rtN s i)).toNat ∧ (partsOf s.G.1 i).map f = (partsOf s.G.1 (s.wh (rtN s i)).toNat).map f
theorem rtN_lt {s : Cl} (h : Cok s) {i : Nat} (hi : i < s.n) : rtN s i < s.n ∧ rtN s (rtN s i) = rtN s i := by
  obtain ⟨_, h2, h3⟩ := h.rtN hi
  refine ⟨h2, ?_⟩
  obtain ⟨r, hr⟩ : ∃ r, r = rtN s i := ⟨_, rfl⟩
  rw [← hr] at h3 ⊢
  unfold rtN
  rw [List.getD_eq_getElem?_getD, h3]
  simp
theorem joined_at {s : Cl} (h : Cok s) {a b : Nat} (x : Int) (ha : a < s.n) (hb : b < s.n) :
    ∃ u l, ((u = a ∧ l = b) ∨ (u = b ∧ l = a)) ∧ (∀ i, i < s.n → rtN (s.joined a b x) i = if rtN s i = l then u else rtN s i) ∧ (∀ r, r < s.n → (s.joined a b x).wh r = if r = u then x else s.wh r) := by
  refine ⟨upper s.rank a b, lower s.rank a b, upper_lower, fun i hi => ?_, fun r hr => ?_⟩
  · obtain ⟨h1, _, _⟩ := h.rtN hi
    unfold Cl.joined
    conv => lhs; unfold rtN
    rw [List.getD_eq_getElem?_getD, joinRt_at, h1]
    simp only [Option.map_some, Option.getD_some]
    by_cases e : rtN s i = lower s.rank a b
    · rw [if_pos e, if_pos (by rw [e])]; simp
    · rw [if_neg e, if_neg (by omega)]; simp
  · unfold Cl.joined Cl.wh
    have hw := h.whl
    have hn : s.n = s.G.1.length := rfl
    simp only [List.getD_eq_getElem?_getD, List.getElem?_set]
    by_cases e : r = upper s.rank a b
    · subst e
      rw [if_pos rfl, if_pos rfl, if_pos (by omega)]
      rfl
    · rw [if_neg (Ne.symm e), if_neg e]
theorem joined_G (s : Cl) (a b : Nat) (x : Int) : (s.joined a b x).G = s.G := rfl
/-- What a step does. -/
theorem joined_inv {s : Cl} (h : Cok s) {p : Nat × Nat} (h1 : p.1 < s.n) (h2 : p.2 < s.n) (hab : rtN s p.1 ≠ rtN s p.2) (x : Int) (hci : CI s)
    (hx : (x < 0 ∧ s.wh (rtN s p.1) < 0 ∧ s.wh (rtN s p.2) < 0) ∨ (0 ≤ x ∧ (x = s.wh (rtN s p.1) ∨ x = s.wh (rtN s p.2)))) :
    CI (s.joined (rtN s p.1) (rtN s p.2) x) ∧ (∀ i j, i < s.n → j < s.n → rtN s i = rtN s j → rtN (s.joined (rtN s p.1) (rtN s p.2) x) i = rtN (s.joined (rtN s p.1) (rtN s p.2) x) j) ∧ rtN (s.joined (rtN s p.1) (rtN s p.2) x) p.1 = rtN (s.joined (rtN s p.1) (rtN s p.2) x) p.2 ∧
      (∀ i, i < s.n → (s.joined (rtN s p.1) (rtN s p.2) x).wh (rtN (s.joined (rtN s p.1) (rtN s p.2) x) i) = if rtN s i = rtN s p.1 ∨ rtN s i = rtN s p.2 then x else s.wh (rtN s i)) ∧
      ∀ i j, i < s.n → j < s.n → rtN (s.joined (rtN s p.1) (rtN s p.2) x) i = rtN (s.joined (rtN s p.1) (rtN s p.2) x) j → rtN s i = rtN s j ∨ ((rtN s i = rtN s p.1 ∨ rtN s i = rtN s p.2) ∧ (rtN s j = rtN s p.1 ∨ rtN s j = rtN s p.2)) := by
  obtain ⟨a1, a2⟩ := rtN_lt h h1
  obtain ⟨b1, b2⟩ := rtN_lt h h2
  obtain ⟨a, ha⟩ : ∃ a, a = rtN s p.1 := ⟨_, rfl⟩
  obtain ⟨b, hb⟩ : ∃ b, b = rtN s p.2 := ⟨_, rfl⟩
  rw [← ha] at a1 a2 hab hx
  rw [← hb] at b1 b2 hab hx
  rw [← ha, ← hb]
  obtain ⟨u, l, hul, hrt, hwh⟩ := joined_at h x a1 b1
  have hG : (s.joined a b x).G = s.G := rfl
  have hn : (s.joined a b x).n = s.n := rfl
  have hune : u ≠ l := by rcases hul with ⟨e1, e2⟩ | ⟨e1, e2⟩ <;> rw [e1, e2] <;> first | exact hab | exact fun e => hab e.symm
  have hu : u < s.n := by rcases hul with ⟨e1, _⟩ | ⟨e1, _⟩ <;> rw [e1] <;> assumption
  have huu : rtN s u = u := by rcases hul with ⟨e1, _⟩ | ⟨e1, _⟩ <;> rw [e1] <;> assumption
  have hmem : ∀ r, (r = a ∨ r = b) ↔ (r = u ∨ r = l) := fun r => by rcases hul with ⟨rfl, rfl⟩ | ⟨rfl, rfl⟩ <;> constructor <;> (intro h; rcases h with h | h <;> simp [h])
  have hto : ∀ i, i < s.n → (rtN s i = a ∨ rtN s i = b) → rtN (s.joined a b x) i = u := fun i hi hab' => by
    rw [hrt i hi]
    rcases (hmem _).1 hab' with e | e
    · rw [if_neg (by rw [e]; exact hune), e]
    · rw [if_pos e]
  have hnot : ∀ i, i < s.n → ¬ (rtN s i = a ∨ rtN s i = b) → rtN (s.joined a b x) i = rtN s i := fun i hi hab' => by
    rw [hrt i hi, if_neg (fun e => hab' ((hmem _).2 (.inr e)))]
  refine ⟨?_, ?_, ?_, ?_, ?_⟩
  · intro r hr hrr
    rw [hn] at hr
    by_cases he : r = u
    · subst he
      have hwu := hwh r hr
      rw [if_pos rfl] at hwu
      rw [hwu, hG]
      have hcls : ∀ i, i < s.n → rtN (s.joined a b x) i = r → rtN s i = a ∨ rtN s i = b := fun i hi hi2 => by
        rw [hrt i hi] at hi2
        split at hi2
        · rename_i e; exact (hmem _).2 (.inr e)
        · exact (hmem _).2 (.inl hi2)
      constructor
      · intro hx0 i hi hi2
        rcases hx with ⟨_, e1, e2⟩ | ⟨e, _⟩
        · rcases hcls i hi hi2 with e | e
          · exact (hci a a1 a2).1 e1 i hi e
          · exact (hci b b1 b2).1 e2 i hi e
        · omega
      · intro hx0
        rcases hx with ⟨e, _⟩ | ⟨_, e | e⟩
        · omega
        · obtain ⟨c1, c2, c3⟩ := (hci a a1 a2).2 (by rw [← e]; exact hx0)
          rw [← e] at c1 c2 c3
          exact ⟨c1, hto _ c1 (.inl c2), c3⟩
        · obtain ⟨c1, c2, c3⟩ := (hci b b1 b2).2 (by rw [← e]; exact hx0)
          rw [← e] at c1 c2 c3
          exact ⟨c1, hto _ c1 (.inr c2), c3⟩
    · have hwu := hwh r hr
      rw [if_neg he] at hwu
      rw [hwu, hG]
      have hrs : rtN s r = r ∧ r ≠ l := by
        rw [hrt r hr] at hrr
        split at hrr
        · exact absurd hrr.symm he
        · rename_i e; exact ⟨hrr, fun e2 => e (by rw [hrr]; exact e2)⟩
      have hnab : ¬ (r = a ∨ r = b) := fun e => by rcases (hmem r).1 e with e | e; exact he e; exact hrs.2 e
      constructor
      · intro hx0 i hi hi2
        refine (hci r hr hrs.1).1 hx0 i hi ?_
        by_cases e : rtN s i = a ∨ rtN s i = b
        · rw [hto i hi e] at hi2; exact absurd hi2.symm he
        · rw [hnot i hi e] at hi2; exact hi2
      · intro hx0
        obtain ⟨c1, c2, c3⟩ := (hci r hr hrs.1).2 hx0
        exact ⟨c1, by rw [hnot _ c1 (by rw [c2]; exact hnab)]; exact c2, c3⟩
  · intro i j hi hj hij
    rw [hrt i hi, hrt j hj, hij]
  · rw [hto _ h1 (.inl ha.symm), hto _ h2 (.inr hb.symm)]
  · intro i hi
    by_cases e : rtN s i = a ∨ rtN s i = b
    · rw [if_pos e, hto i hi e, hwh u hu, if_pos rfl]
    · rw [if_neg e, hnot i hi e, hwh _ (rtN_lt h hi).1, if_neg (fun e2 => e ((hmem _).2 (.inl e2)))]
  · intro i j hi hj hij
    by_cases e : rtN s i = a ∨ rtN s i = b
    · by_cases e2 : rtN s j = a ∨ rtN s j = b
      · exact .inr ⟨e, e2⟩
      · rw [hto i hi e, hnot j hj e2] at hij
        exact absurd ((hmem _).2 (.inl hij.symm)) e2
    · by_cases e2 : rtN s j = a ∨ rtN s j = b
      · rw [hnot i hi e, hto j hj e2] at hij
        exact absurd ((hmem _).2 (.inl hij)) e
      · rw [hnot i hi e, hnot j hj e2] at hij
        exact .inl hij
theorem map_of_zip {α : Type} {f : Nat → α} : ∀ {xs ys : List Nat}, xs.length = ys.length → (∀ p, p ∈ xs.zip ys → f p.1 = f p.2) → xs.map f = ys.map f
  | [], [], _, _ => rfl
  | [], y :: ys, h, _ => by simp at h
  | x :: xs, [], h, _ => by simp at h
  | x :: xs, y :: ys, h, hz => by
    rw [List.map_cons, List.map_cons, hz (x, y) (by simp), map_of_zip (by simpa using h) (fun p hp => hz p (by simp only [List.zip_cons_cons]; exact List.mem_cons_of_mem _ hp))]
theorem zip_of_map {α : Type} {f : Nat → α} : ∀ {xs ys : List Nat}, xs.map f = ys.map f → ∀ p, p ∈ xs.zip ys → f p.1 = f p.2
  | [], ys, _, p, hp => by simp at hp
  | x :: xs, [], _, p, hp => by simp at hp
  | x :: xs, y :: ys, h, p, hp => by
    simp only [List.map_cons, List.cons.injEq] at h
    simp only [List.zip_cons_cons, List.mem_cons] at hp
    rcases hp with rfl | hp
    · exact h.1
    · exact zip_of_map h.2 p hp
/-- One step of the work, that doesn't clash. -/
theorem step_inv {s : Cl} (h : Cok s) {wait : List (Nat × Nat)} {p : Nat × Nat} (h1 : p.1 < s.n) (h2 : p.2 < s.n) (hci : CI s) (hco : Cong s (wait ++ [p])) (hok : (s.tick.join (rtN s p.1) (rtN s p.2)).2.2 = true) :
    CI (s.tick.join (rtN s p.1) (rtN s p.2)).1 ∧ Cong (s.tick.join (rtN s p.1) (rtN s p.2)).1 (wait ++ (s.tick.join (rtN s p.1) (rtN s p.2)).2.1) ∧
      (∀ i j, i < s.n → j < s.n → rtN s i = rtN s j → rtN (s.tick.join (rtN s p.1) (rtN s p.2)).1 i = rtN (s.tick.join (rtN s p.1) (rtN s p.2)).1 j) ∧ rtN (s.tick.join (rtN s p.1) (rtN s p.2)).1 p.1 = rtN (s.tick.join (rtN s p.1) (rtN s p.2)).1 p.2 := by
  have hT : Cok s.tick := h.tick
  have hciT : CI s.tick := hci
  obtain ⟨a1, a2⟩ := rtN_lt h h1
  obtain ⟨b1, b2⟩ := rtN_lt h h2
  by_cases hab : rtN s p.1 = rtN s p.2
  · have hj : s.tick.join (rtN s p.1) (rtN s p.2) = (s.tick, [], true) := by unfold Cl.join; rw [if_pos hab]
    rw [hj]
    refine ⟨hci, ?_, fun i j _ _ e => e, hab⟩
    intro f hf i hi hk
    refine hco f ⟨hf.1, fun q hq => ?_⟩ i hi hk
    rcases List.mem_append.1 hq with e | e
    · exact hf.2 q (List.mem_append_left _ e)
    · simp only [List.mem_singleton] at e
      subst e
      exact hf.1 _ _ h1 h2 hab
  · have key : ∀ (x : Int) (new : List (Nat × Nat)), ((x < 0 ∧ s.wh (rtN s p.1) < 0 ∧ s.wh (rtN s p.2) < 0) ∨ (0 ≤ x ∧ (x = s.wh (rtN s p.1) ∨ x = s.wh (rtN s p.2)))) →
        (∀ f : Nat → Nat, Resp s (wait ++ [p]) f → (∀ q, q ∈ new → f q.1 = f q.2) → ∀ r, (r = rtN s p.1 ∨ r = rtN s p.2) → 0 ≤ s.wh r → kindOf s.G.1 (s.wh r).toNat = kindOf s.G.1 x.toNat ∧ (partsOf s.G.1 (s.wh r).toNat).map f = (partsOf s.G.1 x.toNat).map f) →
        CI (s.tick.joined (rtN s p.1) (rtN s p.2) x) ∧ Cong (s.tick.joined (rtN s p.1) (rtN s p.2) x) (wait ++ new) ∧
        (∀ i j, i < s.n → j < s.n → rtN s i = rtN s j → rtN (s.tick.joined (rtN s p.1) (rtN s p.2) x) i = rtN (s.tick.joined (rtN s p.1) (rtN s p.2) x) j) ∧ rtN (s.tick.joined (rtN s p.1) (rtN s p.2) x) p.1 = rtN (s.tick.joined (rtN s p.1) (rtN s p.2) x) p.2 := by
      intro x new hx hnew
      obtain ⟨j1, j2, j3, j4, j5⟩ := joined_inv hT (p := p) h1 h2 hab x hciT hx
      refine ⟨j1, ?_, j2, j3⟩
      intro f hf i hi hk
      have hfs : Resp s (wait ++ [p]) f := ⟨fun i j hi hj hij => hf.1 i j hi hj (j2 i j hi hj hij), fun q hq => by
        rcases List.mem_append.1 hq with e | e
        · exact hf.2 q (List.mem_append_left _ e)
        · simp only [List.mem_singleton] at e
          subst e
          exact hf.1 _ _ h1 h2 j3⟩
      obtain ⟨k1, k2⟩ := hco f hfs i hi hk
      have e4 := j4 i hi
      rw [show (s.tick.joined (rtN s p.1) (rtN s p.2) x).G = s.G from rfl]
      rw [show (s.tick.joined (rtN s.tick p.1) (rtN s.tick p.2) x).wh (rtN (s.tick.joined (rtN s.tick p.1) (rtN s.tick p.2) x) i) = (s.tick.joined (rtN s p.1) (rtN s p.2) x).wh (rtN (s.tick.joined (rtN s p.1) (rtN s p.2) x) i) from rfl] at e4
      rw [e4]
      split
      · rename_i hr
        have hge : 0 ≤ s.wh (rtN s i) := by
          rcases Int.lt_or_le (s.wh (rtN s i)) 0 with e | e
          · exact absurd ((hci _ (rtN_lt h hi).1 (rtN_lt h hi).2).1 e i hi rfl) hk
          · exact e
        obtain ⟨n1, n2⟩ := hnew f hfs (fun q hq => hf.2 q (List.mem_append_right _ hq)) _ hr hge
        exact ⟨k1.trans n1, k2.trans n2⟩
      · exact ⟨k1, k2⟩
    unfold Cl.join at hok ⊢
    rw [if_neg hab] at hok ⊢
    by_cases hv : s.tick.whole.getD (rtN s p.1) 0 < 0 ∨ s.tick.whole.getD (rtN s p.2) 0 < 0
    · rw [if_pos hv]
      have hv' : s.wh (rtN s p.1) < 0 ∨ s.wh (rtN s p.2) < 0 := hv
      refine key (max (s.wh (rtN s p.1)) (s.wh (rtN s p.2))) [] ?_ ?_
      · clear hv
        rcases Int.le_total (s.wh (rtN s p.1)) (s.wh (rtN s p.2)) with e | e
        · rw [Int.max_eq_right e]
          rcases Int.lt_or_le (s.wh (rtN s p.2)) 0 with e2 | e2
          · exact .inl ⟨e2, by omega, e2⟩
          · exact .inr ⟨e2, .inr rfl⟩
        · rw [Int.max_eq_left e]
          rcases Int.lt_or_le (s.wh (rtN s p.1)) 0 with e2 | e2
          · exact .inl ⟨e2, e2, by omega⟩
          · exact .inr ⟨e2, .inl rfl⟩
      · intro f _ _ r hr hge
        have : max (s.wh (rtN s p.1)) (s.wh (rtN s p.2)) = s.wh r := by
          rcases hr with rfl | rfl
          · exact Int.max_eq_left (by omega)
          · exact Int.max_eq_right (by omega)
        rw [this]
        exact ⟨rfl, rfl⟩
    · rw [if_neg hv] at hok ⊢
      have hv' : 0 ≤ s.wh (rtN s p.1) ∧ 0 ≤ s.wh (rtN s p.2) := by
        have : ¬ (s.wh (rtN s p.1) < 0 ∨ s.wh (rtN s p.2) < 0) := hv
        omega
      split at hok
      · rename_i hkl
        rw [if_pos hkl]
        refine key _ _ (.inr ⟨hv'.1, .inl rfl⟩) ?_
        intro f _ hz r hr hge
        rcases hr with rfl | rfl
        · exact ⟨rfl, rfl⟩
        · exact ⟨hkl.1.symm, (map_of_zip hkl.2 hz).symm⟩
      · cases hok
end Go.Proofs.YtdppkdjgadiinaaGreat
