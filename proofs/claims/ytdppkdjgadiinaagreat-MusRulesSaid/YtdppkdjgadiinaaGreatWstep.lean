/- Package cycle: the walk's machine comes to its end; its frames in memory. -/
import Derived.Test.YtdppkdjgadiinaaGreatEnd
set_option linter.unusedVariables false
set_option linter.unusedSimpArgs false
namespace Go.Proofs.YtdppkdjgadiinaaGreat
open Go.RowKit

theorem Wk.Ends.step {P : Nat → List Nat} {x : Wk} (h : x.Ends P) : (x.step P).Ends P := by
  obtain ⟨n, hn⟩ := h
  cases n with
  | zero => exact ⟨0, by rw [Wk.step_nil P (show x.stack = [] from hn)]; exact hn⟩
  | succ n => exact ⟨n, hn⟩
theorem Wk.finish_step {P : Nat → List Nat} {x : Wk} (h : x.Ends P) : (x.step P).finish P = x.finish P := by
  obtain ⟨n, hn⟩ := h.step
  rw [Wk.finish_is hn, Wk.finish_is (n := n + 1) hn, Wk.steps_]
theorem Wk.finish_nil {P : Nat → List Nat} {x : Wk} (h : x.stack = []) : x.finish P = x := Wk.finish_is (n := 0) h
noncomputable def Wk.todo (P : Nat → List Nat) (x : Wk) : Nat := leastOf fun n => (Wk.steps_ P n x).stack = []
theorem Wk.todo_step {P : Nat → List Nat} {x : Wk} (h : x.Ends P) (hs : x.stack ≠ []) : (x.step P).todo P < x.todo P := by
  have h1 : (Wk.steps_ P (x.todo P) x).stack = [] := leastOf_spec (p := fun n => (Wk.steps_ P n x).stack = []) h
  cases hn : x.todo P with
  | zero => rw [hn] at h1; exact absurd h1 hs
  | succ n =>
    rw [hn, Wk.steps_] at h1
    exact Nat.lt_succ_of_le (leastOf_le (p := fun n => (Wk.steps_ P n (x.step P)).stack = []) h1)
theorem nodup_len : ∀ (N : Nat) (l : List Nat), l.Nodup → (∀ x, x ∈ l → x < N) → l.length ≤ N
  | 0, l, _, h => by
    cases l with
    | nil => exact Nat.le_refl _
    | cons a l => exact absurd (h a List.mem_cons_self) (Nat.not_lt_zero _)
  | N + 1, l, hn, h => by
    by_cases hN : N ∈ l
    · have h1 := nodup_len N (l.erase N) (hn.erase N) (fun x hx => by
        have h2 := h x (List.mem_of_mem_erase hx)
        have h3 : x ≠ N := fun e => by subst e; exact (List.Nodup.not_mem_erase hn) hx
        omega)
      rw [List.length_erase_of_mem hN] at h1
      omega
    · have h1 := nodup_len N l hn (fun x hx => by
        have h2 := h x hx
        have h3 : x ≠ N := fun e => by subst e; exact hN hx
        omega)
      omega
/-- The classes of the stack are open, and unlike. -/
def Wk.Inv (x : Wk) : Prop := (x.stack.map (·.1)).Nodup ∧ ∀ p, p ∈ x.stack → x.at p.1 = 1
theorem Wk.at_put (st : List (Int × Int)) (stack : List (Nat × Nat)) (n v : Int) (b : Bool) (r q : Nat) : Wk.at ⟨mput st r v, stack, n, b⟩ q = if r = q then v else (mget st q).getD 0 := by
  unfold Wk.at
  rw [mget_mput]
  by_cases h : r = q
  · rw [if_pos h, if_pos (by rw [h])]; rfl
  · rw [if_neg h, if_neg (by omega)]
theorem Wk.Inv.step {x : Wk} (h : x.Inv) (P : Nat → List Nat) : (x.step P).Inv := by
  unfold Wk.step
  split
  · exact h
  · rename_i r j rest hs
    obtain ⟨h1, h2⟩ := h
    rw [hs] at h1 h2
    simp only [List.map_cons, List.nodup_cons] at h1
    split
    · rename_i q hq
      split
      · rename_i h0
        have hqn : ∀ p, p ∈ (r, j) :: rest → p.1 ≠ q := fun p hp e => by have := h2 p hp; rw [e, h0] at this; omega
        refine ⟨?_, fun p hp => ?_⟩
        · simp only [List.map_cons, List.nodup_cons]
          refine ⟨fun hm => ?_, h1⟩
          rcases List.mem_cons.1 hm with e | e
          · exact hqn (r, j) List.mem_cons_self e.symm
          · obtain ⟨p, hp, e⟩ := List.mem_map.1 e
            exact hqn p (List.mem_cons_of_mem _ hp) e
        · rw [Wk.at_put]
          rcases List.mem_cons.1 hp with e | hp
          · rw [e]; simp
          · have hp' : ∃ p', p' ∈ (r, j) :: rest ∧ p'.1 = p.1 := by
              rcases List.mem_cons.1 hp with e | hp
              · exact ⟨(r, j), List.mem_cons_self, by rw [e]⟩
              · exact ⟨p, List.mem_cons_of_mem _ hp, rfl⟩
            obtain ⟨p', hp', e⟩ := hp'
            rw [if_neg (fun e2 => hqn p' hp' (by omega)), ← e]
            exact h2 p' hp'
      · have one : ((r, j + 1) :: rest).map (·.1) = ((r, j) :: rest).map (·.1) := rfl
        have two : ∀ p, p ∈ (r, j + 1) :: rest → (mget x.st p.1).getD 0 = 1 := fun p hp => by
          rcases List.mem_cons.1 hp with e | hp
          · rw [e]; exact h2 (r, j) List.mem_cons_self
          · exact h2 p (List.mem_cons_of_mem _ hp)
        split
        · exact ⟨by simp only [List.map_cons, List.nodup_cons]; exact h1, two⟩
        · exact ⟨by simp only [List.map_cons, List.nodup_cons]; exact h1, two⟩
    · refine ⟨h1.2, fun p hp => ?_⟩
      rw [Wk.at_put, if_neg (fun e => h1.1 (by rw [e]; exact List.mem_map.2 ⟨p, hp, rfl⟩))]
      exact h2 p (List.mem_cons_of_mem _ hp)
theorem Wk.Inv.enter (x : Wk) (r : Nat) : (x.enter r).Inv := by
  refine ⟨by simp [Wk.enter], fun p hp => ?_⟩
  simp only [Wk.enter, List.mem_singleton] at hp
  unfold Wk.enter
  rw [Wk.at_put, if_pos (by rw [hp])]
/-- A row of frames whose last frame's place is another one. -/
theorem FrameK.next {w : World} {g n c : Nat} {fs : List Fr} {f : Fr} {k : Nat} (h : GRow FrameK w (.slice (some ⟨g, 0, none⟩) n c) (f :: fs).reverse) (j : Nat) (hk : k = fs.length * 3 + 2) :
    GRow FrameK (w.setCell ⟨g, k, none⟩ (.int .i64 j)) (.slice (some ⟨g, 0, none⟩) n c) ({ f with next := j } :: fs).reverse := by
  subst hk
  unfold GRow at h ⊢
  obtain ⟨A, c', e⟩ := GRow.shape (K := FrameK) h
  have hn : n = (f :: fs).reverse.length := by simp only [Value.slice.injEq] at e; exact e.2.1
  rw [show (.slice (some ⟨g, 0, none⟩) n c : Value) = .slice (some ⟨g, 0, none⟩) (f :: fs).reverse.length c by rw [hn]] at h ⊢
  have h2 := (h.stored (fs.length * 3 + 2) (.int .i64 j)).1
  have e1 : (RK.cells FrameK (f :: fs).reverse).set (fs.length * 3 + 2) (.int .i64 j) = RK.cells FrameK ({ f with next := j } :: fs).reverse := by
    rw [List.reverse_cons, List.reverse_cons, RK.cells_append, RK.cells_append, RK.cells_one, RK.cells_one]
    have hl : (RK.cells FrameK fs.reverse).length = fs.length * 3 := by rw [RK.cells_len FrameK_ok, List.length_reverse]; rfl
    rw [List.set_append_right _ _ (by omega), hl, Nat.add_sub_cancel_left]
    rfl
  rw [e1] at h2
  have e2 : ({ f with next := j } :: fs).reverse.length = (f :: fs).reverse.length := by simp
  rw [e2]
  exact h2
theorem FrameK.top {w : World} {v : Value} {fs : List Fr} {f : Fr} (h : GRow FrameK w v (f :: fs).reverse) : ∃ g c, v = .slice (some ⟨g, 0, none⟩) (fs.length + 1) c ∧
    w.cell? ⟨g, fs.length * 3, none⟩ = some (.int .i64 f.id) ∧ w.cell? ⟨g, fs.length * 3 + 1, none⟩ = some (.slice f.A f.n f.c) ∧ w.cell? ⟨g, fs.length * 3 + 2, none⟩ = some (.int .i64 f.next) ∧ fs.length + 1 ≤ c ∧ c ≤ 9223372036854775807 ∧
    (∀ k, k < 3 → w.frozen? ⟨g, fs.length * 3 + k, none⟩ = false) := by
  obtain ⟨g, c, e, h0, h1, h2⟩ := FrameK.cells h (i := fs.length) (f := f) (by simp)
  have e1 : (f :: fs).reverse.length = fs.length + 1 := by simp
  rw [e1] at e
  subst e
  have hc := h.cap
  have hfz : ∀ k, w.frozen? ⟨g, k, none⟩ = false := by
    rcases h.2 with ⟨e, _⟩ | ⟨g', cap, cur, e, hb, hh, _⟩
    · cases e
    · simp only [Value.slice.injEq, Option.some.injEq, Addr.mk.injEq, and_true] at e
      obtain ⟨rfl, _, _⟩ := e
      intro k
      simp [World.frozen?, hh]
  exact ⟨g, c, rfl, h0, h1, h2, by simpa using hc.1, hc.2, fun k _ => hfz _⟩
/-- What the walk knows. -/
structure WkL (w : World) (F : Nat → Prop) (c : Nat) (s : Cl) (wk m0 m1 m2 m3 : Nat) (st : List (Int × Int)) (steps : Int) (bad : Bool) (fs : List Fr) (v : Value) (wr : World) : Prop where
  cl : ClAt wr F c s
  k : WkP wr wk m0 m1 m2 m3 st steps bad
  row : GRow FrameK wr v fs.reverse
  own : ∀ b, v.ownBlock = some b → w.heap.size < b
  fr : ∀ f, f ∈ fs → GRow (PartK c) wr (.slice f.A f.n f.c) (s.parts f.id) ∧ f.n = (s.parts f.id).length ∧ f.id < s.whole.length ∧ ∀ b, (Value.slice f.A f.n f.c).ownBlock = some b → w.heap.size < b ∧ v.ownBlock ≠ some b
  chg : Chg (fun k => F k ∨ wkF wk m0 m1 m2 m3 k) w wr
section
variable {w wr w' : World} {F : Nat → Prop} {c : Nat} {s : Cl} {wk m0 m1 m2 m3 : Nat} {st st' : List (Int × Int)} {steps steps' : Int} {bad bad' : Bool} {f : Fr} {fs : List Fr} {v : Value}
/-- Something that changes the walker, or nothing that was there. -/
theorem WkL.move (h : WkL w F c s wk m0 m1 m2 m3 st steps bad fs v wr) (hF : ∀ k, F k ∨ wkF wk m0 m1 m2 m3 k → k < w.heap.size) (hd : ∀ k, wkF wk m0 m1 m2 m3 k → ¬ F k) (hc : Chg (wkF wk m0 m1 m2 m3) wr w') (hk : WkP w' wk m0 m1 m2 m3 st' steps' bad') : WkL w F c s wk m0 m1 m2 m3 st' steps' bad' fs v w' :=
  ⟨h.cl.step (fun k hk => hc.block k (h.cl.lt k hk) (fun e => hd k e hk)) hc.size, hk, h.row.step (fun k hk => hc.block k (h.row.lt k hk) (fun e => by have := h.own k hk; have := hF k (.inr e); omega)), h.own,
   fun f hf => by
    obtain ⟨a1, a2, a3, a4⟩ := h.fr f hf
    exact ⟨a1.step (fun k hk => hc.block k (a1.lt k hk) (fun e => by have := (a4 k hk).1; have := hF k (.inr e); omega)), a2, a3, a4⟩,
   h.chg.trans hc (fun k hk _ => .inl (.inr hk))⟩
theorem WkL.keep (h : WkL w F c s wk m0 m1 m2 m3 st steps bad fs v wr) (hb : Below wr.heap.size wr w') : WkL w F c s wk m0 m1 m2 m3 st steps bad fs v w' :=
  ⟨h.cl.keep hb, h.k.keep hb, h.row.keep hb, h.own, fun f hf => by
    obtain ⟨a1, a2, a3, a4⟩ := h.fr f hf
    exact ⟨a1.keep hb, a2, a3, a4⟩, h.chg.thenBelow hb⟩
/-- The last frame's place is another one. -/
theorem WkL.next {g n ca k : Nat} (h : WkL w F c s wk m0 m1 m2 m3 st steps bad (f :: fs) (.slice (some ⟨g, 0, none⟩) n ca) wr) (hF : ∀ k, F k ∨ wkF wk m0 m1 m2 m3 k → k < w.heap.size) (j : Nat) (hk : k = fs.length * 3 + 2) :
    WkL w F c s wk m0 m1 m2 m3 st steps bad ({ f with next := j } :: fs) (.slice (some ⟨g, 0, none⟩) n ca) (wr.setCell ⟨g, k, none⟩ (.int .i64 j)) := by
  have hg : w.heap.size < g := h.own g (by simp [Value.ownBlock])
  have far : ∀ b, b ≠ g → (wr.setCell ⟨g, k, none⟩ (.int .i64 j)).heap[b]? = wr.heap[b]? := fun b hb => Below.heap_setCell _ _ _ _ hb
  refine ⟨h.cl.step (fun b hb => far b (fun e => by have := hF b (.inl hb); omega)) (by simp), h.k.step (fun b hb => far b (fun e => by have := hF b (.inr hb); omega)), FrameK.next h.row j hk, h.own, ?_, h.chg.setCell (p := ⟨g, k, none⟩) (.inr (by simp; omega)) _⟩
  have one : ∀ q, q ∈ f :: fs → GRow (PartK c) (wr.setCell ⟨g, k, none⟩ (.int .i64 j)) (.slice q.A q.n q.c) (s.parts q.id) ∧ q.n = (s.parts q.id).length ∧ q.id < s.whole.length ∧ ∀ b, (Value.slice q.A q.n q.c).ownBlock = some b → w.heap.size < b ∧ (Value.slice (some ⟨g, 0, none⟩) n ca).ownBlock ≠ some b := fun q hq => by
    obtain ⟨a1, a2, a3, a4⟩ := h.fr q hq
    exact ⟨a1.step (fun b hb => far b (fun e => (a4 b hb).2 (by simp [Value.ownBlock, e]))), a2, a3, a4⟩
  intro q hq
  rcases List.mem_cons.1 hq with rfl | hq
  · exact one f List.mem_cons_self
  · exact one q (List.mem_cons_of_mem _ hq)
/-- The last frame goes. -/
theorem WkL.pop {A : Option Addr} {n ca : Nat} (h : WkL w F c s wk m0 m1 m2 m3 st steps bad (f :: fs) (.slice A (n + 1) ca) wr) (hn : n = fs.length) : WkL w F c s wk m0 m1 m2 m3 st steps bad fs (.slice A n ca) wr := by
  have e : (Value.slice A n ca).ownBlock = (Value.slice A (n + 1) ca).ownBlock := by cases A <;> rfl
  refine ⟨h.cl, h.k, ?_, fun b hb => h.own b (e ▸ hb), fun q hq => ?_, h.chg⟩
  · have := h.row
    rw [List.reverse_cons] at this
    exact this.pop FrameK_ok (by rw [hn, List.length_reverse])
  · obtain ⟨a1, a2, a3, a4⟩ := h.fr q (List.mem_cons_of_mem _ hq)
    exact ⟨a1, a2, a3, fun b hb => ⟨(a4 b hb).1, fun e2 => (a4 b hb).2 (e ▸ e2)⟩⟩
/-- A frame more. -/
theorem WkL.push {w2 w3 w4 : World} {q n ca : Nat} {A : Option Addr} {v4 : Value} {st2 : List (Int × Int)} {steps2 : Int} {bad2 : Bool} (h : WkL w F c s wk m0 m1 m2 m3 st steps bad fs v wr) (hF : ∀ k, F k ∨ wkF wk m0 m1 m2 m3 k → k < w.heap.size)
    (c2 : ClAt w2 F c s) (k2 : WkP w2 wk m0 m1 m2 m3 st2 steps2 bad2) (g2 : GRow (PartK c) w2 (.slice A n ca) (s.parts q)) (own2 : ∀ k, (Value.slice A n ca).ownBlock = some k → wr.heap.size ≤ k) (ch2 : Chg (fun k => F k ∨ wkF wk m0 m1 m2 m3 k) wr w2) (hq : q < s.whole.length) (hn : n = (s.parts q).length)
    (h3 : Below w2.heap.size w2 w3) (hg : w3.grownBy w4 v.ownBlock) (row4 : GRow FrameK w4 v4 (fs.reverse ++ [⟨q, A, n, ca, 0⟩])) (own4 : v4.ownBlock = v.ownBlock ∨ v4.ownBlock = some w3.heap.size) (hw : w.heap.size < wr.heap.size) :
    WkL w F c s wk m0 m1 m2 m3 st2 steps2 bad2 (⟨q, A, n, ca, 0⟩ :: fs) v4 w4 := by
  have z1 := ch2.size
  have z2 := h3.size
  have z3 := hg.size
  have low : ∀ b, b < w2.heap.size → v.ownBlock ≠ some b → w4.heap[b]? = w2.heap[b]? := fun b hb hv => (hg.block b (by omega) (fun e => hv e.symm)).trans (h3.block b hb)
  have hv4 : ∀ b, v4.ownBlock = some b → w.heap.size < b := fun b hb => by
    rcases own4 with e | e
    · exact h.own b (e ▸ hb)
    · have e2 := hb.symm.trans e
      injection e2 with e2
      omega
  have hvF : ∀ b, F b ∨ wkF wk m0 m1 m2 m3 b → v.ownBlock ≠ some b := fun b hb e => by have := hF b hb; have := h.own b e; omega
  refine ⟨c2.step (fun b hb => low b (c2.lt b hb) (hvF b (.inl hb))) (by omega), k2.step (fun b hb => low b (k2.lt b hb) (hvF b (.inr hb))), by rw [List.reverse_cons]; exact row4, hv4, ?_, ((h.chg.trans ch2 (fun k hk _ => .inl hk)).thenBelow h3).grown hg (fun k hk => .inr (by have := h.own k hk; omega))⟩
  intro f hf
  rcases List.mem_cons.1 hf with rfl | hf
  · refine ⟨g2.step (fun b hb => low b (g2.lt b hb) (fun e => by have := h.row.lt b e; have := own2 b hb; omega)), hn, hq, fun b hb => ⟨by have := own2 b hb; omega, fun e => ?_⟩⟩
    rcases own4 with e4 | e4
    · have := h.row.lt b (e4 ▸ e); have := own2 b hb; omega
    · have e2 := e.symm.trans e4
      injection e2 with e2
      have := g2.lt b hb
      omega
  · obtain ⟨a1, a2, a3, a4⟩ := h.fr f hf
    have hst : ∀ b, (Value.slice f.A f.n f.c).ownBlock = some b → w4.heap[b]? = wr.heap[b]? := fun b hb => by
      have h1 := a1.lt b hb
      obtain ⟨h2, h4⟩ := a4 b hb
      rw [low b (by omega) h4]
      exact ch2.block b h1 (fun e => by have := hF b e; omega)
    refine ⟨a1.step hst, a2, a3, fun b hb => ⟨(a4 b hb).1, fun e => ?_⟩⟩
    rcases own4 with e4 | e4
    · exact (a4 b hb).2 (e4 ▸ e)
    · have e2 := e.symm.trans e4
      injection e2 with e2
      have := a1.lt b hb
      omega
end
end Go.Proofs.YtdppkdjgadiinaaGreat
