/- Equations as data; plain: what equations make of a closure. -/
import Derived.Test.YtdppkdjgadiinaaGreatCount
set_option linter.unusedVariables false
set_option linter.unusedSimpArgs false
namespace Go.Proofs.YtdppkdjgadiinaaGreat
open Go.RowKit

structure Eqn where
  l : Ty
  r : Ty
  a : Int
  b : Int
def Eqn.enc (e : Eqn) : List Dat := e.l.enc ++ e.r.enc ++ [.raw (.int .i64 e.a), .raw (.int .i64 e.b)]
def Eqn.right (e : Eqn) : Bool := e.l.right && e.r.right
def Eqn.size (e : Eqn) : Nat := e.l.size + e.r.size
/-- A row of equations. -/
def EqsAt (w : World) (S : Nat → Prop) (es : List Eqn) (v : Value) : Prop := (Dat.row 8 (es.map Eqn.enc)).at w S v
theorem Eqn.cells {w : World} {S : Nat → Prop} {e : Eqn} {us : List Value} : CellsAt w S e.enc us ↔ ∃ s t, us = [.int .i64 e.l.kind, .int .i64 e.l.n, s, .int .i64 e.r.kind, .int .i64 e.r.n, t, .int .i64 e.a, .int .i64 e.b] ∧ PartsAt w S e.l s ∧ PartsAt w S e.r t := by
  unfold Eqn.enc
  rw [Ty.enc_eq, Ty.enc_eq]
  simp only [List.cons_append, List.nil_append, CellsAt_cons, CellsAt_nil, Dat.raw_at, PartsAt]
  constructor
  · rintro ⟨_, _, rfl, rfl, _, _, rfl, rfl, s, _, rfl, h, _, _, rfl, rfl, _, _, rfl, rfl, t, _, rfl, h2, _, _, rfl, rfl, _, _, rfl, rfl, rfl⟩
    exact ⟨s, t, rfl, h, h2⟩
  · rintro ⟨s, t, rfl, h, h2⟩
    exact ⟨_, _, rfl, rfl, _, _, rfl, rfl, s, _, rfl, h, _, _, rfl, rfl, _, _, rfl, rfl, t, _, rfl, h2, _, _, rfl, rfl, _, _, rfl, rfl, rfl⟩
theorem EqsAt.below {w w' : World} {S : Nat → Prop} {es : List Eqn} {v : Value} (h : EqsAt w S es v) (hb : Below w.heap.size w w') : EqsAt w' S es v := Dat.at_below h hb
theorem EqsAt.shape {w : World} {S : Nat → Prop} {es : List Eqn} {v : Value} (h : EqsAt w S es v) : ∃ A c, v = .slice A es.length c ∧ es.length ≤ 9223372036854775807 := by
  obtain ⟨A, c, rfl, h1, h2, _⟩ := Dat.row_at.1 h
  rw [List.length_map] at h1
  rw [List.length_map]
  exact ⟨A, c, rfl, by simp only [maxLen] at h2; omega⟩
/-- An equation in a row: its cells. -/
theorem eqRow_elem {w : World} {S : Nat → Prop} {es : List Eqn} {A : Option Addr} {n c k : Nat} {x : Eqn} (h : EqsAt w S es (.slice A n c)) (hx : es[k]? = some x) :
    ∃ ad As cs At ct, A = some ad ∧ S ad.block ∧ ad.block < w.heap.size ∧ w.cell? (ad.add (k * 8)) = some (.int .i64 x.l.kind) ∧ w.cell? ⟨(ad.add (k * 8)).block, (ad.add (k * 8)).off + 1, none⟩ = some (.int .i64 x.l.n) ∧
      w.cell? ⟨(ad.add (k * 8)).block, (ad.add (k * 8)).off + 2, none⟩ = some (.slice As x.l.parts.length cs) ∧ w.cell? ⟨(ad.add (k * 8)).block, (ad.add (k * 8)).off + 3, none⟩ = some (.int .i64 x.r.kind) ∧
      w.cell? ⟨(ad.add (k * 8)).block, (ad.add (k * 8)).off + 4, none⟩ = some (.int .i64 x.r.n) ∧ w.cell? ⟨(ad.add (k * 8)).block, (ad.add (k * 8)).off + 5, none⟩ = some (.slice At x.r.parts.length ct) ∧
      w.cell? ⟨(ad.add (k * 8)).block, (ad.add (k * 8)).off + 6, none⟩ = some (.int .i64 x.a) ∧ w.cell? ⟨(ad.add (k * 8)).block, (ad.add (k * 8)).off + 7, none⟩ = some (.int .i64 x.b) ∧
      PartsAt w S x.l (.slice As x.l.parts.length cs) ∧ PartsAt w S x.r (.slice At x.r.parts.length ct) := by
  obtain ⟨A', c', he, _, _, hel⟩ := Dat.row_at.1 h
  injection he with he _ _
  subst he
  obtain ⟨ad, us, rfl, hS, hbl, hus, hc, hk1⟩ := hel k x.enc (by rw [List.getElem?_map]; exact congrArg (Option.map Eqn.enc) hx)
  obtain ⟨s, t, rfl, h4, h5⟩ := Eqn.cells.1 hk1
  have h0 := hc 0 _ rfl
  have h1 := hc 1 _ rfl
  have h2 := hc 2 _ rfl
  have h3 := hc 3 _ rfl
  have h6 := hc 4 _ rfl
  have h7 := hc 5 _ rfl
  have h8 := hc 6 _ rfl
  have h9 := hc 7 _ rfl
  rw [Nat.add_zero] at h0
  rw [add_field _ _ 1 (by omega)] at h1
  rw [add_field _ _ 2 (by omega)] at h2
  rw [add_field _ _ 3 (by omega)] at h3
  rw [add_field _ _ 4 (by omega)] at h6
  rw [add_field _ _ 5 (by omega)] at h7
  rw [add_field _ _ 6 (by omega)] at h8
  rw [add_field _ _ 7 (by omega)] at h9
  obtain ⟨As, cs, rfl, _⟩ := h4.shape
  obtain ⟨At, ct, rfl, _⟩ := h5.shape
  exact ⟨ad, As, cs, At, ct, rfl, hS, hbl, h0, h1, h2, h3, h6, h7, h8, h9, h4, h5⟩
theorem Ty.right_thin : ∀ t : Ty, t.right = true → t.thin := by
  apply Ty.ind_
  intro k n ps ih hr
  obtain ⟨h8, hp⟩ := Ty.right_cases hr
  rw [Ty.thin]
  exact ⟨by omega, (Ty.thins_iff ps).2 fun p hpm => ih p hpm (hp p hpm)⟩

/-! ### a closure's way -/
theorem Work.keeps {s : Cl} {wt : List (Nat × Nat)} {t : Cl} (h : Work s wt t) : Cok s → (∀ p, p ∈ wt → p.1 < s.G.1.length ∧ p.2 < s.G.1.length) → Cok t ∧ t.G = s.G := by
  induction h with
  | done s => exact fun h _ => ⟨h, rfl⟩
  | clash s wait p h =>
    intro hk hw
    obtain ⟨p1, p2⟩ := hw p (by simp)
    have hc := hk.tick.join (hk.tick.rtN p1).2.2 (hk.tick.rtN p2).2.2
    obtain ⟨c1, c2, _⟩ := hc
    exact ⟨⟨c1.vars, c1.nodes, c1.rtl, c1.whl, c1.rt, c1.wh⟩, c2⟩
  | more s wait p t h k ih =>
    intro hk hw
    obtain ⟨p1, p2⟩ := hw p (by simp)
    have hc := hk.tick.join (hk.tick.rtN p1).2.2 (hk.tick.rtN p2).2.2
    obtain ⟨c1, c2, c3, c4, _⟩ := hc
    have hg : (s.tick.join (rtN s p.1) (rtN s p.2)).1.G = s.G := c2
    obtain ⟨d1, d2⟩ := ih c1 (fun q hq => by
      rw [hg]
      rcases List.mem_append.1 hq with e | e
      · exact hw q (by simp [e])
      · exact c4 q e)
    exact ⟨d1, by rw [d2, hg]⟩
theorem Cok.layG {s : Cl} (h : Cok s) (t : Ty) : (s.lay t).G = (t.addTo s.G).1 := (Cl.layAt h t).g
structure EqdOk (s : Cl) (l r : Ty) (s' : Cl) : Prop where
  ok : Cok s'
  keys : KeysOk s'.G
  len : s'.G.1.length ≤ s.G.1.length + l.size + r.size
  g : s'.G = ((s.lay l).lay r).G
theorem Equated.ok {s s' : Cl} {l r : Ty} (h : Equated s l r s') (hk : Cok s) (hy : KeysOk s.G) (hl : l.right = true) (hr : r.right = true) : EqdOk s l r s' := by
  have h1 := hk.lay hl
  have h2 := h1.lay hr
  have g1 := hk.layG l
  have g2 := h1.layG r
  obtain ⟨a1, a2, a3, a4⟩ := add_law l s.G hk.vars
  obtain ⟨b1, b2, b3, b4⟩ := add_law r (s.lay l).G h1.vars
  have w1 : (s.lay l).G.1.length = (l.addTo s.G).1.1.length := by rw [g1]
  have w2 : ((s.lay l).lay r).G.1.length = (r.addTo (s.lay l).G).1.1.length := by rw [g2]
  obtain ⟨c1, c2⟩ := Work.keeps h h2 (fun p hp => by
    simp only [List.mem_singleton] at hp
    subst hp
    exact ⟨by simp only; omega, by simp only; omega⟩)
  refine ⟨c1, ?_, by rw [c2]; omega, c2⟩
  rw [c2, g2]
  exact add_keys r _ hr (by rw [g1]; exact add_keys l _ hl hy)
def Cl.new : Cl := ⟨([], []), [], [], [], false, 0⟩
theorem Cl.new_ok : Cok Cl.new := ⟨fun n i h => by simp [Cl.new, mget_nil] at h, fun i nd h => by simp [Cl.new] at h, rfl, rfl, fun i x h => by simp [Cl.new] at h, fun i x h => by simp [Cl.new] at h⟩
theorem Cl.new_keys : KeysOk Cl.new.G := ⟨fun p hp => by simp [Cl.new] at hp, Nat.le_refl _⟩
/-- Equations come in, till they clash. -/
def EqsRun : List Eqn → Cl → Cl → Prop
  | [], s, s' => s' = s
  | e :: es, s, s' => ∃ s1, Equated s e.l e.r s1 ∧ if s1.clash then s' = s1 else EqsRun es s1 s'
noncomputable def codeOf (s : Cl) : Int := if s.clash then 7 else if s.walked.bad then 8 else 0
/-- What is told of equations. -/
def SatIs (es : List Eqn) (code : Int) : Prop := if es.all Eqn.right then ∃ s', EqsRun es Cl.new s' ∧ code = codeOf s' else code = 1
def sizes (es : List Eqn) : Nat := (es.map Eqn.size).sum
end Go.Proofs.YtdppkdjgadiinaaGreat
