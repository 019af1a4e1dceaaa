/- Package parse: the reader of tokens, at a text of one atom. -/
import Derived.Test.YtkfdhmeipnfhpaaGreatDoorLexb
import Derived.Test.YtkfdhmeipnfhpaaGreatDoorObj
set_option linter.unusedVariables false
set_option linter.unusedSimpArgs false
namespace Go.Proofs.YtkfdhmeipnfhpaaGreatDoor
open Go.RowKit

theorem Below.drewN2 {B : Nat} {a w : World} (h : Below B a w) (n : Nat) : Below B a (w.drewN n) := ⟨h.os, h.tape, h.output, h.size, h.block⟩
/-- A value of some cells, written into a block, cell by cell. -/
def setAll (W : World) (b : Nat) : Nat → List Value → World
  | _, [] => W
  | i, v :: vs => setAll (W.setCell ⟨b, i, none⟩ v) b (i + 1) vs
theorem setAll_chg (b : Nat) : ∀ (vs : List Value) (i : Nat) (W : World), Chg (fun k => k = b) W (setAll W b i vs)
  | [], _, W => Chg.refl _ _
  | v :: vs, i, W => ((Chg.refl (fun k => k = b) W).setCell (p := ⟨b, i, none⟩) (.inl rfl) v).trans (setAll_chg b vs (i + 1) _) (fun _ hk _ => .inl hk)
theorem setAll_at (b : Nat) (t : TypeId) : ∀ (vs pre cs : List Value) (W : World), Blk W b t (pre ++ cs) → cs.length = vs.length → Blk (setAll W b pre.length vs) b t (pre ++ vs)
  | [], pre, cs, W, h, hl => by
    rw [List.length_eq_zero_iff.1 hl] at h
    exact h
  | v :: vs, pre, c :: cs, W, h, hl => by
    have h1 := h.set_ pre.length v
    rw [List.set_append_right _ _ (Nat.le_refl _), Nat.sub_self, List.set_cons_zero, show pre ++ v :: cs = (pre ++ [v]) ++ cs by simp] at h1
    have h2 := setAll_at b t vs (pre ++ [v]) cs _ h1 (by simpa using hl)
    rw [List.length_append] at h2
    simpa [setAll] using h2
  | v :: vs, pre, [], W, h, hl => by simp at hl
theorem setAll_blk {b : Nat} {t : TypeId} {vs cs : List Value} {W : World} (h : Blk W b t cs) (hl : cs.length = vs.length) : Blk (setAll W b 0 vs) b t vs := setAll_at b t vs [] cs W h hl
theorem Chg.ofSame {F : Nat → Prop} {w0 W W' : World} {b : Nat} (h : Chg F w0 W) (hc : Chg (fun k => k = b) W W') (hb : w0.heap.size ≤ b) : Chg F w0 W' := h.trans hc (fun k hk _ => .inr (by subst hk; exact hb))
/-- The reader of terms, in memory. -/
structure Rd (w : World) (r : Nat) (v : Value) (l : List Tok) (at_ most err : Int) : Prop where
  blk : Blk w r 160 [v, .int .i64 at_, .int .i64 most, .int .i64 err]
  row : GRow TokK w v l
  away : v.ownBlock ≠ some r
theorem Rd.keep {w w' : World} {r : Nat} {v : Value} {l : List Tok} {a m e : Int} (h : Rd w r v l a m e) (hb : Below w.heap.size w w') : Rd w' r v l a m e := ⟨h.blk.keep hb, h.row.keep hb, h.away⟩
theorem Rd.lt {w : World} {r : Nat} {v : Value} {l : List Tok} {a m e : Int} (h : Rd w r v l a m e) : r < w.heap.size := h.blk.lt
theorem Rd.drewN {w : World} {r : Nat} {v : Value} {l : List Tok} {a m e : Int} (h : Rd w r v l a m e) (n : Nat) : Rd (w.drewN n) r v l a m e := h.keep ⟨rfl, rfl, rfl, Nat.le_refl _, fun _ _ => rfl⟩
/-- The cells that a walk wants: the reader's own, and the token's that is next. -/
structure RdC (w : World) (r g n n' c : Nat) (m e : Int) (t : Tok) : Prop where
  lr : r < w.heap.size
  lg : g < w.heap.size
  ne : r ≠ g
  lt : n < n'
  le : n' ≤ 9223372036854775807
  c0 : w.cell? ⟨r, 0, none⟩ = some (.slice (some ⟨g, 0, none⟩) n' c)
  c1 : w.cell? ⟨r, 1, none⟩ = some (.int .i64 n)
  c2 : w.cell? ⟨r, 2, none⟩ = some (.int .i64 m)
  c3 : w.cell? ⟨r, 3, none⟩ = some (.int .i64 e)
  k0 : w.cell? ⟨g, n * 4, none⟩ = some (.int .i64 t.kind)
  k1 : w.cell? ⟨g, n * 4 + 1, none⟩ = some (.string t.text)
  k2 : w.cell? ⟨g, n * 4 + 2, none⟩ = some (.int .i64 t.a)
  k3 : w.cell? ⟨g, n * 4 + 3, none⟩ = some (.int .i64 t.b)
  fr : w.frozen? ⟨r, 1, none⟩ = false
theorem RdC.keep {w w' : World} {r g n n' c : Nat} {m e : Int} {t : Tok} (h : RdC w r g n n' c m e t) (hb : Below w.heap.size w w') : RdC w' r g n n' c m e t :=
  ⟨Nat.lt_of_lt_of_le h.lr hb.size, Nat.lt_of_lt_of_le h.lg hb.size, h.ne, h.lt, h.le, (hb.cell (p := ⟨r, 0, none⟩) h.lr).trans h.c0, (hb.cell (p := ⟨r, 1, none⟩) h.lr).trans h.c1, (hb.cell (p := ⟨r, 2, none⟩) h.lr).trans h.c2, (hb.cell (p := ⟨r, 3, none⟩) h.lr).trans h.c3,
    (hb.cell (p := ⟨g, n * 4, none⟩) h.lg).trans h.k0, (hb.cell (p := ⟨g, n * 4 + 1, none⟩) h.lg).trans h.k1, (hb.cell (p := ⟨g, n * 4 + 2, none⟩) h.lg).trans h.k2, (hb.cell (p := ⟨g, n * 4 + 3, none⟩) h.lg).trans h.k3, (hb.frozen (p := ⟨r, 1, none⟩) h.lr).trans h.fr⟩
theorem Rd.cells {w : World} {r : Nat} {v : Value} {l : List Tok} {m e : Int} {n : Nat} {t : Tok} (h : Rd w r v l n m e) (ht : l[n]? = some t) :
    ∃ g c, v = .slice (some ⟨g, 0, none⟩) l.length c ∧ RdC w r g n l.length c m e t := by
  obtain ⟨g, c, hv, hc⟩ := h.row.at TokK_ok ht
  have h0 := h.blk.cell 0
  have h1 := h.blk.cell 1
  have h2 := h.blk.cell 2
  have h3 := h.blk.cell 3
  simp only [List.getElem?_cons_zero, List.getElem?_cons_succ] at h0 h1 h2 h3
  rw [hv] at h0
  exact ⟨g, c, hv, h.lt, h.row.lt g (by rw [hv]; rfl), fun e => h.away (by rw [hv, e]; rfl), (List.getElem?_eq_some_iff.1 ht).1, h.row.len, h0, h1, h2, h3, hc 0 (by decide), hc 1 (by decide), hc 2 (by decide), hc 3 (by decide), h.blk.frozen 1⟩
theorem Rd.tok {w : World} {r g n' c : Nat} {l : List Tok} {a m e : Int} {n : Nat} {t : Tok} (h : Rd w r (.slice (some ⟨g, 0, none⟩) n' c) l a m e) (ht : l[n]? = some t) :
    w.cell? ⟨g, n * 4, none⟩ = some (.int .i64 t.kind) ∧ w.cell? ⟨g, n * 4 + 1, none⟩ = some (.string t.text) ∧ w.cell? ⟨g, n * 4 + 2, none⟩ = some (.int .i64 t.a) ∧ w.cell? ⟨g, n * 4 + 3, none⟩ = some (.int .i64 t.b) := by
  obtain ⟨g', c', hv, hc⟩ := h.row.at TokK_ok ht
  simp only [Value.slice.injEq, Option.some.injEq, Addr.mk.injEq] at hv
  obtain ⟨⟨rfl, _⟩, _⟩ := hv
  exact ⟨hc 0 (by decide), hc 1 (by decide), hc 2 (by decide), hc 3 (by decide)⟩
theorem Rd.moved {w : World} {r : Nat} {v : Value} {l : List Tok} {a m e : Int} (h : Rd w r v l a m e) (b : Int) : Rd (w.setCell ⟨r, 1, none⟩ (.int .i64 b)) r v l b m e := ⟨h.blk.set_ 1 _, h.row.far h.away _, h.away⟩
theorem is_no (w : World) (r : Nat) (v : Value) (l : List Tok) (n : Nat) (m e : Int) (t : Tok) (h : Rd w r v l n m e) (ht : l[n]? = some t) (k : Int) (hk : t.kind ≠ k) (x : ByteArray) :
    Calls Tryz.prog 248 #[.pointer (some ⟨r, 0, none⟩), .int .i64 k, .string x] w fun e w' => e = .returned (.bool false) ∧ ∃ q, w' = w.drewN q := by
  obtain ⟨g, c, rfl, _, _, _, hlt, hlen, c0, c1, c2, c3, k0, k1, k2, k3, _⟩ := h.cells ht
  have hne : (t.kind == k) = false := by simp [hk]
  generalize l.length = n' at *
  have hlt' : ((n : Int) < (n' : Int)) := by omega
  have hdl : decide (n < n') = true := by simp [hlt]
  clear h ht hk
  go_enter Tryz.func248, Tryz.ntmps248
  go_wp2
  go_quiet (fail)
  go_wp2
  go_ret
  exact ⟨rfl, _, rfl⟩
theorem take_no (w : World) (r : Nat) (v : Value) (l : List Tok) (n : Nat) (m e : Int) (t : Tok) (h : Rd w r v l n m e) (ht : l[n]? = some t) (k : Int) (hk : t.kind ≠ k) (x : ByteArray) :
    Calls Tryz.prog 202 #[.pointer (some ⟨r, 0, none⟩), .int .i64 k, .string x] w fun e w' => e = .returned (.bool false) ∧ ∃ q, w' = w.drewN q := by
  have HI := Sh.mk (is_no w r v l n m e t h ht k hk x)
  clear h ht hk
  go_enter Tryz.func202, Tryz.ntmps202
  go_wp2_with (go_at_call 248; refine HI.out.mono ?_; rintro e w1 ⟨rfl, q, rfl⟩)
  go_ret
  exact ⟨rfl, _, rfl⟩
theorem level_ok (w : World) (r : Nat) (v : Value) (l : List Tok) (a m e n : Int) (h : Rd w r v l a m e) (hn : n ≤ m) :
    Calls Tryz.prog 201 #[.pointer (some ⟨r, 0, none⟩), .int .i64 n] w fun e w' => e = .returned (.tuple #[]) ∧ w' = w := by
  have h1 := h.blk.cell 2
  simp only [List.getElem?_cons_zero, List.getElem?_cons_succ] at h1
  clear h
  go_enter Tryz.func201, Tryz.ntmps201
  go_wp2
  refine bodyPost_end (results_none rfl _ _ _) rfl ?_
  exact ⟨rfl, rfl⟩
theorem here_calls (w : World) (r : Nat) (v : Value) (l : List Tok) (n : Nat) (m e : Int) (t : Tok) (h : Rd w r v l n m e) (ht : l[n]? = some t) :
    Calls Tryz.prog 279 #[.pointer (some ⟨r, 0, none⟩)] w fun e w' => e = .returned (.agg #[.int .i64 t.a, .int .i64 t.b]) ∧ Below w.heap.size w w' := by
  obtain ⟨g, c, rfl, hC⟩ := h.cells ht
  have HC := Sh.mk hC
  obtain ⟨hr, hg, hrg, hlt, hlen, c0, c1, c2, c3, k0, k1, k2, k3, _⟩ := hC
  generalize l.length = n' at *
  have hlt' : ((n : Int) < (n' : Int)) := by omega
  have hdl : decide (n' ≤ n) = false := by simp [hlt]
  clear h ht
  go_enter Tryz.func279, Tryz.ntmps279
  go_wp2
  go_quiet (fail)
  go_wp2
  obtain ⟨W, hW⟩ : ∃ W, W = (w.alloc (.cells #[.int .i64 0, .int .i64 0] 23)).drewN nq := ⟨_, rfl⟩
  have hB : Below w.heap.size w W := by rw [hW]; exact Below.drewN2 ((Below.refl _ _).alloc (Nat.le_refl _) _) _
  have hX : Blk W w.heap.size 23 [.int .i64 0, .int .i64 0] := by rw [hW]; exact Blk.drewN (Blk.new _ _ _) _
  rw [← hW]
  have HB := Sh.mk hB
  have HX := Sh.mk hX
  clear hW c0 c1 c2 c3 k0 k1 k2 k3 hr hg
  obtain ⟨hr, hg, _, _, _, c0, c1, c2, c3, k0, k1, k2, k3, _⟩ := HC.out.keep hB
  have x0 := hX.cell 0
  have x1 := hX.cell 1
  simp only [List.getElem?_cons_zero, List.getElem?_cons_succ] at x0 x1
  have f0 := hX.frozen 0
  have f1 := hX.frozen 1
  clear hB hX
  go_region
  go_wp2
  obtain ⟨W3, hW3⟩ : ∃ W3, W3 = ((W.setCell ⟨w.heap.size, 0, none⟩ (.int .i64 t.a)).setCell ⟨w.heap.size, 1, none⟩ (.int .i64 t.b)).drew := ⟨_, rfl⟩
  have hB3 : Below w.heap.size w W3 := by rw [hW3]; exact ((HB.out.setCell (Nat.le_refl _) _).setCell (Nat.le_refl _) _).drew
  have hX3 : Blk W3 w.heap.size 23 [.int .i64 t.a, .int .i64 t.b] := by rw [hW3]; exact ((HX.out.set_ 0 _).set_ 1 _).drew
  rw [← hW3]
  have y0 := hX3.cell 0
  have y1 := hX3.cell 1
  simp only [List.getElem?_cons_zero, List.getElem?_cons_succ] at y0 y1
  clear hW3 hX3
  exact bodyPost_ret (v := .agg #[.int .i64 t.a, .int .i64 t.b]) (by simp [results, Tryz.results279, go_sem, y0, y1]) rfl ⟨rfl, hB3⟩
theorem kind_no (w : World) (r : Nat) (v : Value) (l : List Tok) (n : Nat) (m e : Int) (t : Tok) (h : Rd w r v l n m e) (ht : l[n]? = some t) (k : Int) (hk : t.kind ≠ k) :
    Calls Tryz.prog 154 #[.pointer (some ⟨r, 0, none⟩), .int .i64 k] w fun e w' => e = .returned (.tuple #[.agg #[.int .i64 0, .string ⟨#[]⟩, .int .i64 0, .int .i64 0], .bool false]) ∧ Below w.heap.size w w' := by
  obtain ⟨g, c, rfl, hC⟩ := h.cells ht
  have HC := Sh.mk hC
  obtain ⟨hr, hg, hrg, hlt, hlen, c0, c1, c2, c3, k0, k1, k2, k3, _⟩ := hC
  generalize l.length = n' at *
  have hlt' : ((n : Int) < (n' : Int)) := by omega
  have hdl : decide (n' ≤ n) = false := by simp [hlt]
  have hne : (t.kind == k) = false := by simp [hk]
  have hne2 : (t.kind != k) = true := by simp [hk]
  clear h ht hk
  go_enter Tryz.func154, Tryz.ntmps154
  go_wp2
  go_quiet (fail)
  go_wp2
  obtain ⟨W3, hW3⟩ : ∃ W3, W3 = (((((w.alloc (.cells #[.int .i64 0, .string ⟨#[]⟩, .int .i64 0, .int .i64 0] 124)).drewN nq).setCell ⟨w.heap.size, 0, none⟩ (.int .i64 0)).setCell ⟨w.heap.size, 1, none⟩ (.string ⟨#[]⟩)).setCell ⟨w.heap.size, 2, none⟩ (.int .i64 0)).setCell ⟨w.heap.size, 3, none⟩ (.int .i64 0) := ⟨_, rfl⟩
  have hB3 : Below w.heap.size w W3 := by rw [hW3]; exact ((((Below.drewN2 ((Below.refl _ _).alloc (Nat.le_refl _) _) _).setCell (Nat.le_refl _) _).setCell (Nat.le_refl _) _).setCell (Nat.le_refl _) _).setCell (Nat.le_refl _) _
  have hX3 : Blk W3 w.heap.size 124 [.int .i64 0, .string ⟨#[]⟩, .int .i64 0, .int .i64 0] := by rw [hW3]; exact (((((Blk.new _ _ _).drewN _).set_ 0 _).set_ 1 _).set_ 2 _).set_ 3 _
  rw [← hW3]
  have y0 := (hX3).cell 0
  have y1 := (hX3).cell 1
  have y2 := (hX3).cell 2
  have y3 := (hX3).cell 3
  simp only [List.getElem?_cons_zero, List.getElem?_cons_succ] at y0 y1 y2 y3
  clear hW3 hX3
  exact bodyPost_ret (v := .tuple #[.agg #[.int .i64 0, .string ⟨#[]⟩, .int .i64 0, .int .i64 0], .bool false]) (by simp [results, Tryz.results154, go_sem, y0, y1, y2, y3]) rfl ⟨rfl, hB3⟩
def kindPost (w : World) (r : Nat) (v : Value) (l : List Tok) (n : Nat) (m e : Int) (t : Tok) (en : Ending) (w' : World) : Prop :=
  en = .returned (.tuple #[.agg #[.int .i64 t.kind, .string t.text, .int .i64 t.a, .int .i64 t.b], .bool true]) ∧ Rd w' r v l ((n : Int) + 1) m e ∧ Chg (fun k => k = r) w w'
theorem kind_yes (w : World) (r : Nat) (v : Value) (l : List Tok) (n : Nat) (m e : Int) (t : Tok) (h : Rd w r v l n m e) (ht : l[n]? = some t) (k : Int) (hk : t.kind = k) :
    Calls Tryz.prog 154 #[.pointer (some ⟨r, 0, none⟩), .int .i64 k] w (kindPost w r v l n m e t) := by
  obtain ⟨g, c, rfl, hC⟩ := h.cells ht
  have HC := Sh.mk hC
  have H := Sh.mk h
  obtain ⟨hr, hg, hrg, hlt, hlen, c0, c1, c2, c3, k0, k1, k2, k3, hfr⟩ := hC
  generalize hn' : l.length = n' at HC H hlt hlen c0
  have HN' := Sh.mk hn'
  have HT := Sh.mk ht
  have hlt' : ((n : Int) < (n' : Int)) := by omega
  have hdl : decide (n' ≤ n) = false := by simp [hlt]
  have hne : (t.kind == k) = true := by simp [hk]
  have hne2 : (t.kind != k) = false := by simp [hk]
  clear h ht hk hn'
  go_enter Tryz.func154, Tryz.ntmps154
  go_wp2
  go_quiet (fail)
  go_wp2
  obtain ⟨W1, hW1⟩ : ∃ W1, W1 = ((w.alloc (.cells #[.int .i64 0, .string ⟨#[]⟩, .int .i64 0, .int .i64 0] 124)).drewN nq).setCell ⟨r, 1, none⟩ (.int .i64 ((n : Int) + 1)) := ⟨_, rfl⟩
  have hB1 : Chg (fun k => k = r) w W1 := by rw [hW1]; exact (((Chg.refl (fun k => k = r) w).alloc _).drewN _).setCell (p := ⟨r, 1, none⟩) (.inl rfl) _
  have hX1 : Blk W1 w.heap.size 124 [.int .i64 0, .string ⟨#[]⟩, .int .i64 0, .int .i64 0] := by rw [hW1]; exact Blk.far ((Blk.new _ _ _).drewN _) (by have := hr; simp; omega) _
  have hR1 : Rd W1 r (.slice (some ⟨g, 0, none⟩) n' c) l ((n : Int) + 1) m e := by rw [hW1]; exact (H.out.keep (Below.drewN2 ((Below.refl _ _).alloc (Nat.le_refl _) _) _)).moved _
  rw [← hW1]
  have HB1 := Sh.mk hB1
  have HX1 := Sh.mk hX1
  have HR1 := Sh.mk hR1
  clear hW1 c0 c1 c2 c3 k0 k1 k2 k3 hB1 hdl
  obtain ⟨k0, k1, k2, k3⟩ := hR1.tok HT.out
  have c0 := (hR1.blk).cell 0
  have c1 := (hR1.blk).cell 1
  simp only [List.getElem?_cons_zero, List.getElem?_cons_succ] at c0 c1
  have x0 := (hX1).cell 0
  have x1 := (hX1).cell 1
  have x2 := (hX1).cell 2
  have x3 := (hX1).cell 3
  simp only [List.getElem?_cons_zero, List.getElem?_cons_succ] at x0 x1 x2 x3
  have f0 := hX1.frozen 0
  have f1 := hX1.frozen 1
  have f2 := hX1.frozen 2
  have f3 := hX1.frozen 3
  have hn1 : (n : Int) < 9223372036854775807 := by omega
  have e1 : IntKind.i64.wrap ((n : Int) + 1 - 1) = n := by rw [IntWalk.i64_in _ (by omega)]; omega
  clear hR1 hX1
  go_region
  go_wp2
  obtain ⟨W3, hW3⟩ : ∃ W3, W3 = ((((W1.setCell ⟨w.heap.size, 0, none⟩ (.int .i64 t.kind)).setCell ⟨w.heap.size, 1, none⟩ (.string t.text)).setCell ⟨w.heap.size, 2, none⟩ (.int .i64 t.a)).setCell ⟨w.heap.size, 3, none⟩ (.int .i64 t.b)).drew := ⟨_, rfl⟩
  have hB4 : Below w.heap.size W1 W3 := by rw [hW3]; exact (((((Below.refl w.heap.size W1).setCell (p := ⟨w.heap.size, 0, none⟩) (Nat.le_refl _) _).setCell (p := ⟨w.heap.size, 1, none⟩) (Nat.le_refl _) _).setCell (p := ⟨w.heap.size, 2, none⟩) (Nat.le_refl _) _).setCell (p := ⟨w.heap.size, 3, none⟩) (Nat.le_refl _) _).drew
  have hB3 : Chg (fun k => k = r) w W3 := HB1.out.trans (F' := fun k => w.heap.size ≤ k) ⟨hB4.os, hB4.tape, hB4.output, hB4.size, fun k hk hn => hB4.block k (by omega)⟩ (fun k hk _ => .inr hk)
  have hX3 : Blk W3 w.heap.size 124 [.int .i64 t.kind, .string t.text, .int .i64 t.a, .int .i64 t.b] := by rw [hW3]; exact ((((HX1.out.set_ 0 _).set_ 1 _).set_ 2 _).set_ 3 _).drew
  have hR3 : Rd W3 r (.slice (some ⟨g, 0, none⟩) n' c) l ((n : Int) + 1) m e := ⟨HR1.out.blk.below hB4 hr, HR1.out.row.step (fun k hk => hB4.block k (by simp only [Value.ownBlock, Option.some.injEq] at hk; omega)), HR1.out.away⟩
  rw [← hW3]
  have y0 := (hX3).cell 0
  have y1 := (hX3).cell 1
  have y2 := (hX3).cell 2
  have y3 := (hX3).cell 3
  simp only [List.getElem?_cons_zero, List.getElem?_cons_succ] at y0 y1 y2 y3
  clear hW3 hX3
  exact bodyPost_ret (v := .tuple #[.agg #[.int .i64 t.kind, .string t.text, .int .i64 t.a, .int .i64 t.b], .bool true]) (by simp [results, Tryz.results154, go_sem, y0, y1, y2, y3]) rfl ⟨rfl, hR3, hB3⟩
end Go.Proofs.YtkfdhmeipnfhpaaGreatDoor
