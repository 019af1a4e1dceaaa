/- Package parse: one atom. -/
import Derived.Test.YtkfdhmeipnfhpaaGreatDoorParse
set_option linter.unusedVariables false
set_option linter.unusedSimpArgs false
namespace Go.Proofs.YtkfdhmeipnfhpaaGreatDoor
open Go.RowKit

theorem Below.drawn (w : World) (q : Nat) : Below w.heap.size w (w.drewN q) := ⟨rfl, rfl, rfl, Nat.le_refl _, fun _ _ => rfl⟩
theorem ahead_yes (w : World) (r : Nat) (v : Value) (l : List Tok) (n : Nat) (m e : Int) (t : Tok) (h : Rd w r v l n m e) (ht : l[n]? = some t) (hk : t.kind = 1 ∨ t.kind = 2) :
    Calls Tryz.prog 252 #[.pointer (some ⟨r, 0, none⟩)] w fun e w' => e = .returned (.bool true) ∧ Below w.heap.size w w' := by
  obtain ⟨g, c, rfl, hC⟩ := h.cells ht
  have HC := Sh.mk hC
  obtain ⟨hr, hg, hrg, hlt, hlen, c0, c1, c2, c3, k0, k1, k2, k3, hfr⟩ := hC
  generalize l.length = n' at *
  have hlt' : ((n : Int) < (n' : Int)) := by omega
  have hdl : decide (n' ≤ n) = false := by simp [hlt]
  obtain ⟨tk, htk⟩ : ∃ tk, tk = t.kind := ⟨_, rfl⟩
  rw [← htk] at hk k0
  clear h ht htk
  go_enter Tryz.func252, Tryz.ntmps252
  go_wp2
  go_quiet (fail)
  go_wp2
  go_quiet (fail)
  rcases hk with rfl | rfl
  all_goals
    go_wp2
    go_ret
    exact ⟨rfl, Below.drawn _ _⟩
theorem ahead_end (w : World) (r : Nat) (v : Value) (l : List Tok) (n : Nat) (m e : Int) (t : Tok) (h : Rd w r v l n m e) (ht : l[n]? = some t) (hk : t.kind = 0) :
    Calls Tryz.prog 252 #[.pointer (some ⟨r, 0, none⟩)] w fun e w' => e = .returned (.bool false) ∧ Below w.heap.size w w' := by
  have HI : Sh (∀ W, Below w.heap.size w W → ∀ k : Int, k ≠ 0 → ∀ x, Calls Tryz.prog 248 #[.pointer (some ⟨r, 0, none⟩), .int .i64 k, .string x] W fun e w' => e = .returned (.bool false) ∧ ∃ q, w' = W.drewN q) :=
    ⟨fun W hb k hne x => is_no W r v l n m e t (h.keep hb) ht k (by rw [hk]; exact fun e => hne e.symm) x⟩
  obtain ⟨g, c, rfl, hC⟩ := h.cells ht
  have HC := Sh.mk hC
  obtain ⟨hr, hg, hrg, hlt, hlen, c0, c1, c2, c3, k0, k1, k2, k3, hfr⟩ := hC
  generalize l.length = n' at *
  have hlt' : ((n : Int) < (n' : Int)) := by omega
  have hdl : decide (n' ≤ n) = false := by simp [hlt]
  rw [hk] at k0
  clear h ht hk
  go_enter Tryz.func252, Tryz.ntmps252
  go_wp2
  go_quiet (fail)
  go_wp2
  go_quiet (fail)
  go_wp2_with (go_at_call 248; refine (HI.out _ (Below.drawn _ _) _ (by decide) _).mono ?_; rintro e w1 ⟨rfl, q, rfl⟩)
  go_ret
  exact ⟨rfl, Below.drawn _ _⟩
/-- A name is an atom: the part that is read. -/
def atomPost (w : World) (r : Nat) (v : Value) (l : List Tok) (n : Nat) (m e : Int) (t : Tok) (k : Int) (nm : ByteArray) (num : Int) (en : Ending) (w' : World) : Prop :=
  en = .returned (.agg #[.int .i64 k, .string nm, .int .i64 num, .int .i64 0, .int .i64 0, .slice none 0 0, .slice none 0 0, .int .i64 t.a, .int .i64 t.b, .int .i64 t.a, .int .i64 t.b]) ∧ Rd w' r v l ((n : Int) + 1) m e ∧ Chg (fun k => k = r) w w'
def zPart : List Value := [.int .i64 0, .string ⟨#[]⟩, .int .i64 0, .int .i64 0, .int .i64 0, .slice none 0 0, .slice none 0 0, .int .i64 0, .int .i64 0, .int .i64 0, .int .i64 0]
/-- What atom knows of its own blocks: the result's, the span's, the term's. -/
structure AtomW (w W : World) (r p s o : Nat) (t : Tok) (k : Int) (nm : ByteArray) (num : Int) : Prop where
  chg : Chg (fun k => k = r) w W
  part : Blk W p 210 zPart
  span : Blk W s 23 [.int .i64 t.a, .int .i64 t.b]
  term : Blk W o 68 [.int .i64 k, .string nm, .int .i64 num, .int .i64 0, .int .i64 0, .slice none 0 0, .slice none 0 0, .int .i64 t.a, .int .i64 t.b]
  hp : w.heap.size ≤ p
  ps : p < s
  so : s < o
theorem AtomW.keep {w W W' : World} {r p s o : Nat} {t : Tok} {k : Int} {nm : ByteArray} {num : Int} (h : AtomW w W r p s o t k nm num) (hb : Below W.heap.size W W') : AtomW w W' r p s o t k nm num :=
  ⟨h.chg.thenBelow hb, h.part.keep hb, h.span.keep hb, h.term.keep hb, h.hp, h.ps, h.so⟩
theorem AtomW.then {w W W' : World} {r p s o : Nat} {t : Tok} {k : Int} {nm : ByteArray} {num : Int} (h : AtomW w W r p s o t k nm num) (hr : r < w.heap.size) (hb : Chg (fun k => k = r) W W') : AtomW w W' r p s o t k nm num := by
  have h1 := h.hp
  have h2 := h.ps
  have h3 := h.so
  exact ⟨h.chg.trans hb (fun k hk _ => .inl hk), (hb.block p h.part.lt (by omega)).trans h.part, (hb.block s h.span.lt (by omega)).trans h.span, (hb.block o h.term.lt (by omega)).trans h.term, h.hp, h.ps, h.so⟩
theorem AtomW.set0 {w W : World} {r p s o : Nat} {t : Tok} {k : Int} {nm : ByteArray} {num : Int} (h : AtomW w W r p s o t k nm num) (k' : Int) : AtomW w (W.setCell ⟨o, 0, none⟩ (.int .i64 k')) r p s o t k' nm num := by
  have h1 := h.hp
  have h2 := h.ps
  have h3 := h.so
  exact ⟨h.chg.setCell (.inr (by simp; omega)) _, h.part.far (by simp; omega) _, h.span.far (by simp; omega) _, h.term.set_ 0 _, h.hp, h.ps, h.so⟩
theorem AtomW.set1 {w W : World} {r p s o : Nat} {t : Tok} {k : Int} {nm : ByteArray} {num : Int} (h : AtomW w W r p s o t k nm num) (nm' : ByteArray) : AtomW w (W.setCell ⟨o, 1, none⟩ (.string nm')) r p s o t k nm' num := by
  have h1 := h.hp
  have h2 := h.ps
  have h3 := h.so
  exact ⟨h.chg.setCell (.inr (by simp; omega)) _, h.part.far (by simp; omega) _, h.span.far (by simp; omega) _, h.term.set_ 1 _, h.hp, h.ps, h.so⟩
theorem AtomW.set2 {w W : World} {r p s o : Nat} {t : Tok} {k : Int} {nm : ByteArray} {num : Int} (h : AtomW w W r p s o t k nm num) (n' : Int) : AtomW w (W.setCell ⟨o, 2, none⟩ (.int .i64 n')) r p s o t k nm n' := by
  have h1 := h.hp
  have h2 := h.ps
  have h3 := h.so
  exact ⟨h.chg.setCell (.inr (by simp; omega)) _, h.part.far (by simp; omega) _, h.span.far (by simp; omega) _, h.term.set_ 2 _, h.hp, h.ps, h.so⟩
theorem AtomW.drew {w W : World} {r p s o : Nat} {t : Tok} {k : Int} {nm : ByteArray} {num : Int} (h : AtomW w W r p s o t k nm num) : AtomW w W.drew r p s o t k nm num := h.keep (Below.refl _ _).drew
set_option maxRecDepth 100000 in
set_option maxHeartbeats 2000000 in
theorem atom_name (w : World) (r : Nat) (v : Value) (l : List Tok) (n : Nat) (m e lv : Int) (t : Tok) (h : Rd w r v l n m e) (ht : l[n]? = some t) (hk : t.kind = 1) :
    Calls Tryz.prog 253 #[.pointer (some ⟨r, 0, none⟩), .int .i64 lv] w (atomPost w r v l n m e t 1 t.text 0) := by
  have H := Sh.mk h
  have HT := Sh.mk ht
  have HK := Sh.mk hk
  clear h ht hk
  go_enter Tryz.func253, Tryz.ntmps253
  go_wp2_with fail
  refine (here_calls _ r v l n m e t (H.out.keep ((Below.refl _ _).alloc (Nat.le_refl _) _)) HT.out).mono ?_
  rintro en w1 ⟨rfl, hb⟩
  have HB1 := Sh.mk hb
  clear hb
  go_wp2_with fail
  obtain ⟨W2, hW2⟩ : ∃ W2, W2 = (w1.alloc (.cells #[.int .i64 t.a, .int .i64 t.b] 23)).alloc (.cells #[.int .i64 0, .string ⟨#[]⟩, .int .i64 0, .int .i64 0, .int .i64 0, .slice none 0 0, .slice none 0 0, .int .i64 t.a, .int .i64 t.b] 68) := ⟨_, rfl⟩
  have HZ : Sh (w.heap.size < w1.heap.size) := ⟨by have := HB1.out.size; simp at this; omega⟩
  have hB01 : Below w.heap.size w w1 := below_then ((Below.refl _ _).alloc (Nat.le_refl _) _) HB1.out
  have HA : Sh (AtomW w W2 r w.heap.size w1.heap.size (w1.heap.size + 1) t 0 ⟨#[]⟩ 0) := ⟨by
    rw [hW2]
    exact ⟨((Chg.of_below hB01).alloc _).alloc _, (((Blk.new w 210 zPart).keep HB1.out).alloc _).alloc _, (Blk.new _ _ _).alloc _, Blk.new' _ _ _ (by simp), Nat.le_refl _, HZ.out, by omega⟩⟩
  have HR : Sh (Rd W2 r v l n m e) := ⟨by rw [hW2]; exact (H.out.keep hB01).keep (((Below.refl _ _).alloc (Nat.le_refl _) _).alloc (by simp) _)⟩
  rw [← hW2]
  clear hW2 hB01
  refine (take_no W2 r v l n m e t HR.out HT.out 4 (by rw [HK.out]; decide) _).mono ?_
  rintro en w3 ⟨rfl, q, rfl⟩
  have HA3 := Sh.mk (HA.out.keep (Below.drawn W2 q))
  have HR3 := Sh.mk (HR.out.drewN q)
  clear HA HR
  generalize W2.drewN q = W3 at *
  go_wp2_with fail
  refine (kind_yes W3 r v l n m e t HR3.out HT.out 1 HK.out).mono ?_
  rintro en w4 ⟨rfl, hR4, hC4⟩
  have HA4 := Sh.mk (HA3.out.then H.out.lt hC4)
  have HR4 := Sh.mk hR4
  clear hR4 hC4 HA3 HR3
  go_wp2_with fail
  obtain ⟨W5, hW5⟩ : ∃ W5, W5 = w4.alloc (.cells #[.int .i64 t.kind, .string t.text, .int .i64 t.a, .int .i64 t.b] 124) := ⟨_, rfl⟩
  have hB5 : Below w4.heap.size w4 W5 := by rw [hW5]; exact (Below.refl _ _).alloc (Nat.le_refl _) _
  have hX5 : Blk W5 w4.heap.size 124 [.int .i64 t.kind, .string t.text, .int .i64 t.a, .int .i64 t.b] := by rw [hW5]; exact Blk.new _ _ _
  have HA5 := Sh.mk (HA4.out.keep hB5)
  have HR5 := Sh.mk (HR4.out.keep hB5)
  rw [← hW5]
  clear hW5 hB5 HA4 HR4
  have a5 := HA5.out.term
  have o0 := (a5).cell 0
  have o1 := (a5).cell 1
  have o2 := (a5).cell 2
  have o3 := (a5).cell 3
  have o4 := (a5).cell 4
  have o5 := (a5).cell 5
  have o6 := (a5).cell 6
  have o7 := (a5).cell 7
  have o8 := (a5).cell 8
  simp only [List.getElem?_cons_zero, List.getElem?_cons_succ] at o0 o1 o2 o3 o4 o5 o6 o7 o8
  have x0 := (hX5).cell 0
  have x1 := (hX5).cell 1
  have x2 := (hX5).cell 2
  have x3 := (hX5).cell 3
  simp only [List.getElem?_cons_zero, List.getElem?_cons_succ] at x0 x1 x2 x3
  have f0 := a5.frozen 0
  have f1 := a5.frozen 1
  clear a5 hX5
  go_region
  obtain ⟨W6, hW6⟩ : ∃ W6, W6 = ((W5.setCell ⟨w1.heap.size + 1, 0, none⟩ (.int .i64 1)).setCell ⟨w1.heap.size + 1, 1, none⟩ (.string t.text)).drew := ⟨_, rfl⟩
  have HA6 : Sh (AtomW w W6 r w.heap.size w1.heap.size (w1.heap.size + 1) t 1 t.text 0) := ⟨by rw [hW6]; exact ((HA5.out.set0 1).set1 t.text).drew⟩
  have HR6 : Sh (Rd W6 r v l ((n : Int) + 1) m e) := ⟨by
    rw [hW6]
    have hr := H.out.lt
    have hz := HZ.out
    refine ⟨((HR5.out.blk.far (by simp; omega) _).far (by simp; omega) _).drew, ((HR5.out.row.far (fun hk => ?_) _).far (fun hk => ?_) _).keep (Below.refl _ _).drew, HR5.out.away⟩ <;>
    · have := H.out.row.lt _ hk
      simp at this
      omega⟩
  rw [← hW6]
  clear hW6 HA5 HR5 o0 o1 o2 o3 o4 o5 o6 o7 o8 x0 x1 x2 x3 f0 f1
  have a6 := HA6.out
  have a6p := a6.part
  unfold zPart at a6p
  have p0 := (a6p).cell 0
  have p1 := (a6p).cell 1
  have p2 := (a6p).cell 2
  have p3 := (a6p).cell 3
  have p4 := (a6p).cell 4
  have p5 := (a6p).cell 5
  have p6 := (a6p).cell 6
  have p7 := (a6p).cell 7
  have p8 := (a6p).cell 8
  have p9 := (a6p).cell 9
  have p10 := (a6p).cell 10
  simp only [List.getElem?_cons_zero, List.getElem?_cons_succ] at p0 p1 p2 p3 p4 p5 p6 p7 p8 p9 p10
  have f0 := (a6p).frozen 0
  have f1 := (a6p).frozen 1
  have f2 := (a6p).frozen 2
  have f3 := (a6p).frozen 3
  have f4 := (a6p).frozen 4
  have f5 := (a6p).frozen 5
  have f6 := (a6p).frozen 6
  have f7 := (a6p).frozen 7
  have f8 := (a6p).frozen 8
  have f9 := (a6p).frozen 9
  have f10 := (a6p).frozen 10
  have s0 := (a6.span).cell 0
  have s1 := (a6.span).cell 1
  simp only [List.getElem?_cons_zero, List.getElem?_cons_succ] at s0 s1
  have o0 := (a6.term).cell 0
  have o1 := (a6.term).cell 1
  have o2 := (a6.term).cell 2
  have o3 := (a6.term).cell 3
  have o4 := (a6.term).cell 4
  have o5 := (a6.term).cell 5
  have o6 := (a6.term).cell 6
  have o7 := (a6.term).cell 7
  have o8 := (a6.term).cell 8
  simp only [List.getElem?_cons_zero, List.getElem?_cons_succ] at o0 o1 o2 o3 o4 o5 o6 o7 o8
  clear a6 a6p
  go_wp2
  obtain ⟨W7, hW7⟩ : ∃ W7, W7 = setAll W6 w.heap.size 0 [.int .i64 1, .string t.text, .int .i64 0, .int .i64 0, .int .i64 0, .slice none 0 0, .slice none 0 0, .int .i64 t.a, .int .i64 t.b, .int .i64 t.a, .int .i64 t.b] := ⟨_, rfl⟩
  have hC7 : Chg (fun k => k = w.heap.size) W6 W7 := by rw [hW7]; exact setAll_chg _ _ _ _
  have hX7 : Blk W7 w.heap.size 210 [.int .i64 1, .string t.text, .int .i64 0, .int .i64 0, .int .i64 0, .slice none 0 0, .slice none 0 0, .int .i64 t.a, .int .i64 t.b, .int .i64 t.a, .int .i64 t.b] := by rw [hW7]; exact setAll_blk HA6.out.part rfl
  simp only [setAll] at hW7
  rw [← hW7]
  have hR7 : Rd W7 r v l ((n : Int) + 1) m e := by
    have hr := H.out.lt
    refine ⟨(hC7.block r HR6.out.blk.lt (by omega)).trans HR6.out.blk, HR6.out.row.step (fun k hk => hC7.block k (HR6.out.row.lt k hk) (fun e => ?_)), HR6.out.away⟩
    have := H.out.row.lt _ hk
    omega
  clear hW7 p0 p1 p2 p3 p4 p5 p6 p7 p8 p9 p10 f0 f1 f2 f3 f4 f5 f6 f7 f8 f9 f10
  have p0 := (hX7).cell 0
  have p1 := (hX7).cell 1
  have p2 := (hX7).cell 2
  have p3 := (hX7).cell 3
  have p4 := (hX7).cell 4
  have p5 := (hX7).cell 5
  have p6 := (hX7).cell 6
  have p7 := (hX7).cell 7
  have p8 := (hX7).cell 8
  have p9 := (hX7).cell 9
  have p10 := (hX7).cell 10
  simp only [List.getElem?_cons_zero, List.getElem?_cons_succ] at p0 p1 p2 p3 p4 p5 p6 p7 p8 p9 p10
  exact bodyPost_ret (v := .agg #[.int .i64 1, .string t.text, .int .i64 0, .int .i64 0, .int .i64 0, .slice none 0 0, .slice none 0 0, .int .i64 t.a, .int .i64 t.b, .int .i64 t.a, .int .i64 t.b]) (by simp [results, Tryz.results253, go_sem, p0, p1, p2, p3, p4, p5, p6, p7, p8, p9, p10]) rfl ⟨rfl, hR7, HA6.out.chg.ofSame hC7 (Nat.le_refl _)⟩
end Go.Proofs.YtkfdhmeipnfhpaaGreatDoor
