/- Package unify: classes of equations. -/
import Derived.Test.YtdppkdjgadiinaaGreatGadd
set_option linter.unusedVariables false
set_option linter.unusedSimpArgs false
namespace Go.Proofs.YtdppkdjgadiinaaGreat
open Go.RowKit

theorem Graph_Add (t : Ty) (w : World) (F S : Nat → Prop) (g m : Nat) (nodes : List Nd) (vars : List (Int × Nat)) (s : Value) (h : GraphAt w F g m nodes vars) (hp : PartsAt w S t s) (hS : ∀ k, S k → k < w.heap.size → ¬ F k) (hG : Gok (nodes, vars))
    (hth : t.thin) (hr : t.right = true) (hsz : nodes.length + t.size ≤ 1000000) :
  Calls Tryz.prog 83 #[.pointer (some ⟨g, 0, none⟩), .agg #[.int .i64 t.kind, .int .i64 t.n, s]] w fun e w' => e = .returned (.tuple #[.int .i64 ((t.addTo (nodes, vars)).2 : Nat), .int .i64 0]) ∧ ∃ F', GraphAt w' F' g m (t.addTo (nodes, vars)).1.1 (t.addTo (nodes, vars)).1.2 ∧ Chg F w w' ∧ ∀ k, F' k → F k ∨ w.heap.size ≤ k := by
  have hal := (Below.refl w.heap.size w).alloc (Nat.le_refl _) (.cells #[.int .i64 t.kind, .int .i64 t.n, s] 36)
  have HA := Sh.mk hal
  have HX := Sh.mk (Blk.new w 36 [.int .i64 t.kind, .int .i64 t.n, s])
  have HP := Sh.mk (PartsAt.bound hp)
  have H := Sh.mk h
  have HS := Sh.mk hS
  have HG := Sh.mk hG
  have HT := Sh.mk hth
  have HR := Sh.mk hr
  have HZ := Sh.mk hsz
  obtain ⟨A, c, rfl, _⟩ := hp.shape
  clear hal h hp hS hG hth hr hsz
  go_enter Tryz.func83, Tryz.ntmps83
  go_wp2_with fail
  refine (Right_calls t _ _ _ ((HP.out.below HA.out))).mono ?_
  rintro e w1 ⟨rfl, hb⟩
  rw [HR.out]
  have hx := (HX.out.keep hb)
  have x0 := hx.cell 0
  have x1 := hx.cell 1
  have x2 := hx.cell 2
  simp only [List.getElem?_cons_zero, List.getElem?_cons_succ] at x0 x1 x2
  have hB : Below w.heap.size w w1 := below_then HA.out hb
  have HB := Sh.mk hB
  clear hx hb hB
  go_wp2_with fail
  refine (add_calls t w1 F _ g m nodes vars _ (H.out.keep HB.out) (HP.out.below HB.out) (fun k hk _ => HS.out k hk.1 hk.2) HG.out HT.out HZ.out).mono ?_
  rintro e w2 ⟨rfl, F2, hG2, hC2, hF2⟩
  have KG := Sh.mk hG2
  have KC := Sh.mk hC2
  have KF := Sh.mk hF2
  clear hG2 hC2 hF2
  go_wp2
  go_ret2
  refine ⟨rfl, F2, KG.out, (Chg.of_below HB.out).trans KC.out (fun k hk _ => .inl hk), fun k hk => ?_⟩
  rcases KF.out k hk with e | e
  · exact .inl e
  · exact .inr (Nat.le_trans HB.out.size e)
theorem union_New0 (w : World) : Calls Tryz.prog 60 #[.int .i64 0] w fun e w' => ∃ f F, (e = .returned (.tuple #[.pointer (some ⟨f, 0, none⟩), .int .i64 0]) ∧ ForestAt w' F f [] [] ∧ Below w.heap.size w w' ∧ ∀ k, F k → w.heap.size ≤ k) := by
  go_enter Tryz.func60, Tryz.ntmps60
  go_wp2
  go_loopw [14] (fun v14 wr => v14 = .int .i64 0 ∧ Blk wr w.heap.size 127 [.slice none 0 0, .slice none 0 0, .int .i64 0, .int .i64 0] ∧ Below w.heap.size w wr) (fun _ _ => 0)
  case atStart => exact ⟨rfl, Blk.new _ _ _, (Below.refl _ _).alloc (Nat.le_refl _) _⟩
  case round =>
    obtain ⟨rfl, hb, hB⟩ := hrel
    go_wp2
    go_ret2
    refine ⟨w.heap.size, fun k => k = w.heap.size, rfl, ⟨⟨.slice none 0 0, .slice none 0 0, [], 0, 0, hb, IRow.nil _, IRow.nil _, ?_, rfl, by simp [Value.ownBlock], by simp [Value.ownBlock], by simp [Value.ownBlock], fun k => by simp [Value.ownBlock]⟩⟩, hB, fun k hk => by omega⟩
    exact ⟨rfl, fun _ => 0, fun i hi => by simp at hi⟩
/-- A closure's state. -/
structure Cl where
  G : GSt
  rt : List Int
  rank : List Int
  whole : List Int
  clash : Bool
  steps : Int
def clF (c : Nat) (FG FF : Nat → Prop) (vw : Value) (k : Nat) : Prop := k = c ∨ FG k ∨ FF k ∨ vw.ownBlock = some k
structure ClParts (w : World) (c : Nat) (s : Cl) (FG FF : Nat → Prop) (g m f : Nat) (vw : Value) : Prop where
  blk : Blk w c 97 [.int .i64 s.steps, .pointer (some ⟨g, 0, none⟩), .pointer (some ⟨f, 0, none⟩), vw, .bool s.clash]
  gr : GraphAt w FG g m s.G.1 s.G.2
  fo : ForestAt w FF f s.rt s.rank
  wh : IRow w vw s.whole
  c1 : ¬ FG c
  c2 : ¬ FF c
  c3 : vw.ownBlock ≠ some c
  d1 : ∀ k, FG k → ¬ FF k
  d2 : ∀ k, vw.ownBlock = some k → ¬ FG k ∧ ¬ FF k
structure ClAt (w : World) (F : Nat → Prop) (c : Nat) (s : Cl) : Prop where
  is : ∃ FG FF g m f vw, ClParts w c s FG FF g m f vw ∧ ∀ k, F k ↔ clF c FG FF vw k
structure ClStep (w : World) (F : Nat → Prop) (c : Nat) (s' : Cl) (w' : World) : Prop where
  is : ∃ F', ClAt w' F' c s' ∧ Chg F w w' ∧ ∀ k, F' k → F k ∨ w.heap.size ≤ k
section
variable {w w' : World} {c : Nat} {s : Cl} {FG FF : Nat → Prop} {g m f : Nat} {vw : Value}
theorem ClParts.at (h : ClParts w c s FG FF g m f vw) : ClAt w (clF c FG FF vw) c s := ⟨⟨FG, FF, g, m, f, vw, h, fun _ => Iff.rfl⟩⟩
theorem ClParts.lt (h : ClParts w c s FG FF g m f vw) (k : Nat) (hk : clF c FG FF vw k) : k < w.heap.size := by
  rcases hk with rfl | e | e | e
  · exact h.blk.lt
  · exact h.gr.lt k e
  · exact h.fo.lt k e
  · exact h.wh.lt k e
theorem ClParts.step (h : ClParts w c s FG FF g m f vw) (hs : ∀ k, clF c FG FF vw k → w'.heap[k]? = w.heap[k]?) (hl : w.heap.size ≤ w'.heap.size) : ClParts w' c s FG FF g m f vw :=
  ⟨(hs c (.inl rfl)).trans h.blk, h.gr.step (fun k hk => hs k (.inr (.inl hk))) hl, h.fo.step (fun k hk => hs k (.inr (.inr (.inl hk)))), h.wh.step (fun k hk => hs k (.inr (.inr (.inr hk)))), h.c1, h.c2, h.c3, h.d1, h.d2⟩
theorem ClParts.keep (h : ClParts w c s FG FF g m f vw) (hb : Below w.heap.size w w') : ClParts w' c s FG FF g m f vw := h.step (fun k hk => hb.block k (h.lt k hk)) hb.size
/-- The forest has changed. -/
theorem ClParts.forest {FF' : Nat → Prop} {rt rank : List Int} (h : ClParts w c s FG FF g m f vw) (hc : Chg FF w w') (hf : ForestAt w' FF' f rt rank) (hF : ∀ k, FF' k → FF k ∨ w.heap.size ≤ k) :
    ClParts w' c { s with rt := rt, rank := rank } FG FF' g m f vw := by
  have hl := h.lt
  have hn : ∀ k, k < w.heap.size → ¬ FF k → ¬ FF' k := fun k hk hn e => by rcases hF k e with e | e; exact hn e; omega
  have hcl : c < w.heap.size := h.blk.lt
  exact ⟨(hc.block c hcl h.c2).trans h.blk, h.gr.step (fun k hk => hc.block k (h.gr.lt k hk) (h.d1 k hk)) hc.size, hf, h.wh.step (fun k hk => hc.block k (h.wh.lt k hk) (h.d2 k hk).2), h.c1, hn c hcl h.c2, h.c3,
    fun k hk => hn k (h.gr.lt k hk) (h.d1 k hk), fun k hk => ⟨(h.d2 k hk).1, hn k (h.wh.lt k hk) (h.d2 k hk).2⟩⟩
/-- The graph has changed. -/
theorem ClParts.graph {FG' : Nat → Prop} {G : GSt} (h : ClParts w c s FG FF g m f vw) (hc : Chg FG w w') (hf : GraphAt w' FG' g m G.1 G.2) (hF : ∀ k, FG' k → FG k ∨ w.heap.size ≤ k) :
    ClParts w' c { s with G := G } FG' FF g m f vw := by
  have hn : ∀ k, k < w.heap.size → ¬ FG k → ¬ FG' k := fun k hk hn e => by rcases hF k e with e | e; exact hn e; omega
  have hcl : c < w.heap.size := h.blk.lt
  exact ⟨(hc.block c hcl h.c1).trans h.blk, hf, h.fo.step (fun k hk => hc.block k (h.fo.lt k hk) (fun e => h.d1 k e hk)), h.wh.step (fun k hk => hc.block k (h.wh.lt k hk) (h.d2 k hk).1), hn c hcl h.c1, h.c2, h.c3,
    fun k hk e => by rcases hF k hk with e2 | e2; exact h.d1 k e2 e; have := h.fo.lt k e; omega, fun k hk => ⟨hn k (h.wh.lt k hk) (h.d2 k hk).1, (h.d2 k hk).2⟩⟩
/-- The row of wholes has been written in place. -/
theorem ClParts.wset (h : ClParts w c s FG FF g m f vw) {b cp : Nat} (hv : vw = .slice (some ⟨b, 0, none⟩) s.whole.length cp) {i : Nat} (hi : i < s.whole.length) (x : Int) :
    ClParts (w.setCell ⟨b, i, none⟩ (.int .i64 x)) c { s with whole := s.whole.set i x } FG FF g m f vw := by
  have hb : vw.ownBlock = some b := by rw [hv]; rfl
  exact ⟨h.blk.far (fun e => h.c3 (by rw [hb, e])) _, h.gr.step (fun k hk => Below.heap_setCell _ _ _ _ (fun e => (h.d2 b hb).1 (by subst e; exact hk))) (by simp), h.fo.step (fun k hk => Below.heap_setCell _ _ _ _ (fun e => (h.d2 b hb).2 (by subst e; exact hk))),
    h.wh.set hv hi x, h.c1, h.c2, h.c3, h.d1, h.d2⟩
/-- A field of the closure's own block has been written. -/
theorem ClParts.field0 (h : ClParts w c s FG FF g m f vw) (n : Int) : ClParts (w.setCell ⟨c, 0, none⟩ (.int .i64 n)) c { s with steps := n } FG FF g m f vw :=
  ⟨h.blk.set_ 0 _, h.gr.step (fun k hk => Below.heap_setCell _ _ _ _ (fun e => h.c1 (by subst e; exact hk))) (by simp), h.fo.step (fun k hk => Below.heap_setCell _ _ _ _ (fun e => h.c2 (by subst e; exact hk))),
    h.wh.step (fun k hk => Below.heap_setCell _ _ _ _ (fun e => h.c3 (by subst e; exact hk))), h.c1, h.c2, h.c3, h.d1, h.d2⟩
theorem ClParts.field4 (h : ClParts w c s FG FF g m f vw) (b : Bool) : ClParts (w.setCell ⟨c, 4, none⟩ (.bool b)) c { s with clash := b } FG FF g m f vw :=
  ⟨h.blk.set_ 4 _, h.gr.step (fun k hk => Below.heap_setCell _ _ _ _ (fun e => h.c1 (by subst e; exact hk))) (by simp), h.fo.step (fun k hk => Below.heap_setCell _ _ _ _ (fun e => h.c2 (by subst e; exact hk))),
    h.wh.step (fun k hk => Below.heap_setCell _ _ _ _ (fun e => h.c3 (by subst e; exact hk))), h.c1, h.c2, h.c3, h.d1, h.d2⟩
/-- The row of wholes has grown, and stands in the closure's block. -/
theorem ClParts.grow {w1 : World} {v1 : Value} {xs : List Int} (h : ClParts w c s FG FF g m f vw) (hi : IRow w1 v1 xs) (hg : w.grownBy w1 vw.ownBlock) (hv : v1.ownBlock = vw.ownBlock ∨ ∃ b, v1.ownBlock = some b ∧ w.heap.size ≤ b) :
    ClParts (w1.setCell ⟨c, 3, none⟩ v1) c { s with whole := xs } FG FF g m f v1 := by
  have hcl := h.blk.lt
  have hb1 := h.blk.grown hg (fun e => h.c3 e.symm)
  have h1 : v1.ownBlock ≠ some c := fun e => by
    rcases hv with e2 | ⟨b, e2, hb⟩
    · exact h.c3 (e2.symm.trans e)
    · rw [e] at e2; injection e2 with e2; omega
  have hs : ∀ k, k < w.heap.size → vw.ownBlock ≠ some k → k ≠ c → (w1.setCell ⟨c, 3, none⟩ v1).heap[k]? = w.heap[k]? := fun k hk hn hc => by
    rw [Below.heap_setCell _ _ _ _ (by exact hc)]
    exact hg.block k hk (fun e => hn e.symm)
  have hz : w.heap.size ≤ (w1.setCell ⟨c, 3, none⟩ v1).heap.size := by have := hg.size; simpa using this
  exact ⟨hb1.set_ 3 _, h.gr.step (fun k hk => hs k (h.gr.lt k hk) (fun e => (h.d2 k e).1 hk) (fun e => h.c1 (by subst e; exact hk))) hz, h.fo.step (fun k hk => hs k (h.fo.lt k hk) (fun e => (h.d2 k e).2 hk) (fun e => h.c2 (by subst e; exact hk))),
    hi.far h1 _, h.c1, h.c2, h1, h.d1, fun k hk => by
      rcases hv with e2 | ⟨b, e2, hb⟩
      · exact h.d2 k (e2.symm.trans hk)
      · rw [hk] at e2; injection e2 with e2; exact ⟨fun e => by have := h.gr.lt k e; omega, fun e => by have := h.fo.lt k e; omega⟩⟩
end
theorem ClAt.lt {w : World} {F : Nat → Prop} {c : Nat} {s : Cl} (h : ClAt w F c s) (k : Nat) (hk : F k) : k < w.heap.size := by
  obtain ⟨FG, FF, g, m, f, vw, h, hF⟩ := h.is
  exact h.lt k ((hF k).1 hk)
theorem ClAt.keep {w w' : World} {F : Nat → Prop} {c : Nat} {s : Cl} (h : ClAt w F c s) (hb : Below w.heap.size w w') : ClAt w' F c s := by
  obtain ⟨FG, FF, g, m, f, vw, h, hF⟩ := h.is
  exact ⟨⟨FG, FF, g, m, f, vw, h.keep hb, hF⟩⟩
theorem ClAt.drew {w : World} {F : Nat → Prop} {c : Nat} {s : Cl} (h : ClAt w F c s) : ClAt w.drew F c s := h.keep (Below.refl _ _).drew
theorem ClAt.step {w w' : World} {F : Nat → Prop} {c : Nat} {s : Cl} (h : ClAt w F c s) (hs : ∀ k, F k → w'.heap[k]? = w.heap[k]?) (hl : w.heap.size ≤ w'.heap.size) : ClAt w' F c s := by
  obtain ⟨FG, FF, g, m, f, vw, h, hF⟩ := h.is
  exact ⟨⟨FG, FF, g, m, f, vw, h.step (fun k hk => hs k ((hF k).2 hk)) hl, hF⟩⟩
def Cl.tick (s : Cl) : Cl := { s with steps := wrap64 (s.steps + 1) }
theorem Clo_tick (w : World) (F : Nat → Prop) (c : Nat) (s : Cl) (h : ClAt w F c s) :
    Calls Tryz.prog 63 #[.pointer (some ⟨c, 0, none⟩)] w fun e w' => e = .returned (.tuple #[]) ∧ ClAt w' F c s.tick ∧ Chg F w w' := by
  obtain ⟨FG, FF, g, m, f, vw, h, hF⟩ := h.is
  have c0 := h.blk.cell 0
  have f0 := h.blk.frozen 0
  simp only [List.getElem?_cons_zero] at c0
  have H := Sh.mk h
  have HF := Sh.mk hF
  clear h hF
  go_enter Tryz.func63, Tryz.ntmps63
  go_wp2
  refine bodyPost_end (results_none rfl _ _ _) rfl ?_
  refine ⟨rfl, ⟨⟨FG, FF, g, m, f, vw, H.out.field0 _, HF.out⟩⟩, (Chg.refl F w).setCell (.inl ((HF.out c).2 (.inl rfl))) _⟩
theorem Clo_root (w : World) (F : Nat → Prop) (c : Nat) (s : Cl) (i r : Nat) (h : ClAt w F c s) (hr : s.rt[i]? = some (r : Int)) :
    Calls Tryz.prog 86 #[.pointer (some ⟨c, 0, none⟩), .int .i64 i] w fun e w' => e = .returned (.int .i64 r) ∧ ClAt w' F c s ∧ Chg F w w' := by
  obtain ⟨FG, FF, g, m, f, vw, h, hF⟩ := h.is
  have c2 := h.blk.cell 2
  simp only [List.getElem?_cons_zero, List.getElem?_cons_succ] at c2
  have H := Sh.mk h
  have HF := Sh.mk hF
  have HR := Sh.mk hr
  clear h hF hr
  go_enter Tryz.func86, Tryz.ntmps86
  go_wp2_with (first | (go_at_call 100; refine (Forest_Root _ FF f s.rt s.rank i r H.out.fo HR.out).mono ?_; rintro e w1 ⟨rfl, hf, hc⟩; have KF := Sh.mk hf; have KC := Sh.mk hc; clear hf hc))
  go_ret
  refine ⟨rfl, ⟨⟨FG, FF, g, m, f, vw, H.out.forest KC.out KF.out (fun k hk => .inl hk), HF.out⟩⟩, KC.out.mono (fun k hk _ => (HF.out k).2 (.inr (.inr (.inl hk))))⟩
theorem Clo_New (w : World) : Calls Tryz.prog 48 #[] w fun e w' => ∃ c F, (e = .returned (.pointer (some ⟨c, 0, none⟩)) ∧ ClAt w' F c ⟨([], []), [], [], [], false, 0⟩ ∧ Below w.heap.size w w' ∧ ∀ k, F k → w.heap.size ≤ k) := by
  go_enter Tryz.func48, Tryz.ntmps48
  go_wp2_with fail
  refine (union_New0 w).mono ?_
  rintro e w1 ⟨f, FF, rfl, hf, hb, hn⟩
  have HF := Sh.mk hf
  have HB := Sh.mk hb
  have HN := Sh.mk hn
  clear hf hb hn
  go_wp2_with fail
  refine (Graph_New w1).mono ?_
  rintro e w2 ⟨g, m, FG, rfl, hg, hb, hn⟩
  have KG := Sh.mk hg
  have KB := Sh.mk hb
  have KN := Sh.mk hn
  clear hg hb hn
  go_wp2
  go_ret
  have hb1 := KB.out.size
  have hb0 := HB.out.size
  refine ⟨w2.heap.size, clF w2.heap.size FG FF (.slice none 0 0), rfl, ClParts.at (g := g) (m := m) (f := f) ⟨Blk.new _ _ _, (KG.out.keep ((Below.refl _ _).alloc (Nat.le_refl _) _)), ?_, IRow.nil _, fun e => by have := KG.out.lt _ e; omega, fun e => by have := HF.out.lt _ e; omega, by simp [Value.ownBlock], fun k h1 h2 => by have := KN.out k h1; have := HF.out.lt k h2; omega, fun k hk => by simp [Value.ownBlock] at hk⟩, ?_, ?_⟩
  · exact HF.out.step (fun k hk => by have := HF.out.lt k hk; exact (Below.heap_alloc _ _ k (by omega)).trans (KB.out.block k this))
  · exact (below_then HB.out KB.out).alloc (by omega) _
  · rintro k (rfl | e | e | e)
    · omega
    · have := KN.out k e; omega
    · exact HN.out k e
    · simp [Value.ownBlock] at e
end Go.Proofs.YtdppkdjgadiinaaGreat
