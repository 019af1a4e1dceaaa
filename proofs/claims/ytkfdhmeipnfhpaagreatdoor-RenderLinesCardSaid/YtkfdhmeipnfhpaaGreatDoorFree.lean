/- Package scope: the free names of a term that is one name. -/
import Derived.Test.YtkfdhmeipnfhpaaGreatDoorRight
set_option linter.unusedVariables false
set_option linter.unusedSimpArgs false
namespace Go.Proofs.YtkfdhmeipnfhpaaGreatDoor
open Go.RowKit

theorem index_nil (nm : ByteArray) (w : World) :
    Calls Tryz.prog 112 #[.slice none 0 0, .string nm] w fun e w' => e = .returned (.int .i64 (-1)) ∧ w' = w := by
  go_enter Tryz.func112, Tryz.ntmps112
  go_wp2
  go_loop [8] (fun v => v = .int .i64 0) (fun _ => 0)
  case atStart => rfl
  case round =>
    subst hrel
    go_wp2
    go_ret
    exact ⟨rfl, rfl⟩
/-- A term without parts. -/
structure Lf where
  k : Int
  nm : ByteArray
  n : Int
  a : Int
  b : Int
def TermK : RK Lf := ⟨68, 66, 9, 112, .agg #[.int .i64 0, .string ByteArray.empty, .int .i64 0, .int .i64 0, .int .i64 0, .slice none 0 0, .slice none 0 0, .int .i64 0, .int .i64 0], fun t => leafV t.k t.nm t.n t.a t.b⟩
theorem TermK_ok : RKok TermK := ⟨fun _ => rfl, fun r u hu => by
  simp only [TermK, leafV, List.mem_cons, List.not_mem_nil, or_false] at hu
  rcases hu with rfl | rfl | rfl | rfl | rfl | rfl | rfl | rfl | rfl <;> simp [Value.oneCell'], Tryz.underlying66, by kernel_rfl, rfl, Nat.succ_pos _⟩
theorem GRow.blk1 {α : Type} {K : RK α} {w : World} {A : Option Addr} {c : Nat} {x : α} (h : GRow K w (.slice A 1 c) [x]) : ∃ g tl, A = some ⟨g, 0, none⟩ ∧ Blk w g K.t (K.enc x ++ tl) := by
  obtain ⟨h1, h2⟩ := h
  rcases h2 with ⟨_, h0⟩ | ⟨g, cap, cur, hv, hg, hh, _, _, hs, ht⟩
  · simp at h0
  · simp only [Value.slice.injEq] at hv
    obtain ⟨rfl, _, rfl⟩ := hv
    refine ⟨g, cur.toList.drop (1 * K.sz), rfl, ?_⟩
    rw [RK.cells_one] at ht
    unfold Blk
    rw [hh]
    simp only [List.length_singleton] at ht
    rw [← ht, List.take_append_drop]
theorem setAll_pre (b : Nat) (t : TypeId) : ∀ (vs pre cs tl : List Value) (W : World), Blk W b t (pre ++ cs ++ tl) → cs.length = vs.length → Blk (setAll W b pre.length vs) b t (pre ++ vs ++ tl)
  | [], pre, cs, tl, W, h, hl => by
    rw [List.length_eq_zero_iff.1 hl] at h
    exact h
  | v :: vs, pre, c :: cs, tl, W, h, hl => by
    have h1 := h.set_ pre.length v
    rw [List.append_assoc, List.set_append_right _ _ (Nat.le_refl _), Nat.sub_self, List.cons_append, List.set_cons_zero, show pre ++ v :: (cs ++ tl) = (pre ++ [v]) ++ cs ++ tl by simp] at h1
    have h2 := setAll_pre b t vs (pre ++ [v]) cs tl _ h1 (by simpa using hl)
    rw [List.length_append] at h2
    simpa [setAll] using h2
  | v :: vs, pre, [], tl, W, h, hl => by simp at hl
theorem setAll_head {b : Nat} {t : TypeId} {vs cs tl : List Value} {W : World} (h : Blk W b t (cs ++ tl)) (hl : cs.length = vs.length) : Blk (setAll W b 0 vs) b t (vs ++ tl) := setAll_pre b t vs [] cs tl W h hl
theorem fresh1 {g n c m : Nat} (hv : (Value.slice (some ⟨g, 0, none⟩) n c).ownBlock = (Value.slice none 0 0).ownBlock ∨ (Value.slice (some ⟨g, 0, none⟩) n c).ownBlock = some m) : m = g := by
  rcases hv with e | e
  · cases e
  · injection e with e
    exact e.symm
set_option maxRecDepth 100000 in
set_option maxHeartbeats 2000000 in
theorem free1_calls (k : Int) (nm : ByteArray) (n a b : Int) (c : Nat) (w : World) (hC : Blk w c 66 [.slice none 0 0]) :
    Calls Tryz.prog 111 #[.agg #[.int .i64 k, .string nm, .int .i64 n, .int .i64 0, .int .i64 0, .slice none 0 0, .slice none 0 0, .int .i64 a, .int .i64 b], .slice none 0 0, .pointer (some ⟨c, 0, none⟩)] w fun e w' =>
      e = .returned (.agg #[.int .i64 k, .string nm, .int .i64 n, .int .i64 0, .int .i64 0, .slice none 0 0, .slice none 0 0, .int .i64 a, .int .i64 b]) ∧ Chg (fun i => i = c) w w' ∧
      ∃ g cap tl, w.heap.size ≤ g ∧ Blk w' c 66 [.slice (some ⟨g, 0, none⟩) 1 cap] ∧ Blk w' g 68 (leafV k nm n a b ++ tl) := by
  have hlt := hC.lt
  obtain ⟨V, hV⟩ : ∃ V, V = (w.alloc (.cells #[.int .i64 k, .string nm, .int .i64 n, .int .i64 0, .int .i64 0, .slice none 0 0, .slice none 0 0, .int .i64 a, .int .i64 b] 68)).alloc (.cells #[.int .i64 0, .string ⟨#[]⟩, .int .i64 0, .int .i64 0, .int .i64 0, .slice none 0 0, .slice none 0 0, .int .i64 0, .int .i64 0] 68) := ⟨_, rfl⟩
  have hB : Blk V w.heap.size 68 [.int .i64 k, .string nm, .int .i64 n, .int .i64 0, .int .i64 0, .slice none 0 0, .slice none 0 0, .int .i64 a, .int .i64 b] := by rw [hV]; exact (Blk.new _ _ _).alloc _
  have hR : Blk V (w.heap.size + 1) 68 [.int .i64 0, .string ⟨#[]⟩, .int .i64 0, .int .i64 0, .int .i64 0, .slice none 0 0, .slice none 0 0, .int .i64 0, .int .i64 0] := by rw [hV]; exact Blk.new' _ _ _ (by simp)
  have hc : Blk V c 66 [.slice none 0 0] := by rw [hV]; exact (hC.alloc _).alloc _
  have hch : Chg (fun i => i = c) w V := by rw [hV]; exact ((Chg.refl _ _).alloc _).alloc _
  have hsz : V.heap.size = w.heap.size + 2 := by rw [hV]; simp
  go_enter Tryz.func111, Tryz.ntmps111
  have HB := Sh.mk hB
  have HR := Sh.mk hR
  have HC := Sh.mk hc
  have HCH := Sh.mk hch
  go_upto_region 1 with (fail)
  rw [← hV]
  have p0 := (hB).cell 0
  have p1 := (hB).cell 1
  have p2 := (hB).cell 2
  have p3 := (hB).cell 3
  have p4 := (hB).cell 4
  have p5 := (hB).cell 5
  have p6 := (hB).cell 6
  have p7 := (hB).cell 7
  have p8 := (hB).cell 8
  simp only [List.getElem?_cons_zero, List.getElem?_cons_succ] at p0 p1 p2 p3 p4 p5 p6 p7 p8
  have q0 := (hc).cell 0
  simp only [List.getElem?_cons_zero, List.getElem?_cons_succ] at q0
  have HSZ := Sh.mk hsz
  have HL : Sh (GRow TermK (V.alloc (.cells #[.int .i64 0, .string ⟨#[]⟩, .int .i64 0, .int .i64 0, .int .i64 0, .slice none 0 0, .slice none 0 0, .int .i64 0, .int .i64 0] 68)).drew (.slice (some ⟨V.heap.size, 0, none⟩) 1 1) [⟨0, ⟨#[]⟩, 0, 0, 0⟩]) := ⟨(GRow.lit TermK_ok V ⟨0, ⟨#[]⟩, 0, 0, 0⟩).keep (Below.refl _ _).drew⟩
  have HB9' : Sh (Below V.heap.size V (V.alloc (.cells #[.int .i64 0, .string ⟨#[]⟩, .int .i64 0, .int .i64 0, .int .i64 0, .slice none 0 0, .slice none 0 0, .int .i64 0, .int .i64 0] 68)).drew) := ⟨(((Below.refl _ V).alloc (Nat.le_refl _) _).drew)⟩
  have hwV : w.heap.size < V.heap.size := by omega
  have hcV : c < V.heap.size := by omega
  clear hV hC hB hR hc hch hsz
  go_upto_region 2 with (first
    | (go_at_call 112; refine (index_nil nm _).mono ?_; rintro e w1 ⟨rfl, hw1⟩; rw [hw1]; clear hw1))
  go_region_law (first
    | (refine step_row TermK_ok rfl (.tmp 11) (.tmp 14) rfl (.slice none 0 0) [] [⟨0, ⟨#[]⟩, 0, 0, 0⟩] (.slice (some ⟨V.heap.size, 0, none⟩) 1 1) rfl rfl (GRow.nil _ _) HL.out (by simp) (by simp [TermK]) ?_; intro A9 c9 w9 hI hg hv; obtain ⟨g, tl, rfl, hb9⟩ := GRow.blk1 (show GRow TermK w9 (.slice A9 1 c9) [⟨0, ⟨#[]⟩, 0, 0, 0⟩] from hI); obtain rfl : V.heap.size + 1 = g := (by simpa using fresh1 hv); have hb9' : Blk w9 (V.heap.size + 1) 68 (.int .i64 0 :: .string ⟨#[]⟩ :: .int .i64 0 :: .int .i64 0 :: .int .i64 0 :: .slice none 0 0 :: .slice none 0 0 :: .int .i64 0 :: .int .i64 0 :: tl) := hb9; have hB9 : Below V.heap.size V w9 := HB9'.out.grown hg (by simp) (fun k e => by cases e); have hx9 := HB.out.keep hB9; have hc9 := HC.out.keep hB9; have g0 := hb9'.cell 0; have g1 := hb9'.cell 1; have g2 := hb9'.cell 2; have g3 := hb9'.cell 3; have g4 := hb9'.cell 4; have g5 := hb9'.cell 5; have g6 := hb9'.cell 6; have g7 := hb9'.cell 7; have g8 := hb9'.cell 8; (simp only [List.getElem?_cons_zero, List.getElem?_cons_succ] at g0 g1 g2 g3 g4 g5 g6 g7 g8); have f0 := hb9'.frozen 0; have f1 := hb9'.frozen 1; have f2 := hb9'.frozen 2; have f3 := hb9'.frozen 3; have f4 := hb9'.frozen 4; have f5 := hb9'.frozen 5; have f6 := hb9'.frozen 6; have f7 := hb9'.frozen 7; have f8 := hb9'.frozen 8; have r0 := hc9.cell 0; have r1 := hc9.frozen 0; (simp only [List.getElem?_cons_zero] at r0); have hne : c ≠ V.heap.size + 1 := (by omega); have HG9 := Sh.mk hb9'; have HX9 := Sh.mk hx9; have HC9 := Sh.mk hc9; have HB9 := Sh.mk hB9; clear hI hg hv hb9 hb9' hB9 hx9 hc9))
  all_goals
    have HR9 := Sh.mk (HR.out.keep HB9.out)
    have HCH9 := Sh.mk (HCH.out.thenBelow HB9.out)
    have hsz := HSZ.out
    (first
      | (obtain ⟨W1, hW1⟩ : ∃ W1, W1 = (setAll w9 (V.heap.size + 1) 0 [.int .i64 k, .string nm, .int .i64 n, .int .i64 0, .int .i64 0, .slice none 0 0, .slice none 0 0, .int .i64 a, .int .i64 b]).setCell ⟨c, 0, none⟩ (.slice (some ⟨V.heap.size + 1, 0, none⟩) 1 c9) := ⟨_, rfl⟩
         have hg1 : Blk (setAll w9 (V.heap.size + 1) 0 [.int .i64 k, .string nm, .int .i64 n, .int .i64 0, .int .i64 0, .slice none 0 0, .slice none 0 0, .int .i64 a, .int .i64 b]) (V.heap.size + 1) 68 ([.int .i64 k, .string nm, .int .i64 n, .int .i64 0, .int .i64 0, .slice none 0 0, .slice none 0 0, .int .i64 a, .int .i64 b] ++ tl) := setAll_head (cs := [.int .i64 0, .string ⟨#[]⟩, .int .i64 0, .int .i64 0, .int .i64 0, .slice none 0 0, .slice none 0 0, .int .i64 0, .int .i64 0]) HG9.out rfl
         have hk : Chg (fun i => i = V.heap.size + 1) w9 (setAll w9 (V.heap.size + 1) 0 [.int .i64 k, .string nm, .int .i64 n, .int .i64 0, .int .i64 0, .slice none 0 0, .slice none 0 0, .int .i64 a, .int .i64 b]) := setAll_chg _ _ _ _
         have hG1 : Blk W1 (V.heap.size + 1) 68 ([.int .i64 k, .string nm, .int .i64 n, .int .i64 0, .int .i64 0, .slice none 0 0, .slice none 0 0, .int .i64 a, .int .i64 b] ++ tl) := by rw [hW1]; exact Blk.far (p := ⟨c, 0, none⟩) hg1 (fun e => hne e.symm) _
         have hC1 : Blk W1 c 66 [(.slice (some ⟨V.heap.size + 1, 0, none⟩) 1 c9)] := by rw [hW1]; exact Blk.set_ (cs := [.slice none 0 0]) ((hk.block _ HC9.out.lt (by omega)).trans HC9.out) 0 _
         have hX1 : Blk W1 w.heap.size 68 [.int .i64 k, .string nm, .int .i64 n, .int .i64 0, .int .i64 0, .slice none 0 0, .slice none 0 0, .int .i64 a, .int .i64 b] := by rw [hW1]; exact Blk.far ((hk.block _ HX9.out.lt (by omega)).trans HX9.out) (by simp; omega) _
         have hR1 : Blk W1 (w.heap.size + 1) 68 [.int .i64 0, .string ⟨#[]⟩, .int .i64 0, .int .i64 0, .int .i64 0, .slice none 0 0, .slice none 0 0, .int .i64 0, .int .i64 0] := by rw [hW1]; exact Blk.far ((hk.block _ HR9.out.lt (by omega)).trans HR9.out) (by simp; omega) _
         have hH1 : Chg (fun i => i = c) w W1 := by rw [hW1]; exact (HCH9.out.trans hk (fun i hi _ => .inr (by omega))).setCell (p := ⟨c, 0, none⟩) (.inl rfl) _
         simp only [setAll] at hW1
         rw [← hW1]
         clear hW1 hg1 hk)
      | (obtain ⟨W1, hW1⟩ : ∃ W1, W1 = setAll (w9.setCell ⟨c, 0, none⟩ (.slice (some ⟨V.heap.size + 1, 0, none⟩) 1 c9)) (V.heap.size + 1) 0 [.int .i64 k, .string nm, .int .i64 n, .int .i64 0, .int .i64 0, .slice none 0 0, .slice none 0 0, .int .i64 a, .int .i64 b] := ⟨_, rfl⟩
         have hk : Chg (fun i => i = V.heap.size + 1) (w9.setCell ⟨c, 0, none⟩ (.slice (some ⟨V.heap.size + 1, 0, none⟩) 1 c9)) W1 := by rw [hW1]; exact setAll_chg _ _ _ _
         have hG1 : Blk W1 (V.heap.size + 1) 68 ([.int .i64 k, .string nm, .int .i64 n, .int .i64 0, .int .i64 0, .slice none 0 0, .slice none 0 0, .int .i64 a, .int .i64 b] ++ tl) := by rw [hW1]; exact setAll_head (cs := [.int .i64 0, .string ⟨#[]⟩, .int .i64 0, .int .i64 0, .int .i64 0, .slice none 0 0, .slice none 0 0, .int .i64 0, .int .i64 0]) (Blk.far (p := ⟨c, 0, none⟩) HG9.out (fun e => hne e.symm) _) rfl
         have hc1 : Blk (w9.setCell ⟨c, 0, none⟩ (.slice (some ⟨V.heap.size + 1, 0, none⟩) 1 c9)) c 66 [(.slice (some ⟨V.heap.size + 1, 0, none⟩) 1 c9)] := Blk.set_ (cs := [.slice none 0 0]) HC9.out 0 _
         have hC1 : Blk W1 c 66 [(.slice (some ⟨V.heap.size + 1, 0, none⟩) 1 c9)] := (hk.block _ hc1.lt (by omega)).trans hc1
         have hx1 : Blk (w9.setCell ⟨c, 0, none⟩ (.slice (some ⟨V.heap.size + 1, 0, none⟩) 1 c9)) w.heap.size 68 [.int .i64 k, .string nm, .int .i64 n, .int .i64 0, .int .i64 0, .slice none 0 0, .slice none 0 0, .int .i64 a, .int .i64 b] := HX9.out.far (by simp; omega) _
         have hr1 : Blk (w9.setCell ⟨c, 0, none⟩ (.slice (some ⟨V.heap.size + 1, 0, none⟩) 1 c9)) (w.heap.size + 1) 68 [.int .i64 0, .string ⟨#[]⟩, .int .i64 0, .int .i64 0, .int .i64 0, .slice none 0 0, .slice none 0 0, .int .i64 0, .int .i64 0] := HR9.out.far (by simp; omega) _
         have hX1 : Blk W1 w.heap.size 68 [.int .i64 k, .string nm, .int .i64 n, .int .i64 0, .int .i64 0, .slice none 0 0, .slice none 0 0, .int .i64 a, .int .i64 b] := (hk.block _ hx1.lt (by omega)).trans hx1
         have hR1 : Blk W1 (w.heap.size + 1) 68 [.int .i64 0, .string ⟨#[]⟩, .int .i64 0, .int .i64 0, .int .i64 0, .slice none 0 0, .slice none 0 0, .int .i64 0, .int .i64 0] := (hk.block _ hr1.lt (by omega)).trans hr1
         have hH1 : Chg (fun i => i = c) w W1 := (HCH9.out.setCell (p := ⟨c, 0, none⟩) (.inl rfl) _).trans hk (fun i hi _ => .inr (by omega))
         simp only [setAll] at hW1
         rw [← hW1]
         clear hW1 hc1 hx1 hr1 hk))
    clear p0 p1 p2 p3 p4 p5 p6 p7 p8 q0 g0 g1 g2 g3 g4 g5 g6 g7 g8 f0 f1 f2 f3 f4 f5 f6 f7 f8 r0 r1 HG9 HX9 HC9 HB9 HR9 HCH9 HL HB9' HB HR HC HCH HSZ hwV hcV hne
    have HG1 := Sh.mk hG1
    have HC1 := Sh.mk hC1
    have HR1 := Sh.mk hR1
    have HH1 := Sh.mk hH1
    have HSZ := Sh.mk hsz
    have p0 := (hX1).cell 0
    have p1 := (hX1).cell 1
    have p2 := (hX1).cell 2
    have p3 := (hX1).cell 3
    have p4 := (hX1).cell 4
    have p5 := (hX1).cell 5
    have p6 := (hX1).cell 6
    have p7 := (hX1).cell 7
    have p8 := (hX1).cell 8
    simp only [List.getElem?_cons_zero, List.getElem?_cons_succ] at p0 p1 p2 p3 p4 p5 p6 p7 p8
    have q0 := (hR1).cell 0
    have q1 := (hR1).cell 1
    have q2 := (hR1).cell 2
    have q3 := (hR1).cell 3
    have q4 := (hR1).cell 4
    have q5 := (hR1).cell 5
    have q6 := (hR1).cell 6
    have q7 := (hR1).cell 7
    have q8 := (hR1).cell 8
    simp only [List.getElem?_cons_zero, List.getElem?_cons_succ] at q0 q1 q2 q3 q4 q5 q6 q7 q8
    have f0 := (hR1).frozen 0
    have f1 := (hR1).frozen 1
    have f2 := (hR1).frozen 2
    have f3 := (hR1).frozen 3
    have f4 := (hR1).frozen 4
    have f5 := (hR1).frozen 5
    have f6 := (hR1).frozen 6
    have f7 := (hR1).frozen 7
    have f8 := (hR1).frozen 8
    clear hG1 hC1 hX1 hR1 hH1 hsz
    go_wp2
    obtain ⟨W7, hW7⟩ : ∃ W7, W7 = setAll W1 (w.heap.size + 1) 0 [.int .i64 k, .string nm, .int .i64 n, .int .i64 0, .int .i64 0, .slice none 0 0, .slice none 0 0, .int .i64 a, .int .i64 b] := ⟨_, rfl⟩
    have hC7 : Chg (fun i => i = w.heap.size + 1) W1 W7 := by rw [hW7]; exact setAll_chg _ _ _ _
    have hX7 : Blk W7 (w.heap.size + 1) 68 [.int .i64 k, .string nm, .int .i64 n, .int .i64 0, .int .i64 0, .slice none 0 0, .slice none 0 0, .int .i64 a, .int .i64 b] := by rw [hW7]; exact setAll_blk HR1.out rfl
    simp only [setAll] at hW7
    rw [← hW7]
    clear hW7 p0 p1 p2 p3 p4 p5 p6 p7 p8 q0 q1 q2 q3 q4 q5 q6 q7 q8 f0 f1 f2 f3 f4 f5 f6 f7 f8
    have p0 := (hX7).cell 0
    have p1 := (hX7).cell 1
    have p2 := (hX7).cell 2
    have p3 := (hX7).cell 3
    have p4 := (hX7).cell 4
    have p5 := (hX7).cell 5
    have p6 := (hX7).cell 6
    have p7 := (hX7).cell 7
    have p8 := (hX7).cell 8
    simp only [List.getElem?_cons_zero, List.getElem?_cons_succ] at p0 p1 p2 p3 p4 p5 p6 p7 p8
    have hsz := HSZ.out
    exact bodyPost_ret (v := .agg #[.int .i64 k, .string nm, .int .i64 n, .int .i64 0, .int .i64 0, .slice none 0 0, .slice none 0 0, .int .i64 a, .int .i64 b]) (by simp [results, Tryz.results111, go_sem, p0, p1, p2, p3, p4, p5, p6, p7, p8]) rfl ⟨rfl, HH1.out.trans hC7 (fun i hi _ => .inr (by omega)), _, _, tl, (by omega), (hC7.block _ HC1.out.lt (by omega)).trans HC1.out, (hC7.block _ HG1.out.lt (by omega)).trans HG1.out⟩
end Go.Proofs.YtkfdhmeipnfhpaaGreatDoor
