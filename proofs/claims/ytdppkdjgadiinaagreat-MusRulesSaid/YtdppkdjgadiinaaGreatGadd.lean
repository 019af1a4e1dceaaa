/- Package graph: a type is added. -/
import Derived.Test.YtdppkdjgadiinaaGreatGraph
set_option linter.unusedVariables false
set_option linter.unusedSimpArgs false
namespace Go.Proofs.YtdppkdjgadiinaaGreat
open Go.RowKit

abbrev GSt := List Nd × List (Int × Nat)
mutual
def Ty.size : Ty → Nat
  | .mk _ _ ps => 1 + Ty.sizes ps
def Ty.sizes : List Ty → Nat
  | [] => 0
  | p :: ps => p.size + Ty.sizes ps
end
mutual
def Ty.addTo : Ty → GSt → GSt × Nat
  | .mk k n ps, G => if k = 1 then (match mget G.2 n with | some i => (G, i) | none => ((G.1 ++ [⟨1, n, []⟩], mput G.2 n G.1.length), G.1.length))
    else (((Ty.addAll ps G).1.1 ++ [⟨k, 0, (Ty.addAll ps G).2⟩], (Ty.addAll ps G).1.2), (Ty.addAll ps G).1.1.length)
def Ty.addAll : List Ty → GSt → GSt × List Nat
  | [], G => (G, [])
  | p :: ps, G => ((Ty.addAll ps (p.addTo G).1).1, (p.addTo G).2 :: (Ty.addAll ps (p.addTo G).1).2)
end
theorem Ty.addAll_snoc (x : Ty) : ∀ (ps : List Ty) (G : GSt), Ty.addAll (ps ++ [x]) G = ((x.addTo (Ty.addAll ps G).1).1, (Ty.addAll ps G).2 ++ [(x.addTo (Ty.addAll ps G).1).2])
  | [], G => by simp [Ty.addAll]
  | p :: ps, G => by
    rw [List.cons_append, Ty.addAll, Ty.addAll_snoc x ps, Ty.addAll]
    rfl
theorem Ty.sizes_append : ∀ (ps qs : List Ty), Ty.sizes (ps ++ qs) = Ty.sizes ps + Ty.sizes qs
  | [], qs => by simp [Ty.sizes]
  | p :: ps, qs => by rw [List.cons_append, Ty.sizes, Ty.sizes, Ty.sizes_append ps qs]; omega
theorem Ty.size_pos (t : Ty) : 0 < t.size := by
  cases t with
  | mk k n ps => rw [Ty.size]; omega
/-- Of a graph: variables' nodes are there. -/
def Gok (G : GSt) : Prop := ∀ n i, mget G.2 n = some i → i < G.1.length
def AddLaw (t : Ty) : Prop := ∀ G : GSt, Gok G → G.1.length ≤ (t.addTo G).1.1.length ∧ (t.addTo G).1.1.length ≤ G.1.length + t.size ∧ Gok (t.addTo G).1 ∧ (t.addTo G).2 < (t.addTo G).1.1.length
theorem addAll_law : ∀ (ps : List Ty), (∀ p, p ∈ ps → AddLaw p) → ∀ G : GSt, Gok G → G.1.length ≤ (Ty.addAll ps G).1.1.length ∧ (Ty.addAll ps G).1.1.length ≤ G.1.length + Ty.sizes ps ∧ Gok (Ty.addAll ps G).1 ∧ ∀ i, i ∈ (Ty.addAll ps G).2 → i < (Ty.addAll ps G).1.1.length
  | [], _, G, hG => by
    rw [Ty.addAll, Ty.sizes]
    exact ⟨Nat.le_refl _, Nat.le_refl _, hG, fun i hi => by simp at hi⟩
  | p :: ps, h, G, hG => by
    obtain ⟨h1, h2, h3, h4⟩ := h p (List.mem_cons_self) G hG
    obtain ⟨h5, h6, h7, h8⟩ := addAll_law ps (fun q hq => h q (List.mem_cons_of_mem _ hq)) (p.addTo G).1 h3
    rw [Ty.addAll, Ty.sizes]
    refine ⟨by simp only; omega, by simp only; omega, h7, fun i hi => ?_⟩
    rcases List.mem_cons.1 hi with rfl | hi
    · simp only; omega
    · exact h8 i hi
theorem add_law : ∀ t : Ty, AddLaw t := by
  apply Ty.ind_
  intro k n ps ih G hG
  rw [Ty.addTo, Ty.size]
  split
  · split
    · rename_i i hi
      exact ⟨Nat.le_refl _, by simp only; omega, hG, hG n i hi⟩
    · rename_i hn
      refine ⟨by simp, by simp, ?_, by simp⟩
      intro j i hi
      simp only at hi ⊢
      rw [mget_mput] at hi
      rw [List.length_append, List.length_singleton]
      split at hi
      · injection hi with hi; omega
      · have := hG j i hi; omega
  · obtain ⟨h1, h2, h3, h4⟩ := addAll_law ps ih G hG
    refine ⟨by simp; omega, by simp; omega, ?_, by simp⟩
    intro j i hi
    have := h3 j i hi
    simp only [List.length_append, List.length_singleton]
    omega
theorem PartsAt.bound {w : World} {S : Nat → Prop} {t : Ty} {s : Value} (h : PartsAt w S t s) : PartsAt w (fun k => S k ∧ k < w.heap.size) t s := Dat.at_mono h (fun k hk hl => ⟨hk, hl⟩)
theorem PartsAt.chg {w w' : World} {F S : Nat → Prop} {t : Ty} {s : Value} (h : PartsAt w S t s) (hc : Chg F w w') (hS : ∀ k, S k → k < w.heap.size → ¬ F k) : PartsAt w' S t s := Dat.at_step (fun k hk hl => ⟨hk, hc.block k hl (hS k hk hl)⟩) _ _ h
def AddSaid (t : Ty) : Prop := ∀ (w : World) (F S : Nat → Prop) (g m : Nat) (nodes : List Nd) (vars : List (Int × Nat)) (s : Value), GraphAt w F g m nodes vars → PartsAt w S t s → (∀ k, S k → k < w.heap.size → ¬ F k) → Gok (nodes, vars) → t.thin → nodes.length + t.size ≤ 1000000 →
  Calls Tryz.prog 98 #[.pointer (some ⟨g, 0, none⟩), .agg #[.int .i64 t.kind, .int .i64 t.n, s]] w fun e w' => e = .returned (.int .i64 ((t.addTo (nodes, vars)).2 : Nat)) ∧ ∃ F', GraphAt w' F' g m (t.addTo (nodes, vars)).1.1 (t.addTo (nodes, vars)).1.2 ∧ Chg F w w' ∧ ∀ k, F' k → F k ∨ w.heap.size ≤ k
/-- A variable. -/
theorem add_var (n : Int) (ps : List Ty) : AddSaid (.mk 1 n ps) := by
  intro w F S g m nodes vars s h hp hS hG hthin hsz
  obtain ⟨A, c, rfl, _⟩ := hp.shape
  have hal := (Below.refl w.heap.size w).alloc (Nat.le_refl _) (.cells #[.int .i64 1, .int .i64 n, .slice A ps.length c] 36)
  have h' := h.step (fun k hk => hal.block k (by obtain ⟨v, es, h1, h2, h3, h4, h5, h6, h7, h8, h9, h10⟩ := h.is; exact h10 k hk)) hal.size
  obtain ⟨v, es, h1, h2, h3, h4, h5, h6, h7, h8, h9, h10⟩ := h'.is
  have c1 := h1.cell 1
  simp only [List.getElem?_cons_zero, List.getElem?_cons_succ] at c1
  have H3 := Sh.mk h3
  have H := Sh.mk h'
  have HAL := Sh.mk hal
  have HNF : Sh (¬ F w.heap.size) := ⟨fun e => by obtain ⟨v, es, h1, h2, h3, h4, h5, h6, h7, h8, h9, h10⟩ := h.is; have := h10 _ e; omega⟩
  have hl := lookup_run (P := Tryz.prog) h3 Tryz.underlying107 Tryz.underlying3 zero_int n true
  have hl2 := lookup_run (P := Tryz.prog) (h3.step (w' := (w.alloc (.cells #[.int .i64 1, .int .i64 n, .slice A ps.length c] 36)).drew) rfl) Tryz.underlying107 Tryz.underlying3 zero_int n true
  have HG := Sh.mk hG
  have e1 : (Ty.mk 1 n ps).parts.length = ps.length := rfl
  cases hm : mget vars n with
  | some i =>
    rw [hm] at hl hl2
    simp only [Option.map_some, Option.getD_some, Option.isSome_some, if_true, encNat] at hl hl2
    have hadd : (Ty.mk 1 n ps).addTo (nodes, vars) = ((nodes, vars), i) := by rw [Ty.addTo]; simp [hm]
    have HADD := Sh.mk hadd
    clear hadd hm h1 h2 h3 h4 h5 h6 h7 h8 h9 h10 h h' hp hS hG hthin hsz hal
    rw [e1]
    clear e1
    show Calls _ _ #[_, .agg #[.int .i64 1, .int .i64 n, _]] _ _
    go_enter Tryz.func98, Tryz.ntmps98
    go_wp2
    go_region
    go_wp2
    go_ret
    rw [HADD.out]
    exact ⟨rfl, F, H.out.drew, (Chg.of_below HAL.out).drew, fun k hk => .inl hk⟩
  | none =>
    rw [hm] at hl hl2
    simp only [Option.map_none, Option.getD_none, Option.isSome_none, if_true, encNat] at hl hl2
    have hadd : (Ty.mk 1 n ps).addTo (nodes, vars) = ((nodes ++ [⟨1, n, []⟩], mput vars n nodes.length), nodes.length) := by rw [Ty.addTo]; simp [hm]
    have HADD := Sh.mk hadd
    have hnl : nodes.length < 1048576 := by omega
    clear hadd hm h1 h2 h3 h4 h5 h6 h7 h8 h9 h10 h h' hp hS hG hthin hsz hal
    rw [e1]
    clear e1
    show Calls _ _ #[_, .agg #[.int .i64 1, .int .i64 n, _]] _ _
    go_enter Tryz.func98, Tryz.ntmps98
    go_wp2
    go_region
    go_wp2
    have HX := Sh.mk (Blk.new w 36 [.int .i64 1, .int .i64 n, .slice A ps.length c])
    go_region_held3 (fun w' => w'.cell? ⟨g, 1, none⟩ = some (.map (some m)) ∧ w'.cell? ⟨w.heap.size, 0, none⟩ = some (.int .i64 1) ∧ w'.cell? ⟨w.heap.size, 1, none⟩ = some (.int .i64 n)) (first | exact ⟨c1', b0, b1⟩ | exact ⟨q1, q2, q3⟩ | (simp [*]; done)) (first
      | (go_at_call 110; refine (Graph_lay _ F (fun _ => False) g m nodes vars ⟨1, n, []⟩ (.slice none 0 0) 0 ?h ?hp (fun k h => h.elim) (fun p hp => by simp at hp) hnl).mono ?_; (case h => exact H.out.drew.drew); (case hp => exact Dat.nil_at _ _ _); rintro e w1 ⟨rfl, F1, hG1, hC1, hF1⟩; have bx := (show Blk w1 w.heap.size 36 [.int .i64 1, .int .i64 n, .slice A ps.length c] from (hC1.block _ (by simp) HNF.out).trans HX.out); have b0 := bx.cell 0; have b1 := bx.cell 1; obtain ⟨v', es', k1, k2, k3, _⟩ := hG1.is; have c1' := k1.cell 1; (simp only [List.getElem?_cons_zero, List.getElem?_cons_succ] at b0 b1 c1'); have BX := Sh.mk bx; have HG1 := Sh.mk hG1; have HC1 := Sh.mk hC1; have HF1 := Sh.mk hF1; obtain ⟨w2, hr2, hM2, hC2, hs2⟩ := mapUpdate_run (P := Tryz.prog) k3 Tryz.underlying107 Tryz.underlying3 n nodes.length; (simp only [encNat] at hr2); have q1 := (show Blk w2 g 130 _ from (hC2.block g k1.lt (fun e => (k3.ne_blk k1) e.symm)).trans k1).cell 1; have qx := (show Blk w2 w.heap.size 36 [.int .i64 1, .int .i64 n, .slice A ps.length c] from (hC2.block _ bx.lt (fun e => (k3.ne_blk bx) e.symm)).trans bx); have q2 := qx.cell 0; have q3 := qx.cell 1; (simp only [List.getElem?_cons_zero, List.getElem?_cons_succ] at q1 q2 q3); clear qx; have HM2 := Sh.mk hM2; have HC2 := Sh.mk hC2; have HS2 := Sh.mk hs2; clear hM2 hC2 hs2; clear bx k1 k2 k3 hG1 hC1 hF1)
      | fail)
    have hl3 := lookup_run (P := Tryz.prog) (HM2.out.step (w' := w2.drew) rfl) Tryz.underlying107 Tryz.underlying3 zero_int n false
    rw [mget_mput, if_pos rfl] at hl3
    simp only [Option.map_some, Option.getD_some, encNat] at hl3
    go_wp2
    go_region
    go_wp2
    go_ret
    rw [HADD.out]
    refine ⟨rfl, F1, (HG1.out.put HC2.out HM2.out).drew, ?_, ?_⟩
    · have e1 : Chg F w w1 := ((Chg.of_below HAL.out).drew.drew).trans HC1.out (fun k hk _ => .inl hk)
      obtain ⟨v', es', k1, k2, k3, k4, k5, k6, k7, _⟩ := H.out.is
      exact (e1.trans HC2.out (fun k hk _ => .inl (by rw [hk]; exact k7))).drew
    · intro k hk
      rcases HF1.out k hk with h | h | h
      · exact .inl h
      · exact h.elim
      · have := HAL.out.size
        exact .inr (Nat.le_trans this h)
/-- What a loop's round knows: so many parts have been added. -/
structure AddLoop (w : World) (F S : Nat → Prop) (g m : Nat) (G : GSt) (k n : Int) (ps : List Ty) (A : Option Addr) (c : Nat) (wr : World) (j : Nat) : Prop where
  is : ∃ F' vp, GraphAt wr F' g m (Ty.addAll (ps.take j) G).1.1 (Ty.addAll (ps.take j) G).1.2 ∧ IRow wr vp ((Ty.addAll (ps.take j) G).2.map fun p : Nat => (p : Int)) ∧
    Blk wr (w.heap.size + 1) 147 [.int .i64 k, .int .i64 0, .int .i64 0, vp] ∧ Blk wr w.heap.size 36 [.int .i64 k, .int .i64 n, .slice A ps.length c] ∧ Chg F w wr ∧ (∀ b, F' b → F b ∨ w.heap.size + 1 < b) ∧
    (∀ b, vp.ownBlock = some b → w.heap.size + 1 < b ∧ ¬ F' b)
theorem AddLoop.next {w wr w2 w3 : World} {F S F1 F2 : Nat → Prop} {g m : Nat} {G : GSt} {k n : Int} {ps : List Ty} {A : Option Addr} {c j : Nat} {x : Ty} {L : List Int} {ix : Nat} {vp v5 : Value} {o o2 : Obj}
    (hx : ps[j]? = some x) (hL : L = (Ty.addAll (ps.take j) G).2.map fun p : Nat => (p : Int)) (hix : ix = (Ty.addTo x (Ty.addAll (ps.take j) G).1).2)
    (H : ∀ k, F k → k < w.heap.size) (C1 : Chg F w (wr.alloc o)) (N1 : ∀ b, F1 b → F b ∨ w.heap.size + 1 < b) (N2 : ∀ b, vp.ownBlock = some b → w.heap.size + 1 < b ∧ ¬ F1 b)
    (hB : w.heap.size + 1 < wr.heap.size) (IL : ∀ b, vp.ownBlock = some b → b < wr.heap.size)
    (KG : GraphAt w2 F2 g m (Ty.addTo x (Ty.addAll (ps.take j) G).1).1.1 (Ty.addTo x (Ty.addAll (ps.take j) G).1).1.2) (KC : Chg F1 (wr.alloc o).drew w2) (KF : ∀ k, F2 k → F1 k ∨ (wr.alloc o).drew.heap.size ≤ k)
    (KB0 : Blk w2 w.heap.size 36 [.int .i64 k, .int .i64 n, .slice A ps.length c]) (M1 : Blk w3 (w.heap.size + 1) 147 [.int .i64 k, .int .i64 0, .int .i64 0, vp])
    (I3 : IRow w3 v5 (L ++ [(ix : Int)])) (G3 : (w2.alloc o2).grownBy w3 vp.ownBlock) (V3 : v5.ownBlock = vp.ownBlock ∨ v5.ownBlock = some (w2.alloc o2).heap.size) :
    AddLoop w F S g m G k n ps A c (w3.setCell ⟨w.heap.size + 1, 3, none⟩ v5) (j + 1) := by
  have hs1 : (wr.alloc o).heap.size = wr.heap.size + 1 := by simp
  have hs2 : (w2.alloc o2).heap.size = w2.heap.size + 1 := by simp
  have hs3 : (wr.alloc o).drew.heap.size = wr.heap.size + 1 := hs1
  have hk := KC.size
  have hv : ∀ b, vp.ownBlock = some b → ¬ F2 b := fun b hb e => by
    rcases KF b e with e | e
    · exact (N2 b hb).2 e
    · have := IL b hb; omega
  have hv5 : ∀ b, v5.ownBlock = some b → w.heap.size + 1 < b ∧ ¬ F2 b := fun b hb => by
    rcases V3 with e | e
    · exact ⟨(N2 b (e ▸ hb)).1, hv b (e ▸ hb)⟩
    · rw [hb] at e
      injection e with e
      exact ⟨by omega, fun he => by have := KG.lt b he; omega⟩
  have hF2 : ∀ b, F2 b → F b ∨ w.heap.size + 1 < b := fun b hb => by
    rcases KF b hb with e | e
    · exact N1 b e
    · exact .inr (by omega)
  have hne : ¬ F2 (w.heap.size + 1) := fun e => by
    rcases hF2 _ e with e | e
    · have := H _ e; omega
    · omega
  have htake : ps.take (j + 1) = ps.take j ++ [x] := by rw [List.take_add_one, hx]; rfl
  refine ⟨⟨F2, v5, ?_, ?_, ?_, ?_, ?_, hF2, hv5⟩⟩
  · rw [htake, Ty.addAll_snoc]
    refine (KG.step (w' := w3) (fun b hb => ?_) ?_).step (fun b hb => Below.heap_setCell _ _ _ _ (fun e => ?_)) ?_
    · have hl := KG.lt b hb
      exact (G3.block b (by omega) (fun e => hv b e.symm hb)).trans (Below.heap_alloc w2 o2 b hl)
    · have := G3.size
      omega
    · subst e; exact hne hb
    · simp
  · rw [htake, Ty.addAll_snoc]
    simp only [List.map_append, List.map_cons, List.map_nil]
    rw [← hL, ← hix]
    exact I3.far (fun e => by have := (hv5 _ e).1; exact absurd this (Nat.lt_irrefl _)) _
  · exact M1.set_ 3 v5
  · exact ((KB0.alloc o2).grown G3 (fun e => by have := (N2 _ e.symm).1; omega)).far (by simp) _
  · refine (((C1.drew.trans KC ?_).alloc o2).grown G3 ?_).setCell (.inr (by simp)) _
    · intro b hb hl
      rcases N1 b hb with e | e
      · exact .inl e
      · exact .inr (by omega)
    · intro b hb
      exact .inr (by have := (N2 b hb).1; omega)
set_option maxRecDepth 100000 in
set_option maxHeartbeats 1000000 in
theorem add_node (k n : Int) (ps : List Ty) (ih : ∀ p, p ∈ ps → AddSaid p) (hk : k ≠ 1) : AddSaid (.mk k n ps) := by
  intro w F S g m nodes vars s h hp hS hG hthin hsz
  obtain ⟨A, c, rfl, hpl⟩ := hp.shape
  have hal := ((Below.refl w.heap.size w).alloc (Nat.le_refl _) (.cells #[.int .i64 k, .int .i64 n, .slice A ps.length c] 36)).alloc (by simp) (.cells #[.int .i64 k, .int .i64 0, .int .i64 0, .slice none 0 0] 147)
  have HL0 : Sh (AddLoop w F S g m (nodes, vars) k n ps A c ((w.alloc (.cells #[.int .i64 k, .int .i64 n, .slice A ps.length c] 36)).alloc (.cells #[.int .i64 k, .int .i64 0, .int .i64 0, .slice none 0 0] 147)) 0) :=
    ⟨⟨F, .slice none 0 0, h.keep hal, IRow.nil _, Blk.new' _ _ [_, _, _, _] (by simp), (Blk.new w 36 [.int .i64 k, .int .i64 n, .slice A ps.length c]).alloc _, Chg.of_below hal, fun b hb => .inl hb, fun b hb => by simp [Value.ownBlock] at hb⟩⟩
  have hadd : (Ty.mk k n ps).addTo (nodes, vars) = (((Ty.addAll ps (nodes, vars)).1.1 ++ [⟨k, 0, (Ty.addAll ps (nodes, vars)).2⟩], (Ty.addAll ps (nodes, vars)).1.2), (Ty.addAll ps (nodes, vars)).1.1.length) := by rw [Ty.addTo]; simp [hk]
  have HADD := Sh.mk hadd
  have HP := Sh.mk (show (Dat.row 3 (ps.map Ty.enc)).at w S (.slice A ps.length c) from hp)
  have HPB := Sh.mk hp
  have HS := Sh.mk hS
  have HG := Sh.mk hG
  have HT := Sh.mk hthin
  have HSZ := Sh.mk hsz
  have HI := Sh.mk ih
  have H := Sh.mk h
  have hpl' : ps.length ≤ 9223372036854775807 := hpl
  clear h hp hS hG hthin hsz ih hadd hpl hal
  show Calls _ _ #[_, .agg #[.int .i64 k, .int .i64 n, .slice A ps.length c]] _ _
  have hk1 : (k == 1) = false := by simp [hk]
  have HK := Sh.mk hk
  clear hk
  go_enter Tryz.func98, Tryz.ntmps98
  go_wp2
  go_loopw [51] (fun v51 wr => ∃ j : Nat, j ≤ ps.length ∧ v51 = .int .i64 j ∧ Sh (AddLoop w F S g m (nodes, vars) k n ps A c wr j)) (fun v51 _ => ps.length - (intOf v51).toNat)
  case atStart => exact ⟨0, Nat.zero_le _, rfl, HL0⟩
  case round =>
    obtain ⟨j, hj, rfl, ⟨⟨F1, vp, G1, I1, B1, B0, C1, N1, N2⟩⟩⟩ := hrel
    by_cases hlt : j < ps.length
    · obtain ⟨x, hxe⟩ : ∃ x, x = ps[j] := ⟨_, rfl⟩
      have hx : ps[j]? = some x := by rw [hxe]; exact List.getElem?_eq_getElem hlt
      have HX := Sh.mk hx
      obtain ⟨L, hL⟩ : ∃ L, L = (Ty.addAll (ps.take j) (nodes, vars)).2.map fun p : Nat => (p : Int) := ⟨_, rfl⟩
      rw [← hL] at I1
      obtain ⟨ix, hix⟩ : ∃ ix, ix = (Ty.addTo x ((Ty.addAll (ps.take j) (nodes, vars)).1.1, (Ty.addAll (ps.take j) (nodes, vars)).1.2)).2 := ⟨_, rfl⟩
      obtain ⟨Ap, cp, rfl⟩ := I1.shape
      have hrow : (Dat.row 3 (ps.map Ty.enc)).at wr (fun k => S k ∧ k < w.heap.size) (.slice A ps.length c) := Dat.at_step (fun k hk hl => ⟨⟨hk, hl⟩, C1.block k hl (HS.out k hk hl)⟩) _ _ HP.out
      obtain ⟨ad, A3, c3, rfl, hS1, hbl, h0, h1, h2, h4⟩ := tyRow_elem hrow hx
      have hmem := List.mem_of_getElem? hx
      have hsm : Ty.sizes (ps.take j) + x.size ≤ Ty.sizes ps := by
        have e1 := Ty.sizes_append (ps.take j) (ps.drop j)
        rw [List.take_append_drop, List.drop_eq_getElem_cons hlt, Ty.sizes] at e1
        rw [hxe]
        omega
      obtain ⟨l1, l2, l3, l4⟩ := addAll_law (ps.take j) (fun p _ => add_law p) (nodes, vars) HG.out
      have hsz := HSZ.out
      rw [Ty.size] at hsz
      have HSM := Sh.mk (show (Ty.addAll (ps.take j) (nodes, vars)).1.1.length + x.size ≤ 1000000 by simp only at l2; omega)
      have HGOK := Sh.mk l3
      have hAll : Below wr.heap.size wr (wr.alloc (.cells #[.int .i64 x.kind, .int .i64 x.n, .slice A3 x.parts.length c3] 36)) := (Below.refl _ _).alloc (Nat.le_refl _) _
      have HTX := Sh.mk ((Ty.thins_iff ps).1 HT.out.2 x hmem)
      have hAllD : Below wr.heap.size wr (wr.alloc (.cells #[.int .i64 x.kind, .int .i64 x.n, .slice A3 x.parts.length c3] 36)).drew := hAll.drew
      have HX4 := Sh.mk (h4.below hAllD)
      have HSD : Sh (∀ k, (fun k => S k ∧ k < w.heap.size) k → k < (wr.alloc (.cells #[.int .i64 x.kind, .int .i64 x.n, .slice A3 x.parts.length c3] 36)).drew.heap.size → ¬ F1 k) := ⟨fun k hk _ e => by
        rcases N1 k e with e | e
        · exact HS.out k hk.1 hk.2 e
        · have := hk.2; omega⟩
      have HGA := Sh.mk (G1.keep hAll).drew
      have HB1 := Sh.mk (B1.keep hAll)
      have HB0 := Sh.mk (B0.keep hAll)
      have HI1 := Sh.mk (I1.keep hAll)
      have HC1 := Sh.mk (C1.thenBelow hAll)
      have HN1 := Sh.mk N1
      have HN2 := Sh.mk N2
      have HLT := Sh.mk G1.lt
      have HIL := Sh.mk I1.lt
      have HBX := Sh.mk (Blk.new wr 36 [.int .i64 x.kind, .int .i64 x.n, .slice A3 x.parts.length c3])
      have HW := Sh.mk C1.size
      have HBL := Sh.mk B1.lt
      have e3 := HB1.out.cell 3
      have e4 := HB1.out.frozen 3
      simp only [List.getElem?_cons_zero, List.getElem?_cons_succ] at e3
      have HIH := Sh.mk (HI.out x hmem)
      have HLEN : Sh (L.length = j) := ⟨by
        rw [hL, List.length_map]
        have : ∀ (l : List Ty) (G : GSt), (Ty.addAll l G).2.length = l.length := fun l => by
          induction l with
          | nil => intro G; rw [Ty.addAll]; rfl
          | cons a l ih => intro G; rw [Ty.addAll]; simp [ih]
        rw [this, List.length_take]
        omega⟩
      have HPL := Sh.mk HT.out.1
      have HL8 := Sh.mk (show (L.length + 1) * 8 ≤ 140737488355328 by rw [HLEN.out]; have := HPL.out; omega)
      have HNB1 : Sh (¬ F1 (w.heap.size + 1)) := ⟨fun e => by rcases HN1.out _ e with e | e; have := H.out.lt _ e; omega; omega⟩
      have HNB0 : Sh (¬ F1 w.heap.size) := ⟨fun e => by rcases HN1.out _ e with e | e; have := H.out.lt _ e; omega; omega⟩
      have HIL1 := Sh.mk HI1.out.lt
      have HL := Sh.mk hL
      have HIX := Sh.mk hix
      clear hL hix hxe
      clear G1 I1 B1 B0 C1 N1 N2 hx hrow h4 l1 l2 l3 l4 hsz hAll hsm hS1 hmem hAllD
      go_wp2
      go_region_law (first
        | (go_simp; go_at_call 98; refine (HIH.out _ F1 _ g m _ _ _ HGA.out HX4.out HSD.out HGOK.out HTX.out HSM.out).mono ?_; rw [← HIX.out]; rintro e w2 ⟨rfl, F2, hG2, hC2, hF2⟩; have kb1 := (show Blk w2 (w.heap.size + 1) 147 _ from (hC2.block _ HB1.out.lt HNB1.out).trans HB1.out); have kb0 := (show Blk w2 w.heap.size 36 _ from (hC2.block _ HB0.out.lt HNB0.out).trans HB0.out); have ki := HI1.out.step (w' := w2) (fun b hb => hC2.block b (HIL1.out b hb) (HN2.out b hb).2); have e3' := kb1.cell 3; have e4' := kb1.frozen 3; have e3y := (kb1.alloc (.cells #[.int .i64 ix] 3)).cell 3; (simp only [List.getElem?_cons_zero, List.getElem?_cons_succ] at e3' e3y); have KB1 := Sh.mk kb1; have KB0 := Sh.mk kb0; have KI := Sh.mk ki; have KIA := Sh.mk (ki.keep ((Below.refl w2.heap.size w2).alloc (Nat.le_refl _) (.cells #[.int .i64 ix] 3))); have KBN := Sh.mk (Blk.new w2 3 [.int .i64 ix]); have KG := Sh.mk hG2; have KC := Sh.mk hC2; have KF := Sh.mk hF2; clear kb1 kb0 ki hG2 hC2 hF2)
        | (refine step_int rfl (.tmp 56) (.tmp 60) rfl (.slice Ap L.length cp) L ix w2.heap.size rfl rfl KIA.out KBN.out HL8.out ?_; intro A5 c5 w3 hI3 hG3 hV3; have m1 := (KB1.out.alloc (.cells #[.int .i64 ix] 3)).grown hG3 (fun e => by have := (HN2.out _ e.symm).1; omega); have e3x := m1.cell 3; have e4x := m1.frozen 3; (simp only [List.getElem?_cons_zero, List.getElem?_cons_succ] at e3x); have M1 := Sh.mk m1; have I3 := Sh.mk hI3; have G3 := Sh.mk hG3; have V3 := Sh.mk hV3; clear m1 hI3 hG3 hV3))
      all_goals
        go_wp2
        go_roundw
        case rel =>
          refine ⟨j + 1, by omega, by simp, ⟨AddLoop.next HX.out HL.out HIX.out H.out.lt HC1.out HN1.out HN2.out (by have := HB1.out.lt; have := HBL.out; omega) HIL.out KG.out KC.out KF.out KB0.out M1.out I3.out G3.out V3.out⟩⟩
        case measure => simp [intOf]; omega
    · have hjl : j = ps.length := by omega
      rw [hjl, List.take_length] at G1 I1
      obtain ⟨L, hL⟩ : ∃ L, L = (Ty.addAll ps (nodes, vars)).2.map fun p : Nat => (p : Int) := ⟨_, rfl⟩
      rw [← hL] at I1
      obtain ⟨Ap, cp, rfl⟩ := I1.shape
      have e0 := B1.cell 0
      have e1 := B1.cell 1
      have e2 := B1.cell 2
      have e3 := B1.cell 3
      simp only [List.getElem?_cons_zero, List.getElem?_cons_succ] at e0 e1 e2 e3
      obtain ⟨l1, l2, l3, l4⟩ := addAll_law ps (fun p _ => add_law p) (nodes, vars) HG.out
      have hsz := HSZ.out
      rw [Ty.size] at hsz
      have hII : IntsAt wr (fun k => (Value.slice Ap L.length cp).ownBlock = some k) (.slice Ap L.length cp) ((Nd.mk k 0 (Ty.addAll ps (nodes, vars)).2).ints) := by
        have := I1.ints
        rw [hL] at this ⊢
        exact this
      have HLAY := Sh.mk (Graph_lay wr F1 _ g m _ _ ⟨k, 0, (Ty.addAll ps (nodes, vars)).2⟩ (.slice Ap L.length cp) 0 G1 hII (fun b hb => (N2 b hb).2) l4 (by simp only at l2; omega))
      have HB1 := Sh.mk B1
      have HC1 := Sh.mk C1
      have HN1 := Sh.mk N1
      have HN2 := Sh.mk N2
      clear hL l1 l2 l3 l4 hsz hII G1 I1 B1 B0 C1 N1 N2
      go_wp2_with fail
      refine HLAY.out.mono ?_
      rintro e w2 ⟨rfl, F2, hG2, hC2, hF2⟩
      have KG := Sh.mk hG2
      have KC := Sh.mk hC2
      have KF := Sh.mk hF2
      clear hG2 hC2 hF2
      go_wp2
      go_ret
      rw [HADD.out]
      refine ⟨rfl, F2, KG.out, ?_, ?_⟩
      · exact HC1.out.trans KC.out (fun b hb _ => by
          rcases HN1.out b hb with e | e
          · exact .inl e
          · exact .inr (by omega))
      · intro b hb
        have := HC1.out.size
        rcases KF.out b hb with e | e | e
        · rcases HN1.out b e with e | e
          · exact .inl e
          · exact .inr (by omega)
        · exact .inr (by have := (HN2.out b e).1; omega)
        · exact .inr (Nat.le_trans this e)
theorem add_calls : ∀ t, AddSaid t := by
  apply Ty.ind_
  intro k n ps ih
  by_cases hk : k = 1
  · subst hk; exact add_var n ps
  · exact add_node k n ps ih hk
end Go.Proofs.YtdppkdjgadiinaaGreat
