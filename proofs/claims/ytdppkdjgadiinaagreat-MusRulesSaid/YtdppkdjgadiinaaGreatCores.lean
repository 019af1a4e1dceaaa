/- Rows of rows of numbers: Equal, ContainsFunc. Package mus: a search for cores, in memory. A region that draws its order: what a load reads may be taken first, though a later operation writes it, if that one waits for the load. Package mus: a core is looked for. Package mus: some cores. -/
import Derived.Test.YtdppkdjgadiinaaGreatMus
import Derived.StillTail
set_option linter.unusedVariables false
set_option linter.unusedSimpArgs false
namespace Go.Proofs.YtdppkdjgadiinaaGreat
open Go.RowKit

structure Sl where
  A : Option Addr
  n : Nat
  c : Nat
def Sl.v (x : Sl) : Value := .slice x.A x.n x.c
def RowsK : RK Sl := ⟨25, 29, 1, 24, .slice none 0 0, fun x => [.slice x.A x.n x.c]⟩
theorem RowsK_ok : RKok RowsK := ⟨fun _ => rfl, fun r u hu => by
  simp only [RowsK, List.mem_singleton] at hu
  rw [hu]; simp [Value.oneCell'], Tryz.underlying29, by kernel_rfl, rfl, Nat.succ_pos _⟩
theorem RowsK.cells {w : World} {v : Value} {rs : List Sl} (h : GRow RowsK w v rs) {i : Nat} {x : Sl} (hx : rs[i]? = some x) : ∃ g k, v = .slice (some ⟨g, 0, none⟩) rs.length k ∧ w.cell? ⟨g, i, none⟩ = some (.slice x.A x.n x.c) := by
  obtain ⟨g, k, e, hc⟩ := h.at RowsK_ok hx
  have h0 := hc 0 (by simp [RowsK])
  simp only [RowsK, List.getElem?_cons_zero, Nat.add_zero, Nat.mul_one] at h0
  exact ⟨g, k, e, h0⟩
set_option maxRecDepth 100000 in
theorem Equal_calls (w : World) (v u : Value) (xs ys : List Int) (hx : IRow w v xs) (hy : IRow w u ys) :
    Calls Tryz.prog 36 #[v, u] w fun e w' => e = .returned (.bool (decide (xs = ys))) ∧ Below w.heap.size w w' := by
  obtain ⟨A, c, rfl⟩ := hx.shape
  obtain ⟨B, d, rfl⟩ := hy.shape
  have hl1 := hx.len
  have hl2 := hy.len
  obtain ⟨n, hn⟩ : ∃ n, n = xs.length := ⟨_, rfl⟩
  obtain ⟨m, hm⟩ : ∃ m, m = ys.length := ⟨_, rfl⟩
  rw [← hn] at hx hl1 ⊢
  rw [← hm] at hy hl2 ⊢
  have HX := Sh.mk hx
  have HY := Sh.mk hy
  have HN := Sh.mk hn
  have HM := Sh.mk hm
  clear hx hy hn hm
  go_enter Tryz.func36, Tryz.ntmps36
  by_cases hnm : n = m
  · subst hnm
    have hne : ((n : Int) != (n : Int)) = false := by simp
    go_wp2
    go_loopw [13] (fun v13 wr => ∃ j : Nat, v13 = .int .i64 j ∧ j ≤ n ∧ Sh (Below w.heap.size w wr ∧ ∀ i, i < j → xs[i]? = ys[i]?)) (fun v13 _ => n - (intOf v13).toNat)
    case atStart => exact ⟨0, rfl, Nat.zero_le _, ⟨Below.refl _ _, fun i hi => absurd hi (Nat.not_lt_zero _)⟩⟩
    case round =>
      obtain ⟨j, rfl, hj, HR⟩ := hrel
      by_cases hlt : j < n
      · obtain ⟨x, hx⟩ : ∃ x, xs[j]? = some x := ⟨_, List.getElem?_eq_getElem (by have := HN.out; omega)⟩
        obtain ⟨y, hy⟩ : ∃ y, ys[j]? = some y := ⟨_, List.getElem?_eq_getElem (by have := HM.out; omega)⟩
        obtain ⟨g, c', e, t0, _⟩ := (HX.out.keep HR.out.1).at hx
        simp only [Value.slice.injEq] at e
        have e1 := e.1
        clear e
        subst e1
        obtain ⟨g2, c2', e, s0, _⟩ := (HY.out.keep HR.out.1).at hy
        simp only [Value.slice.injEq] at e
        have e1 := e.1
        clear e
        subst e1
        have HXJ := Sh.mk hx
        have HYJ := Sh.mk hy
        clear hx hy
        by_cases hxy : x = y
        · have hq : (x != y) = false := by simp [hxy]
          have HQ := Sh.mk hxy
          clear hxy
          go_wp2
          go_region
          go_wp2
          go_roundw
          case rel =>
            refine ⟨j + 1, by simp, by omega, ⟨HR.out.1.drew, fun i hi => ?_⟩⟩
            rcases Nat.lt_or_ge i j with h | h
            · exact HR.out.2 i h
            · have : i = j := by omega
              subst this
              rw [HXJ.out, HYJ.out, HQ.out]
          case measure => simp [intOf]; omega
        · have hq : (x != y) = true := by simp [hxy]
          have HQ := Sh.mk hxy
          clear hxy
          go_wp2
          go_region
          go_wp2
          go_ret
          refine ⟨?_, HR.out.1.drew⟩
          have : xs ≠ ys := fun e => HQ.out (by have := HXJ.out; rw [e, HYJ.out] at this; injection this with this; exact this.symm)
          simp [this]
      · go_wp2
        go_ret
        refine ⟨?_, HR.out.1⟩
        have : xs = ys := by
          apply List.ext_getElem?
          intro i
          rcases Nat.lt_or_ge i n with h | h
          · exact HR.out.2 i (by omega)
          · rw [List.getElem?_eq_none (by have := HN.out; omega), List.getElem?_eq_none (by have := HM.out; omega)]
        simp [this]
  · have hne : ((n : Int) != (m : Int)) = true := by simp; omega
    have HNM := Sh.mk hnm
    clear hnm
    go_wp2
    go_ret
    have : xs ≠ ys := fun e => HNM.out (by rw [HN.out, HM.out, e])
    exact ⟨by simp [this], Below.refl _ _⟩
theorem IndexFunc_rows (w : World) (rs : List Sl) (p : Sl → Bool) (g : Nat) (cap : Array Value) (fv : Value) (hfv : Fnv Tryz.prog fv g cap) (v : Value) (h : GRow RowsK w v rs)
    (hp : ∀ (x : Sl) (w1 : World), x ∈ rs → Below w.heap.size w w1 → Calls Tryz.prog g (#[.slice x.A x.n x.c] ++ cap) w1 fun e w2 => e = .returned (.bool (p x)) ∧ Below w1.heap.size w1 w2) :
    Calls Tryz.prog 47 #[v, fv] w fun e w' => ∃ r : Int, e = .returned (.int .i64 r) ∧ decide (r ≥ 0) = rs.any p ∧ Below w.heap.size w w' := by
  obtain ⟨A, c, rfl⟩ := h.shape
  have hlen := h.len
  have H := Sh.mk h
  have HP := Sh.mk hp
  clear h hp
  obtain ⟨n, hn⟩ : ∃ n, n = rs.length := ⟨_, rfl⟩
  rw [← hn] at hlen H ⊢
  have HN := Sh.mk hn
  clear hn
  go_enter Tryz.func47, Tryz.ntmps47
  go_wp2
  go_loopw [8] (fun v8 wr => ∃ j : Nat, v8 = .int .i64 j ∧ j ≤ n ∧ Sh (Below w.heap.size w wr ∧ (rs.take j).any p = false)) (fun v8 _ => n - (intOf v8).toNat)
  case atStart => exact ⟨0, rfl, Nat.zero_le _, ⟨Below.refl _ _, rfl⟩⟩
  case round =>
    obtain ⟨j, rfl, hj, HR⟩ := hrel
    by_cases hlt : j < n
    · obtain ⟨x, hx⟩ : ∃ x, rs[j]? = some x := ⟨_, List.getElem?_eq_getElem (by have := HN.out; omega)⟩
      obtain ⟨g', c', e, t0⟩ := RowsK.cells (H.out.keep HR.out.1) hx
      simp only [Value.slice.injEq] at e
      have e1 := e.1
      clear e
      subst e1
      have HX := Sh.mk hx
      clear hx
      go_wp2_with (refine callV (some 16) rfl rfl rfl rfl hfv [_] rfl ?_)
      refine (HP.out x wr (List.mem_of_getElem? HX.out) HR.out.1).mono ?_
      rintro e w1 ⟨rfl, hb⟩
      refine ⟨_, rfl, ?_⟩
      have HB1 := Sh.mk (below_then HR.out.1 hb)
      have HS := any_take_succ p HX.out
      rw [HR.out.2, Bool.false_or] at HS
      clear hb
      cases hpx : p x with
      | false =>
        rw [hpx] at HS
        have HS1 := Sh.mk HS
        clear hpx HS
        go_wp2
        go_roundw
        case rel => exact ⟨j + 1, by simp, by omega, ⟨HB1.out, HS1.out⟩⟩
        case measure => simp [intOf]; omega
      | true =>
        rw [hpx] at HS
        have HS1 := Sh.mk HS
        clear hpx HS
        go_wp2
        go_ret
        refine ⟨j, rfl, ?_, HB1.out⟩
        have : rs.any p = true := by rw [← List.take_append_drop (j + 1) rs, List.any_append, HS1.out, Bool.true_or]
        rw [this]; simp
    · go_wp2
      go_ret
      refine ⟨-1, rfl, ?_, HR.out.1⟩
      have := HR.out.2
      rw [show j = rs.length by have := HN.out; omega, List.take_length] at this
      rw [this]; rfl
theorem ContainsFunc_rows (w : World) (rs : List Sl) (p : Sl → Bool) (g : Nat) (cap : Array Value) (fv : Value) (hfv : Fnv Tryz.prog fv g cap) (v : Value) (h : GRow RowsK w v rs)
    (hp : ∀ (x : Sl) (w1 : World), x ∈ rs → Below w.heap.size w w1 → Calls Tryz.prog g (#[.slice x.A x.n x.c] ++ cap) w1 fun e w2 => e = .returned (.bool (p x)) ∧ Below w1.heap.size w1 w2) :
    Calls Tryz.prog 34 #[v, fv] w fun e w' => e = .returned (.bool (rs.any p)) ∧ Below w.heap.size w w' := by
  have HI := Sh.mk (IndexFunc_rows w rs p g cap fv hfv v h hp)
  clear h hp
  go_enter Tryz.func34, Tryz.ntmps34
  go_wp2_with (go_at_call 47; refine HI.out.mono ?_; rintro e w1 ⟨r, rfl, hd, hb⟩)
  have HD := Sh.mk hd
  have HB := Sh.mk hb
  clear hd hb
  go_wp2
  go_ret
  exact ⟨by rw [← HD.out]; rfl, HB.out⟩
theorem fnv_find1 (p : Value) : Fnv Tryz.prog (.func (.func 35) #[] #[p]) 35 #[p] := ⟨rfl, _, Tryz.func35, by kernel_rfl, rfl⟩
theorem find1_calls (w : World) (b : Nat) (x u : Value) (xs ys : List Int) (hx : IRow w x xs) (hu : IRow w u ys) (hb : Blk w b 25 [u]) :
    Calls Tryz.prog 35 #[x, .pointer (some ⟨b, 0, none⟩)] w fun e w' => e = .returned (.bool (decide (xs = ys))) ∧ Below w.heap.size w w' := by
  have HE := Sh.mk (Equal_calls w x u xs ys hx hu)
  obtain ⟨A, c, rfl⟩ := hu.shape
  have c0 := hb.cell 0
  simp only [List.getElem?_cons_zero] at c0
  clear hx hu hb
  go_enter Tryz.func35, Tryz.ntmps35
  go_wp2_with (first | (go_at_call 36; refine HE.out.mono ?_; rintro e w1 ⟨rfl, hb1⟩; have HB1 := Sh.mk hb1; clear hb1))
  go_ret
  exact ⟨rfl, HB1.out⟩
end Go.Proofs.YtdppkdjgadiinaaGreat
set_option linter.unusedVariables false
set_option linter.unusedSimpArgs false
namespace Go.Proofs.YtdppkdjgadiinaaGreat
open Go.RowKit

/-- The cores that were found, and among which each was. -/
structure Sea where
  cores : List (List Int)
  among : List (List Int)
def findP (sb : List Int → Bool) (most : Int) (s : Sea) (x : List Int) : Sea :=
  if most ≤ s.cores.length then s else if sb x then s else if s.cores.any (fun y => decide (y = reduceP sb x x)) then s else ⟨s.cores ++ [reduceP sb x x], s.among ++ [x]⟩
/-- The blocks that a search writes into. -/
def seaD (sk fb : Nat) (vc va : Value) (k : Nat) : Prop := k = sk ∨ k = fb ∨ vc.ownBlock = some k ∨ va.ownBlock = some k
/-- Rows that read as lists of numbers, apart from some blocks. -/
def RowsOk (w : World) (D : Nat → Prop) (rs : List Sl) (xss : List (List Int)) : Prop :=
  rs.length = xss.length ∧ ∀ (i : Nat) (x : Sl) (xs : List Int), rs[i]? = some x → xss[i]? = some xs → IRow w (.slice x.A x.n x.c) xs ∧ ∀ k, (Value.slice x.A x.n x.c).ownBlock = some k → ¬ D k
theorem RowsOk.step {w w' : World} {D D' : Nat → Prop} {rs : List Sl} {xss : List (List Int)} (h : RowsOk w D rs xss) (hs : ∀ k, k < w.heap.size → ¬ D k → w'.heap[k]? = w.heap[k]? ∧ ¬ D' k) : RowsOk w' D' rs xss :=
  ⟨h.1, fun i x xs h1 h2 => by
    obtain ⟨h3, h4⟩ := h.2 i x xs h1 h2
    exact ⟨h3.step (fun k hk => (hs k (h3.lt k hk) (h4 k hk)).1), fun k hk => (hs k (h3.lt k hk) (h4 k hk)).2⟩⟩
theorem RowsOk.push {w : World} {D : Nat → Prop} {rs : List Sl} {xss : List (List Int)} {x : Sl} {xs : List Int} (h : RowsOk w D rs xss) (hx : IRow w (.slice x.A x.n x.c) xs) (hd : ∀ k, (Value.slice x.A x.n x.c).ownBlock = some k → ¬ D k) : RowsOk w D (rs ++ [x]) (xss ++ [xs]) := by
  refine ⟨by simp [h.1], fun i y ys h1 h2 => ?_⟩
  rcases Nat.lt_or_ge i rs.length with hl | hl
  · rw [List.getElem?_append_left hl] at h1
    rw [List.getElem?_append_left (by rw [← h.1]; exact hl)] at h2
    exact h.2 i y ys h1 h2
  · rw [List.getElem?_append_right hl] at h1
    rw [List.getElem?_append_right (by rw [← h.1]; exact hl), ← h.1] at h2
    obtain ⟨e, he⟩ : ∃ e, e = i - rs.length := ⟨_, rfl⟩
    rw [← he] at h1 h2
    cases e with
    | zero =>
      simp only [List.getElem?_cons_zero, Option.some.injEq] at h1 h2
      subst h1 h2
      exact ⟨hx, hd⟩
    | succ e => simp at h1
structure SeaP (w : World) (S : Nat → Prop) (sk fb : Nat) (es : List Eqn) (v : Value) (most : Int) (vc va : Value) (rc ra : List Sl) (st : Sea) : Prop where
  blk : Blk w sk 53 [.pointer (some ⟨fb, 0, none⟩), .int .i64 most, vc, va]
  fil : ∃ n, FilAt w S fb es v n
  rowc : GRow RowsK w vc rc
  rowa : GRow RowsK w va ra
  okc : RowsOk w (seaD sk fb vc va) rc st.cores
  oka : RowsOk w (seaD sk fb vc va) ra st.among
  n1 : sk ≠ fb
  n2 : vc.ownBlock ≠ some sk ∧ vc.ownBlock ≠ some fb
  n3 : va.ownBlock ≠ some sk ∧ va.ownBlock ≠ some fb
  n4 : ∀ k, vc.ownBlock = some k → va.ownBlock ≠ some k
  sd : ∀ k, S k → ¬ seaD sk fb vc va k
  len : st.among.length = st.cores.length
section
variable {w w' : World} {S : Nat → Prop} {sk fb : Nat} {es : List Eqn} {v vc va : Value} {most : Int} {rc ra : List Sl} {st : Sea}
theorem SeaP.lt (h : SeaP w S sk fb es v most vc va rc ra st) (k : Nat) (hk : seaD sk fb vc va k) : k < w.heap.size := by
  obtain ⟨n, hf⟩ := h.fil
  rcases hk with rfl | rfl | e | e
  · exact h.blk.lt
  · exact hf.blk.lt
  · exact h.rowc.lt k e
  · exact h.rowa.lt k e
theorem SeaP.keep (h : SeaP w S sk fb es v most vc va rc ra st) (hb : Below w.heap.size w w') : SeaP w' S sk fb es v most vc va rc ra st := by
  obtain ⟨n, hf⟩ := h.fil
  exact ⟨h.blk.keep hb, ⟨n, hf.keep hb⟩, h.rowc.keep hb, h.rowa.keep hb, h.okc.step (fun k hk hd => ⟨hb.block k hk, hd⟩), h.oka.step (fun k hk hd => ⟨hb.block k hk, hd⟩), h.n1, h.n2, h.n3, h.n4, h.sd, h.len⟩
/-- The filter has turned. -/
theorem SeaP.filt (h : SeaP w S sk fb es v most vc va rc ra st) (hc : Chg (fun k => k = fb) w w') (hf : ∃ n, FilAt w' S fb es v n) : SeaP w' S sk fb es v most vc va rc ra st :=
  ⟨(hc.block _ h.blk.lt h.n1).trans h.blk, hf, h.rowc.step (fun k hk => hc.block k (h.rowc.lt k hk) (fun e => h.n2.2 (e ▸ hk))), h.rowa.step (fun k hk => hc.block k (h.rowa.lt k hk) (fun e => h.n3.2 (e ▸ hk))),
   h.okc.step (fun k hk hd => ⟨hc.block k hk (fun e => hd (.inr (.inl e))), hd⟩), h.oka.step (fun k hk hd => ⟨hc.block k hk (fun e => hd (.inr (.inl e))), hd⟩), h.n1, h.n2, h.n3, h.n4, h.sd, h.len⟩
end
theorem IRow.unique {w : World} {v : Value} {xs ys : List Int} (h : IRow w v xs) (h2 : IRow w v ys) : xs = ys := by
  obtain ⟨A, c, e1⟩ := h.shape
  obtain ⟨A', c', e2⟩ := h2.shape
  rw [e1] at e2
  simp only [Value.slice.injEq] at e2
  have hl := e2.2.1
  apply List.ext_getElem?
  intro i
  rcases Nat.lt_or_ge i xs.length with hi | hi
  · obtain ⟨x, hx⟩ : ∃ x, xs[i]? = some x := ⟨_, List.getElem?_eq_getElem hi⟩
    obtain ⟨y, hy⟩ : ∃ y, ys[i]? = some y := ⟨_, List.getElem?_eq_getElem (by omega)⟩
    obtain ⟨g, k, e3, c3, _⟩ := h.at hx
    obtain ⟨g', k', e4, c4, _⟩ := h2.at hy
    rw [e3] at e4
    simp only [Value.slice.injEq, Option.some.injEq, Addr.mk.injEq, and_true] at e4
    rw [← e4.1, c3] at c4
    simp only [Option.some.injEq, Value.int.injEq, true_and] at c4
    rw [hx, hy, c4]
  · rw [List.getElem?_eq_none hi, List.getElem?_eq_none (by omega)]
open Classical in
noncomputable def isRow (rs : List Sl) (xss : List (List Int)) (c : List Int) (x : Sl) : Bool := decide (∃ i : Nat, rs[i]? = some x ∧ xss[i]? = some c)
open Classical in
theorem RowsOk.any {w : World} {D : Nat → Prop} {rs : List Sl} {xss : List (List Int)} (h : RowsOk w D rs xss) (c : List Int) : rs.any (isRow rs xss c) = xss.any fun y => decide (y = c) := by
  rw [Bool.eq_iff_iff, List.any_eq_true, List.any_eq_true]
  constructor
  · rintro ⟨x, hx, hp⟩
    unfold isRow at hp
    obtain ⟨i, h1, h2⟩ := of_decide_eq_true hp
    exact ⟨c, List.mem_of_getElem? h2, by simp⟩
  · rintro ⟨y, hy, hp⟩
    obtain rfl := of_decide_eq_true hp
    obtain ⟨i, hi⟩ := List.mem_iff_getElem?.1 hy
    have hl : i < rs.length := by rw [h.1]; exact (List.getElem?_eq_some_iff.1 hi).1
    exact ⟨rs[i], List.getElem_mem hl, by unfold isRow; exact decide_eq_true ⟨i, List.getElem?_eq_getElem hl, hi⟩⟩
theorem RowsOk.isRow {w : World} {D : Nat → Prop} {rs : List Sl} {xss : List (List Int)} (h : RowsOk w D rs xss) (c : List Int) {x : Sl} (hx : x ∈ rs) : ∃ xs, IRow w (.slice x.A x.n x.c) xs ∧ Go.Proofs.YtdppkdjgadiinaaGreat.isRow rs xss c x = decide (xs = c) := by
  obtain ⟨i, hi⟩ := List.mem_iff_getElem?.1 hx
  have hl : i < xss.length := by rw [← h.1]; exact (List.getElem?_eq_some_iff.1 hi).1
  obtain ⟨xs, hxs⟩ : ∃ xs, xss[i]? = some xs := ⟨_, List.getElem?_eq_getElem hl⟩
  obtain ⟨h1, _⟩ := h.2 i x xs hi hxs
  refine ⟨xs, h1, ?_⟩
  unfold Go.Proofs.YtdppkdjgadiinaaGreat.isRow
  rw [decide_eq_decide]
  constructor
  · rintro ⟨j, h2, h3⟩
    exact h1.unique (h.2 j x c h2 h3).1
  · rintro rfl
    exact ⟨i, hi, hxs⟩
def FindPost (w : World) (S : Nat → Prop) (sk fb : Nat) (es : List Eqn) (v : Value) (most : Int) (vc va : Value) (rc ra : List Sl) (st : Sea) (e : Ending) (w' : World) : Prop :=
  e = .returned (.tuple #[]) ∧ ∃ vc' va' rc' ra', SeaP w' S sk fb es v most vc' va' rc' ra' st ∧ Chg (seaD sk fb vc va) w w' ∧ (∀ k, seaD sk fb vc' va' k → seaD sk fb vc va k ∨ w.heap.size ≤ k) ∧ rc <+: rc' ∧ ra <+: ra'
theorem sea_app {w4 W w9 : World} {v v9 : Value} (hb : Below w4.heap.size w4 W) (hg : W.grownBy w9 v.ownBlock) (hV : v9.ownBlock = v.ownBlock ∨ v9.ownBlock = some W.heap.size) :
    Chg (fun k => v.ownBlock = some k) w4 w9 ∧ (v9.ownBlock = v.ownBlock ∨ ∃ b, v9.ownBlock = some b ∧ w4.heap.size ≤ b) ∧ W.heap.size ≤ w9.heap.size :=
  ⟨(Chg.of_below hb).grown hg (fun k hk => .inl hk), hV.imp id (fun e => ⟨_, e, hb.size⟩), hg.size⟩
/-- One core more, in memory. -/
theorem SeaP.grow {w4 w9 w10 : World} {S : Nat → Prop} {sk fb : Nat} {es : List Eqn} {v vc va v9 v10 : Value} {most : Int} {rc ra : List Sl} {st : Sea} {x1 x2 : Sl} {c xs : List Int} (h : SeaP w4 S sk fb es v most vc va rc ra st)
    (c9 : Chg (fun k => vc.ownBlock = some k) w4 w9) (r9 : GRow RowsK w9 v9 (rc ++ [x1])) (o9 : v9.ownBlock = vc.ownBlock ∨ ∃ b, v9.ownBlock = some b ∧ w4.heap.size ≤ b)
    (c10 : Chg (fun k => va.ownBlock = some k) w9 w10) (r10 : GRow RowsK w10 v10 (ra ++ [x2])) (o10 : v10.ownBlock = va.ownBlock ∨ ∃ b, v10.ownBlock = some b ∧ w9.heap.size ≤ b)
    (h1 : IRow w4 (.slice x1.A x1.n x1.c) c) (d1 : ∀ k, (Value.slice x1.A x1.n x1.c).ownBlock = some k → ¬ seaD sk fb vc va k) (h2 : IRow w4 (.slice x2.A x2.n x2.c) xs) (d2 : ∀ k, (Value.slice x2.A x2.n x2.c).ownBlock = some k → ¬ seaD sk fb vc va k) :
    SeaP ((w10.setCell ⟨sk, 2, none⟩ v9).setCell ⟨sk, 3, none⟩ v10) S sk fb es v most v9 v10 (rc ++ [x1]) (ra ++ [x2]) ⟨st.cores ++ [c], st.among ++ [xs]⟩ ∧ Chg (seaD sk fb vc va) w4 ((w10.setCell ⟨sk, 2, none⟩ v9).setCell ⟨sk, 3, none⟩ v10) ∧
      ∀ k, seaD sk fb v9 v10 k → seaD sk fb vc va k ∨ w4.heap.size ≤ k := by
  obtain ⟨w11, hw11⟩ : ∃ w11, w11 = (w10.setCell ⟨sk, 2, none⟩ v9).setCell ⟨sk, 3, none⟩ v10 := ⟨_, rfl⟩
  have far : ∀ k, k ≠ sk → w11.heap[k]? = w10.heap[k]? := fun k hk => by rw [hw11, Below.heap_setCell _ _ _ _ hk, Below.heap_setCell _ _ _ _ hk]
  have s9 := c9.size
  have s10 := c10.size
  have low : ∀ k, k < w4.heap.size → ¬ seaD sk fb vc va k → w11.heap[k]? = w4.heap[k]? := fun k hk hd => by
    rw [far k (fun e => hd (.inl e)), c10.block k (by omega) (fun e => hd (.inr (.inr (.inr e)))), c9.block k hk (fun e => hd (.inr (.inr (.inl e))))]
  have lowf : w11.heap[fb]? = w4.heap[fb]? := by
    obtain ⟨n, hf⟩ := h.fil
    rw [far fb (fun e => h.n1 e.symm), c10.block fb (by have := hf.blk.lt; omega) h.n3.2, c9.block fb hf.blk.lt h.n2.2]
  have lows : w10.heap[sk]? = w4.heap[sk]? := by rw [c10.block sk (by have := h.blk.lt; omega) h.n3.1, c9.block sk h.blk.lt h.n2.1]
  have e9 : ∀ k, v9.ownBlock = some k → vc.ownBlock = some k ∨ w4.heap.size ≤ k := fun k hk => by
    rcases o9 with e | ⟨b, e, hb⟩
    · exact .inl (e ▸ hk)
    · have := hk.symm.trans e
      injection this with this
      exact .inr (by omega)
  have e10 : ∀ k, v10.ownBlock = some k → va.ownBlock = some k ∨ w9.heap.size ≤ k := fun k hk => by
    rcases o10 with e | ⟨b, e, hb⟩
    · exact .inl (e ▸ hk)
    · have := hk.symm.trans e
      injection this with this
      exact .inr (by omega)
  have hD : ∀ k, seaD sk fb v9 v10 k → seaD sk fb vc va k ∨ w4.heap.size ≤ k := fun k hk => by
    rcases hk with e | e | e | e
    · exact .inl (.inl e)
    · exact .inl (.inr (.inl e))
    · rcases e9 k e with e | e
      · exact .inl (.inr (.inr (.inl e)))
      · exact .inr e
    · rcases e10 k e with e | e
      · exact .inl (.inr (.inr (.inr e)))
      · exact .inr (by omega)
  have hnD : ∀ k, k < w4.heap.size → ¬ seaD sk fb vc va k → ¬ seaD sk fb v9 v10 k := fun k hk hd e => (hD k e).elim hd (fun e => by omega)
  have hne9 : v9.ownBlock ≠ some sk ∧ v9.ownBlock ≠ some fb := ⟨fun e => (e9 sk e).elim h.n2.1 (fun e => by have := h.blk.lt; omega), fun e => (e9 fb e).elim h.n2.2 (fun e => by obtain ⟨n, hf⟩ := h.fil; have := hf.blk.lt; omega)⟩
  have hne10 : v10.ownBlock ≠ some sk ∧ v10.ownBlock ≠ some fb := ⟨fun e => (e10 sk e).elim h.n3.1 (fun e => by have := h.blk.lt; omega), fun e => (e10 fb e).elim h.n3.2 (fun e => by obtain ⟨n, hf⟩ := h.fil; have := hf.blk.lt; omega)⟩
  have hblk : Blk w11 sk 53 [.pointer (some ⟨fb, 0, none⟩), .int .i64 most, v9, v10] := by
    rw [hw11]
    exact ((show Blk w10 sk 53 [.pointer (some ⟨fb, 0, none⟩), .int .i64 most, vc, va] from lows.trans h.blk).set_ 2 v9).set_ 3 v10
  have hva9 : ∀ k, v9.ownBlock = some k → va.ownBlock ≠ some k := fun k hk => by
    rcases e9 k hk with e | e
    · exact h.n4 k e
    · intro e2; have := h.rowa.lt k e2; omega
  refine ⟨⟨hw11 ▸ hblk, ?_, ?_, ?_, ?_, ?_, h.n1, hne9, hne10, ?_, fun k hk => hnD k (by obtain ⟨n, hf⟩ := h.fil; have := hf.s k hk; have := hf.blk.lt; omega) (h.sd k hk), by simp [h.len]⟩, ?_, hD⟩
  · obtain ⟨n, hf⟩ := h.fil
    refine ⟨n, hw11 ▸ ⟨lowf.trans hf.blk, Dat.at_step (fun k hk hl => ⟨hk, low k hl (h.sd k hk)⟩) _ _ hf.eqs, hf.s⟩⟩
  · exact hw11 ▸ r9.step (fun k hk => by rw [far k (fun e => hne9.1 (e ▸ hk)), c10.block k (r9.lt k hk) (hva9 k hk)])
  · exact hw11 ▸ r10.step (fun k hk => far k (fun e => hne10.1 (e ▸ hk)))
  · exact hw11 ▸ (h.okc.step (fun k hk hd => ⟨low k hk hd, hnD k hk hd⟩)).push (h1.step (fun k hk => low k (h1.lt k hk) (d1 k hk))) (fun k hk => hnD k (h1.lt k hk) (d1 k hk))
  · exact hw11 ▸ (h.oka.step (fun k hk hd => ⟨low k hk hd, hnD k hk hd⟩)).push (h2.step (fun k hk => low k (h2.lt k hk) (d2 k hk))) (fun k hk => hnD k (h2.lt k hk) (d2 k hk))
  · intro k hk e
    rcases e10 k e with e | e
    · exact hva9 k hk e
    · have := r9.lt k hk; omega
  · rw [← hw11]
    refine ⟨?_, ?_, ?_, ?_, fun k hk hd => low k hk hd⟩
    · rw [hw11]; exact c10.os.trans c9.os
    · rw [hw11]; exact c10.tape.trans c9.tape
    · rw [hw11]; exact c10.output.trans c9.output
    · rw [hw11]; simp; omega
end Go.Proofs.YtdppkdjgadiinaaGreat
set_option linter.unusedVariables false
set_option linter.unusedSimpArgs false
namespace Go.Proofs.YtdppkdjgadiinaaGreat
open Go.RowKit

section
variable {P : Program} {md : Region.Mode} {ops : Array Oper} {Q : Exit → Act → World → Prop} {S : World → Prop} {t : Nat}
/-- Whatever order is picked, and S holds till operation t has been carried out. -/
def wpTill (P : Program) (md : Region.Mode) (ops : Array Oper) (Q : Exit → Act → World → Prop) (S : World → Prop) (t : Nat) : Nat → Array Bool → Act → World → Prop
  | 0, listed, a, w => Region.ready md ops listed = [] ∧ Q .normal a w
  | fuel + 1, listed, a, w =>
    (Region.ready md ops listed = [] → Q .normal a w) ∧
    ∀ i ∈ Region.ready md ops listed, wpOp P ops Q i (fun a' w' => (i ≠ t → S w' ∧ wpTill P md ops Q S t fuel (listed.setIfInBounds i true) a' w') ∧ (i = t → wpAny P md ops Q fuel (listed.setIfInBounds i true) a' w')) a w
theorem wpAny_of_till : ∀ (fuel : Nat) (listed : Array Bool) (a : Act) (w : World), wpTill P md ops Q S t fuel listed a w → wpAny P md ops Q fuel listed a w
  | 0, _, _, _, h => h
  | fuel + 1, _, _, _, h => ⟨h.1, fun i hi => wpOp_mono (fun a' w' h' => by
      by_cases e : i = t
      · exact h'.2 e
      · exact wpAny_of_till fuel _ a' w' (h'.1 e).2) (h.2 i hi)⟩
theorem wpTill_first {i : Nat} {oi : Oper} {v : Value} (hi : ops[i]? = some oi) (hsel : ∀ (j : Nat) (o : Oper) cs b, ops[j]? = some o → o.op ≠ .select cs b)
    (hQ : ∀ c a w, Q (.panic c) (a.put oi.dst v) w → Q (.panic c) a w) (hit : i ≠ t) (hw : Region.waitsFor md ops t i = true) :
    ∀ (fuel : Nat) (listed : Array Bool) (a : Act) (w : World),
      (∀ j oj, ops[j]? = some oj → j ≠ i → listed.getD j true = false → (∀ e ∈ oj.after, Region.binds md e = true → e.on ≠ i) → oi.apart ops oj = true) →
      i ∈ Region.ready md ops listed → YieldsIf P ops S oi v a → S w →
      wpTill P md ops Q S t fuel (listed.setIfInBounds i true) (a.put oi.dst v) w → wpTill P md ops Q S t (fuel + 1) listed a w := by
  intro fuel
  induction fuel with
  | zero =>
    intro listed a w _ hr hy hS H
    refine ⟨fun h => (by rw [h] at hr; cases hr), fun j hj => ?_⟩
    by_cases hji : j = i
    · subst hji; exact hy.wpOp hi hS ⟨fun _ => ⟨hS, H⟩, fun e => absurd e hit⟩
    · have := ready_mono hj hji
      rw [H.1] at this
      cases this
  | succ fuel ih =>
    intro listed a w hfree hr hy hS H
    refine ⟨fun h => (by rw [h] at hr; cases hr), fun j hj => ?_⟩
    by_cases hji : j = i
    · subst hji; exact hy.wpOp hi hS ⟨fun _ => ⟨hS, H⟩, fun e => absurd e hit⟩
    · have h1 := H.2 j (ready_mono hj hji)
      obtain ⟨hjun, oj, hoj, hall⟩ := mem_ready.1 hj
      have hnot : ∀ e ∈ oj.after, Region.binds md e = true → e.on ≠ i := fun e he hb heq => by
        have h1 := hall e he hb
        have h0 := (mem_ready.1 hr).1
        rw [heq] at h1
        rcases Nat.lt_or_ge i listed.size with h' | h'
        · simp [h'] at h0 h1; rw [h0] at h1; cases h1
        · simp [Array.getElem?_eq_none h'] at h1
      have hjt : j ≠ t := fun e => by
        subst e
        obtain ⟨oj', hoj', e, he, hb, hon⟩ := Region.waitsFor_spec hw
        have : oj' = oj := Option.some.inj (hoj'.symm.trans hoj)
        subst this
        exact hnot e he hb hon
      have h2 := wpOp_putIf hoj (hfree j oj hoj hji hjun hnot) (fun cs b => hsel i oi cs b hi) (fun cs b => hsel j oj cs b hoj) hQ hy h1
      have hfree' : ∀ k ok, ops[k]? = some ok → k ≠ i → (listed.setIfInBounds j true).getD k true = false →
          (∀ e ∈ ok.after, Region.binds md e = true → e.on ≠ i) → oi.apart ops ok = true := fun k ok hk hki hun hno => by
        refine hfree k ok hk hki ?_ hno
        by_cases hjk : j = k
        · subst hjk; exact hjun
        · rw [getD_set_ne true hjk] at hun; exact hun
      refine wpOp_mono (fun a' w' h3 => ⟨fun _ => ?_, fun e => absurd e hjt⟩) h2
      obtain ⟨s1, s2⟩ := h3.2.1 hjt
      refine ⟨s1, ih (listed.setIfInBounds j true) a' w' hfree' (ready_mono hr (Ne.symm hji)) h3.1 s1 ?_⟩
      rw [Array.setIfInBounds_comm _ _ hji]
      exact s2
theorem wpTill_take {i : Nat} {oi : Oper} {v : Value} {fuel : Nat} {listed : Array Bool} {a : Act} {w : World} (d : Option Tmp) (hi : ops.toList[i]? = some oi) (hd : oi.dst = d)
    (hs : Region.noSelect ops = true) (hf : Region.free md ops listed i = true) (hr : (Region.ready md ops listed).contains i = true) (hw : (i != t && Region.waitsFor md ops t i) = true)
    (hQ : ∀ c a w, Q (.panic c) (a.put d v) w → Q (.panic c) a w) (hy : YieldsIf P ops S oi v a) (hS : S w)
    (h : wpTill P md ops Q S t fuel (listed.setIfInBounds i true) (a.put d v) w) : wpTill P md ops Q S t (fuel + 1) listed a w := by
  subst hd
  rw [Array.getElem?_toList] at hi
  simp only [Bool.and_eq_true, bne_iff_ne, ne_eq] at hw
  exact wpTill_first hi (Region.noSelect_spec hs) hQ hw.1 hw.2 fuel listed a w (Region.free_spec hi hf) (by simpa using hr) hy hS h
/-- What yields in every world may be taken first. -/
theorem wpTill_firstY {i : Nat} {oi : Oper} {v : Value} (hi : ops[i]? = some oi) (hsel : ∀ (j : Nat) (o : Oper) cs b, ops[j]? = some o → o.op ≠ .select cs b)
    (hQ : ∀ c a w, Q (.panic c) (a.put oi.dst v) w → Q (.panic c) a w) (hit : i ≠ t) :
    ∀ (fuel : Nat) (listed : Array Bool) (a : Act) (w : World),
      (∀ j oj, ops[j]? = some oj → j ≠ i → listed.getD j true = false → (∀ e ∈ oj.after, Region.binds md e = true → e.on ≠ i) → oi.apart ops oj = true) →
      i ∈ Region.ready md ops listed → Yields P ops oi v a → S w →
      wpTill P md ops Q S t fuel (listed.setIfInBounds i true) (a.put oi.dst v) w → wpTill P md ops Q S t (fuel + 1) listed a w := by
  intro fuel
  induction fuel with
  | zero =>
    intro listed a w _ hr hy hS H
    refine ⟨fun h => (by rw [h] at hr; cases hr), fun j hj => ?_⟩
    by_cases hji : j = i
    · subst hji; exact hy.wpOp hi ⟨fun _ => ⟨hS, H⟩, fun e => absurd e hit⟩
    · have := ready_mono hj hji
      rw [H.1] at this
      cases this
  | succ fuel ih =>
    intro listed a w hfree hr hy hS H
    refine ⟨fun h => (by rw [h] at hr; cases hr), fun j hj => ?_⟩
    by_cases hji : j = i
    · subst hji; exact hy.wpOp hi ⟨fun _ => ⟨hS, H⟩, fun e => absurd e hit⟩
    · have h1 := H.2 j (ready_mono hj hji)
      obtain ⟨hjun, oj, hoj, hall⟩ := mem_ready.1 hj
      have hnot : ∀ e ∈ oj.after, Region.binds md e = true → e.on ≠ i := fun e he hb heq => by
        have h1 := hall e he hb
        have h0 := (mem_ready.1 hr).1
        rw [heq] at h1
        rcases Nat.lt_or_ge i listed.size with h' | h'
        · simp [h'] at h0 h1; rw [h0] at h1; cases h1
        · simp [Array.getElem?_eq_none h'] at h1
      have h2 := wpOp_put hoj (hfree j oj hoj hji hjun hnot) (fun cs b => hsel i oi cs b hi) (fun cs b => hsel j oj cs b hoj) hQ hy h1
      have hfree' : ∀ k ok, ops[k]? = some ok → k ≠ i → (listed.setIfInBounds j true).getD k true = false →
          (∀ e ∈ ok.after, Region.binds md e = true → e.on ≠ i) → oi.apart ops ok = true := fun k ok hk hki hun hno => by
        refine hfree k ok hk hki ?_ hno
        by_cases hjk : j = k
        · subst hjk; exact hjun
        · rw [getD_set_ne true hjk] at hun; exact hun
      refine wpOp_mono (fun a' w' h3 => ⟨fun hjt => ?_, fun hjt => ?_⟩) h2
      · obtain ⟨s1, s2⟩ := h3.2.1 hjt
        refine ⟨s1, ih (listed.setIfInBounds j true) a' w' hfree' (ready_mono hr (Ne.symm hji)) h3.1 s1 ?_⟩
        rw [Array.setIfInBounds_comm _ _ hji]
        exact s2
      · have h4 := h3.2.2 hjt
        refine wpAny_first hi hsel hQ fuel (listed.setIfInBounds j true) a' w' hfree' (ready_mono hr (Ne.symm hji)) h3.1 ?_
        rw [Array.setIfInBounds_comm _ _ hji]
        exact h4
theorem wpTill_takeY {i : Nat} {oi : Oper} {v : Value} {fuel : Nat} {listed : Array Bool} {a : Act} {w : World} (d : Option Tmp) (hi : ops.toList[i]? = some oi) (hd : oi.dst = d)
    (hs : Region.noSelect ops = true) (hf : Region.free md ops listed i = true) (hr : (Region.ready md ops listed).contains i = true) (hw : (i != t) = true)
    (hQ : ∀ c a w, Q (.panic c) (a.put d v) w → Q (.panic c) a w) (hy : Yields P ops oi v a) (hS : S w)
    (h : wpTill P md ops Q S t fuel (listed.setIfInBounds i true) (a.put d v) w) : wpTill P md ops Q S t (fuel + 1) listed a w := by
  subst hd
  rw [Array.getElem?_toList] at hi
  exact wpTill_firstY hi (Region.noSelect_spec hs) hQ (by simpa using hw) fuel listed a w (Region.free_spec hi hf) (by simpa using hr) hy hS h
/-- One that alone may come up. -/
theorem wpTill_one {i : Nat} {o : Oper} {fuel : Nat} {listed : Array Bool} {a : Act} {w : World} (hr : Region.ready md ops listed = [i]) (ho' : ops.toList[i]? = some o) (hit : (i != t) = true)
    (h : ∀ K' : Act → World → Prop, Sh (∀ a w, S w → wpTill P md ops Q S t fuel (listed.setIfInBounds i true) a w → K' a w) → if Region.wanted o (yielded ops a.tmps) = true then Oper.wp P o a w K' Q else K' (a.put o.dst undef) w) : wpTill P md ops Q S t (fuel + 1) listed a w := by
  have ho := ho'
  rw [Array.getElem?_toList] at ho
  refine ⟨fun e => (by rw [hr] at e; cases e), fun j hj => ?_⟩
  rw [hr, List.mem_singleton] at hj
  subst hj
  have hne : j ≠ t := by simpa using hit
  exact wpOp_step ho (fun K' hK => h K' ⟨fun a w hS hT => hK a w ⟨fun _ => ⟨hS, hT⟩, fun e => absurd e hne⟩⟩)
/-- One of two may come up. -/
theorem wpTill_two {i k : Nat} {o o2 : Oper} {fuel : Nat} {listed : Array Bool} {a : Act} {w : World} (hr : Region.ready md ops listed = [i, k]) (ho' : ops.toList[i]? = some o) (ho2' : ops.toList[k]? = some o2) (hit : (i != t && k != t) = true)
    (h : ∀ K' : Act → World → Prop, Sh (∀ a w, S w → wpTill P md ops Q S t fuel (listed.setIfInBounds i true) a w → K' a w) → if Region.wanted o (yielded ops a.tmps) = true then Oper.wp P o a w K' Q else K' (a.put o.dst undef) w)
    (h2 : ∀ K' : Act → World → Prop, Sh (∀ a w, S w → wpTill P md ops Q S t fuel (listed.setIfInBounds k true) a w → K' a w) → if Region.wanted o2 (yielded ops a.tmps) = true then Oper.wp P o2 a w K' Q else K' (a.put o2.dst undef) w) : wpTill P md ops Q S t (fuel + 1) listed a w := by
  have ho := ho'
  rw [Array.getElem?_toList] at ho
  have ho2 := ho2'
  rw [Array.getElem?_toList] at ho2
  simp only [Bool.and_eq_true, bne_iff_ne, ne_eq] at hit
  refine ⟨fun e => (by rw [hr] at e; cases e), fun j hj => ?_⟩
  rw [hr] at hj
  rcases List.mem_cons.1 hj with e | hj
  · subst e
    exact wpOp_step ho (fun K' hK => h K' ⟨fun a w hS hT => hK a w ⟨fun _ => ⟨hS, hT⟩, fun e => absurd e hit.1⟩⟩)
  · rw [List.mem_singleton] at hj
    subst hj
    exact wpOp_step ho2 (fun K' hK => h2 K' ⟨fun a w hS hT => hK a w ⟨fun _ => ⟨hS, hT⟩, fun e => absurd e hit.2⟩⟩)
/-- The one that S held for. -/
theorem wpTill_last {o : Oper} {fuel : Nat} {listed : Array Bool} {a : Act} {w : World} (hr : Region.ready md ops listed = [t]) (ho' : ops.toList[t]? = some o)
    (h : ∀ K' : Act → World → Prop, Sh (∀ a w, wpAny P md ops Q fuel (listed.setIfInBounds t true) a w → K' a w) → if Region.wanted o (yielded ops a.tmps) = true then Oper.wp P o a w K' Q else K' (a.put o.dst undef) w) : wpTill P md ops Q S t (fuel + 1) listed a w := by
  have ho := ho'
  rw [Array.getElem?_toList] at ho
  refine ⟨fun e => (by rw [hr] at e; cases e), fun j hj => ?_⟩
  rw [hr, List.mem_singleton] at hj
  subst hj
  exact wpOp_step ho (fun K' hK => h K' ⟨fun a w hT => hK a w ⟨fun e => absurd rfl e, fun _ => hT⟩⟩)
theorem any_take {i : Nat} {oi : Oper} {v : Value} {fuel : Nat} {listed : Array Bool} {a : Act} {w : World} (d : Option Tmp) (hi : ops.toList[i]? = some oi) (hd : oi.dst = d)
    (hs : Region.noSelect ops = true) (hf : Region.free md ops listed i = true) (hr : (Region.ready md ops listed).contains i = true)
    (hQ : ∀ c a w, Q (.panic c) (a.put d v) w → Q (.panic c) a w) (hy : Yields P ops oi v a)
    (h : wpAny P md ops Q fuel (listed.setIfInBounds i true) (a.put d v) w) : wpAny P md ops Q (fuel + 1) listed a w := by
  subst hd
  rw [Array.getElem?_toList] at hi
  exact wpAny_take hi hs hf hr hQ hy h
theorem any_one {i : Nat} {o : Oper} {fuel : Nat} {listed : Array Bool} {a : Act} {w : World} (hr : Region.ready md ops listed = [i]) (ho' : ops.toList[i]? = some o)
    (h : ∀ K' : Act → World → Prop, Sh (∀ a w, wpAny P md ops Q fuel (listed.setIfInBounds i true) a w → K' a w) → if Region.wanted o (yielded ops a.tmps) = true then Oper.wp P o a w K' Q else K' (a.put o.dst undef) w) : wpAny P md ops Q (fuel + 1) listed a w := by
  rw [Array.getElem?_toList] at ho'
  exact wpAny_all hr (by simp) (fun j hj => by
    rw [List.mem_singleton] at hj
    subst hj
    exact wpOp_step ho' (fun K' hK => h K' ⟨hK⟩))
end
end Go.Proofs.YtdppkdjgadiinaaGreat
set_option linter.unusedVariables false
set_option linter.unusedSimpArgs false
namespace Go.Proofs.YtdppkdjgadiinaaGreat
open Go.RowKit

set_option maxRecDepth 100000 in
set_option maxHeartbeats 1000000 in
theorem find_calls (w : World) (S : Nat → Prop) (sk fb : Nat) (es : List Eqn) (sb : List Int → Bool) (v : Value) (most : Int) (vc va : Value) (rc ra : List Sl) (st : Sea) (xs : List Int) (vx : Value)
    (h : SeaP w S sk fb es v most vc va rc ra st) (hx : IRow w vx xs) (hxd : ∀ k, vx.ownBlock = some k → ¬ seaD sk fb vc va k) (hr : es.all Eqn.right = true) (hsb : SatB es sb) (hl : xs.length ≤ 1000000) (hle : es.length ≤ 1000000) (hsz : sizes (pickE es xs) ≤ 1000000) (hm : most ≤ 1000000) :
    Calls Tryz.prog 17 #[.pointer (some ⟨sk, 0, none⟩), vx] w (FindPost w S sk fb es v most vc va rc ra (findP sb most st xs)) := by
  obtain ⟨Ac, cc, rfl⟩ := h.rowc.shape
  obtain ⟨Aa, ca, rfl⟩ := h.rowa.shape
  obtain ⟨Ax, cx, rfl⟩ := hx.shape
  obtain ⟨nc, hnc⟩ : ∃ nc, nc = rc.length := ⟨_, rfl⟩
  obtain ⟨na, hna⟩ : ∃ na, na = ra.length := ⟨_, rfl⟩
  obtain ⟨nx, hnx⟩ : ∃ nx, nx = xs.length := ⟨_, rfl⟩
  have hlen := h.okc.1
  rw [← hnc] at h hxd hlen ⊢
  rw [← hna] at h hxd ⊢
  rw [← hnx] at hx hxd hl ⊢
  have H := Sh.mk h
  have HX := Sh.mk hx
  have HXD := Sh.mk hxd
  have HR := Sh.mk hr
  have HSB := Sh.mk hsb
  have HL := Sh.mk hl
  have HLE := Sh.mk hle
  have HSZ := Sh.mk hsz
  have HM := Sh.mk hm
  have HNC := Sh.mk hnc
  have HNA := Sh.mk hna
  have HNX := Sh.mk hnx
  have HLEN := Sh.mk hlen
  have q0 := h.blk.cell 0
  have q1 := h.blk.cell 1
  have q2 := h.blk.cell 2
  simp only [List.getElem?_cons_zero, List.getElem?_cons_succ] at q0 q1 q2
  obtain ⟨st', hst'⟩ : ∃ st', st' = findP sb most st xs := ⟨_, rfl⟩
  rw [← hst']
  have HST := Sh.mk hst'
  unfold findP at hst'
  clear h hx hxd hr hsb hl hle hsz hm hnc hna hnx hlen
  go_enter Tryz.func17, Tryz.ntmps17
  by_cases hge : most ≤ nc
  · rw [if_pos (by rw [← HLEN.out]; exact hge)] at hst'
    have HS2 := Sh.mk hst'
    clear hst'
    go_wp2
    go_region
    go_wp2
    refine bodyPost_ret (v := .tuple #[]) (results_none rfl _ _ _) rfl ⟨rfl, _, _, _, _, ?_, Chg.refl _ _ |>.drew, fun k hk => .inl hk, List.prefix_refl _, List.prefix_refl _⟩
    rw [HS2.out]
    exact H.out.keep (Below.refl _ _).drew
  · rw [if_neg (by rw [← HLEN.out]; exact hge)] at hst'
    have HS2 := Sh.mk hst'
    clear hst'
    obtain ⟨nf, hnf⟩ := H.out.fil
    have HSAT := Sh.mk (sat_calls w.drew S fb es sb v nf xs _ (hnf.keep (Below.refl _ _).drew) HR.out HSB.out (HX.out.keep (Below.refl _ _).drew) (by rw [← HNX.out]; exact HL.out) HLE.out HSZ.out (fun e => HXD.out fb e (.inr (.inl rfl))))
    clear hnf
    obtain ⟨b, hb⟩ : ∃ b, b = sb xs := ⟨_, rfl⟩
    rw [← hb] at HSAT HS2
    clear hb
    have hdec : decide (most ≤ (nc : Int)) = false := by simp; omega
    have HS0 := Sh.mk (H.out.keep (Below.refl w.heap.size w).drew)
    have HX0 := Sh.mk (HX.out.keep (Below.refl w.heap.size w).drew)
    cases b with
    | true =>
      have HS3 : Sh (st' = st) := ⟨by rw [HS2.out]; rfl⟩
      go_wp2
      go_region_held3 (fun w' => w'.cell? ⟨sk, 0, none⟩ = some (.pointer (some ⟨fb, 0, none⟩)) ∧ w'.cell? ⟨sk, 1, none⟩ = some (.int .i64 most) ∧ w'.cell? ⟨sk, 2, none⟩ = some (.slice Ac nc cc)) (first | exact ⟨q0, q1, q2⟩) (first
        | (go_at_call 27; refine HSAT.out.mono ?_; rintro e w1 ⟨rfl, s1, s2⟩; have hs1 := HS0.out.filt s2 s1; have q0 := hs1.blk.cell 0; have q1 := hs1.blk.cell 1; have q2 := hs1.blk.cell 2; (simp only [List.getElem?_cons_zero, List.getElem?_cons_succ] at q0 q1 q2); have S1 := Sh.mk hs1; have S2 := Sh.mk s2; clear s1 s2 hs1)
        | fail)
      go_wp2
      refine bodyPost_ret (v := .tuple #[]) (results_none rfl _ _ _) rfl ⟨rfl, _, _, _, _, (by rw [HS3.out]; exact S1.out), ((Chg.refl (seaD sk fb (.slice Ac nc cc) (.slice Aa na ca)) w).drew).trans S2.out (fun k hk _ => .inl (.inr (.inl hk))), fun k hk => .inl hk, List.prefix_refl _, List.prefix_refl _⟩
    | false =>
      go_wp2
      go_region_held3 (fun w' => w'.cell? ⟨sk, 0, none⟩ = some (.pointer (some ⟨fb, 0, none⟩)) ∧ w'.cell? ⟨sk, 1, none⟩ = some (.int .i64 most) ∧ w'.cell? ⟨sk, 2, none⟩ = some (.slice Ac nc cc)) (first | exact ⟨q0, q1, q2⟩) (first
        | (go_at_call 27; refine HSAT.out.mono ?_; rintro e w1 ⟨rfl, s1, s2⟩; have hs1 := HS0.out.filt s2 s1; have hx1 := HX0.out.step (w' := w1) (fun k hk => s2.block k (HX0.out.lt k hk) (fun e => HXD.out k hk (.inr (.inl e)))); have q0 := hs1.blk.cell 0; have q1 := hs1.blk.cell 1; have q2 := hs1.blk.cell 2; (simp only [List.getElem?_cons_zero, List.getElem?_cons_succ] at q0 q1 q2); have S1 := Sh.mk hs1; have X1 := Sh.mk hx1; have S2 := Sh.mk (((Chg.refl (seaD sk fb (.slice Ac nc cc) (.slice Aa na ca)) w).drew).trans s2 (fun k hk _ => .inl (.inr (.inl hk)))); clear s1 s2 hs1 hx1)
        | fail)
      obtain ⟨n1, hf1⟩ := S1.out.fil
      have HRED := Sh.mk (reduce_calls w1 S fb es sb v n1 xs xs _ _ hf1 HR.out HSB.out X1.out X1.out (by rw [← HNX.out]; exact HL.out) (by rw [← HNX.out]; exact HL.out) HLE.out HSZ.out (fun e => HXD.out fb e (.inr (.inl rfl))))
      clear hf1
      obtain ⟨c, hc⟩ : ∃ c, c = reduceP sb xs xs := ⟨_, rfl⟩
      rw [← hc] at HRED HS2
      have HCC := Sh.mk hc
      clear hc
      go_upto_region 2 with (first | (go_at_call 33; refine HRED.out.mono ?_; rintro e w2 ⟨v2, rfl, i1, i2, i3, i4⟩; have R1 := Sh.mk i1; have R2 := Sh.mk i2; have R3 := Sh.mk i3; have R4 := Sh.mk i4; (obtain ⟨A2, c2, rfl⟩ := i1.shape); clear i1 i2 i3 i4))
      obtain ⟨n2, hn2⟩ : ∃ n2, n2 = c.length := ⟨_, rfl⟩
      rw [← hn2] at R1 R2 ⊢
      obtain ⟨w3, hw3⟩ : ∃ w3, w3 = w2.alloc (.cells #[.slice A2 n2 c2] 25) := ⟨_, rfl⟩
      rw [← hw3]
      have hB3 : Below w2.heap.size w2 w3 := by rw [hw3]; exact (Below.refl _ _).alloc (Nat.le_refl _) _
      have HX3 : Sh (Blk w3 w2.heap.size 25 [.slice A2 n2 c2]) := ⟨by rw [hw3]; exact Blk.new _ _ _⟩
      have HS3 := Sh.mk ((S1.out.filt R4.out R3.out).keep hB3)
      have HR1 := Sh.mk (R1.out.keep hB3)
      have HZ : Sh (w.heap.size ≤ w1.heap.size ∧ w1.heap.size ≤ w2.heap.size ∧ w2.heap.size < w3.heap.size) := ⟨S2.out.size, R4.out.size, HX3.out.lt⟩
      have HXX3 := Sh.mk ((X1.out.step (w' := w2) (fun k hk => R4.out.block k (X1.out.lt k hk) (fun e => HXD.out k hk (.inr (.inl e))))).keep hB3)
      have HC3 := Sh.mk ((S2.out.trans R4.out (fun k hk _ => .inl (.inr (.inl hk)))).thenBelow hB3)
      have HR2 : Sh (∀ k, (Value.slice A2 n2 c2).ownBlock = some k → w.heap.size ≤ k) := ⟨fun k hk => Nat.le_trans HZ.out.1 (R2.out k hk)⟩
      have HCON := Sh.mk (ContainsFunc_rows w3 rc (isRow rc st.cores c) _ _ _ (fnv_find1 (.pointer (some ⟨w2.heap.size, 0, none⟩))) _ HS3.out.rowc (fun x w4 hx hb => by
        obtain ⟨ys, h1, h2⟩ := HS3.out.okc.isRow c hx
        rw [h2]
        exact find1_calls w4 w2.heap.size _ _ ys c (h1.keep hb) (HR1.out.keep hb) (HX3.out.keep hb)))
      rw [HS3.out.okc.any c] at HCON
      have q2 := HS3.out.blk.cell 2
      simp only [List.getElem?_cons_zero, List.getElem?_cons_succ] at q2
      clear hn2 hw3 hB3 R1 R2 R3 R4 S1 S2 X1 HRED HSAT HS0 HX0
      obtain ⟨b, hb⟩ : ∃ b, b = st.cores.any fun y => decide (y = c) := ⟨_, rfl⟩
      rw [← hb] at HCON HS2
      clear hb
      cases b with
      | true =>
        have HS4 : Sh (st' = st) := ⟨by rw [HS2.out]; rfl⟩
        go_wp2_with (first | (go_at_call 34; refine HCON.out.mono ?_; rintro e w4 ⟨rfl, b4⟩; have B4 := Sh.mk b4; clear b4) | fail)
        refine bodyPost_end (results_none rfl _ _ _) rfl ⟨rfl, _, _, _, _, (by rw [HS4.out]; exact HS3.out.keep B4.out), HC3.out.thenBelow B4.out, fun k hk => .inl hk, List.prefix_refl _, List.prefix_refl _⟩
      | false =>
        have HS4 : Sh (st' = ⟨st.cores ++ [c], st.among ++ [xs]⟩) := ⟨by rw [HS2.out]; rfl⟩
        go_upto_region 3 with (first | (go_at_call 34; refine HCON.out.mono ?_; rintro e w4 ⟨rfl, b4⟩; have B4 := Sh.mk b4; clear b4) | fail)
        have hs4 := HS3.out.keep B4.out
        have hx4 := HX3.out.keep B4.out
        have HS5 := Sh.mk hs4
        have HX5 := Sh.mk hx4
        have HR5 := Sh.mk (HR1.out.keep B4.out)
        have HXX5 := Sh.mk (HXX3.out.keep B4.out)
        have HC5 := Sh.mk (HC3.out.thenBelow B4.out)
        have HZ5 : Sh (w.heap.size ≤ w2.heap.size ∧ w2.heap.size < w4.heap.size) := ⟨by have := HZ.out; omega, by have := HZ.out; have := B4.out.size; omega⟩
        have p2 := hs4.blk.cell 2
        have p3 := hs4.blk.cell 3
        have z2 := hs4.blk.frozen 2
        have z3 := hs4.blk.frozen 3
        have bx := hx4.cell 0
        simp only [List.getElem?_cons_zero, List.getElem?_cons_succ] at p2 p3 bx
        have hskl : sk < w4.heap.size := hs4.blk.lt
        have hbxl : w2.heap.size < w4.heap.size := hx4.lt
        have p2a := fun o => cell_alloc p2 hskl o
        have p3a := fun o => cell_alloc p3 hskl o
        have bxa := fun o => cell_alloc bx hbxl o
        have p2b := fun o o' => cell_alloc (p2a o) (show sk < (w4.alloc o).heap.size by simp; omega) o'
        have p3b := fun o o' => cell_alloc (p3a o) (show sk < (w4.alloc o).heap.size by simp; omega) o'
        have bxb := fun o o' => cell_alloc (bxa o) (show w2.heap.size < (w4.alloc o).heap.size by simp; omega) o'
        clear hs4 hx4 HX3 HS3 HR1 HXX3 HC3 B4 HCON HS2 q0 q1 q2 HZ hdec HSB
        obtain ⟨bb, hbb⟩ : ∃ bb, bb = w2.heap.size := ⟨_, rfl⟩
        rw [← hbb] at bx HX5 HZ5 bxa bxb hbxl ⊢
        clear hbb
        have HBX := Sh.mk (And.intro bx (And.intro bxa bxb))
        have HLC : Sh (nc + 1 ≤ 1000001 ∧ na + 1 ≤ 1000001) := ⟨by have := HM.out; omega, by have := HM.out; have := HS5.out.oka.1; have := HS5.out.okc.1; have := HNA.out; have := HNC.out; have := HS5.out.len; omega⟩
        have B1 := (Below.refl w4.heap.size w4).alloc (Nat.le_refl _) (.cells #[.slice A2 n2 c2] 25)
        have B2 := (Below.refl w4.heap.size w4).alloc (Nat.le_refl _) (.cells #[.slice Ax nx cx] 25)
        have HB1 := Sh.mk B1.drew
        have HB12 := Sh.mk (B1.alloc (by simp) (.cells #[.slice Ax nx cx] 25)).drew
        have HB21 := Sh.mk (B2.alloc (by simp) (.cells #[.slice A2 n2 c2] 25)).drew
        have lit : ∀ (W : World) (n : Nat) (x : Sl), W.heap.size = n → GRow RowsK (W.alloc (.cells #[.slice x.A x.n x.c] 25)).drew (.slice (some ⟨n, 0, none⟩) 1 1) [x] := fun W n x e => by
          subst e
          exact (GRow.lit RowsK_ok W x).keep (Below.refl _ _).drew
        have LIT := Sh.mk lit
        have L1 := Sh.mk (lit w4 w4.heap.size ⟨A2, n2, c2⟩ rfl)
        have L21 := Sh.mk (lit (w4.alloc (.cells #[.slice Ax nx cx] 25)) (w4.heap.size + 1) ⟨A2, n2, c2⟩ (by simp))
        have L12 : Sh (GRow RowsK ((w4.alloc (.cells #[.slice A2 n2 c2] 25)).alloc (.cells #[.slice Ax nx cx] 25)).drew (.slice (some ⟨w4.heap.size, 0, none⟩) 1 1) [⟨A2, n2, c2⟩]) := ⟨(GRow.lit RowsK_ok w4 ⟨A2, n2, c2⟩).keep ((Below.refl _ _).alloc (Nat.le_refl _) _).drew⟩
        have M12 := Sh.mk (lit (w4.alloc (.cells #[.slice A2 n2 c2] 25)) (w4.heap.size + 1) ⟨Ax, nx, cx⟩ (by simp))
        have M21 : Sh (GRow RowsK ((w4.alloc (.cells #[.slice Ax nx cx] 25)).alloc (.cells #[.slice A2 n2 c2] 25)).drew (.slice (some ⟨w4.heap.size, 0, none⟩) 1 1) [⟨Ax, nx, cx⟩]) := ⟨(GRow.lit RowsK_ok w4 ⟨Ax, nx, cx⟩).keep ((Below.refl _ _).alloc (Nat.le_refl _) _).drew⟩
        have HCL : Sh (∀ k, (Value.slice Ac nc cc).ownBlock = some k → k < w4.heap.size) := ⟨HS5.out.rowc.lt⟩
        have HMX : Sh (∀ k, (Value.slice (some ⟨w4.heap.size + 1, 0, none⟩) 1 1).ownBlock = some k ∨ (Value.slice (some ⟨w4.heap.size, 0, none⟩) 1 1).ownBlock = some k → (Value.slice Ac nc cc).ownBlock ≠ some k) := ⟨fun k hk e => by
          have := HCL.out k e
          simp [Value.ownBlock] at hk
          omega⟩
        clear B1 B2 lit
        refine wp_region_any (by kernel_rfl) ?_
        (try (change wpAny _ _ _ _ _ _ _ (World.drew _)))
        have hS0 : (fun w' : World => w'.cell? ⟨sk, 2, none⟩ = some (.slice Ac nc cc) ∧ w'.cell? ⟨sk, 3, none⟩ = some (.slice Aa na ca) ∧ w'.cell? ⟨bb, 0, none⟩ = some (.slice A2 n2 c2)) w4.drew := ⟨p2, p3, bx⟩
        refine wpAny_of_till (S := fun w' : World => w'.cell? ⟨sk, 2, none⟩ = some (.slice Ac nc cc) ∧ w'.cell? ⟨sk, 3, none⟩ = some (.slice Aa na ca) ∧ w'.cell? ⟨bb, 0, none⟩ = some (.slice A2 n2 c2)) (t := 18) 22 #[false, false, false, false, false, false, false, false, false, false, false, false, false, false, false, false, false, false, false, false, false, false] _ _ ?_
        refine wpTill_takeY (i := 0) (v := ?v0) (some 37) rfl rfl (by kernel_rfl) (by kernel_rfl) (by kernel_rfl) (by kernel_rfl) (fun _ _ _ h => h) (Or.inl ⟨by rfl, ?hy0⟩) hS0 ?rest0
        case hy0 => (intro w; go_simp; (try with_reducible rfl))
        case rest0 =>
        simp only [Act.put, List.setIfInBounds_toArray, List.set_cons_zero, List.set_cons_succ]
        refine wpTill_takeY (i := 1) (v := ?v1) (some 38) rfl rfl (by kernel_rfl) (by kernel_rfl) (by kernel_rfl) (by kernel_rfl) (fun _ _ _ h => h) (Or.inl ⟨by rfl, ?hy1⟩) hS0 ?rest1
        case hy1 => (intro w; go_simp; (try with_reducible rfl))
        case rest1 =>
        simp only [Act.put, List.setIfInBounds_toArray, List.set_cons_zero, List.set_cons_succ]
        refine wpTill_takeY (i := 2) (v := ?v2) (some 39) rfl rfl (by kernel_rfl) (by kernel_rfl) (by kernel_rfl) (by kernel_rfl) (fun _ _ _ h => h) (Or.inl ⟨by rfl, ?hy2⟩) hS0 ?rest2
        case hy2 => (intro w; go_simp; (try with_reducible rfl))
        case rest2 =>
        simp only [Act.put, List.setIfInBounds_toArray, List.set_cons_zero, List.set_cons_succ]
        refine wpTill_takeY (i := 3) (v := ?v3) (some 40) rfl rfl (by kernel_rfl) (by kernel_rfl) (by kernel_rfl) (by kernel_rfl) (fun _ _ _ h => h) (Or.inl ⟨by rfl, ?hy3⟩) hS0 ?rest3
        case hy3 => (intro w; go_simp; (try with_reducible rfl))
        case rest3 =>
        simp only [Act.put, List.setIfInBounds_toArray, List.set_cons_zero, List.set_cons_succ]
        refine wpTill_takeY (i := 4) (v := ?v4) (some 41) rfl rfl (by kernel_rfl) (by kernel_rfl) (by kernel_rfl) (by kernel_rfl) (fun _ _ _ h => h) (Or.inl ⟨by rfl, ?hy4⟩) hS0 ?rest4
        case hy4 => (intro w; go_simp; (try with_reducible rfl))
        case rest4 =>
        simp only [Act.put, List.setIfInBounds_toArray, List.set_cons_zero, List.set_cons_succ]
        refine wpTill_take (i := 5) (v := ?v5) (some 42) rfl rfl (by kernel_rfl) (by kernel_rfl) (by kernel_rfl) (by kernel_rfl) (fun _ _ _ h => h) (Or.inl ⟨by rfl, ?hy5⟩) hS0 ?rest5
        case hy5 => (intro w hSw; (try dsimp only at hSw); go_simp; (try with_reducible rfl))
        case rest5 =>
        simp only [Act.put, List.setIfInBounds_toArray, List.set_cons_zero, List.set_cons_succ]
        refine wpTill_take (i := 6) (v := ?v6) (some 43) rfl rfl (by kernel_rfl) (by kernel_rfl) (by kernel_rfl) (by kernel_rfl) (fun _ _ _ h => h) (Or.inl ⟨by rfl, ?hy6⟩) hS0 ?rest6
        case hy6 => (intro w hSw; (try dsimp only at hSw); go_simp; (try with_reducible rfl))
        case rest6 =>
        simp only [Act.put, List.setIfInBounds_toArray, List.set_cons_zero, List.set_cons_succ]
        refine wpTill_takeY (i := 9) (v := ?v9) (some 46) rfl rfl (by kernel_rfl) (by kernel_rfl) (by kernel_rfl) (by kernel_rfl) (fun _ _ _ h => h) (Or.inl ⟨by rfl, ?hy9⟩) hS0 ?rest9
        case hy9 => (intro w; go_simp; (try with_reducible rfl))
        case rest9 =>
        simp only [Act.put, List.setIfInBounds_toArray, List.set_cons_zero, List.set_cons_succ]
        refine wpTill_takeY (i := 10) (v := ?v10) (some 47) rfl rfl (by kernel_rfl) (by kernel_rfl) (by kernel_rfl) (by kernel_rfl) (fun _ _ _ h => h) (Or.inl ⟨by rfl, ?hy10⟩) hS0 ?rest10
        case hy10 => (intro w; go_simp; (try with_reducible rfl))
        case rest10 =>
        simp only [Act.put, List.setIfInBounds_toArray, List.set_cons_zero, List.set_cons_succ]
        refine wpTill_takeY (i := 11) (v := ?v11) (some 48) rfl rfl (by kernel_rfl) (by kernel_rfl) (by kernel_rfl) (by kernel_rfl) (fun _ _ _ h => h) (Or.inl ⟨by rfl, ?hy11⟩) hS0 ?rest11
        case hy11 => (intro w; go_simp; (try with_reducible rfl))
        case rest11 =>
        simp only [Act.put, List.setIfInBounds_toArray, List.set_cons_zero, List.set_cons_succ]
        refine wpTill_take (i := 12) (v := ?v12) (some 49) rfl rfl (by kernel_rfl) (by kernel_rfl) (by kernel_rfl) (by kernel_rfl) (fun _ _ _ h => h) (Or.inl ⟨by rfl, ?hy12⟩) hS0 ?rest12
        case hy12 => (intro w hSw; (try dsimp only at hSw); go_simp; (try with_reducible rfl))
        case rest12 =>
        simp only [Act.put, List.setIfInBounds_toArray, List.set_cons_zero, List.set_cons_succ]
        refine wpTill_takeY (i := 13) (v := ?v13) (some 50) rfl rfl (by kernel_rfl) (by kernel_rfl) (by kernel_rfl) (by kernel_rfl) (fun _ _ _ h => h) (Or.inl ⟨by rfl, ?hy13⟩) hS0 ?rest13
        case hy13 => (intro w; go_simp; (try with_reducible rfl))
        case rest13 =>
        simp only [Act.put, List.setIfInBounds_toArray, List.set_cons_zero, List.set_cons_succ]
        have HNB : Sh (¬ ((Value.slice Ac nc cc).ownBlock = some bb ∨ (Value.slice Aa na ca).ownBlock = some bb)) := ⟨fun e => by
          rcases e with e | e
          · have := H.out.rowc.lt bb e; have := HZ5.out; omega
          · have := H.out.rowa.lt bb e; have := HZ5.out; omega⟩
        clear hS0
        refine wpTill_two (i := 7) (k := 14) (by kernel_rfl) rfl rfl (by kernel_rfl) (fun K HK => ?_) (fun K HK => ?_)
        · go_simp
          refine HK.out _ _ ⟨p2a _, p3a _, bxa _⟩ ?_
          clear HK
          (try simp only [Act.put, List.setIfInBounds_toArray, List.set_cons_zero, List.set_cons_succ])
          refine wpTill_two (i := 8) (k := 14) (by kernel_rfl) rfl rfl (by kernel_rfl) (fun K HK => ?_) (fun K HK => ?_)
          · refine step_row RowsK_ok rfl (.tmp 42) (.tmp 44) rfl (.slice Ac nc cc) rc [⟨A2, n2, c2⟩] _ rfl rfl (HS5.out.rowc.keep HB1.out) L1.out (by { have := HLC.out; have := HNC.out; simp only [List.length_singleton]; omega }) (by { have := HLC.out; have := HNC.out; simp only [List.length_singleton, RowsK]; omega }) ?_
            intro A9 c9 w9 hI hg hv
            have a9 := sea_app (w4 := w4) HB1.out hg hv
            have B9 : Sh (Blk w9 sk 53 [.pointer (some ⟨fb, 0, none⟩), .int .i64 most, .slice Ac nc cc, .slice Aa na ca]) := ⟨(a9.1.block sk hskl HS5.out.n2.1).trans HS5.out.blk⟩
            have X9 : Sh (Blk w9 bb 25 [.slice A2 n2 c2]) := ⟨(a9.1.block bb hbxl (fun e => HNB.out (.inl e))).trans HX5.out⟩
            have R9 := Sh.mk (HS5.out.rowa.step (w' := w9) (fun k hk => a9.1.block k (HS5.out.rowa.lt k hk) (fun e => HS5.out.n4 k e hk)))
            have I9 := Sh.mk hI
            have G9 := Sh.mk hg
            have A9F := Sh.mk a9
            clear hI hg hv a9
            refine HK.out _ _ ⟨B9.out.cell 2, B9.out.cell 3, X9.out.cell 0⟩ ?_
            clear HK
            simp only [Act.put, List.setIfInBounds_toArray, List.set_cons_zero, List.set_cons_succ]
            refine wpTill_one (i := 14) (by kernel_rfl) rfl (by kernel_rfl) (fun K HK => ?_)
            go_simp
            refine HK.out _ _ ⟨((B9.out.alloc _).cell 2), ((B9.out.alloc _).cell 3), ((X9.out.alloc _).cell 0)⟩ ?_
            clear HK
            (try simp only [Act.put, List.setIfInBounds_toArray, List.set_cons_zero, List.set_cons_succ])
            refine wpTill_one (i := 15) (by kernel_rfl) rfl (by kernel_rfl) (fun K HK => ?_)
            refine step_row RowsK_ok rfl (.tmp 49) (.tmp 51) rfl (.slice Aa na ca) ra [⟨Ax, nx, cx⟩] _ rfl rfl (R9.out.keep ((Below.refl _ _).alloc (Nat.le_refl _) _)) (GRow.lit RowsK_ok w9 ⟨Ax, nx, cx⟩) (by { have := HLC.out; have := HNA.out; simp only [List.length_singleton]; omega }) (by { have := HLC.out; have := HNA.out; simp only [List.length_singleton, RowsK]; omega }) ?_
            intro A10 c10 w10 hI hg hv
            have a10 := sea_app (w4 := w9) ((Below.refl _ _).alloc (Nat.le_refl _) _) hg hv
            have B10 : Sh (Blk w10 sk 53 [.pointer (some ⟨fb, 0, none⟩), .int .i64 most, .slice Ac nc cc, .slice Aa na ca]) := ⟨(a10.1.block sk B9.out.lt HS5.out.n3.1).trans B9.out⟩
            have X10 : Sh (Blk w10 bb 25 [.slice A2 n2 c2]) := ⟨(a10.1.block bb X9.out.lt (fun e => HNB.out (.inr e))).trans X9.out⟩
            have I10 := Sh.mk hI
            have A10F := Sh.mk a10
            clear hI hg hv a10
            refine HK.out _ _ ⟨B10.out.cell 2, B10.out.cell 3, X10.out.cell 0⟩ ?_
            clear HK
            simp only [Act.put, List.setIfInBounds_toArray, List.set_cons_zero, List.set_cons_succ]
            refine wpTill_takeY (i := 16) (v := ?u16_1) (some 53) rfl rfl (by kernel_rfl) (by kernel_rfl) (by kernel_rfl) (by kernel_rfl) (fun _ _ _ h => h) (Or.inl ⟨by rfl, ?y16_1⟩) ⟨B10.out.cell 2, B10.out.cell 3, X10.out.cell 0⟩ ?r16_1
            case y16_1 => (intro w; go_simp; (try with_reducible rfl))
            case r16_1 =>
            simp only [Act.put, List.setIfInBounds_toArray, List.set_cons_zero, List.set_cons_succ]
            refine wpTill_takeY (i := 17) (v := ?u17_1) (some 54) rfl rfl (by kernel_rfl) (by kernel_rfl) (by kernel_rfl) (by kernel_rfl) (fun _ _ _ h => h) (Or.inl ⟨by rfl, ?y17_1⟩) ⟨B10.out.cell 2, B10.out.cell 3, X10.out.cell 0⟩ ?r17_1
            case y17_1 => (intro w; go_simp; (try with_reducible rfl))
            case r17_1 =>
            simp only [Act.put, List.setIfInBounds_toArray, List.set_cons_zero, List.set_cons_succ]
            have d2 := B10.out.cell 2
            have d3 := B10.out.cell 3
            have f2 := B10.out.frozen 2
            have f3 := B10.out.frozen 3
            simp only [List.getElem?_cons_zero, List.getElem?_cons_succ] at d2 d3
            refine wpTill_last (by kernel_rfl) rfl (fun K HK => ?_)
            go_simp
            refine HK.out _ _ ?_
            clear HK
            (try simp only [Act.put, List.setIfInBounds_toArray, List.set_cons_zero, List.set_cons_succ])
            refine any_take (i := 19) (v := ?u19_1) (some 55) rfl rfl (by kernel_rfl) (by kernel_rfl) (by kernel_rfl) (fun _ _ _ h => h) (Or.inl ⟨by rfl, ?y19_1⟩) ?r19_1
            case y19_1 => (intro w; go_simp; (try with_reducible rfl))
            case r19_1 =>
            simp only [Act.put, List.setIfInBounds_toArray, List.set_cons_zero, List.set_cons_succ]
            refine any_take (i := 20) (v := ?u20_1) (some 56) rfl rfl (by kernel_rfl) (by kernel_rfl) (by kernel_rfl) (fun _ _ _ h => h) (Or.inl ⟨by rfl, ?y20_1⟩) ?r20_1
            case y20_1 => (intro w; go_simp; (try with_reducible rfl))
            case r20_1 =>
            simp only [Act.put, List.setIfInBounds_toArray, List.set_cons_zero, List.set_cons_succ]
            refine any_one (i := 21) (by kernel_rfl) rfl (fun K HK => ?_)
            go_simp
            refine HK.out _ _ ?_
            clear HK
            refine wpAny_done (by kernel_rfl) ?_ _
            refine bodyPost_end (results_none rfl _ _ _) rfl ?_
            have e9 : rc.length + [(⟨A2, n2, c2⟩ : Sl)].length = rc.length + 1 := rfl
            have e10 : ra.length + [(⟨Ax, nx, cx⟩ : Sl)].length = ra.length + 1 := rfl
            have i9 := I9.out
            have i10 := I10.out
            have o9 := A9F.out.2.1
            have o10 := A10F.out.2.1
            rw [e9] at i9 o9
            rw [e10] at i10 o10
            have g := HS5.out.grow (x1 := ⟨A2, n2, c2⟩) (x2 := ⟨Ax, nx, cx⟩) (c := c) (xs := xs) A9F.out.1 i9 o9 A10F.out.1 i10 o10 HR5.out (fun k hk e => by have := HR2.out k hk; have := H.out.lt k e; omega) HXX5.out HXD.out
            refine ⟨rfl, _, _, _, _, (by rw [HS4.out]; exact g.1), HC5.out.trans g.2.1 (fun k hk _ => .inl hk), fun k hk => (g.2.2 k hk).imp id (fun e => by have := HC5.out.size; omega), List.prefix_append _ _, List.prefix_append _ _⟩
          · go_simp
            refine HK.out _ _ ⟨p2b _ _, p3b _ _, bxb _ _⟩ ?_
            clear HK
            (try simp only [Act.put, List.setIfInBounds_toArray, List.set_cons_zero, List.set_cons_succ])
            refine wpTill_one (i := 8) (by kernel_rfl) rfl (by kernel_rfl) (fun K HK => ?_)
            refine step_row RowsK_ok rfl (.tmp 42) (.tmp 44) rfl (.slice Ac nc cc) rc [⟨A2, n2, c2⟩] _ rfl rfl (HS5.out.rowc.keep HB12.out) L12.out (by { have := HLC.out; have := HNC.out; simp only [List.length_singleton]; omega }) (by { have := HLC.out; have := HNC.out; simp only [List.length_singleton, RowsK]; omega }) ?_
            intro A9 c9 w9 hI hg hv
            have a9 := sea_app (w4 := w4) HB12.out hg hv
            have B9 : Sh (Blk w9 sk 53 [.pointer (some ⟨fb, 0, none⟩), .int .i64 most, .slice Ac nc cc, .slice Aa na ca]) := ⟨(a9.1.block sk hskl HS5.out.n2.1).trans HS5.out.blk⟩
            have X9 : Sh (Blk w9 bb 25 [.slice A2 n2 c2]) := ⟨(a9.1.block bb hbxl (fun e => HNB.out (.inl e))).trans HX5.out⟩
            have R9 := Sh.mk (HS5.out.rowa.step (w' := w9) (fun k hk => a9.1.block k (HS5.out.rowa.lt k hk) (fun e => HS5.out.n4 k e hk)))
            have I9 := Sh.mk hI
            have G9 := Sh.mk hg
            have A9F := Sh.mk a9
            clear hI hg hv a9
            refine HK.out _ _ ⟨B9.out.cell 2, B9.out.cell 3, X9.out.cell 0⟩ ?_
            clear HK
            simp only [Act.put, List.setIfInBounds_toArray, List.set_cons_zero, List.set_cons_succ]
            refine wpTill_one (i := 15) (by kernel_rfl) rfl (by kernel_rfl) (fun K HK => ?_)
            refine step_row RowsK_ok rfl (.tmp 49) (.tmp 51) rfl (.slice Aa na ca) ra [⟨Ax, nx, cx⟩] _ rfl rfl R9.out (M12.out.grown G9.out (fun k hk e => HMX.out k (.inl hk) e)) (by { have := HLC.out; have := HNA.out; simp only [List.length_singleton]; omega }) (by { have := HLC.out; have := HNA.out; simp only [List.length_singleton, RowsK]; omega }) ?_
            intro A10 c10 w10 hI hg hv
            have a10 := sea_app (w4 := w9) (Below.refl _ _) hg hv
            have B10 : Sh (Blk w10 sk 53 [.pointer (some ⟨fb, 0, none⟩), .int .i64 most, .slice Ac nc cc, .slice Aa na ca]) := ⟨(a10.1.block sk B9.out.lt HS5.out.n3.1).trans B9.out⟩
            have X10 : Sh (Blk w10 bb 25 [.slice A2 n2 c2]) := ⟨(a10.1.block bb X9.out.lt (fun e => HNB.out (.inr e))).trans X9.out⟩
            have I10 := Sh.mk hI
            have A10F := Sh.mk a10
            clear hI hg hv a10
            refine HK.out _ _ ⟨B10.out.cell 2, B10.out.cell 3, X10.out.cell 0⟩ ?_
            clear HK
            simp only [Act.put, List.setIfInBounds_toArray, List.set_cons_zero, List.set_cons_succ]
            refine wpTill_takeY (i := 16) (v := ?u16_2) (some 53) rfl rfl (by kernel_rfl) (by kernel_rfl) (by kernel_rfl) (by kernel_rfl) (fun _ _ _ h => h) (Or.inl ⟨by rfl, ?y16_2⟩) ⟨B10.out.cell 2, B10.out.cell 3, X10.out.cell 0⟩ ?r16_2
            case y16_2 => (intro w; go_simp; (try with_reducible rfl))
            case r16_2 =>
            simp only [Act.put, List.setIfInBounds_toArray, List.set_cons_zero, List.set_cons_succ]
            refine wpTill_takeY (i := 17) (v := ?u17_2) (some 54) rfl rfl (by kernel_rfl) (by kernel_rfl) (by kernel_rfl) (by kernel_rfl) (fun _ _ _ h => h) (Or.inl ⟨by rfl, ?y17_2⟩) ⟨B10.out.cell 2, B10.out.cell 3, X10.out.cell 0⟩ ?r17_2
            case y17_2 => (intro w; go_simp; (try with_reducible rfl))
            case r17_2 =>
            simp only [Act.put, List.setIfInBounds_toArray, List.set_cons_zero, List.set_cons_succ]
            have d2 := B10.out.cell 2
            have d3 := B10.out.cell 3
            have f2 := B10.out.frozen 2
            have f3 := B10.out.frozen 3
            simp only [List.getElem?_cons_zero, List.getElem?_cons_succ] at d2 d3
            refine wpTill_last (by kernel_rfl) rfl (fun K HK => ?_)
            go_simp
            refine HK.out _ _ ?_
            clear HK
            (try simp only [Act.put, List.setIfInBounds_toArray, List.set_cons_zero, List.set_cons_succ])
            refine any_take (i := 19) (v := ?u19_2) (some 55) rfl rfl (by kernel_rfl) (by kernel_rfl) (by kernel_rfl) (fun _ _ _ h => h) (Or.inl ⟨by rfl, ?y19_2⟩) ?r19_2
            case y19_2 => (intro w; go_simp; (try with_reducible rfl))
            case r19_2 =>
            simp only [Act.put, List.setIfInBounds_toArray, List.set_cons_zero, List.set_cons_succ]
            refine any_take (i := 20) (v := ?u20_2) (some 56) rfl rfl (by kernel_rfl) (by kernel_rfl) (by kernel_rfl) (fun _ _ _ h => h) (Or.inl ⟨by rfl, ?y20_2⟩) ?r20_2
            case y20_2 => (intro w; go_simp; (try with_reducible rfl))
            case r20_2 =>
            simp only [Act.put, List.setIfInBounds_toArray, List.set_cons_zero, List.set_cons_succ]
            refine any_one (i := 21) (by kernel_rfl) rfl (fun K HK => ?_)
            go_simp
            refine HK.out _ _ ?_
            clear HK
            refine wpAny_done (by kernel_rfl) ?_ _
            refine bodyPost_end (results_none rfl _ _ _) rfl ?_
            have e9 : rc.length + [(⟨A2, n2, c2⟩ : Sl)].length = rc.length + 1 := rfl
            have e10 : ra.length + [(⟨Ax, nx, cx⟩ : Sl)].length = ra.length + 1 := rfl
            have i9 := I9.out
            have i10 := I10.out
            have o9 := A9F.out.2.1
            have o10 := A10F.out.2.1
            rw [e9] at i9 o9
            rw [e10] at i10 o10
            have g := HS5.out.grow (x1 := ⟨A2, n2, c2⟩) (x2 := ⟨Ax, nx, cx⟩) (c := c) (xs := xs) A9F.out.1 i9 o9 A10F.out.1 i10 o10 HR5.out (fun k hk e => by have := HR2.out k hk; have := H.out.lt k e; omega) HXX5.out HXD.out
            refine ⟨rfl, _, _, _, _, (by rw [HS4.out]; exact g.1), HC5.out.trans g.2.1 (fun k hk _ => .inl hk), fun k hk => (g.2.2 k hk).imp id (fun e => by have := HC5.out.size; omega), List.prefix_append _ _, List.prefix_append _ _⟩
        · go_simp
          refine HK.out _ _ ⟨p2a _, p3a _, bxa _⟩ ?_
          clear HK
          (try simp only [Act.put, List.setIfInBounds_toArray, List.set_cons_zero, List.set_cons_succ])
          refine wpTill_one (i := 7) (by kernel_rfl) rfl (by kernel_rfl) (fun K HK => ?_)
          go_simp
          refine HK.out _ _ ⟨p2b _ _, p3b _ _, bxb _ _⟩ ?_
          clear HK
          (try simp only [Act.put, List.setIfInBounds_toArray, List.set_cons_zero, List.set_cons_succ])
          refine wpTill_one (i := 8) (by kernel_rfl) rfl (by kernel_rfl) (fun K HK => ?_)
          refine step_row RowsK_ok rfl (.tmp 42) (.tmp 44) rfl (.slice Ac nc cc) rc [⟨A2, n2, c2⟩] _ rfl rfl (HS5.out.rowc.keep HB21.out) L21.out (by { have := HLC.out; have := HNC.out; simp only [List.length_singleton]; omega }) (by { have := HLC.out; have := HNC.out; simp only [List.length_singleton, RowsK]; omega }) ?_
          intro A9 c9 w9 hI hg hv
          have a9 := sea_app (w4 := w4) HB21.out hg hv
          have B9 : Sh (Blk w9 sk 53 [.pointer (some ⟨fb, 0, none⟩), .int .i64 most, .slice Ac nc cc, .slice Aa na ca]) := ⟨(a9.1.block sk hskl HS5.out.n2.1).trans HS5.out.blk⟩
          have X9 : Sh (Blk w9 bb 25 [.slice A2 n2 c2]) := ⟨(a9.1.block bb hbxl (fun e => HNB.out (.inl e))).trans HX5.out⟩
          have R9 := Sh.mk (HS5.out.rowa.step (w' := w9) (fun k hk => a9.1.block k (HS5.out.rowa.lt k hk) (fun e => HS5.out.n4 k e hk)))
          have I9 := Sh.mk hI
          have G9 := Sh.mk hg
          have A9F := Sh.mk a9
          clear hI hg hv a9
          refine HK.out _ _ ⟨B9.out.cell 2, B9.out.cell 3, X9.out.cell 0⟩ ?_
          clear HK
          simp only [Act.put, List.setIfInBounds_toArray, List.set_cons_zero, List.set_cons_succ]
          refine wpTill_one (i := 15) (by kernel_rfl) rfl (by kernel_rfl) (fun K HK => ?_)
          refine step_row RowsK_ok rfl (.tmp 49) (.tmp 51) rfl (.slice Aa na ca) ra [⟨Ax, nx, cx⟩] _ rfl rfl R9.out (M21.out.grown G9.out (fun k hk e => HMX.out k (.inr hk) e)) (by { have := HLC.out; have := HNA.out; simp only [List.length_singleton]; omega }) (by { have := HLC.out; have := HNA.out; simp only [List.length_singleton, RowsK]; omega }) ?_
          intro A10 c10 w10 hI hg hv
          have a10 := sea_app (w4 := w9) (Below.refl _ _) hg hv
          have B10 : Sh (Blk w10 sk 53 [.pointer (some ⟨fb, 0, none⟩), .int .i64 most, .slice Ac nc cc, .slice Aa na ca]) := ⟨(a10.1.block sk B9.out.lt HS5.out.n3.1).trans B9.out⟩
          have X10 : Sh (Blk w10 bb 25 [.slice A2 n2 c2]) := ⟨(a10.1.block bb X9.out.lt (fun e => HNB.out (.inr e))).trans X9.out⟩
          have I10 := Sh.mk hI
          have A10F := Sh.mk a10
          clear hI hg hv a10
          refine HK.out _ _ ⟨B10.out.cell 2, B10.out.cell 3, X10.out.cell 0⟩ ?_
          clear HK
          simp only [Act.put, List.setIfInBounds_toArray, List.set_cons_zero, List.set_cons_succ]
          refine wpTill_takeY (i := 16) (v := ?u16_3) (some 53) rfl rfl (by kernel_rfl) (by kernel_rfl) (by kernel_rfl) (by kernel_rfl) (fun _ _ _ h => h) (Or.inl ⟨by rfl, ?y16_3⟩) ⟨B10.out.cell 2, B10.out.cell 3, X10.out.cell 0⟩ ?r16_3
          case y16_3 => (intro w; go_simp; (try with_reducible rfl))
          case r16_3 =>
          simp only [Act.put, List.setIfInBounds_toArray, List.set_cons_zero, List.set_cons_succ]
          refine wpTill_takeY (i := 17) (v := ?u17_3) (some 54) rfl rfl (by kernel_rfl) (by kernel_rfl) (by kernel_rfl) (by kernel_rfl) (fun _ _ _ h => h) (Or.inl ⟨by rfl, ?y17_3⟩) ⟨B10.out.cell 2, B10.out.cell 3, X10.out.cell 0⟩ ?r17_3
          case y17_3 => (intro w; go_simp; (try with_reducible rfl))
          case r17_3 =>
          simp only [Act.put, List.setIfInBounds_toArray, List.set_cons_zero, List.set_cons_succ]
          have d2 := B10.out.cell 2
          have d3 := B10.out.cell 3
          have f2 := B10.out.frozen 2
          have f3 := B10.out.frozen 3
          simp only [List.getElem?_cons_zero, List.getElem?_cons_succ] at d2 d3
          refine wpTill_last (by kernel_rfl) rfl (fun K HK => ?_)
          go_simp
          refine HK.out _ _ ?_
          clear HK
          (try simp only [Act.put, List.setIfInBounds_toArray, List.set_cons_zero, List.set_cons_succ])
          refine any_take (i := 19) (v := ?u19_3) (some 55) rfl rfl (by kernel_rfl) (by kernel_rfl) (by kernel_rfl) (fun _ _ _ h => h) (Or.inl ⟨by rfl, ?y19_3⟩) ?r19_3
          case y19_3 => (intro w; go_simp; (try with_reducible rfl))
          case r19_3 =>
          simp only [Act.put, List.setIfInBounds_toArray, List.set_cons_zero, List.set_cons_succ]
          refine any_take (i := 20) (v := ?u20_3) (some 56) rfl rfl (by kernel_rfl) (by kernel_rfl) (by kernel_rfl) (fun _ _ _ h => h) (Or.inl ⟨by rfl, ?y20_3⟩) ?r20_3
          case y20_3 => (intro w; go_simp; (try with_reducible rfl))
          case r20_3 =>
          simp only [Act.put, List.setIfInBounds_toArray, List.set_cons_zero, List.set_cons_succ]
          refine any_one (i := 21) (by kernel_rfl) rfl (fun K HK => ?_)
          go_simp
          refine HK.out _ _ ?_
          clear HK
          refine wpAny_done (by kernel_rfl) ?_ _
          refine bodyPost_end (results_none rfl _ _ _) rfl ?_
          have e9 : rc.length + [(⟨A2, n2, c2⟩ : Sl)].length = rc.length + 1 := rfl
          have e10 : ra.length + [(⟨Ax, nx, cx⟩ : Sl)].length = ra.length + 1 := rfl
          have i9 := I9.out
          have i10 := I10.out
          have o9 := A9F.out.2.1
          have o10 := A10F.out.2.1
          rw [e9] at i9 o9
          rw [e10] at i10 o10
          have g := HS5.out.grow (x1 := ⟨A2, n2, c2⟩) (x2 := ⟨Ax, nx, cx⟩) (c := c) (xs := xs) A9F.out.1 i9 o9 A10F.out.1 i10 o10 HR5.out (fun k hk e => by have := HR2.out k hk; have := H.out.lt k e; omega) HXX5.out HXD.out
          refine ⟨rfl, _, _, _, _, (by rw [HS4.out]; exact g.1), HC5.out.trans g.2.1 (fun k hk _ => .inl hk), fun k hk => (g.2.2 k hk).imp id (fun e => by have := HC5.out.size; omega), List.prefix_append _ _, List.prefix_append _ _⟩
end Go.Proofs.YtdppkdjgadiinaaGreat
set_option linter.unusedVariables false
set_option linter.unusedSimpArgs false
namespace Go.Proofs.YtdppkdjgadiinaaGreat
open Go.RowKit

/-- What searches may come to. -/
inductive Found (sb : List Int → Bool) (most : Int) (n : Nat) : Sea → Prop
  | start : Found sb most n (findP sb most ⟨[], []⟩ (nums n))
  | more (s : Sea) (h : Found sb most n s) (i : Nat) (zs : List Int) (k : Int) (hz : s.among[i]? = some zs) : Found sb most n (findP sb most s (kept (fun u => u == k) zs))
structure FInv (sb : List Int → Bool) (most : Int) (n : Nat) (s : Sea) : Prop where
  len : s.among.length = s.cores.length
  most : (s.cores.length : Int) ≤ max most 0
  among : ∀ zs, zs ∈ s.among → zs.Sublist (nums n)
  cores : ∀ c, c ∈ s.cores → ∃ x, x.Sublist (nums n) ∧ sb x = false ∧ c = reduceP sb x x
  unlike : s.cores.Nodup
theorem findP_prefix (sb : List Int → Bool) (most : Int) (s : Sea) (x : List Int) : s.cores <+: (findP sb most s x).cores ∧ s.among <+: (findP sb most s x).among := by
  unfold findP
  split
  · exact ⟨List.prefix_refl _, List.prefix_refl _⟩
  · split
    · exact ⟨List.prefix_refl _, List.prefix_refl _⟩
    · split
      · exact ⟨List.prefix_refl _, List.prefix_refl _⟩
      · exact ⟨List.prefix_append _ _, List.prefix_append _ _⟩
theorem FInv.find {sb : List Int → Bool} {most : Int} {n : Nat} {s : Sea} (h : FInv sb most n s) {x : List Int} (hx : x.Sublist (nums n)) : FInv sb most n (findP sb most s x) := by
  unfold findP
  split
  · exact h
  · rename_i hm
    split
    · exact h
    · rename_i hb
      split
      · exact h
      · rename_i ha
        refine ⟨by simp [h.len], ?_, fun zs hz => ?_, fun c hc => ?_, ?_⟩
        · simp only [List.length_append, List.length_singleton]
          omega
        · rcases List.mem_append.1 hz with e | e
          · exact h.among zs e
          · rw [List.mem_singleton] at e; rw [e]; exact hx
        · rcases List.mem_append.1 hc with e | e
          · exact h.cores c e
          · rw [List.mem_singleton] at e
            exact ⟨x, hx, by simpa using hb, e⟩
        · rw [List.nodup_append]
          refine ⟨h.unlike, by simp, fun a ha2 b hb2 e => ?_⟩
          rw [List.mem_singleton] at hb2
          subst hb2 e
          exact ha (List.any_eq_true.2 ⟨_, ha2, by simp⟩)
theorem Found.inv {sb : List Int → Bool} {most : Int} {n : Nat} {s : Sea} (h : Found sb most n s) : FInv sb most n s := by
  induction h with
  | start => exact FInv.find ⟨rfl, by simp; omega, fun zs hz => by simp at hz, fun c hc => by simp at hc, by simp⟩ (List.Sublist.refl _)
  | more s _ i zs k hz ih => exact ih.find ((kept_sublist _ _).trans (ih.among zs (List.mem_of_getElem? hz)))
theorem Found.first {sb : List Int → Bool} {most : Int} {n : Nat} {s : Sea} (h : Found sb most n s) (hm : 0 < most) (hb : sb (nums n) = false) : s.cores[0]? = some (reduceP sb (nums n) (nums n)) := by
  induction h with
  | start =>
    unfold findP
    rw [if_neg (by simp; omega), if_neg (by rw [hb]; simp)]
    simp
  | more s _ i zs k hz ih =>
    obtain ⟨t, ht⟩ := (findP_prefix sb most s (kept (fun u => u == k) zs)).1
    rw [← ht, List.getElem?_append_left (List.getElem?_eq_some_iff.1 ih).1]
    exact ih
theorem fnv_Cores1 (p : Value) : Fnv Tryz.prog (.func (.func 21) #[] #[p]) 21 #[p] := ⟨rfl, _, Tryz.func21, by kernel_rfl, rfl⟩
theorem Cores1_pred (w : World) (b : Nat) (n : Int) (h : Blk w b 3 [.int .i64 n]) : Pred w (fun k => k = b) 21 #[.pointer (some ⟨b, 0, none⟩)] (fun k => k == n) := by
  intro u w1 hs hb
  have h1 : Blk w1 b 3 [.int .i64 n] := (hb b rfl h.lt).trans h
  have c0 := h1.cell 0
  simp only [List.getElem?_cons_zero] at c0
  clear h h1 hb hs
  show Calls _ _ #[.int .i64 u, .pointer (some ⟨b, 0, none⟩)] _ _
  go_enter Tryz.func21, Tryz.ntmps21
  go_wp2
  go_ret
  exact ⟨rfl, rfl⟩
/-- A search that was found so far, in memory. -/
structure CorL (w : World) (sk fb : Nat) (es : List Eqn) (sb : List Int → Bool) (v : Value) (most : Int) (vc va : Value) (rc ra : List Sl) (s : Sea) (wr : World) : Prop where
  sea : SeaP wr (fun k => k < w.heap.size) sk fb es v most vc va rc ra s
  found : Found sb most es.length s
  below : Below w.heap.size w wr
  new : ∀ k, seaD sk fb vc va k → w.heap.size ≤ k
theorem CorL.next {w wr w' : World} {sk fb : Nat} {es : List Eqn} {sb : List Int → Bool} {v vc va : Value} {most : Int} {rc ra : List Sl} {s : Sea} {x : List Int} {e : Ending} (h : CorL w sk fb es sb v most vc va rc ra s wr) (hf : Found sb most es.length (findP sb most s x))
    (hp : FindPost wr (fun k => k < w.heap.size) sk fb es v most vc va rc ra (findP sb most s x) e w') : e = .returned (.tuple #[]) ∧ ∃ vc' va' rc' ra', CorL w sk fb es sb v most vc' va' rc' ra' (findP sb most s x) w' ∧ rc <+: rc' ∧ ra <+: ra' := by
  obtain ⟨rfl, vc', va', rc', ra', h1, h2, h3, h4, h5⟩ := hp
  refine ⟨rfl, vc', va', rc', ra', ⟨h1, hf, h.below.trans (h2.below h.new h.below.size), fun k hk => ?_⟩, h4, h5⟩
  rcases h3 k hk with e | e
  · exact h.new k e
  · exact Nat.le_trans h.below.size e
theorem prefix_at {α : Type} {a b : List α} (h : a <+: b) {i : Nat} {x : α} (hx : a[i]? = some x) : b[i]? = some x := by
  obtain ⟨t, rfl⟩ := h
  rw [List.getElem?_append_left (List.getElem?_eq_some_iff.1 hx).1]
  exact hx
def CoresPost (w : World) (es : List Eqn) (sb : List Int → Bool) (most : Int) (e : Ending) (w' : World) : Prop :=
  ((coreP es sb).2 ≠ 0 ∧ e = .returned (.tuple #[.slice none 0 0, .int .i64 (coreP es sb).2]) ∧ Below w.heap.size w w') ∨
  ((coreP es sb).2 = 0 ∧ ∃ v rc s, Found sb most es.length s ∧ e = .returned (.tuple #[v, .int .i64 0]) ∧ GRow RowsK w' v rc ∧ RowsOk w' (fun _ => False) rc s.cores ∧ Below w.heap.size w w')
set_option maxRecDepth 100000 in
set_option maxHeartbeats 1000000 in
theorem Cores_calls (w : World) (S : Nat → Prop) (es : List Eqn) (sb : List Int → Bool) (v : Value) (most : Int) (h : EqsAt w S es v) (hsb : SatB es sb) (hle : es.length ≤ 1000000) (hsz : sizes es ≤ 1000000) (hm : most ≤ 1000000) :
    Calls Tryz.prog 8 #[.int .i64 most, v] w (CoresPost w es sb most) := by
  obtain ⟨A, ca, rfl, _⟩ := h.shape
  have h' : EqsAt w (fun k => k < w.heap.size) es (.slice A es.length ca) := Dat.at_mono h (fun k _ hk => hk)
  have HC := Sh.mk (Core_calls w S es sb _ h hsb hle hsz)
  have HSB := Sh.mk hsb
  have HSZ := Sh.mk hsz
  have HMO := Sh.mk hm
  have HE := Sh.mk h'
  obtain ⟨cp, hcp⟩ : ∃ cp, cp = coreP es sb := ⟨_, rfl⟩
  rw [← hcp] at HC
  have HCP := Sh.mk hcp
  obtain ⟨ne, hne⟩ : ∃ ne, ne = es.length := ⟨_, rfl⟩
  rw [← hne] at hle HC HE ⊢
  have HLE := Sh.mk hle
  have HNE := Sh.mk hne
  have hlen63 : ne ≤ 9223372036854775807 := by omega
  clear h h' hsb hsz hm hcp hne hle
  obtain ⟨cv, cc⟩ := cp
  simp only at HC
  go_enter Tryz.func8, Tryz.ntmps8
  by_cases hcc : cc = 0
  · have hne0 : (cc != 0) = false := by simp [hcc]
    have HCC := Sh.mk hcc
    clear hcc
    have HRT : Sh (es.all Eqn.right = true ∧ sb (nums ne) = false) := ⟨by
      have h1 := HCP.out
      unfold coreP at h1
      rw [HNE.out]
      cases hr : es.all Eqn.right with
      | false => rw [hr] at h1; simp at h1; have := h1.2; have := HCC.out; omega
      | true =>
        rw [hr] at h1
        cases hb : sb (nums es.length) with
        | true => rw [hb] at h1; simp at h1; have := h1.2; have := HCC.out; omega
        | false => exact ⟨rfl, rfl⟩⟩
    go_upto_region 4 with (first | (go_at_call 7; refine HC.out.mono ?_; rintro e w1 ⟨v1, rfl, i1, i2, i3⟩; have I3 := Sh.mk i3; clear i1 i2 i3))
    obtain ⟨fb, hfb⟩ : ∃ fb, fb = w1.heap.size := ⟨_, rfl⟩
    obtain ⟨w2, hw2⟩ : ∃ w2, w2 = w1.alloc (.cells #[.slice A ne ca, .int .i64 0] 51) := ⟨_, rfl⟩
    obtain ⟨w3, hw3⟩ : ∃ w3, w3 = w2.alloc (.cells #[.pointer (some ⟨fb, 0, none⟩), .int .i64 most, .slice none 0 0, .slice none 0 0] 53) := ⟨_, rfl⟩
    have hB2 : Below w1.heap.size w1 w2 := by rw [hw2]; exact (Below.refl _ _).alloc (Nat.le_refl _) _
    have hB3 : Below w2.heap.size w2 w3 := by rw [hw3]; exact (Below.refl _ _).alloc (Nat.le_refl _) _
    have hz2 : w2.heap.size = fb + 1 := by rw [hw2, hfb]; simp
    have bf : Blk w3 fb 51 [.slice A ne ca, .int .i64 0] := by
      have : Blk w2 fb 51 [.slice A ne ca, .int .i64 0] := by rw [hw2, hfb]; exact Blk.new _ _ _
      exact this.keep hB3
    have bs : Blk w3 (fb + 1) 53 [.pointer (some ⟨fb, 0, none⟩), .int .i64 most, .slice none 0 0, .slice none 0 0] := by rw [hw3]; exact Blk.new' w2 _ [.pointer (some ⟨fb, 0, none⟩), .int .i64 most, .slice none 0 0, .slice none 0 0] hz2
    have hB13 := below_then hB2 hB3
    have hB03 := below_then I3.out hB13
    have hwf : w.heap.size ≤ fb := by rw [hfb]; exact I3.out.size
    have hnb : ∀ k, (Value.slice none 0 0).ownBlock ≠ some k := fun k e => by simp [Value.ownBlock] at e
    have HSEA : Sh (SeaP w3 (fun k => k < w.heap.size) (fb + 1) fb es (.slice A ne ca) most (.slice none 0 0) (.slice none 0 0) [] [] ⟨[], []⟩) := ⟨bs, ⟨0, bf, HE.out.below hB03, fun k hk => Nat.lt_of_lt_of_le hk hwf⟩, GRow.nil _ _, GRow.nil _ _, ⟨rfl, fun i x xs h => by simp at h⟩, ⟨rfl, fun i x xs h => by simp at h⟩, by omega, ⟨hnb _, hnb _⟩, ⟨hnb _, hnb _⟩, fun k e => absurd e (hnb k), fun k hk e => by
      rcases e with e | e | e | e
      · omega
      · omega
      · exact hnb k e
      · exact hnb k e, rfl⟩
    have HSN : Sh (∀ k, seaD (fb + 1) fb (.slice none 0 0) (.slice none 0 0) k → w.heap.size ≤ k) := ⟨fun k e => by
      rcases e with e | e | e | e
      · omega
      · omega
      · exact absurd e (hnb k)
      · exact absurd e (hnb k)⟩
    have HNUM := Sh.mk (numbers_calls w3 ne HLE.out)
    have HB03 := Sh.mk hB03
    have HW2 := Sh.mk hw2
    have HW3 := Sh.mk hw3
    have HFB := Sh.mk hfb
    clear hw2 hw3 hB2 hB3 hz2 bf bs hB13 hB03 hwf hnb hfb
    go_upto_region 5 with (fail)
    rw [← HFB.out, ← HW2.out]
    have hz : w2.heap.size = fb + 1 := by rw [HW2.out, HFB.out]; simp
    (try rw [hz])
    rw [← HW3.out]
    clear hz HW2 HW3 HFB
    go_upto_region 6 with (first
      | (go_at_call 18; refine HNUM.out.mono ?_; rintro e w4 ⟨v4, rfl, i1, i2, i3⟩; have J1 := Sh.mk i1; have J2 := Sh.mk i2; have J3 := Sh.mk i3; clear i1 i2 i3)
      | (go_at_call 17; refine (find_calls w4 _ (fb + 1) fb es sb _ most _ _ [] [] ⟨[], []⟩ (nums ne) v4 (HSEA.out.keep J3.out) J1.out (fun k hk e => by have := J2.out k hk; have := HSEA.out.lt k e; omega) HRT.out.1 HSB.out (by rw [nums_len]; exact HLE.out) (by rw [← HNE.out]; exact HLE.out) (by rw [HNE.out, pickE_nums]; exact HSZ.out) HMO.out).mono ?_; rintro e w5 hfp; have hL0 : CorL w (fb + 1) fb es sb (.slice A ne ca) most (.slice none 0 0) (.slice none 0 0) [] [] ⟨[], []⟩ w4 → True := fun _ => trivial; have HFP := Sh.mk hfp; obtain ⟨rfl, hfp2⟩ := hfp; clear hfp2 hL0))
    obtain ⟨sk, hsk⟩ : ∃ sk, sk = fb + 1 := ⟨_, rfl⟩
    have HL0 : Sh (∃ s vc va rc ra, CorL w sk fb es sb (.slice A ne ca) most vc va rc ra s w5) := ⟨by
      obtain ⟨_, vc', va', rc', ra', h1, h2, h3, _, _⟩ := HFP.out
      have hb4 := below_then HB03.out J3.out
      rw [hsk]
      refine ⟨_, vc', va', rc', ra', h1, ?_, hb4.trans (h2.below HSN.out hb4.size), fun k hk => ?_⟩
      · rw [HNE.out]; exact Found.start
      · rcases h3 k hk with e | e
        · exact HSN.out k e
        · exact Nat.le_trans hb4.size e⟩
    rw [← hsk]
    clear HFP J1 J2 J3 HSEA HSN HNUM HB03 hsk
    go_wp2
    go_loopw [9] (fun v9 wr => ∃ i : Nat, v9 = .int .i64 i ∧ Sh (∃ s vc va rc ra, CorL w sk fb es sb (.slice A ne ca) most vc va rc ra s wr)) (fun v9 _ => (max most 0).toNat + 1 - (intOf v9).toNat)
    case atStart => exact ⟨0, rfl, HL0⟩
    case round =>
      obtain ⟨i, rfl, HX⟩ := hrel
      clear HL0
      obtain ⟨s, vc, va, rc, ra, hL⟩ := HX.out
      obtain ⟨Ac, cc', rfl⟩ := hL.sea.rowc.shape
      obtain ⟨Aa, ca', rfl⟩ := hL.sea.rowa.shape
      have q2 := hL.sea.blk.cell 2
      simp only [List.getElem?_cons_zero, List.getElem?_cons_succ] at q2
      obtain ⟨nc, hnc⟩ : ∃ nc, nc = rc.length := ⟨_, rfl⟩
      have hlc := hL.sea.okc.1
      have hla := hL.sea.oka.1
      have hll := hL.sea.len
      have hmo := hL.found.inv.most
      rw [← hnc] at hL q2 hlc
      have hnc6 : nc ≤ 1000000 := by have := HMO.out; omega
      have HLL := Sh.mk hL
      have HNC := Sh.mk hnc
      have HMM : Sh ((nc : Int) ≤ max most 0) := ⟨by omega⟩
      clear HX hL hnc
      by_cases hlt : i < nc
      · obtain ⟨⟨xA, xn, xc⟩, hx⟩ : ∃ x, rc[i]? = some x := ⟨_, List.getElem?_eq_getElem (by have := HNC.out; omega)⟩
        obtain ⟨ys, hys⟩ : ∃ ys, s.cores[i]? = some ys := ⟨_, List.getElem?_eq_getElem (by omega)⟩
        obtain ⟨z, hz⟩ : ∃ z, ra[i]? = some z := ⟨_, List.getElem?_eq_getElem (by omega)⟩
        obtain ⟨zs, hzs⟩ : ∃ zs, s.among[i]? = some zs := ⟨_, List.getElem?_eq_getElem (by omega)⟩
        obtain ⟨g, k', e, t0⟩ := RowsK.cells HLL.out.sea.rowc hx
        simp only [Value.slice.injEq] at e
        have e1 := e.1
        clear e
        subst e1
        simp only at t0
        have hxn : xn = ys.length := by
          obtain ⟨A', c', e⟩ := (HLL.out.sea.okc.2 i ⟨xA, xn, xc⟩ ys hx hys).1.shape
          simp only [Value.slice.injEq] at e
          exact e.2.1
        have hx63 : xn ≤ 9223372036854775807 := by rw [hxn]; exact (HLL.out.sea.okc.2 i ⟨xA, xn, xc⟩ ys hx hys).1.len
        have HXN := Sh.mk hxn
        have HIN : Sh (∃ s' vc' va' rc' ra', CorL w sk fb es sb (.slice A ne ca) most vc' va' rc' ra' s' wr ∧ rc'[i]? = some ⟨xA, xn, xc⟩ ∧ s'.cores[i]? = some ys ∧ ra'[i]? = some z ∧ s'.among[i]? = some zs) := ⟨s, _, _, rc, ra, HLL.out, hx, hys, hz, hzs⟩
        clear hx hys hz hzs hxn hlc hla hll hmo
        go_wp2
        go_loopw [48] (fun v48 wr => ∃ j : Nat, v48 = .int .i64 j ∧ j ≤ xn ∧ Sh (∃ s' vc' va' rc' ra', CorL w sk fb es sb (.slice A ne ca) most vc' va' rc' ra' s' wr ∧ rc'[i]? = some ⟨xA, xn, xc⟩ ∧ s'.cores[i]? = some ys ∧ ra'[i]? = some z ∧ s'.among[i]? = some zs)) (fun v48 _ => xn - (intOf v48).toNat)
        case atStart => exact ⟨0, rfl, Nat.zero_le _, HIN⟩
        case round =>
          obtain ⟨j, rfl, hj, HJ⟩ := hrel
          clear HIN t0 q2
          by_cases hjl : j < xn
          · obtain ⟨s', vc', va', rc', ra', hL', r1, r2, r3, r4⟩ := HJ.out
            obtain ⟨u, hu⟩ : ∃ u, ys[j]? = some u := ⟨_, List.getElem?_eq_getElem (by have := HXN.out; omega)⟩
            obtain ⟨y1, y2⟩ := hL'.sea.okc.2 i ⟨xA, xn, xc⟩ ys r1 r2
            obtain ⟨gy, cy, ey, ty, _⟩ := y1.at hu
            obtain ⟨Aa', caa, ea⟩ := hL'.sea.rowa.shape
            subst ea
            obtain ⟨gz, kz, ez, tz⟩ := RowsK.cells hL'.sea.rowa r3
            simp only [Value.slice.injEq] at ez
            have e1 := ez.1
            clear ez
            subst e1
            simp only [Value.slice.injEq] at ey
            have ey1 := ey.1
            clear ey
            subst ey1
            have hil : i < ra'.length := (List.getElem?_eq_some_iff.1 r3).1
            obtain ⟨nr, hnr⟩ : ∃ nr, nr = ra'.length := ⟨_, rfl⟩
            rw [← hnr] at hL' hil
            obtain ⟨w6, hw6⟩ : ∃ w6, w6 = wr.alloc (.cells #[.int .i64 u] 3) := ⟨_, rfl⟩
            have hB6 : Below wr.heap.size wr w6 := by rw [hw6]; exact (Below.refl _ _).alloc (Nat.le_refl _) _
            have HX6 : Sh (Blk w6 wr.heap.size 3 [.int .i64 u]) := ⟨by rw [hw6]; exact Blk.new _ _ _⟩
            have HSE6 := Sh.mk (hL'.sea.keep hB6)
            obtain ⟨z1, z2⟩ := hL'.sea.oka.2 i z zs r3 r4
            have hzl : zs.Sublist (nums es.length) := hL'.found.inv.among zs (List.mem_of_getElem? r4)
            have q3 := HSE6.out.blk.cell 3
            simp only [List.getElem?_cons_zero, List.getElem?_cons_succ] at q3
            have tz6 := (RowsK.cells (hL'.sea.rowa.keep hB6) r3)
            obtain ⟨gz', kz', ez, tz6⟩ := tz6
            simp only [Value.slice.injEq, Option.some.injEq, Addr.mk.injEq, and_true] at ez
            rw [← ez.1] at tz6
            clear ez tz
            have HZ6 := Sh.mk (z1.keep hB6)
            have HZL := Sh.mk hzl
            have hzl6 : zs.length ≤ 1000000 := by have := hzl.length_le; rw [nums_len] at this; have := HLE.out; have := HNE.out; omega
            have HZ66 := Sh.mk hzl6
            have HL6 : Sh (CorL w sk fb es sb (.slice A ne ca) most vc' (.slice (some ⟨gz, 0, none⟩) nr caa) rc' ra' s' w6) := ⟨⟨HSE6.out, hL'.found, below_then hL'.below hB6, hL'.new⟩⟩
            have HR := Sh.mk (And.intro r1 (And.intro r2 (And.intro r3 r4)))
            have HW6 := Sh.mk hw6
            have HSEL := Sh.mk (fun k hk => HSE6.out.lt k hk)
            clear hL' r1 r2 r3 r4 hu y1 y2 hnr hw6 hB6 z1 z2 hzl hzl6 HJ
            go_upto_region 12 with (fail)
            rw [← HW6.out]
            clear HW6 ty
            go_wp2_with (first
              | (go_at_call 20; refine (Clone_row w6 _ zs HZ6.out HZ66.out).mono ?_; rintro e w7 ⟨v7, rfl, i1, i2, i3⟩; have K1 := Sh.mk i1; have K2 := Sh.mk i2; have K3 := Sh.mk i3; have HX7 := Sh.mk (HX6.out.keep i3); clear i1 i2 i3)
              | (go_at_call 19; refine (Delete_row w7 (fun k => k = wr.heap.size) _ _ _ _ (fnv_Cores1 (.pointer (some ⟨wr.heap.size, 0, none⟩))) (Cores1_pred w7 wr.heap.size u HX7.out) v7 zs K1.out (fun k hk e => by have := K2.out k hk; have := HX6.out.lt; omega)).mono ?_; rintro e w8 ⟨v8, rfl, i1, i2, i3⟩; have M1 := Sh.mk i1; have M2 := Sh.mk (show ∀ k, v8.ownBlock = some k → w6.heap.size ≤ k from fun k hk => K2.out k (by rw [← i2]; exact hk)); have M3 := Sh.mk (show Below w6.heap.size w6 w8 from K3.out.trans (i3.below (fun k hk => K2.out k hk) K3.out.size)); clear i1 i2 i3)
              | (go_at_call 17; refine (find_calls w8 _ sk fb es sb _ most _ _ rc' ra' s' (kept (fun k => k == u) zs) v8 (HSE6.out.keep M3.out) M1.out (fun k hk e => by have := M2.out k hk; have := HSEL.out k e; omega) HRT.out.1 HSB.out (Nat.le_trans (kept_sublist _ _).length_le HZ66.out) (by rw [← HNE.out]; exact HLE.out) (Nat.le_trans (sizes_sublist (pickE_sublist ((kept_sublist _ _).trans HZL.out))) (by rw [pickE_nums]; exact HSZ.out)) HMO.out).mono ?_; rintro e w9 hfp; have HFP := Sh.mk (show e = .returned (.tuple #[]) ∧ _ from CorL.next ⟨HL6.out.sea.keep M3.out, HL6.out.found, below_then HL6.out.below M3.out, HL6.out.new⟩ (.more s' HL6.out.found i zs u HR.out.2.2.2) hfp); obtain ⟨rfl, _⟩ := hfp)
              | fail)
            go_roundw
            case rel =>
              obtain ⟨_, vc2, va2, rc2, ra2, g1, g2, g3⟩ := HFP.out
              obtain ⟨p1, p2⟩ := findP_prefix sb most s' (kept (fun k => k == u) zs)
              exact ⟨j + 1, by simp, by omega, ⟨_, vc2, va2, rc2, ra2, g1, prefix_at g2 HR.out.1, prefix_at p1 HR.out.2.1, prefix_at g3 HR.out.2.2.1, prefix_at p2 HR.out.2.2.2⟩⟩
            case measure => simp [intOf]; omega
          · have HJ2 : Sh (∃ s vc va rc ra, CorL w sk fb es sb (.slice A ne ca) most vc va rc ra s wr) := ⟨by obtain ⟨s', vc', va', rc', ra', h1, _⟩ := HJ.out; exact ⟨s', vc', va', rc', ra', h1⟩⟩
            clear HJ
            go_wp2
            case roundEnd => exact ⟨⟨i + 1, by simp, HJ2⟩, by have := HMM.out; simp [intOf]; omega⟩
      · go_wp2
        refine bodyPost_ret (v := .tuple #[.slice Ac nc cc', .int .i64 0]) (by simp [results, Tryz.results8, go_sem, *]) rfl (.inr ⟨by rw [← HCP.out]; exact HCC.out, .slice Ac nc cc', rc, s, HLL.out.found, rfl, HLL.out.sea.rowc, HLL.out.sea.okc.step (fun k _ _ => ⟨rfl, fun e => e⟩), HLL.out.below⟩)
  · have hne0 : (cc != 0) = true := by simp [hcc]
    have HCC := Sh.mk hcc
    clear hcc
    go_wp2_with (first | (go_at_call 7; refine HC.out.mono ?_; rintro e w1 ⟨v1, rfl, i1, i2, i3⟩; have I3 := Sh.mk i3; clear i1 i2 i3))
    go_ret2
    exact .inl ⟨by rw [← HCP.out]; exact HCC.out, by rw [← HCP.out]; rfl, I3.out⟩
end Go.Proofs.YtdppkdjgadiinaaGreat
