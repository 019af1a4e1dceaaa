/- Package mus: whether a core is least. -/
import Derived.Test.YtdppkdjgadiinaaGreatMinc
import Derived.Test.YtdppkdjgadiinaaGreatVals
import Derived.Deep.RegionHeld3
set_option linter.unusedVariables false
set_option linter.unusedSimpArgs false
namespace Go.Proofs.YtdppkdjgadiinaaGreat
open Go.RowKit

set_option maxRecDepth 100000 in
/-- slices.Compact at a row that rises: nothing goes. -/
theorem Compact_calls (w : World) (v : Value) (xs : List Int) (h : IRow w v xs) (hs : xs.Pairwise fun a b => a < b) :
    Calls Tryz.prog 23 #[v] w fun e w' => e = .returned v ∧ Below w.heap.size w w' := by
  obtain ⟨A, c, rfl⟩ := h.shape
  have hlen := h.len
  obtain ⟨n, hn⟩ : ∃ n, n = xs.length := ⟨_, rfl⟩
  rw [← hn] at h hlen ⊢
  have H := Sh.mk h
  have HN := Sh.mk hn
  have HS := Sh.mk hs
  clear h hn hs
  go_enter Tryz.func23, Tryz.ntmps23
  by_cases h2 : n < 2
  · go_wp2
    go_ret
    exact ⟨rfl, Below.refl _ _⟩
  · go_wp2
    go_loopw [3] (fun v3 wr => ∃ j : Nat, v3 = .int .i64 j ∧ 1 ≤ j ∧ j ≤ n ∧ Sh (Below w.heap.size w wr)) (fun v3 _ => n - (intOf v3).toNat)
    case atStart => exact ⟨1, rfl, Nat.le_refl _, by omega, ⟨Below.refl _ _⟩⟩
    case round =>
      obtain ⟨j, rfl, hj1, hj, HB⟩ := hrel
      by_cases hlt : j < n
      · obtain ⟨x, hx⟩ : ∃ x, xs[j]? = some x := ⟨_, List.getElem?_eq_getElem (by have := HN.out; omega)⟩
        obtain ⟨i, rfl⟩ : ∃ i, j = i + 1 := ⟨j - 1, by omega⟩
        obtain ⟨y, hy⟩ : ∃ y, xs[i]? = some y := ⟨_, List.getElem?_eq_getElem (by have := HN.out; omega)⟩
        obtain ⟨g, c', e, t0, _⟩ := (H.out.keep HB.out).at hx
        simp only [Value.slice.injEq] at e
        have e1 := e.1
        clear e
        subst e1
        obtain ⟨g2, c2', e, s0, _⟩ := (H.out.keep HB.out).at hy
        simp only [Value.slice.injEq, Option.some.injEq, Addr.mk.injEq, and_true] at e
        have e1 := e.1
        clear e
        subst e1
        have hxy : y < x := by
          obtain ⟨a1, a2⟩ := List.getElem?_eq_some_iff.1 hx
          obtain ⟨b1, b2⟩ := List.getElem?_eq_some_iff.1 hy
          have := (List.pairwise_iff_getElem.1 HS.out) i (i + 1) b1 a1 (by omega)
          rw [a2, b2] at this
          exact this
        have hq : (x == y) = false := by simp; omega
        have hi1 : ((i + 1 : Nat) : Int) - 1 = (i : Int) := by omega
        clear hx hy hxy
        go_wp2
        go_region
        all_goals (go_wp2; go_roundw)
        case rel => exact ⟨i + 1 + 1, by go_num, by omega, by omega, ⟨HB.out.drew⟩⟩
        case measure => simp [intOf]; omega
      · go_wp2
        go_ret
        exact ⟨rfl, HB.out⟩
theorem fnv_Min1 (p : Value) : Fnv Tryz.prog (.func (.func 28) #[] #[p]) 28 #[p] := ⟨rfl, _, Tryz.func28, by kernel_rfl, rfl⟩
theorem fnv_Min2 (p q : Value) : Fnv Tryz.prog (.func (.func 30) #[] #[p, q]) 30 #[p, q] := ⟨rfl, _, Tryz.func30, by kernel_rfl, rfl⟩
theorem fnv_Min21 (p : Value) : Fnv Tryz.prog (.func (.func 31) #[] #[p]) 31 #[p] := ⟨rfl, _, Tryz.func31, by kernel_rfl, rfl⟩
theorem Min1_pred (w : World) (b : Nat) (A : Option Addr) (n c : Nat) (hn : n ≤ 9223372036854775807) (h : Blk w b 22 [.slice A n c]) : Pred w (fun k => k = b) 28 #[.pointer (some ⟨b, 0, none⟩)] (fun k => decide (k < 0) || decide ((n : Int) ≤ k)) := by
  intro u w1 hs hb
  have h1 : Blk w1 b 22 [.slice A n c] := (hb b rfl h.lt).trans h
  have c0 := h1.cell 0
  simp only [List.getElem?_cons_zero] at c0
  clear h h1 hb hs
  show Calls _ _ #[.int .i64 u, .pointer (some ⟨b, 0, none⟩)] _ _
  go_enter Tryz.func28, Tryz.ntmps28
  by_cases hu : u < 0
  · go_wp2
    go_ret
    exact ⟨by simp [hu], rfl⟩
  · go_wp2
    go_ret
    refine ⟨?_, rfl⟩
    have : decide (u < 0) = false := by simp; omega
    rw [this, Bool.false_or]
    congr 2
theorem Min21_pred (w : World) (b : Nat) (n : Int) (h : Blk w b 3 [.int .i64 n]) : Pred w (fun k => k = b) 31 #[.pointer (some ⟨b, 0, none⟩)] (fun k => k == n) := by
  intro u w1 hs hb
  have h1 : Blk w1 b 3 [.int .i64 n] := (hb b rfl h.lt).trans h
  have c0 := h1.cell 0
  simp only [List.getElem?_cons_zero] at c0
  clear h h1 hb hs
  show Calls _ _ #[.int .i64 u, .pointer (some ⟨b, 0, none⟩)] _ _
  go_enter Tryz.func31, Tryz.ntmps31
  go_wp2
  go_ret
  exact ⟨rfl, rfl⟩
/-- slices.IndexFunc of a function that says no to all, and keeps what is to be kept. -/
theorem IndexFunc_none (w : World) (J : World → Prop) (g : Nat) (cap : Array Value) (fv : Value) (hfv : Fnv Tryz.prog fv g cap) (v : Value) (xs : List Int) (hJ : ∀ w', J w' → IRow w' v xs)
    (hp : ∀ (u : Int) (w1 : World), u ∈ xs → J w1 → Calls Tryz.prog g (#[.int .i64 u] ++ cap) w1 fun e w2 => e = .returned (.bool false) ∧ J w2) (h0 : J w) :
    Calls Tryz.prog 37 #[v, fv] w fun e w' => e = .returned (.int .i64 (-1)) ∧ J w' := by
  obtain ⟨A, c, rfl⟩ := (hJ w h0).shape
  have hlen := (hJ w h0).len
  have HJ := Sh.mk hJ
  have HP := Sh.mk hp
  have H0 := Sh.mk h0
  clear hJ hp h0
  obtain ⟨n, hn⟩ : ∃ n, n = xs.length := ⟨_, rfl⟩
  rw [← hn] at hlen HJ ⊢
  have HN := Sh.mk hn
  clear hn
  go_enter Tryz.func37, Tryz.ntmps37
  go_wp2
  go_loopw [8] (fun v8 wr => ∃ j : Nat, v8 = .int .i64 j ∧ j ≤ n ∧ Sh (J wr)) (fun v8 _ => n - (intOf v8).toNat)
  case atStart => exact ⟨0, rfl, Nat.zero_le _, H0⟩
  case round =>
    obtain ⟨j, rfl, hj, HR⟩ := hrel
    by_cases hlt : j < n
    · obtain ⟨u, hu⟩ : ∃ u, xs[j]? = some u := ⟨_, List.getElem?_eq_getElem (by have := HN.out; omega)⟩
      obtain ⟨g', c', e, t0, _, _⟩ := (HJ.out wr HR.out).at hu
      simp only [Value.slice.injEq] at e
      have e1 := e.1
      clear e
      subst e1
      have HU := Sh.mk hu
      clear hu
      go_wp2_with (refine callV (some 16) rfl rfl rfl rfl hfv [_] rfl ?_)
      refine (HP.out u wr (List.mem_of_getElem? HU.out) HR.out).mono ?_
      rintro e w1 ⟨rfl, hj1⟩
      refine ⟨_, rfl, ?_⟩
      have HJ1 := Sh.mk hj1
      clear hj1
      go_wp2
      go_roundw
      case rel => exact ⟨j + 1, by simp, by omega, HJ1⟩
      case measure => simp [intOf]; omega
    · go_wp2
      go_ret
      exact ⟨rfl, HR.out⟩
theorem ContainsFunc_none (w : World) (J : World → Prop) (g : Nat) (cap : Array Value) (fv : Value) (hfv : Fnv Tryz.prog fv g cap) (v : Value) (xs : List Int) (hJ : ∀ w', J w' → IRow w' v xs)
    (hp : ∀ (u : Int) (w1 : World), u ∈ xs → J w1 → Calls Tryz.prog g (#[.int .i64 u] ++ cap) w1 fun e w2 => e = .returned (.bool false) ∧ J w2) (h0 : J w) :
    Calls Tryz.prog 29 #[v, fv] w fun e w' => e = .returned (.bool false) ∧ J w' := by
  have HI := Sh.mk (IndexFunc_none w J g cap fv hfv v xs hJ hp h0)
  clear hJ hp h0
  go_enter Tryz.func29, Tryz.ntmps29
  go_wp2_with (go_at_call 37; refine HI.out.mono ?_; rintro e w1 ⟨rfl, hj⟩)
  go_ret
  exact ⟨rfl, hj⟩
set_option maxRecDepth 100000 in
set_option maxHeartbeats 1000000 in
theorem Min2_calls (w : World) (S : Nat → Prop) (fb c5 c6 : Nat) (es : List Eqn) (sb : List Int → Bool) (v vs : Value) (nf u : Int) (xs : List Int) (hf : FilAt w S fb es v nf) (hr : es.all Eqn.right = true) (hsb : SatB es sb)
    (b5 : Blk w c5 49 [.pointer (some ⟨fb, 0, none⟩)]) (b6 : Blk w c6 25 [vs]) (hx : IRow w vs xs) (hl : xs.length ≤ 1000000) (hle : es.length ≤ 1000000) (hsz : sizes (pickE es xs) ≤ 1000000) (n5 : c5 ≠ fb) (n6 : c6 ≠ fb) :
    Calls Tryz.prog 30 #[.int .i64 u, .pointer (some ⟨c5, 0, none⟩), .pointer (some ⟨c6, 0, none⟩)] w fun e w' => e = .returned (.bool (!sb (but u xs))) ∧ (∃ n', FilAt w' S fb es v n') ∧ Chg (fun k => k = fb) w w' := by
  obtain ⟨A, c, rfl⟩ := hx.shape
  obtain ⟨n, hn⟩ : ∃ n, n = xs.length := ⟨_, rfl⟩
  rw [← hn] at hx b6 hl
  obtain ⟨W, hW⟩ : ∃ W, W = w.alloc (.cells #[.int .i64 u] 3) := ⟨_, rfl⟩
  have hb : Below w.heap.size w W := by rw [hW]; exact (Below.refl _ _).alloc (Nat.le_refl _) _
  have HB := Sh.mk hb
  have HBX : Sh (Blk W w.heap.size 3 [.int .i64 u]) := ⟨by rw [hW]; exact Blk.new _ _ _⟩
  have B5 := Sh.mk (b5.keep hb).drew
  have B6 := Sh.mk (b6.keep hb).drew
  have HF := Sh.mk (hf.keep (hb.drew))
  have HX := Sh.mk (hx.keep (hb.drew))
  have HW := Sh.mk hW
  have HR := Sh.mk hr
  have HSB := Sh.mk hsb
  have HL := Sh.mk hl
  have HLE := Sh.mk hle
  have HSZ := Sh.mk hsz
  have HN := Sh.mk hn
  have N5 := Sh.mk n5
  have N6 := Sh.mk n6
  have HLT : Sh (fb < w.heap.size ∧ c5 < w.heap.size ∧ c6 < w.heap.size) := ⟨hf.blk.lt, b5.lt, b6.lt⟩
  have q5 := B5.out.cell 0
  have q6 := B6.out.cell 0
  simp only [List.getElem?_cons_zero] at q5 q6
  have HWZ : Sh (W.drew.heap.size = w.heap.size + 1) := ⟨by rw [hW]; simp [World.drew]⟩
  obtain ⟨bb, hbb⟩ : ∃ bb, bb = sb (but u xs) := ⟨_, rfl⟩
  have HBB := Sh.mk hbb
  rw [← hbb]
  clear hf hr hsb b5 b6 hx hl hle hsz hn n5 n6 hb hW hbb
  go_enter Tryz.func30, Tryz.ntmps30
  go_upto_region 1 with (fail)
  rw [← HW.out]
  clear HW
  go_region_held3 (fun w' => w'.cell? ⟨c5, 0, none⟩ = some (.pointer (some ⟨fb, 0, none⟩)) ∧ w'.cell? ⟨c6, 0, none⟩ = some (.slice A n c)) (first | exact ⟨q5, q6⟩) (first
    | (go_at_call 20; refine (Clone_row W.drew _ xs HX.out (by rw [← HN.out]; exact HL.out)).mono ?_; rintro e w3 ⟨v3, rfl, i1, i2, i3⟩; have D5 := Sh.mk (B5.out.keep i3); have D6 := Sh.mk (B6.out.keep i3); have q5 := D5.out.cell 0; have q6 := D6.out.cell 0; (simp only [List.getElem?_cons_zero] at q5 q6); have I1 := Sh.mk i1; have I2 := Sh.mk i2; have I3 := Sh.mk i3; have HX3 := Sh.mk (HBX.out.drew.keep i3); clear i1 i2 i3)
    | (go_at_call 19; refine (Delete_row w3 (fun k => k = w.heap.size) _ _ _ _ (fnv_Min21 (.pointer (some ⟨w.heap.size, 0, none⟩))) (Min21_pred w3 w.heap.size u HX3.out) v3 xs I1.out (fun k hk e => by have := I2.out k hk; have := HWZ.out; omega)).mono ?_; rintro e w4 ⟨v4, rfl, i4, i5, i6⟩; have E5 := Sh.mk (show Blk w4 c5 _ _ from (i6.block c5 D5.out.lt (fun e => by have := I2.out _ e; have := HWZ.out; have := HLT.out; omega)).trans D5.out); have E6 := Sh.mk (show Blk w4 c6 _ _ from (i6.block c6 D6.out.lt (fun e => by have := I2.out _ e; have := HWZ.out; have := HLT.out; omega)).trans D6.out); have q5 := E5.out.cell 0; have q6 := E6.out.cell 0; (simp only [List.getElem?_cons_zero] at q5 q6); have I4 := Sh.mk i4; have I5 := Sh.mk i5; have I6 := Sh.mk i6; have HB4 : Sh (Below W.drew.heap.size W.drew w4) := ⟨I3.out.trans (i6.below (fun k hk => I2.out k hk) I3.out.size)⟩; clear i4 i5 i6)
    | (go_at_call 27; refine (sat_calls w4 S fb es sb v nf (but u xs) v4 (HF.out.keep HB4.out) HR.out HSB.out I4.out (Nat.le_trans (but_sublist u xs).length_le (by rw [← HN.out]; exact HL.out)) HLE.out (Nat.le_trans (sizes_sublist (pickE_sublist (but_sublist u xs))) HSZ.out) (fun e => by rw [I5.out] at e; have := I2.out _ e; have := HWZ.out; have := HLT.out; omega)).mono ?_; rw [← HBB.out]; rintro e w5 ⟨rfl, s1, s2⟩; have F5 := Sh.mk (show Blk w5 c5 _ _ from (s2.block c5 E5.out.lt N5.out).trans E5.out); have F6 := Sh.mk (show Blk w5 c6 _ _ from (s2.block c6 E6.out.lt N6.out).trans E6.out); have q5 := F5.out.cell 0; have q6 := F6.out.cell 0; (simp only [List.getElem?_cons_zero] at q5 q6); have S1 := Sh.mk s1; have S2 := Sh.mk s2; clear s1 s2)
    | fail)
  all_goals (go_wp2; go_ret)
  all_goals exact ⟨rfl, S1.out, (Chg.of_below (HB.out.drew.trans (HB4.out.mono (by have := HWZ.out; omega)))).trans S2.out (fun k hk _ => .inl hk)⟩
theorem nums_rise (n : Nat) : (nums n).Pairwise fun a b => a < b := by
  unfold nums
  rw [List.pairwise_map]
  exact (List.pairwise_lt_range (n := n)).imp fun h => by omega
theorem nums_in {n : Nat} {k : Int} (h : k ∈ nums n) : 0 ≤ k ∧ k < n := by
  unfold nums at h
  obtain ⟨i, hi, rfl⟩ := List.mem_map.1 h
  have := List.mem_range.1 hi
  omega
/-- What stays while the last loop runs. -/
structure MinJ (w : World) (fb c5 c6 : Nat) (es : List Eqn) (v vs : Value) (xs : List Int) (w' : World) : Prop where
  fil : ∃ n, FilAt w' (fun k => k < w.heap.size) fb es v n
  b5 : Blk w' c5 49 [.pointer (some ⟨fb, 0, none⟩)]
  b6 : Blk w' c6 25 [vs]
  row : IRow w' vs xs
  below : Below w.heap.size w w'
theorem MinJ.keep {w w1 w2 : World} {fb c5 c6 : Nat} {es : List Eqn} {v vs : Value} {xs : List Int} (h : MinJ w fb c5 c6 es v vs xs w1) (hb : Below w1.heap.size w1 w2) : MinJ w fb c5 c6 es v vs xs w2 := by
  obtain ⟨n, hn⟩ := h.fil
  exact ⟨⟨n, hn.keep hb⟩, h.b5.keep hb, h.b6.keep hb, h.row.keep hb, below_then h.below hb⟩
/-- A row's own block has turned, and then the cell that holds the row. -/
theorem MinJ.store {w w1 w2 : World} {fb c5 c6 : Nat} {es : List Eqn} {v vs vs' : Value} {xs : List Int} (h : MinJ w fb c5 c6 es v vs xs w1) (hc : Chg (fun k => vs.ownBlock = some k) w1 w2) (ho : vs'.ownBlock = vs.ownBlock) (hr : IRow w2 vs' xs) (n5 : c5 ≠ fb) (n56 : c5 ≠ c6) (n6 : c6 ≠ fb) (nv : vs.ownBlock ≠ some fb)
    (nv5 : vs.ownBlock ≠ some c5) (nv6 : vs.ownBlock ≠ some c6) (hw : ∀ k, vs.ownBlock = some k → w.heap.size ≤ k) (hfb : w.heap.size ≤ fb) (h6 : w.heap.size ≤ c6) : MinJ w fb c5 c6 es v vs' xs (w2.setCell ⟨c6, 0, none⟩ vs') := by
  obtain ⟨n, hn⟩ := h.fil
  have f1 : Blk w2 fb _ _ := (hc.block _ hn.blk.lt nv).trans hn.blk
  have b5 : Blk w2 c5 _ _ := (hc.block _ h.b5.lt nv5).trans h.b5
  have b6 : Blk w2 c6 _ _ := (hc.block _ h.b6.lt nv6).trans h.b6
  refine ⟨⟨n, f1.far (p := ⟨c6, 0, none⟩) (fun e => n6 e.symm) _, ?_, hn.s⟩, b5.far (p := ⟨c6, 0, none⟩) n56 _, b6.set_ 0 vs', hr.far (p := ⟨c6, 0, none⟩) (fun e => nv6 (by rw [← ho]; exact e)) _, (h.below.trans (hc.below (fun k hk => hw k hk) h.below.size)).setCell h6 _⟩
  exact Dat.at_step (fun k hk hl => ⟨hk, (Below.heap_setCell _ _ _ _ (fun e => by have := hn.s k hk; simp at e; omega)).trans (hc.block k hl (fun e => by have := hw k e; have := hn.s k hk; omega))⟩) _ _ hn.eqs
theorem MinJ.sat {w w1 w2 : World} {fb c5 c6 : Nat} {es : List Eqn} {v vs : Value} {xs : List Int} (h : MinJ w fb c5 c6 es v vs xs w1) (hf : ∃ n, FilAt w2 (fun k => k < w.heap.size) fb es v n) (hc : Chg (fun k => k = fb) w1 w2) (n5 : c5 ≠ fb) (n6 : c6 ≠ fb) (nv : vs.ownBlock ≠ some fb) (hfb : w.heap.size ≤ fb) : MinJ w fb c5 c6 es v vs xs w2 :=
  ⟨hf, (hc.block _ h.b5.lt n5).trans h.b5, (hc.block _ h.b6.lt n6).trans h.b6, h.row.step (fun k hk => hc.block k (h.row.lt k hk) (fun e => nv (e ▸ hk))), h.below.trans (hc.below (fun k hk => by omega) h.below.size)⟩
set_option maxRecDepth 100000 in
set_option maxHeartbeats 1000000 in
theorem Minimal_calls (w : World) (S : Nat → Prop) (es : List Eqn) (v vn : Value) (xs : List Int) (h : EqsAt w S es v) (hr : es.all Eqn.right = true) (hx : IRow w vn xs) (hL : Least (satP es) es.length xs) (hle : es.length ≤ 1000000) (hsz : sizes es ≤ 1000000) :
    Calls Tryz.prog 11 #[v, vn] w fun e w' => e = .returned (.bool true) ∧ Below w.heap.size w w' := by
  obtain ⟨A, ca, rfl, h63⟩ := h.shape
  obtain ⟨An, cn, rfl⟩ := hx.shape
  have h' : EqsAt w (fun k => k < w.heap.size) es (.slice A es.length ca) := Dat.at_mono h (fun k _ hk => hk)
  have hlx : xs.length ≤ 1000000 := by have := hL.sub.length_le; rw [nums_len] at this; omega
  have hszx : sizes (pickE es xs) ≤ 1000000 := by
    have := sizes_sublist (pickE_sublist (es := es) hL.sub)
    rw [pickE_nums] at this
    omega
  obtain ⟨m, hm⟩ : ∃ m, m = xs.length := ⟨_, rfl⟩
  obtain ⟨n, hn⟩ : ∃ n, n = es.length := ⟨_, rfl⟩
  rw [← hm] at hx hlx ⊢
  rw [← hn] at h' hL hle h63 ⊢
  obtain ⟨fb, hfb⟩ : ∃ fb, fb = w.heap.size + 1 := ⟨_, rfl⟩
  obtain ⟨w3, hw3⟩ : ∃ w3, w3 = ((w.alloc (.cells #[.slice A n ca] 22)).alloc (.cells #[.slice A n ca, .int .i64 0] 51)).alloc (.cells #[.pointer (some ⟨fb, 0, none⟩)] 49) := ⟨_, rfl⟩
  have hz3 : w3.heap.size = w.heap.size + 3 := by rw [hw3]; simp
  have hb3 : Below w.heap.size w w3 := by rw [hw3]; exact (((Below.refl _ _).alloc (Nat.le_refl _) _).alloc (by simp) _).alloc (by simp; omega) _
  have x0 : Blk w3 w.heap.size 22 [.slice A n ca] := by rw [hw3]; exact ((Blk.new _ _ _).alloc _).alloc _
  have xf : Blk w3 fb 51 [.slice A n ca, .int .i64 0] := by rw [hw3]; exact (Blk.new' _ _ [.slice A n ca, .int .i64 0] (by rw [hfb]; simp)).alloc _
  have x5 : Blk w3 (fb + 1) 49 [.pointer (some ⟨fb, 0, none⟩)] := by rw [hw3]; exact Blk.new' _ _ _ (by rw [hfb]; simp)
  obtain ⟨c5, hc5⟩ : ∃ c5, c5 = fb + 1 := ⟨_, rfl⟩
  rw [← hc5] at x5
  have p0 := x0.cell 0
  have p5 := x5.cell 0
  simp only [List.getElem?_cons_zero] at p0 p5
  have HE3 := Sh.mk (h'.below hb3)
  have HE := Sh.mk h'
  have HB3 := Sh.mk hb3
  have HX0 := Sh.mk x0
  have HXF : Sh (FilAt w3 (fun k => k < w.heap.size) fb es (.slice A n ca) 0) := ⟨xf, h'.below hb3, fun k hk => by omega⟩
  have HX5 := Sh.mk x5
  have HIX := Sh.mk (hx.keep hb3)
  have HZ : Sh (w3.heap.size = w.heap.size + 3 ∧ fb = w.heap.size + 1 ∧ c5 = w.heap.size + 2) := ⟨hz3, hfb, by omega⟩
  have HW3 := Sh.mk hw3
  have HFB := Sh.mk hfb
  have HC5 := Sh.mk hc5
  have HR := Sh.mk hr
  have HLE := Sh.mk hL
  have HLX := Sh.mk hlx
  have HLN := Sh.mk hle
  have HSX := Sh.mk hszx
  have HM := Sh.mk hm
  have HN := Sh.mk hn
  clear h h' hx hL hlx hszx hm hn hle hr hw3 hb3 x0 xf x5 hfb hc5
  go_enter Tryz.func11, Tryz.ntmps11
  go_upto_region 2 with (fail)
  have e1 : w.heap.size + 1 = fb := HFB.out.symm
  have e2 : w.heap.size + 2 = c5 := by have := HZ.out; omega
  have e3 : fb + 1 = c5 := HC5.out.symm
  (try simp only [e1, e2, e3])
  rw [← HW3.out]
  clear e1 e2 e3 hz3
  have VB : Sh (Below w3.heap.size w3 (w3.alloc (.cells #[.slice An m cn] 25))) := ⟨(Below.refl _ _).alloc (Nat.le_refl _) _⟩
  have VX : Sh (Blk (w3.alloc (.cells #[.slice An m cn] 25)) w3.heap.size 25 [.slice An m cn]) := ⟨Blk.new _ _ _⟩
  have HSRT := Sh.mk (Sorted_calls w3.heap.size (.slice An m cn) xs (by rw [← HM.out]; exact HLX.out) _ VX.out.lt (VX.out.cell 0) (HIX.out.keep VB.out) (((nums_rise n).sublist HLE.out.sub).imp fun h => by omega))
  go_upto_region 3 with (first
    | (go_at_call 25; refine (Values_calls _ _ _ _).mono ?_; rintro e w4 ⟨rfl, rfl⟩)
    | (go_at_call 24; refine HSRT.out.mono ?_; rintro e w5 ⟨u5, rfl, i1, i2, i3⟩; (obtain ⟨A5, k5, rfl⟩ := i1.shape); have I1 := Sh.mk i1; have I2 := Sh.mk (show ∀ k, (Value.slice A5 xs.length k5).ownBlock = some k → w3.heap.size < k from fun k hk => by have := i2 k hk; simp at this; omega); have I3 := Sh.mk (below_then VB.out i3); clear i1 i2 i3)
    | (go_at_call 23; refine (Compact_calls w5 _ xs I1.out ((nums_rise n).sublist HLE.out.sub)).mono ?_; rintro e w6 ⟨rfl, hb6⟩; have HB6 := Sh.mk (below_then I3.out hb6); have I6 := Sh.mk (I1.out.keep hb6); clear hb6))
  obtain ⟨c6, hc6⟩ : ∃ c6, c6 = w6.heap.size := ⟨_, rfl⟩
  obtain ⟨w7, hw7⟩ : ∃ w7, w7 = w6.alloc (.cells #[.slice A5 xs.length k5] 25) := ⟨_, rfl⟩
  have hb7 : Below w6.heap.size w6 w7 := by rw [hw7]; exact (Below.refl _ _).alloc (Nat.le_refl _) _
  have HX6 : Sh (Blk w7 c6 25 [.slice A5 xs.length k5]) := ⟨by rw [hw7, hc6]; exact Blk.new _ _ _⟩
  have HB7 := Sh.mk (below_then HB6.out hb7)
  have HI7 := Sh.mk (I6.out.keep hb7)
  have HZ6 : Sh (w3.heap.size ≤ c6 ∧ ∀ k, (Value.slice A5 xs.length k5).ownBlock = some k → w3.heap.size < k ∧ k < c6) := ⟨by
    rw [hc6]
    exact ⟨HB6.out.size, fun k hk => ⟨I2.out k hk, I6.out.lt k hk⟩⟩⟩
  rw [← hw7, ← hc6]
  clear hw7 hc6 hb7 I6 I2 I1 I3 HB6 p0 p5 VB VX HSRT HIX HW3 HFB HC5
  have p0 := (HX0.out.keep HB7.out).cell 0
  simp only [List.getElem?_cons_zero] at p0
  have HRC := Sh.mk (right_calls w7 _ es _ (HE3.out.below HB7.out))
  rw [HR.out] at HRC
  have HJ7 : Sh (MinJ w fb c5 c6 es (.slice A n ca) (.slice A5 xs.length k5) xs w7) := ⟨⟨_, HXF.out.keep HB7.out⟩, HX5.out.keep HB7.out, HX6.out, HI7.out, below_then HB3.out HB7.out⟩
  have HNE : Sh (c5 ≠ fb ∧ c6 ≠ fb ∧ (Value.slice A5 xs.length k5).ownBlock ≠ some fb ∧ w.heap.size ≤ fb ∧ (Value.slice A5 xs.length k5).ownBlock ≠ some c5 ∧ (Value.slice A5 xs.length k5).ownBlock ≠ some c6) := ⟨by
    have z := HZ.out
    have z6 := HZ6.out
    exact ⟨by omega, by omega, fun e => by have := z6.2 _ e; omega, by omega, fun e => by have := z6.2 _ e; omega, fun e => by have := z6.2 _ e; omega⟩⟩
  clear HXF HX5 HX6 HI7
  go_upto_region 5 with (first
    | (go_at_call 26; refine HRC.out.mono ?_; rintro e w8 ⟨rfl, hb8⟩; have q0 := (HX0.out.keep (below_then HB7.out hb8)).cell 0; have q5 := (HJ7.out.b5.keep hb8).cell 0; have q6 := (HJ7.out.b6.keep hb8).cell 0; (simp only [List.getElem?_cons_zero] at q0 q5 q6); have HB8 := Sh.mk hb8; clear hb8)
    | (go_at_call 27; (obtain ⟨nf, hnf⟩ := HJ7.out.fil); refine (sat_calls w8 (fun k => k < w.heap.size) fb es (satP es) _ nf xs _ (hnf.keep HB8.out) HR.out (satP_is es) (HJ7.out.row.keep HB8.out) (by rw [← HM.out]; exact HLX.out) (by rw [← HN.out]; exact HLN.out) HSX.out HNE.out.2.2.1).mono ?_; rw [HLE.out.not]; rintro e w9 ⟨rfl, s1, s2⟩; have S1 := Sh.mk s1; have S2 := Sh.mk s2; clear s1 s2 hnf))
  have HJ9 := Sh.mk ((HJ7.out.keep HB8.out).sat S1.out S2.out HNE.out.1 HNE.out.2.1 HNE.out.2.2.1 HNE.out.2.2.2.1)
  have HX9 : Sh (Blk w9 w.heap.size 22 [.slice A n ca]) := ⟨(S2.out.block _ (HX0.out.keep (below_then HB7.out HB8.out)).lt (fun e => by have := HZ.out; omega)).trans (HX0.out.keep (below_then HB7.out HB8.out))⟩
  clear HRC HJ7 S1 S2 HB8 HB7 HX0 p0 q0 q5 q6
  have q6 := HJ9.out.b6.cell 0
  simp only [List.getElem?_cons_zero] at q6
  have HKX : Sh (kept (fun k => decide (k < 0) || decide ((n : Int) ≤ k)) xs = xs) := ⟨by
    unfold kept
    rw [List.filter_eq_self]
    intro k hk
    have := nums_in (HLE.out.sub.subset hk)
    simp
    omega⟩
  have HDEL := Sh.mk (Delete_row w9 (fun k => k = w.heap.size) _ _ _ _ (fnv_Min1 (.pointer (some ⟨w.heap.size, 0, none⟩))) (Min1_pred w9 w.heap.size A n ca h63 HX9.out) _ xs HJ9.out.row (fun k hk e => by have := HZ6.out.2 k hk; have := HZ.out; omega))
  rw [HKX.out] at HDEL
  go_upto_region 6 with (first
    | (go_at_call 19; refine HDEL.out.mono ?_; rintro e w10 ⟨v6, rfl, i4, i5, i6⟩; (obtain ⟨A6, k6, rfl⟩ := i4.shape); have f6 : Blk w10 c6 _ _ := (i6.block c6 HJ9.out.b6.lt HNE.out.2.2.2.2.2).trans HJ9.out.b6; have r6 := f6.cell 0; have r7 := f6.frozen 0; (simp only [List.getElem?_cons_zero] at r6); have I4 := Sh.mk i4; have I5 := Sh.mk i5; have I6 := Sh.mk i6; clear i4 i5 i6 f6))
  obtain ⟨W, hW⟩ : ∃ W, W = w10.setCell ⟨c6, 0, none⟩ (.slice A6 xs.length k6) := ⟨_, rfl⟩
  have HJW : Sh (MinJ w fb c5 c6 es (.slice A n ca) (.slice A6 xs.length k6) xs W) := ⟨by
    rw [hW]
    have z := HZ.out
    have z6 := HZ6.out
    exact HJ9.out.store I6.out I5.out I4.out HNE.out.1 (by omega) HNE.out.2.1 HNE.out.2.2.1 HNE.out.2.2.2.2.1 HNE.out.2.2.2.2.2 (fun k hk => by have := z6.2 k hk; omega) HNE.out.2.2.2.1 (by omega)⟩
  have HNW : Sh ((Value.slice A6 xs.length k6).ownBlock ≠ some fb) := ⟨by rw [I5.out]; exact HNE.out.2.2.1⟩
  rw [← hW]
  clear hW I4 I5 I6 r6 r7 q6 HDEL HKX HX9 HJ9
  have q6 := HJW.out.b6.cell 0
  simp only [List.getElem?_cons_zero] at q6
  have HCON := Sh.mk (ContainsFunc_none W (MinJ w fb c5 c6 es (.slice A n ca) (.slice A6 xs.length k6) xs) _ _ _ (fnv_Min2 (.pointer (some ⟨c5, 0, none⟩)) (.pointer (some ⟨c6, 0, none⟩))) _ xs (fun w' hj => hj.row) (fun u w1 hu hj => by
    obtain ⟨nf, hnf⟩ := hj.fil
    have := Min2_calls w1 (fun k => k < w.heap.size) fb c5 c6 es (satP es) (.slice A n ca) _ nf u xs hnf HR.out (satP_is es) hj.b5 hj.b6 hj.row (by rw [← HM.out]; exact HLX.out) (by rw [← HN.out]; exact HLN.out) HSX.out HNE.out.1 HNE.out.2.1
    rw [HLE.out.but u hu] at this
    refine this.mono ?_
    rintro e w2 ⟨rfl, s1, s2⟩
    exact ⟨rfl, hj.sat s1 s2 HNE.out.1 HNE.out.2.1 HNW.out HNE.out.2.2.2.1⟩) HJW.out)
  clear HJW
  go_wp2_with (first | (go_at_call 29; refine HCON.out.mono ?_; rintro e w12 ⟨rfl, hj⟩; have HJ := Sh.mk hj; clear hj))
  go_ret
  exact ⟨rfl, HJ.out.below⟩
end Go.Proofs.YtdppkdjgadiinaaGreat
