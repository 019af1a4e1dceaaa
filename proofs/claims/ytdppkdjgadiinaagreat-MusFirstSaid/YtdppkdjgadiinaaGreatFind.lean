/- Package mus: a core is looked for. -/
import Derived.Test.YtdppkdjgadiinaaGreatUntil
set_option linter.unusedVariables false
set_option linter.unusedSimpArgs false
namespace Go.Proofs.YtdppkdjgadiinaaGreat
open Go.RowKit

set_option maxRecDepth 100000 in
set_option maxHeartbeats 1000000 in
theorem find_calls (w : World) (S : Nat → Prop) (sk fb : Nat) (es : List Eqn) (sb : List Int → Bool) (v : Value) (most : Int) (vc va : Value) (rc ra : List Sl) (st : Sea) (xs : List Int) (vx : Value)
    (h : SeaP w S sk fb es v most vc va rc ra st) (hx : IRow w vx xs) (hxd : ∀ k, vx.ownBlock = some k → ¬ seaD sk fb vc va k) (hr : es.all Eqn.right = true) (hsb : SatB es sb) (hl : xs.length ≤ 1000000) (hle : es.length ≤ 1000000) (hsz : sizes (pickE es xs) ≤ 1000000) (hm : most ≤ 1000000) :
    Calls Tryz.prog 17 #[.pointer (some ⟨sk, 0, none⟩), vx] w (FindPost w S sk fb es v most vc va rc ra (findP sb most st xs)) := by
  obtain ⟨Ac, cc, rfl⟩ := h.rowc.shape
  obtain ⟨Aa, ca, rfl⟩ := h.rowa.shape
  obtain ⟨Ax, cx, rfl⟩ := hx.shape
  obtain ⟨nc, hnc⟩ : ∃ nc, nc = rc.length := ⟨_, rfl⟩
  obtain ⟨na, hna⟩ : ∃ na, na = ra.length := ⟨_, rfl⟩
  obtain ⟨nx, hnx⟩ : ∃ nx, nx = xs.length := ⟨_, rfl⟩
  have hlen := h.okc.1
  rw [← hnc] at h hxd hlen ⊢
  rw [← hna] at h hxd ⊢
  rw [← hnx] at hx hxd hl ⊢
  have H := Sh.mk h
  have HX := Sh.mk hx
  have HXD := Sh.mk hxd
  have HR := Sh.mk hr
  have HSB := Sh.mk hsb
  have HL := Sh.mk hl
  have HLE := Sh.mk hle
  have HSZ := Sh.mk hsz
  have HM := Sh.mk hm
  have HNC := Sh.mk hnc
  have HNA := Sh.mk hna
  have HNX := Sh.mk hnx
  have HLEN := Sh.mk hlen
  have q0 := h.blk.cell 0
  have q1 := h.blk.cell 1
  have q2 := h.blk.cell 2
  simp only [List.getElem?_cons_zero, List.getElem?_cons_succ] at q0 q1 q2
  obtain ⟨st', hst'⟩ : ∃ st', st' = findP sb most st xs := ⟨_, rfl⟩
  rw [← hst']
  have HST := Sh.mk hst'
  unfold findP at hst'
  clear h hx hxd hr hsb hl hle hsz hm hnc hna hnx hlen
  go_enter Tryz.func17, Tryz.ntmps17
  by_cases hge : most ≤ nc
  · rw [if_pos (by rw [← HLEN.out]; exact hge)] at hst'
    have HS2 := Sh.mk hst'
    clear hst'
    go_wp2
    go_region
    go_wp2
    refine bodyPost_ret (v := .tuple #[]) (results_none rfl _ _ _) rfl ⟨rfl, _, _, _, _, ?_, Chg.refl _ _ |>.drew, fun k hk => .inl hk, List.prefix_refl _, List.prefix_refl _⟩
    rw [HS2.out]
    exact H.out.keep (Below.refl _ _).drew
  · rw [if_neg (by rw [← HLEN.out]; exact hge)] at hst'
    have HS2 := Sh.mk hst'
    clear hst'
    obtain ⟨nf, hnf⟩ := H.out.fil
    have HSAT := Sh.mk (sat_calls w.drew S fb es sb v nf xs _ (hnf.keep (Below.refl _ _).drew) HR.out HSB.out (HX.out.keep (Below.refl _ _).drew) (by rw [← HNX.out]; exact HL.out) HLE.out HSZ.out (fun e => HXD.out fb e (.inr (.inl rfl))))
    clear hnf
    obtain ⟨b, hb⟩ : ∃ b, b = sb xs := ⟨_, rfl⟩
    rw [← hb] at HSAT HS2
    clear hb
    have hdec : decide (most ≤ (nc : Int)) = false := by simp; omega
    have HS0 := Sh.mk (H.out.keep (Below.refl w.heap.size w).drew)
    have HX0 := Sh.mk (HX.out.keep (Below.refl w.heap.size w).drew)
    cases b with
    | true =>
      have HS3 : Sh (st' = st) := ⟨by rw [HS2.out]; rfl⟩
      go_wp2
      go_region_held3 (fun w' => w'.cell? ⟨sk, 0, none⟩ = some (.pointer (some ⟨fb, 0, none⟩)) ∧ w'.cell? ⟨sk, 1, none⟩ = some (.int .i64 most) ∧ w'.cell? ⟨sk, 2, none⟩ = some (.slice Ac nc cc)) (first | exact ⟨q0, q1, q2⟩) (first
        | (go_at_call 27; refine HSAT.out.mono ?_; rintro e w1 ⟨rfl, s1, s2⟩; have hs1 := HS0.out.filt s2 s1; have q0 := hs1.blk.cell 0; have q1 := hs1.blk.cell 1; have q2 := hs1.blk.cell 2; (simp only [List.getElem?_cons_zero, List.getElem?_cons_succ] at q0 q1 q2); have S1 := Sh.mk hs1; have S2 := Sh.mk s2; clear s1 s2 hs1)
        | fail)
      go_wp2
      refine bodyPost_ret (v := .tuple #[]) (results_none rfl _ _ _) rfl ⟨rfl, _, _, _, _, (by rw [HS3.out]; exact S1.out), ((Chg.refl (seaD sk fb (.slice Ac nc cc) (.slice Aa na ca)) w).drew).trans S2.out (fun k hk _ => .inl (.inr (.inl hk))), fun k hk => .inl hk, List.prefix_refl _, List.prefix_refl _⟩
    | false =>
      go_wp2
      go_region_held3 (fun w' => w'.cell? ⟨sk, 0, none⟩ = some (.pointer (some ⟨fb, 0, none⟩)) ∧ w'.cell? ⟨sk, 1, none⟩ = some (.int .i64 most) ∧ w'.cell? ⟨sk, 2, none⟩ = some (.slice Ac nc cc)) (first | exact ⟨q0, q1, q2⟩) (first
        | (go_at_call 27; refine HSAT.out.mono ?_; rintro e w1 ⟨rfl, s1, s2⟩; have hs1 := HS0.out.filt s2 s1; have hx1 := HX0.out.step (w' := w1) (fun k hk => s2.block k (HX0.out.lt k hk) (fun e => HXD.out k hk (.inr (.inl e)))); have q0 := hs1.blk.cell 0; have q1 := hs1.blk.cell 1; have q2 := hs1.blk.cell 2; (simp only [List.getElem?_cons_zero, List.getElem?_cons_succ] at q0 q1 q2); have S1 := Sh.mk hs1; have X1 := Sh.mk hx1; have S2 := Sh.mk (((Chg.refl (seaD sk fb (.slice Ac nc cc) (.slice Aa na ca)) w).drew).trans s2 (fun k hk _ => .inl (.inr (.inl hk)))); clear s1 s2 hs1 hx1)
        | fail)
      obtain ⟨n1, hf1⟩ := S1.out.fil
      have HRED := Sh.mk (reduce_calls w1 S fb es sb v n1 xs xs _ _ hf1 HR.out HSB.out X1.out X1.out (by rw [← HNX.out]; exact HL.out) (by rw [← HNX.out]; exact HL.out) HLE.out HSZ.out (fun e => HXD.out fb e (.inr (.inl rfl))))
      clear hf1
      obtain ⟨c, hc⟩ : ∃ c, c = reduceP sb xs xs := ⟨_, rfl⟩
      rw [← hc] at HRED HS2
      have HCC := Sh.mk hc
      clear hc
      go_upto_region 2 with (first | (go_at_call 33; refine HRED.out.mono ?_; rintro e w2 ⟨v2, rfl, i1, i2, i3, i4⟩; have R1 := Sh.mk i1; have R2 := Sh.mk i2; have R3 := Sh.mk i3; have R4 := Sh.mk i4; (obtain ⟨A2, c2, rfl⟩ := i1.shape); clear i1 i2 i3 i4))
      obtain ⟨n2, hn2⟩ : ∃ n2, n2 = c.length := ⟨_, rfl⟩
      rw [← hn2] at R1 R2 ⊢
      obtain ⟨w3, hw3⟩ : ∃ w3, w3 = w2.alloc (.cells #[.slice A2 n2 c2] 25) := ⟨_, rfl⟩
      rw [← hw3]
      have hB3 : Below w2.heap.size w2 w3 := by rw [hw3]; exact (Below.refl _ _).alloc (Nat.le_refl _) _
      have HX3 : Sh (Blk w3 w2.heap.size 25 [.slice A2 n2 c2]) := ⟨by rw [hw3]; exact Blk.new _ _ _⟩
      have HS3 := Sh.mk ((S1.out.filt R4.out R3.out).keep hB3)
      have HR1 := Sh.mk (R1.out.keep hB3)
      have HZ : Sh (w.heap.size ≤ w1.heap.size ∧ w1.heap.size ≤ w2.heap.size ∧ w2.heap.size < w3.heap.size) := ⟨S2.out.size, R4.out.size, HX3.out.lt⟩
      have HXX3 := Sh.mk ((X1.out.step (w' := w2) (fun k hk => R4.out.block k (X1.out.lt k hk) (fun e => HXD.out k hk (.inr (.inl e))))).keep hB3)
      have HC3 := Sh.mk ((S2.out.trans R4.out (fun k hk _ => .inl (.inr (.inl hk)))).thenBelow hB3)
      have HR2 : Sh (∀ k, (Value.slice A2 n2 c2).ownBlock = some k → w.heap.size ≤ k) := ⟨fun k hk => Nat.le_trans HZ.out.1 (R2.out k hk)⟩
      have HCON := Sh.mk (ContainsFunc_rows w3 rc (isRow rc st.cores c) _ _ _ (fnv_find1 (.pointer (some ⟨w2.heap.size, 0, none⟩))) _ HS3.out.rowc (fun x w4 hx hb => by
        obtain ⟨ys, h1, h2⟩ := HS3.out.okc.isRow c hx
        rw [h2]
        exact find1_calls w4 w2.heap.size _ _ ys c (h1.keep hb) (HR1.out.keep hb) (HX3.out.keep hb)))
      rw [HS3.out.okc.any c] at HCON
      have q2 := HS3.out.blk.cell 2
      simp only [List.getElem?_cons_zero, List.getElem?_cons_succ] at q2
      clear hn2 hw3 hB3 R1 R2 R3 R4 S1 S2 X1 HRED HSAT HS0 HX0
      obtain ⟨b, hb⟩ : ∃ b, b = st.cores.any fun y => decide (y = c) := ⟨_, rfl⟩
      rw [← hb] at HCON HS2
      clear hb
      cases b with
      | true =>
        have HS4 : Sh (st' = st) := ⟨by rw [HS2.out]; rfl⟩
        go_wp2_with (first | (go_at_call 34; refine HCON.out.mono ?_; rintro e w4 ⟨rfl, b4⟩; have B4 := Sh.mk b4; clear b4) | fail)
        refine bodyPost_end (results_none rfl _ _ _) rfl ⟨rfl, _, _, _, _, (by rw [HS4.out]; exact HS3.out.keep B4.out), HC3.out.thenBelow B4.out, fun k hk => .inl hk, List.prefix_refl _, List.prefix_refl _⟩
      | false =>
        have HS4 : Sh (st' = ⟨st.cores ++ [c], st.among ++ [xs]⟩) := ⟨by rw [HS2.out]; rfl⟩
        go_upto_region 3 with (first | (go_at_call 34; refine HCON.out.mono ?_; rintro e w4 ⟨rfl, b4⟩; have B4 := Sh.mk b4; clear b4) | fail)
        have hs4 := HS3.out.keep B4.out
        have hx4 := HX3.out.keep B4.out
        have HS5 := Sh.mk hs4
        have HX5 := Sh.mk hx4
        have HR5 := Sh.mk (HR1.out.keep B4.out)
        have HXX5 := Sh.mk (HXX3.out.keep B4.out)
        have HC5 := Sh.mk (HC3.out.thenBelow B4.out)
        have HZ5 : Sh (w.heap.size ≤ w2.heap.size ∧ w2.heap.size < w4.heap.size) := ⟨by have := HZ.out; omega, by have := HZ.out; have := B4.out.size; omega⟩
        have p2 := hs4.blk.cell 2
        have p3 := hs4.blk.cell 3
        have z2 := hs4.blk.frozen 2
        have z3 := hs4.blk.frozen 3
        have bx := hx4.cell 0
        simp only [List.getElem?_cons_zero, List.getElem?_cons_succ] at p2 p3 bx
        have hskl : sk < w4.heap.size := hs4.blk.lt
        have hbxl : w2.heap.size < w4.heap.size := hx4.lt
        have p2a := fun o => cell_alloc p2 hskl o
        have p3a := fun o => cell_alloc p3 hskl o
        have bxa := fun o => cell_alloc bx hbxl o
        have p2b := fun o o' => cell_alloc (p2a o) (show sk < (w4.alloc o).heap.size by simp; omega) o'
        have p3b := fun o o' => cell_alloc (p3a o) (show sk < (w4.alloc o).heap.size by simp; omega) o'
        have bxb := fun o o' => cell_alloc (bxa o) (show w2.heap.size < (w4.alloc o).heap.size by simp; omega) o'
        clear hs4 hx4 HX3 HS3 HR1 HXX3 HC3 B4 HCON HS2 q0 q1 q2 HZ hdec HSB
        obtain ⟨bb, hbb⟩ : ∃ bb, bb = w2.heap.size := ⟨_, rfl⟩
        rw [← hbb] at bx HX5 HZ5 bxa bxb hbxl ⊢
        clear hbb
        have HBX := Sh.mk (And.intro bx (And.intro bxa bxb))
        have HLC : Sh (nc + 1 ≤ 1000001 ∧ na + 1 ≤ 1000001) := ⟨by have := HM.out; omega, by have := HM.out; have := HS5.out.oka.1; have := HS5.out.okc.1; have := HNA.out; have := HNC.out; have := HS5.out.len; omega⟩
        have B1 := (Below.refl w4.heap.size w4).alloc (Nat.le_refl _) (.cells #[.slice A2 n2 c2] 25)
        have B2 := (Below.refl w4.heap.size w4).alloc (Nat.le_refl _) (.cells #[.slice Ax nx cx] 25)
        have HB1 := Sh.mk B1.drew
        have HB12 := Sh.mk (B1.alloc (by simp) (.cells #[.slice Ax nx cx] 25)).drew
        have HB21 := Sh.mk (B2.alloc (by simp) (.cells #[.slice A2 n2 c2] 25)).drew
        have lit : ∀ (W : World) (n : Nat) (x : Sl), W.heap.size = n → GRow RowsK (W.alloc (.cells #[.slice x.A x.n x.c] 25)).drew (.slice (some ⟨n, 0, none⟩) 1 1) [x] := fun W n x e => by
          subst e
          exact (GRow.lit RowsK_ok W x).keep (Below.refl _ _).drew
        have LIT := Sh.mk lit
        have L1 := Sh.mk (lit w4 w4.heap.size ⟨A2, n2, c2⟩ rfl)
        have L21 := Sh.mk (lit (w4.alloc (.cells #[.slice Ax nx cx] 25)) (w4.heap.size + 1) ⟨A2, n2, c2⟩ (by simp))
        have L12 : Sh (GRow RowsK ((w4.alloc (.cells #[.slice A2 n2 c2] 25)).alloc (.cells #[.slice Ax nx cx] 25)).drew (.slice (some ⟨w4.heap.size, 0, none⟩) 1 1) [⟨A2, n2, c2⟩]) := ⟨(GRow.lit RowsK_ok w4 ⟨A2, n2, c2⟩).keep ((Below.refl _ _).alloc (Nat.le_refl _) _).drew⟩
        have M12 := Sh.mk (lit (w4.alloc (.cells #[.slice A2 n2 c2] 25)) (w4.heap.size + 1) ⟨Ax, nx, cx⟩ (by simp))
        have M21 : Sh (GRow RowsK ((w4.alloc (.cells #[.slice Ax nx cx] 25)).alloc (.cells #[.slice A2 n2 c2] 25)).drew (.slice (some ⟨w4.heap.size, 0, none⟩) 1 1) [⟨Ax, nx, cx⟩]) := ⟨(GRow.lit RowsK_ok w4 ⟨Ax, nx, cx⟩).keep ((Below.refl _ _).alloc (Nat.le_refl _) _).drew⟩
        have HCL : Sh (∀ k, (Value.slice Ac nc cc).ownBlock = some k → k < w4.heap.size) := ⟨HS5.out.rowc.lt⟩
        have HMX : Sh (∀ k, (Value.slice (some ⟨w4.heap.size + 1, 0, none⟩) 1 1).ownBlock = some k ∨ (Value.slice (some ⟨w4.heap.size, 0, none⟩) 1 1).ownBlock = some k → (Value.slice Ac nc cc).ownBlock ≠ some k) := ⟨fun k hk e => by
          have := HCL.out k e
          simp [Value.ownBlock] at hk
          omega⟩
        clear B1 B2 lit
        refine wp_region_any (by kernel_rfl) ?_
        (try (change wpAny _ _ _ _ _ _ _ (World.drew _)))
        have hS0 : (fun w' : World => w'.cell? ⟨sk, 2, none⟩ = some (.slice Ac nc cc) ∧ w'.cell? ⟨sk, 3, none⟩ = some (.slice Aa na ca) ∧ w'.cell? ⟨bb, 0, none⟩ = some (.slice A2 n2 c2)) w4.drew := ⟨p2, p3, bx⟩
        refine wpAny_of_till (S := fun w' : World => w'.cell? ⟨sk, 2, none⟩ = some (.slice Ac nc cc) ∧ w'.cell? ⟨sk, 3, none⟩ = some (.slice Aa na ca) ∧ w'.cell? ⟨bb, 0, none⟩ = some (.slice A2 n2 c2)) (t := 18) 22 #[false, false, false, false, false, false, false, false, false, false, false, false, false, false, false, false, false, false, false, false, false, false] _ _ ?_
        refine wpTill_takeY (i := 0) (v := ?v0) (some 37) rfl rfl (by kernel_rfl) (by kernel_rfl) (by kernel_rfl) (by kernel_rfl) (fun _ _ _ h => h) (Or.inl ⟨by rfl, ?hy0⟩) hS0 ?rest0
        case hy0 => (intro w; go_simp; (try with_reducible rfl))
        case rest0 =>
        simp only [Act.put, List.setIfInBounds_toArray, List.set_cons_zero, List.set_cons_succ]
        refine wpTill_takeY (i := 1) (v := ?v1) (some 38) rfl rfl (by kernel_rfl) (by kernel_rfl) (by kernel_rfl) (by kernel_rfl) (fun _ _ _ h => h) (Or.inl ⟨by rfl, ?hy1⟩) hS0 ?rest1
        case hy1 => (intro w; go_simp; (try with_reducible rfl))
        case rest1 =>
        simp only [Act.put, List.setIfInBounds_toArray, List.set_cons_zero, List.set_cons_succ]
        refine wpTill_takeY (i := 2) (v := ?v2) (some 39) rfl rfl (by kernel_rfl) (by kernel_rfl) (by kernel_rfl) (by kernel_rfl) (fun _ _ _ h => h) (Or.inl ⟨by rfl, ?hy2⟩) hS0 ?rest2
        case hy2 => (intro w; go_simp; (try with_reducible rfl))
        case rest2 =>
        simp only [Act.put, List.setIfInBounds_toArray, List.set_cons_zero, List.set_cons_succ]
        refine wpTill_takeY (i := 3) (v := ?v3) (some 40) rfl rfl (by kernel_rfl) (by kernel_rfl) (by kernel_rfl) (by kernel_rfl) (fun _ _ _ h => h) (Or.inl ⟨by rfl, ?hy3⟩) hS0 ?rest3
        case hy3 => (intro w; go_simp; (try with_reducible rfl))
        case rest3 =>
        simp only [Act.put, List.setIfInBounds_toArray, List.set_cons_zero, List.set_cons_succ]
        refine wpTill_takeY (i := 4) (v := ?v4) (some 41) rfl rfl (by kernel_rfl) (by kernel_rfl) (by kernel_rfl) (by kernel_rfl) (fun _ _ _ h => h) (Or.inl ⟨by rfl, ?hy4⟩) hS0 ?rest4
        case hy4 => (intro w; go_simp; (try with_reducible rfl))
        case rest4 =>
        simp only [Act.put, List.setIfInBounds_toArray, List.set_cons_zero, List.set_cons_succ]
        refine wpTill_take (i := 5) (v := ?v5) (some 42) rfl rfl (by kernel_rfl) (by kernel_rfl) (by kernel_rfl) (by kernel_rfl) (fun _ _ _ h => h) (Or.inl ⟨by rfl, ?hy5⟩) hS0 ?rest5
        case hy5 => (intro w hSw; (try dsimp only at hSw); go_simp; (try with_reducible rfl))
        case rest5 =>
        simp only [Act.put, List.setIfInBounds_toArray, List.set_cons_zero, List.set_cons_succ]
        refine wpTill_take (i := 6) (v := ?v6) (some 43) rfl rfl (by kernel_rfl) (by kernel_rfl) (by kernel_rfl) (by kernel_rfl) (fun _ _ _ h => h) (Or.inl ⟨by rfl, ?hy6⟩) hS0 ?rest6
        case hy6 => (intro w hSw; (try dsimp only at hSw); go_simp; (try with_reducible rfl))
        case rest6 =>
        simp only [Act.put, List.setIfInBounds_toArray, List.set_cons_zero, List.set_cons_succ]
        refine wpTill_takeY (i := 9) (v := ?v9) (some 46) rfl rfl (by kernel_rfl) (by kernel_rfl) (by kernel_rfl) (by kernel_rfl) (fun _ _ _ h => h) (Or.inl ⟨by rfl, ?hy9⟩) hS0 ?rest9
        case hy9 => (intro w; go_simp; (try with_reducible rfl))
        case rest9 =>
        simp only [Act.put, List.setIfInBounds_toArray, List.set_cons_zero, List.set_cons_succ]
        refine wpTill_takeY (i := 10) (v := ?v10) (some 47) rfl rfl (by kernel_rfl) (by kernel_rfl) (by kernel_rfl) (by kernel_rfl) (fun _ _ _ h => h) (Or.inl ⟨by rfl, ?hy10⟩) hS0 ?rest10
        case hy10 => (intro w; go_simp; (try with_reducible rfl))
        case rest10 =>
        simp only [Act.put, List.setIfInBounds_toArray, List.set_cons_zero, List.set_cons_succ]
        refine wpTill_takeY (i := 11) (v := ?v11) (some 48) rfl rfl (by kernel_rfl) (by kernel_rfl) (by kernel_rfl) (by kernel_rfl) (fun _ _ _ h => h) (Or.inl ⟨by rfl, ?hy11⟩) hS0 ?rest11
        case hy11 => (intro w; go_simp; (try with_reducible rfl))
        case rest11 =>
        simp only [Act.put, List.setIfInBounds_toArray, List.set_cons_zero, List.set_cons_succ]
        refine wpTill_take (i := 12) (v := ?v12) (some 49) rfl rfl (by kernel_rfl) (by kernel_rfl) (by kernel_rfl) (by kernel_rfl) (fun _ _ _ h => h) (Or.inl ⟨by rfl, ?hy12⟩) hS0 ?rest12
        case hy12 => (intro w hSw; (try dsimp only at hSw); go_simp; (try with_reducible rfl))
        case rest12 =>
        simp only [Act.put, List.setIfInBounds_toArray, List.set_cons_zero, List.set_cons_succ]
        refine wpTill_takeY (i := 13) (v := ?v13) (some 50) rfl rfl (by kernel_rfl) (by kernel_rfl) (by kernel_rfl) (by kernel_rfl) (fun _ _ _ h => h) (Or.inl ⟨by rfl, ?hy13⟩) hS0 ?rest13
        case hy13 => (intro w; go_simp; (try with_reducible rfl))
        case rest13 =>
        simp only [Act.put, List.setIfInBounds_toArray, List.set_cons_zero, List.set_cons_succ]
        have HNB : Sh (¬ ((Value.slice Ac nc cc).ownBlock = some bb ∨ (Value.slice Aa na ca).ownBlock = some bb)) := ⟨fun e => by
          rcases e with e | e
          · have := H.out.rowc.lt bb e; have := HZ5.out; omega
          · have := H.out.rowa.lt bb e; have := HZ5.out; omega⟩
        clear hS0
        refine wpTill_two (i := 7) (k := 14) (by kernel_rfl) rfl rfl (by kernel_rfl) (fun K HK => ?_) (fun K HK => ?_)
        · go_simp
          refine HK.out _ _ ⟨p2a _, p3a _, bxa _⟩ ?_
          clear HK
          (try simp only [Act.put, List.setIfInBounds_toArray, List.set_cons_zero, List.set_cons_succ])
          refine wpTill_two (i := 8) (k := 14) (by kernel_rfl) rfl rfl (by kernel_rfl) (fun K HK => ?_) (fun K HK => ?_)
          · refine step_row RowsK_ok rfl (.tmp 42) (.tmp 44) rfl (.slice Ac nc cc) rc [⟨A2, n2, c2⟩] _ rfl rfl (HS5.out.rowc.keep HB1.out) L1.out (by { have := HLC.out; have := HNC.out; simp only [List.length_singleton]; omega }) (by { have := HLC.out; have := HNC.out; simp only [List.length_singleton, RowsK]; omega }) ?_
            intro A9 c9 w9 hI hg hv
            have a9 := sea_app (w4 := w4) HB1.out hg hv
            have B9 : Sh (Blk w9 sk 53 [.pointer (some ⟨fb, 0, none⟩), .int .i64 most, .slice Ac nc cc, .slice Aa na ca]) := ⟨(a9.1.block sk hskl HS5.out.n2.1).trans HS5.out.blk⟩
            have X9 : Sh (Blk w9 bb 25 [.slice A2 n2 c2]) := ⟨(a9.1.block bb hbxl (fun e => HNB.out (.inl e))).trans HX5.out⟩
            have R9 := Sh.mk (HS5.out.rowa.step (w' := w9) (fun k hk => a9.1.block k (HS5.out.rowa.lt k hk) (fun e => HS5.out.n4 k e hk)))
            have I9 := Sh.mk hI
            have G9 := Sh.mk hg
            have A9F := Sh.mk a9
            clear hI hg hv a9
            refine HK.out _ _ ⟨B9.out.cell 2, B9.out.cell 3, X9.out.cell 0⟩ ?_
            clear HK
            simp only [Act.put, List.setIfInBounds_toArray, List.set_cons_zero, List.set_cons_succ]
            refine wpTill_one (i := 14) (by kernel_rfl) rfl (by kernel_rfl) (fun K HK => ?_)
            go_simp
            refine HK.out _ _ ⟨((B9.out.alloc _).cell 2), ((B9.out.alloc _).cell 3), ((X9.out.alloc _).cell 0)⟩ ?_
            clear HK
            (try simp only [Act.put, List.setIfInBounds_toArray, List.set_cons_zero, List.set_cons_succ])
            refine wpTill_one (i := 15) (by kernel_rfl) rfl (by kernel_rfl) (fun K HK => ?_)
            refine step_row RowsK_ok rfl (.tmp 49) (.tmp 51) rfl (.slice Aa na ca) ra [⟨Ax, nx, cx⟩] _ rfl rfl (R9.out.keep ((Below.refl _ _).alloc (Nat.le_refl _) _)) (GRow.lit RowsK_ok w9 ⟨Ax, nx, cx⟩) (by { have := HLC.out; have := HNA.out; simp only [List.length_singleton]; omega }) (by { have := HLC.out; have := HNA.out; simp only [List.length_singleton, RowsK]; omega }) ?_
            intro A10 c10 w10 hI hg hv
            have a10 := sea_app (w4 := w9) ((Below.refl _ _).alloc (Nat.le_refl _) _) hg hv
            have B10 : Sh (Blk w10 sk 53 [.pointer (some ⟨fb, 0, none⟩), .int .i64 most, .slice Ac nc cc, .slice Aa na ca]) := ⟨(a10.1.block sk B9.out.lt HS5.out.n3.1).trans B9.out⟩
            have X10 : Sh (Blk w10 bb 25 [.slice A2 n2 c2]) := ⟨(a10.1.block bb X9.out.lt (fun e => HNB.out (.inr e))).trans X9.out⟩
            have I10 := Sh.mk hI
            have A10F := Sh.mk a10
            clear hI hg hv a10
            refine HK.out _ _ ⟨B10.out.cell 2, B10.out.cell 3, X10.out.cell 0⟩ ?_
            clear HK
            simp only [Act.put, List.setIfInBounds_toArray, List.set_cons_zero, List.set_cons_succ]
            refine wpTill_takeY (i := 16) (v := ?u16_1) (some 53) rfl rfl (by kernel_rfl) (by kernel_rfl) (by kernel_rfl) (by kernel_rfl) (fun _ _ _ h => h) (Or.inl ⟨by rfl, ?y16_1⟩) ⟨B10.out.cell 2, B10.out.cell 3, X10.out.cell 0⟩ ?r16_1
            case y16_1 => (intro w; go_simp; (try with_reducible rfl))
            case r16_1 =>
            simp only [Act.put, List.setIfInBounds_toArray, List.set_cons_zero, List.set_cons_succ]
            refine wpTill_takeY (i := 17) (v := ?u17_1) (some 54) rfl rfl (by kernel_rfl) (by kernel_rfl) (by kernel_rfl) (by kernel_rfl) (fun _ _ _ h => h) (Or.inl ⟨by rfl, ?y17_1⟩) ⟨B10.out.cell 2, B10.out.cell 3, X10.out.cell 0⟩ ?r17_1
            case y17_1 => (intro w; go_simp; (try with_reducible rfl))
            case r17_1 =>
            simp only [Act.put, List.setIfInBounds_toArray, List.set_cons_zero, List.set_cons_succ]
            have d2 := B10.out.cell 2
            have d3 := B10.out.cell 3
            have f2 := B10.out.frozen 2
            have f3 := B10.out.frozen 3
            simp only [List.getElem?_cons_zero, List.getElem?_cons_succ] at d2 d3
            refine wpTill_last (by kernel_rfl) rfl (fun K HK => ?_)
            go_simp
            refine HK.out _ _ ?_
            clear HK
            (try simp only [Act.put, List.setIfInBounds_toArray, List.set_cons_zero, List.set_cons_succ])
            refine any_take (i := 19) (v := ?u19_1) (some 55) rfl rfl (by kernel_rfl) (by kernel_rfl) (by kernel_rfl) (fun _ _ _ h => h) (Or.inl ⟨by rfl, ?y19_1⟩) ?r19_1
            case y19_1 => (intro w; go_simp; (try with_reducible rfl))
            case r19_1 =>
            simp only [Act.put, List.setIfInBounds_toArray, List.set_cons_zero, List.set_cons_succ]
            refine any_take (i := 20) (v := ?u20_1) (some 56) rfl rfl (by kernel_rfl) (by kernel_rfl) (by kernel_rfl) (fun _ _ _ h => h) (Or.inl ⟨by rfl, ?y20_1⟩) ?r20_1
            case y20_1 => (intro w; go_simp; (try with_reducible rfl))
            case r20_1 =>
            simp only [Act.put, List.setIfInBounds_toArray, List.set_cons_zero, List.set_cons_succ]
            refine any_one (i := 21) (by kernel_rfl) rfl (fun K HK => ?_)
            go_simp
            refine HK.out _ _ ?_
            clear HK
            refine wpAny_done (by kernel_rfl) ?_ _
            refine bodyPost_end (results_none rfl _ _ _) rfl ?_
            have e9 : rc.length + [(⟨A2, n2, c2⟩ : Sl)].length = rc.length + 1 := rfl
            have e10 : ra.length + [(⟨Ax, nx, cx⟩ : Sl)].length = ra.length + 1 := rfl
            have i9 := I9.out
            have i10 := I10.out
            have o9 := A9F.out.2.1
            have o10 := A10F.out.2.1
            rw [e9] at i9 o9
            rw [e10] at i10 o10
            have g := HS5.out.grow (x1 := ⟨A2, n2, c2⟩) (x2 := ⟨Ax, nx, cx⟩) (c := c) (xs := xs) A9F.out.1 i9 o9 A10F.out.1 i10 o10 HR5.out (fun k hk e => by have := HR2.out k hk; have := H.out.lt k e; omega) HXX5.out HXD.out
            refine ⟨rfl, _, _, _, _, (by rw [HS4.out]; exact g.1), HC5.out.trans g.2.1 (fun k hk _ => .inl hk), fun k hk => (g.2.2 k hk).imp id (fun e => by have := HC5.out.size; omega), List.prefix_append _ _, List.prefix_append _ _⟩
          · go_simp
            refine HK.out _ _ ⟨p2b _ _, p3b _ _, bxb _ _⟩ ?_
            clear HK
            (try simp only [Act.put, List.setIfInBounds_toArray, List.set_cons_zero, List.set_cons_succ])
            refine wpTill_one (i := 8) (by kernel_rfl) rfl (by kernel_rfl) (fun K HK => ?_)
            refine step_row RowsK_ok rfl (.tmp 42) (.tmp 44) rfl (.slice Ac nc cc) rc [⟨A2, n2, c2⟩] _ rfl rfl (HS5.out.rowc.keep HB12.out) L12.out (by { have := HLC.out; have := HNC.out; simp only [List.length_singleton]; omega }) (by { have := HLC.out; have := HNC.out; simp only [List.length_singleton, RowsK]; omega }) ?_
            intro A9 c9 w9 hI hg hv
            have a9 := sea_app (w4 := w4) HB12.out hg hv
            have B9 : Sh (Blk w9 sk 53 [.pointer (some ⟨fb, 0, none⟩), .int .i64 most, .slice Ac nc cc, .slice Aa na ca]) := ⟨(a9.1.block sk hskl HS5.out.n2.1).trans HS5.out.blk⟩
            have X9 : Sh (Blk w9 bb 25 [.slice A2 n2 c2]) := ⟨(a9.1.block bb hbxl (fun e => HNB.out (.inl e))).trans HX5.out⟩
            have R9 := Sh.mk (HS5.out.rowa.step (w' := w9) (fun k hk => a9.1.block k (HS5.out.rowa.lt k hk) (fun e => HS5.out.n4 k e hk)))
            have I9 := Sh.mk hI
            have G9 := Sh.mk hg
            have A9F := Sh.mk a9
            clear hI hg hv a9
            refine HK.out _ _ ⟨B9.out.cell 2, B9.out.cell 3, X9.out.cell 0⟩ ?_
            clear HK
            simp only [Act.put, List.setIfInBounds_toArray, List.set_cons_zero, List.set_cons_succ]
            refine wpTill_one (i := 15) (by kernel_rfl) rfl (by kernel_rfl) (fun K HK => ?_)
            refine step_row RowsK_ok rfl (.tmp 49) (.tmp 51) rfl (.slice Aa na ca) ra [⟨Ax, nx, cx⟩] _ rfl rfl R9.out (M12.out.grown G9.out (fun k hk e => HMX.out k (.inl hk) e)) (by { have := HLC.out; have := HNA.out; simp only [List.length_singleton]; omega }) (by { have := HLC.out; have := HNA.out; simp only [List.length_singleton, RowsK]; omega }) ?_
            intro A10 c10 w10 hI hg hv
            have a10 := sea_app (w4 := w9) (Below.refl _ _) hg hv
            have B10 : Sh (Blk w10 sk 53 [.pointer (some ⟨fb, 0, none⟩), .int .i64 most, .slice Ac nc cc, .slice Aa na ca]) := ⟨(a10.1.block sk B9.out.lt HS5.out.n3.1).trans B9.out⟩
            have X10 : Sh (Blk w10 bb 25 [.slice A2 n2 c2]) := ⟨(a10.1.block bb X9.out.lt (fun e => HNB.out (.inr e))).trans X9.out⟩
            have I10 := Sh.mk hI
            have A10F := Sh.mk a10
            clear hI hg hv a10
            refine HK.out _ _ ⟨B10.out.cell 2, B10.out.cell 3, X10.out.cell 0⟩ ?_
            clear HK
            simp only [Act.put, List.setIfInBounds_toArray, List.set_cons_zero, List.set_cons_succ]
            refine wpTill_takeY (i := 16) (v := ?u16_2) (some 53) rfl rfl (by kernel_rfl) (by kernel_rfl) (by kernel_rfl) (by kernel_rfl) (fun _ _ _ h => h) (Or.inl ⟨by rfl, ?y16_2⟩) ⟨B10.out.cell 2, B10.out.cell 3, X10.out.cell 0⟩ ?r16_2
            case y16_2 => (intro w; go_simp; (try with_reducible rfl))
            case r16_2 =>
            simp only [Act.put, List.setIfInBounds_toArray, List.set_cons_zero, List.set_cons_succ]
            refine wpTill_takeY (i := 17) (v := ?u17_2) (some 54) rfl rfl (by kernel_rfl) (by kernel_rfl) (by kernel_rfl) (by kernel_rfl) (fun _ _ _ h => h) (Or.inl ⟨by rfl, ?y17_2⟩) ⟨B10.out.cell 2, B10.out.cell 3, X10.out.cell 0⟩ ?r17_2
            case y17_2 => (intro w; go_simp; (try with_reducible rfl))
            case r17_2 =>
            simp only [Act.put, List.setIfInBounds_toArray, List.set_cons_zero, List.set_cons_succ]
            have d2 := B10.out.cell 2
            have d3 := B10.out.cell 3
            have f2 := B10.out.frozen 2
            have f3 := B10.out.frozen 3
            simp only [List.getElem?_cons_zero, List.getElem?_cons_succ] at d2 d3
            refine wpTill_last (by kernel_rfl) rfl (fun K HK => ?_)
            go_simp
            refine HK.out _ _ ?_
            clear HK
            (try simp only [Act.put, List.setIfInBounds_toArray, List.set_cons_zero, List.set_cons_succ])
            refine any_take (i := 19) (v := ?u19_2) (some 55) rfl rfl (by kernel_rfl) (by kernel_rfl) (by kernel_rfl) (fun _ _ _ h => h) (Or.inl ⟨by rfl, ?y19_2⟩) ?r19_2
            case y19_2 => (intro w; go_simp; (try with_reducible rfl))
            case r19_2 =>
            simp only [Act.put, List.setIfInBounds_toArray, List.set_cons_zero, List.set_cons_succ]
            refine any_take (i := 20) (v := ?u20_2) (some 56) rfl rfl (by kernel_rfl) (by kernel_rfl) (by kernel_rfl) (fun _ _ _ h => h) (Or.inl ⟨by rfl, ?y20_2⟩) ?r20_2
            case y20_2 => (intro w; go_simp; (try with_reducible rfl))
            case r20_2 =>
            simp only [Act.put, List.setIfInBounds_toArray, List.set_cons_zero, List.set_cons_succ]
            refine any_one (i := 21) (by kernel_rfl) rfl (fun K HK => ?_)
            go_simp
            refine HK.out _ _ ?_
            clear HK
            refine wpAny_done (by kernel_rfl) ?_ _
            refine bodyPost_end (results_none rfl _ _ _) rfl ?_
            have e9 : rc.length + [(⟨A2, n2, c2⟩ : Sl)].length = rc.length + 1 := rfl
            have e10 : ra.length + [(⟨Ax, nx, cx⟩ : Sl)].length = ra.length + 1 := rfl
            have i9 := I9.out
            have i10 := I10.out
            have o9 := A9F.out.2.1
            have o10 := A10F.out.2.1
            rw [e9] at i9 o9
            rw [e10] at i10 o10
            have g := HS5.out.grow (x1 := ⟨A2, n2, c2⟩) (x2 := ⟨Ax, nx, cx⟩) (c := c) (xs := xs) A9F.out.1 i9 o9 A10F.out.1 i10 o10 HR5.out (fun k hk e => by have := HR2.out k hk; have := H.out.lt k e; omega) HXX5.out HXD.out
            refine ⟨rfl, _, _, _, _, (by rw [HS4.out]; exact g.1), HC5.out.trans g.2.1 (fun k hk _ => .inl hk), fun k hk => (g.2.2 k hk).imp id (fun e => by have := HC5.out.size; omega), List.prefix_append _ _, List.prefix_append _ _⟩
        · go_simp
          refine HK.out _ _ ⟨p2a _, p3a _, bxa _⟩ ?_
          clear HK
          (try simp only [Act.put, List.setIfInBounds_toArray, List.set_cons_zero, List.set_cons_succ])
          refine wpTill_one (i := 7) (by kernel_rfl) rfl (by kernel_rfl) (fun K HK => ?_)
          go_simp
          refine HK.out _ _ ⟨p2b _ _, p3b _ _, bxb _ _⟩ ?_
          clear HK
          (try simp only [Act.put, List.setIfInBounds_toArray, List.set_cons_zero, List.set_cons_succ])
          refine wpTill_one (i := 8) (by kernel_rfl) rfl (by kernel_rfl) (fun K HK => ?_)
          refine step_row RowsK_ok rfl (.tmp 42) (.tmp 44) rfl (.slice Ac nc cc) rc [⟨A2, n2, c2⟩] _ rfl rfl (HS5.out.rowc.keep HB21.out) L21.out (by { have := HLC.out; have := HNC.out; simp only [List.length_singleton]; omega }) (by { have := HLC.out; have := HNC.out; simp only [List.length_singleton, RowsK]; omega }) ?_
          intro A9 c9 w9 hI hg hv
          have a9 := sea_app (w4 := w4) HB21.out hg hv
          have B9 : Sh (Blk w9 sk 53 [.pointer (some ⟨fb, 0, none⟩), .int .i64 most, .slice Ac nc cc, .slice Aa na ca]) := ⟨(a9.1.block sk hskl HS5.out.n2.1).trans HS5.out.blk⟩
          have X9 : Sh (Blk w9 bb 25 [.slice A2 n2 c2]) := ⟨(a9.1.block bb hbxl (fun e => HNB.out (.inl e))).trans HX5.out⟩
          have R9 := Sh.mk (HS5.out.rowa.step (w' := w9) (fun k hk => a9.1.block k (HS5.out.rowa.lt k hk) (fun e => HS5.out.n4 k e hk)))
          have I9 := Sh.mk hI
          have G9 := Sh.mk hg
          have A9F := Sh.mk a9
          clear hI hg hv a9
          refine HK.out _ _ ⟨B9.out.cell 2, B9.out.cell 3, X9.out.cell 0⟩ ?_
          clear HK
          simp only [Act.put, List.setIfInBounds_toArray, List.set_cons_zero, List.set_cons_succ]
          refine wpTill_one (i := 15) (by kernel_rfl) rfl (by kernel_rfl) (fun K HK => ?_)
          refine step_row RowsK_ok rfl (.tmp 49) (.tmp 51) rfl (.slice Aa na ca) ra [⟨Ax, nx, cx⟩] _ rfl rfl R9.out (M21.out.grown G9.out (fun k hk e => HMX.out k (.inr hk) e)) (by { have := HLC.out; have := HNA.out; simp only [List.length_singleton]; omega }) (by { have := HLC.out; have := HNA.out; simp only [List.length_singleton, RowsK]; omega }) ?_
          intro A10 c10 w10 hI hg hv
          have a10 := sea_app (w4 := w9) (Below.refl _ _) hg hv
          have B10 : Sh (Blk w10 sk 53 [.pointer (some ⟨fb, 0, none⟩), .int .i64 most, .slice Ac nc cc, .slice Aa na ca]) := ⟨(a10.1.block sk B9.out.lt HS5.out.n3.1).trans B9.out⟩
          have X10 : Sh (Blk w10 bb 25 [.slice A2 n2 c2]) := ⟨(a10.1.block bb X9.out.lt (fun e => HNB.out (.inr e))).trans X9.out⟩
          have I10 := Sh.mk hI
          have A10F := Sh.mk a10
          clear hI hg hv a10
          refine HK.out _ _ ⟨B10.out.cell 2, B10.out.cell 3, X10.out.cell 0⟩ ?_
          clear HK
          simp only [Act.put, List.setIfInBounds_toArray, List.set_cons_zero, List.set_cons_succ]
          refine wpTill_takeY (i := 16) (v := ?u16_3) (some 53) rfl rfl (by kernel_rfl) (by kernel_rfl) (by kernel_rfl) (by kernel_rfl) (fun _ _ _ h => h) (Or.inl ⟨by rfl, ?y16_3⟩) ⟨B10.out.cell 2, B10.out.cell 3, X10.out.cell 0⟩ ?r16_3
          case y16_3 => (intro w; go_simp; (try with_reducible rfl))
          case r16_3 =>
          simp only [Act.put, List.setIfInBounds_toArray, List.set_cons_zero, List.set_cons_succ]
          refine wpTill_takeY (i := 17) (v := ?u17_3) (some 54) rfl rfl (by kernel_rfl) (by kernel_rfl) (by kernel_rfl) (by kernel_rfl) (fun _ _ _ h => h) (Or.inl ⟨by rfl, ?y17_3⟩) ⟨B10.out.cell 2, B10.out.cell 3, X10.out.cell 0⟩ ?r17_3
          case y17_3 => (intro w; go_simp; (try with_reducible rfl))
          case r17_3 =>
          simp only [Act.put, List.setIfInBounds_toArray, List.set_cons_zero, List.set_cons_succ]
          have d2 := B10.out.cell 2
          have d3 := B10.out.cell 3
          have f2 := B10.out.frozen 2
          have f3 := B10.out.frozen 3
          simp only [List.getElem?_cons_zero, List.getElem?_cons_succ] at d2 d3
          refine wpTill_last (by kernel_rfl) rfl (fun K HK => ?_)
          go_simp
          refine HK.out _ _ ?_
          clear HK
          (try simp only [Act.put, List.setIfInBounds_toArray, List.set_cons_zero, List.set_cons_succ])
          refine any_take (i := 19) (v := ?u19_3) (some 55) rfl rfl (by kernel_rfl) (by kernel_rfl) (by kernel_rfl) (fun _ _ _ h => h) (Or.inl ⟨by rfl, ?y19_3⟩) ?r19_3
          case y19_3 => (intro w; go_simp; (try with_reducible rfl))
          case r19_3 =>
          simp only [Act.put, List.setIfInBounds_toArray, List.set_cons_zero, List.set_cons_succ]
          refine any_take (i := 20) (v := ?u20_3) (some 56) rfl rfl (by kernel_rfl) (by kernel_rfl) (by kernel_rfl) (fun _ _ _ h => h) (Or.inl ⟨by rfl, ?y20_3⟩) ?r20_3
          case y20_3 => (intro w; go_simp; (try with_reducible rfl))
          case r20_3 =>
          simp only [Act.put, List.setIfInBounds_toArray, List.set_cons_zero, List.set_cons_succ]
          refine any_one (i := 21) (by kernel_rfl) rfl (fun K HK => ?_)
          go_simp
          refine HK.out _ _ ?_
          clear HK
          refine wpAny_done (by kernel_rfl) ?_ _
          refine bodyPost_end (results_none rfl _ _ _) rfl ?_
          have e9 : rc.length + [(⟨A2, n2, c2⟩ : Sl)].length = rc.length + 1 := rfl
          have e10 : ra.length + [(⟨Ax, nx, cx⟩ : Sl)].length = ra.length + 1 := rfl
          have i9 := I9.out
          have i10 := I10.out
          have o9 := A9F.out.2.1
          have o10 := A10F.out.2.1
          rw [e9] at i9 o9
          rw [e10] at i10 o10
          have g := HS5.out.grow (x1 := ⟨A2, n2, c2⟩) (x2 := ⟨Ax, nx, cx⟩) (c := c) (xs := xs) A9F.out.1 i9 o9 A10F.out.1 i10 o10 HR5.out (fun k hk e => by have := HR2.out k hk; have := H.out.lt k e; omega) HXX5.out HXD.out
          refine ⟨rfl, _, _, _, _, (by rw [HS4.out]; exact g.1), HC5.out.trans g.2.1 (fun k hk _ => .inl hk), fun k hk => (g.2.2 k hk).imp id (fun e => by have := HC5.out.size; omega), List.prefix_append _ _, List.prefix_append _ _⟩
end Go.Proofs.YtdppkdjgadiinaaGreat
