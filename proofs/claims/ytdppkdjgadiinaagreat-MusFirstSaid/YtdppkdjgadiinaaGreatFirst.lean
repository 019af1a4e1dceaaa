/- The law of some cores: each is like no other, and none has all of another's. -/
import Derived.Test.YtdppkdjgadiinaaGreatAwake
set_option linter.unusedVariables false
set_option linter.unusedSimpArgs false
namespace Go.Proofs.YtdppkdjgadiinaaGreat
open Go.RowKit

theorem common_nil (b : List Int) : common [] b = 0 := rfl
theorem common_take_succ {a b : List Int} {j : Nat} {x : Int} (h : a[j]? = some x) : common (a.take (j + 1)) b = common (a.take j) b + b.countP (x == ·) := by
  unfold common
  rw [List.take_add_one, h, List.map_append, List.sum_append]
  simp
theorem countP_take_succ {b : List Int} {l : Nat} {x y : Int} (h : b[l]? = some y) : (b.take (l + 1)).countP (x == ·) = (b.take l).countP (x == ·) + (if x == y then 1 else 0) := by
  rw [List.take_add_one, h, List.countP_append]
  simp [List.countP_cons]
/-- Rows of numbers, some cores. -/
structure Lists (w : World) (v : Value) (rc : List Sl) (cs : List (List Int)) : Prop where
  row : GRow RowsK w v rc
  ok : RowsOk w (fun _ => False) rc cs
theorem Lists.keep {w w' : World} {v : Value} {rc : List Sl} {cs : List (List Int)} (h : Lists w v rc cs) (hb : Below w.heap.size w w') : Lists w' v rc cs :=
  ⟨h.row.keep hb, h.ok.step fun k hk hd => ⟨hb.block k hk, hd⟩⟩
theorem Lists.at {w : World} {A : Option Addr} {n c : Nat} {rc : List Sl} {cs : List (List Int)} (h : Lists w (.slice A n c) rc cs) {i : Nat} (hi : i < n) : ∃ g ad m k xs, A = some ⟨g, 0, none⟩ ∧ w.cell? ⟨g, i, none⟩ = some (.slice ad m k) ∧ cs[i]? = some xs ∧ IRow w (.slice ad m k) xs ∧ m = xs.length := by
  obtain ⟨A', c', e⟩ := h.row.shape
  simp only [Value.slice.injEq] at e
  obtain ⟨x, hx⟩ : ∃ x, rc[i]? = some x := ⟨_, List.getElem?_eq_getElem (by omega)⟩
  obtain ⟨xs, hxs⟩ : ∃ xs, cs[i]? = some xs := ⟨_, List.getElem?_eq_getElem (by have := h.ok.1; omega)⟩
  obtain ⟨g, k, e2, hc⟩ := RowsK.cells h.row hx
  simp only [Value.slice.injEq] at e2
  have h1 := (h.ok.2 i x xs hx hxs).1
  obtain ⟨A1, c1, e3⟩ := h1.shape
  simp only [Value.slice.injEq] at e3
  exact ⟨g, x.A, x.n, x.c, xs, e2.1, hc, hxs, h1, e3.2.1⟩
theorem Lists.cell {w : World} {g n c : Nat} {rc : List Sl} {cs : List (List Int)} (h : Lists w (.slice (some ⟨g, 0, none⟩) n c) rc cs) {i : Nat} (hi : i < n) : ∃ ad m k xs, (∀ w' : World, Below w.heap.size w w' → w'.cell? ⟨g, i, none⟩ = some (.slice ad m k)) ∧ cs[i]? = some xs ∧ IRow w (.slice ad m k) xs ∧ m = xs.length := by
  obtain ⟨g', ad, m, k, xs, e, h1, h2, h3, h4⟩ := h.at hi
  simp only [Option.some.injEq, Addr.mk.injEq, and_true] at e
  subst e
  exact ⟨ad, m, k, xs, fun w' hb => (hb.cell (h.row.lt g (by simp [Value.ownBlock]))).trans h1, h2, h3, h4⟩
theorem IRow.here {w : World} {A : Option Addr} {n c : Nat} {xs : List Int} (h : IRow w (.slice A n c) xs) {i : Nat} (hi : i < n) : ∃ g x, A = some ⟨g, 0, none⟩ ∧ xs[i]? = some x ∧ w.cell? ⟨g, i, none⟩ = some (.int .i64 x) := by
  obtain ⟨A1, c1, e3⟩ := h.shape
  simp only [Value.slice.injEq] at e3
  obtain ⟨x, hx⟩ : ∃ x, xs[i]? = some x := ⟨_, List.getElem?_eq_getElem (by omega)⟩
  obtain ⟨g, k, e, hc, _⟩ := h.at hx
  simp only [Value.slice.injEq] at e
  exact ⟨g, x, e.1, hx, hc⟩
set_option maxRecDepth 100000 in
set_option maxHeartbeats 2000000 in
theorem MusFirst_calls (w : World) (S : Nat → Prop) (es : List Eqn) (v : Value) (h : EqsAt w S es v) :
    Calls Tryz.prog 3 #[v] w fun e w' => e = .returned (.bool true) ∧ Below w.heap.size w w' := by
  obtain ⟨A, ca, rfl, hlen⟩ := h.shape
  obtain ⟨n, hn⟩ : ∃ n, n = es.length := ⟨_, rfl⟩
  rw [← hn] at h hlen ⊢
  have HN := Sh.mk hn
  have H := Sh.mk h
  have HGR := Sh.mk (Great_calls w S es _ h)
  clear h hn
  go_enter Tryz.func3, Tryz.ntmps3
  go_wp2_with (first | (go_at_call 5; refine HGR.out.mono ?_; rintro e w1 ⟨b, rfl, h1, hb1⟩; have HB1 := Sh.mk hb1; have H1 := Sh.mk h1; clear hb1 h1; cases b) | (go_at_call 6; refine (awake_calls _).mono ?_; rintro e w9 ⟨rfl, hb9⟩; have HB9 := Sh.mk hb9; clear hb9) | fail)
  · go_ret
    exact ⟨rfl, below_then HB1.out HB9.out⟩
  rotate_left
  · go_ret
    exact ⟨rfl, below_then HB1.out HB9.out⟩
  have hn10 : n ≤ 10 := by omega
  have HN10 := Sh.mk hn10
  have HSM := Sh.mk (H1.out trivial)
  have HE1 := Sh.mk (H.out.below HB1.out)
  have HC := Sh.mk (Core_calls w1 S es (satP es) _ HE1.out (satP_is es) (by have := HN.out; omega) (by have := HSM.out.2; omega))
  have HCS := Sh.mk (fun w2 (hb : Below w1.heap.size w1 w2) => Cores_calls w2 S es (satP es) _ 6 (HE1.out.below hb) (satP_is es) (by have := HN.out; omega) (by have := HSM.out.2; omega) (by omega))
  have HZ : Sh ((coreP es (satP es)).2 = 0 → es.all Eqn.right = true ∧ satP es (nums es.length) = false ∧ (coreP es (satP es)).1 = reduceP (satP es) (nums es.length) (nums es.length)) := ⟨by
    unfold coreP
    cases hr : es.all Eqn.right with
    | false => simp
    | true =>
      cases hb : satP es (nums es.length) with
      | true => simp
      | false => simp⟩
  obtain ⟨cp, hcp⟩ : ∃ cp, cp = coreP es (satP es) := ⟨_, rfl⟩
  unfold CoresPost at HCS
  rw [← hcp] at HC HZ HCS
  obtain ⟨cv, cc⟩ := cp
  simp only at HC HZ HCS
  clear hcp HGR H1 H hn10
  go_upto_region 4 with (first | (go_at_call 7; refine HC.out.mono ?_; rintro e w2 ⟨v2, rfl, i1, i2, i3⟩; have I1 := Sh.mk i1; have I3 := Sh.mk i3; clear i1 i2 i3))
  clear HC
  go_upto_region 5 with (first | (go_at_call 8; refine (HCS.out w2 I3.out).mono ?_; rintro e w3 (⟨h1, rfl, hb3⟩ | ⟨h1, v3, rc, s, hf, rfl, hg, ho, hb3⟩)))
  · have hc0 : (cc == 0) = false := by simpa using h1
    have hcn : (cc != 0) = true := by simpa using h1
    have HB3 := Sh.mk (below_then I3.out hb3)
    clear h1 hb3
    go_wp2_with (first | (go_at_call 6; refine (awake_calls _).mono ?_; rintro e w9 ⟨rfl, hb9⟩; have HB9 := Sh.mk hb9; clear hb9))
    go_ret
    exact ⟨rfl, below_then HB1.out (below_then HB3.out HB9.out)⟩
  · subst h1
    obtain ⟨hr, hbf, hcv⟩ := HZ.out rfl
    have hdn := satP_down hr
    have HCO := Sh.mk (cores_ok hdn hf)
    have HDN := Sh.mk hdn
    have hfirst := hf.first (by omega) hbf
    rw [← hcv] at hfirst
    have HFS := Sh.mk hfirst
    have HLS := Sh.mk (Lists.mk hg ho)
    obtain ⟨A3, c3, rfl⟩ := hg.shape
    have hlc := ho.1
    have hmo := hf.inv.most
    obtain ⟨m, hm⟩ : ∃ m, m = rc.length := ⟨_, rfl⟩
    rw [← hm] at HLS hlc ⊢
    have hm6 : m ≤ 6 := by omega
    have hm0 : 0 < m := by have := (List.getElem?_eq_some_iff.1 hfirst).1; omega
    have HB3 := Sh.mk (below_then I3.out hb3)
    have HI3 := Sh.mk (I1.out.keep hb3)
    clear hr hbf hcv hdn hfirst hg ho hlc hmo hm hf hb3 HCS HZ I1 I3 HE1 HSM
    obtain ⟨g, a0, m0, k0, x0, rfl, t0, hx0, hr0, hm0'⟩ := HLS.out.at hm0
    have hx0' : x0 = cv := by have := HFS.out; rw [hx0] at this; simpa using this
    subst hx0'
    have HIN := Sh.mk (Ints_calls w3 _ _ x0 x0 hr0 HI3.out)
    have hg6 : decide ((m : Int) > 6) = false := by simp; omega
    have hne : ((m : Int) == 0) = false := by simp; omega
    clear hx0 hr0 hm0' HI3 HFS
    go_upto_region 9 with (first | (go_at_call 9; refine HIN.out.mono ?_; simp only [decide_true]; rintro e w4 ⟨rfl, hb4⟩; have HB4 := Sh.mk hb4; clear hb4))
    clear HIN t0
    have HL4 := Sh.mk (HLS.out.keep HB4.out)
    have HB := Sh.mk (below_then HB1.out (below_then HB3.out HB4.out))
    clear HLS HB1 HB3 HB4
    obtain ⟨cs, hcs⟩ : ∃ cs, cs = s.cores := ⟨_, rfl⟩
    rw [← hcs] at HCO HL4
    clear hcs
    go_wp2
    go_loopw [7] (fun v7 wr => ∃ i : Nat, v7 = .int .i64 i ∧ i ≤ m ∧ Sh (Below w4.heap.size w4 wr)) (fun v7 _ => m - (intOf v7).toNat)
    case atStart => exact ⟨0, rfl, Nat.zero_le _, ⟨Below.refl _ _⟩⟩
    case round =>
      obtain ⟨i, rfl, hi, HR⟩ := hrel
      by_cases hlt : i < m
      · go_wp2
        go_loopw [8] (fun v8 wr => ∃ k : Nat, v8 = .int .i64 k ∧ k ≤ m ∧ Sh (Below w4.heap.size w4 wr)) (fun v8 _ => m - (intOf v8).toNat)
        case atStart => exact ⟨0, rfl, Nat.zero_le _, HR⟩
        case round =>
          clear HR
          obtain ⟨k, rfl, hk, HR⟩ := hrel
          by_cases hlk : k < m
          · obtain ⟨ai, mi, ki, a, ta, ha, hra, hmi⟩ := HL4.out.cell hlt
            obtain ⟨bi, mk, kk, b, tb, hb, hrb, hmk⟩ := HL4.out.cell hlk
            have HTA := Sh.mk ta
            have HTB := Sh.mk tb
            have HRA := Sh.mk hra
            have HRB := Sh.mk hrb
            have HA := Sh.mk ha
            have HBB := Sh.mk hb
            have la := HCO.out.least a (List.mem_of_getElem? ha)
            have lb := HCO.out.least b (List.mem_of_getElem? hb)
            have hmi10 : mi ≤ 10 := by have := la.sub.length_le; rw [nums_len] at this; have := HN.out; omega
            have hmk10 : mk ≤ 10 := by have := lb.sub.length_le; rw [nums_len] at this; have := HN.out; omega
            have HNB := Sh.mk (lb.sub.nodup (nums_nodup _))
            have HMI := Sh.mk hmi
            have HMK := Sh.mk hmk
            clear ta tb hra hrb ha hb la lb hmi hmk
            go_wp2
            go_loopw [9, 10] (fun v9 v10 wr => ∃ q j : Nat, v9 = .int .i64 q ∧ v10 = .int .i64 j ∧ j ≤ mi ∧ q ≤ j ∧ Sh (q = common (a.take j) b) ∧ Sh (Below w4.heap.size w4 wr)) (fun _ v10 _ => mi - (intOf v10).toNat)
            case atStart => exact ⟨0, 0, rfl, rfl, Nat.zero_le _, Nat.le_refl _, ⟨rfl⟩, HR⟩
            case round =>
              clear HR
              obtain ⟨q, j, rfl, rfl, hj, hq, HQ, HR⟩ := hrel
              have t1 := HTA.out _ HR.out
              by_cases hlj : j < mi
              · obtain ⟨ga, x, rfl, hx, tx⟩ := HRA.out.here hlj
                have HX := Sh.mk hx
                have HGA : Sh (ga < w4.heap.size) := ⟨HRA.out.lt ga (by simp [Value.ownBlock])⟩
                have HTX := Sh.mk tx
                have HTK := Sh.mk (common_take_succ (b := b) hx)
                clear hx tx
                go_wp2
                go_loopw [9, 11] (fun v9 v11 wr => ∃ q l : Nat, v9 = .int .i64 q ∧ v11 = .int .i64 l ∧ l ≤ mk ∧ q ≤ j + 1 ∧ Sh (q = common (a.take j) b + (b.take l).countP (x == ·)) ∧ Sh (Below w4.heap.size w4 wr)) (fun _ v11 _ => mk - (intOf v11).toNat)
                case atStart => exact ⟨q, 0, rfl, rfl, Nat.zero_le _, by omega, ⟨by rw [HQ.out]; simp⟩, HR⟩
                case round =>
                  clear HR HQ t1 hq
                  obtain ⟨q, l, rfl, rfl, hl, hq, HQ, HR⟩ := hrel
                  have t1 := HTA.out _ HR.out
                  have t2 := HTB.out _ HR.out
                  by_cases hll : l < mk
                  · obtain ⟨gb, y, rfl, hy, ty⟩ := HRB.out.here hll
                    have hgb : gb < w4.heap.size := HRB.out.lt gb (by simp [Value.ownBlock])
                    have tx := (HR.out.cell (p := ⟨ga, j, none⟩) HGA.out).trans HTX.out
                    have ty := (HR.out.cell (p := ⟨gb, l, none⟩) hgb).trans ty
                    have HTL := Sh.mk (countP_take_succ (x := x) hy)
                    have HQ1 : Sh (common (a.take j) b + (b.take (l + 1)).countP (x == ·) ≤ j + 1) := ⟨by
                      have h1 := common_le HNB.out (a.take j)
                      have h2 := countP_le (HNB.out.sublist (List.take_sublist (l + 1) b)) x
                      have h3 := List.length_take_le j a
                      split at h2 <;> omega⟩
                    clear hy hgb
                    by_cases hxy : x = y
                    · have hxq : (x == y) = true := by simp [hxy]
                      rw [hxq] at HTL
                      have hq1 : q + 1 ≤ j + 1 := by have := HQ.out; have := HTL.out; have := HQ1.out; simp at *; omega
                      clear hxy
                      go_wp2
                      go_region
                      go_wp2
                      go_roundw
                      case rel => exact ⟨q + 1, l + 1, by go_num, by go_num, by omega, by omega, ⟨by rw [HTL.out, HQ.out]; simp; omega⟩, ⟨HR.out.drew⟩⟩
                      case measure => simp [intOf]; omega
                    · have hxq : (x == y) = false := by simp [hxy]
                      rw [hxq] at HTL
                      clear hxy
                      go_wp2
                      go_region
                      go_wp2
                      go_roundw
                      case rel => exact ⟨q, l + 1, rfl, by go_num, by omega, by omega, ⟨by rw [HTL.out, HQ.out]; simp⟩, ⟨HR.out.drew⟩⟩
                      case measure => simp [intOf]; omega
                  · have HQ1 : Sh (q = common (a.take (j + 1)) b) := ⟨by rw [HTK.out, HQ.out, show l = b.length by have := HMK.out; omega, List.take_length]⟩
                    go_wp2
                    go_roundw
                    case rel => exact ⟨q, j + 1, rfl, by go_num, by omega, by omega, HQ1, HR⟩
                    case measure => simp [intOf]; omega
              · have HJE : Sh (q = common a b) := ⟨by rw [HQ.out, show j = a.length by have := HMI.out; omega, List.take_length]⟩
                by_cases hik : i = k
                · have hne2 : ((i : Int) != (k : Int)) = false := by simp [hik]
                  clear hik
                  go_wp2
                  go_roundw
                  case rel => exact ⟨k + 1, by go_num, by omega, HR⟩
                  case measure => simp [intOf]; omega
                · have hne2 : ((i : Int) != (k : Int)) = true := by simp; omega
                  have hlt2 := cores_common HDN.out HCO.out hik HA.out HBB.out
                  have hq2 : ((q : Int) == (mi : Int)) = false := by have := HJE.out; have := HMI.out; simp; omega
                  clear hik hlt2
                  go_wp2
                  go_roundw
                  case rel => exact ⟨k + 1, by go_num, by omega, HR⟩
                  case measure => simp [intOf]; omega
          · go_wp2
            go_roundw
            case rel => exact ⟨i + 1, by go_num, by omega, HR⟩
            case measure => simp [intOf]; omega
      · go_wp2_with (first | (go_at_call 6; refine (awake_calls _).mono ?_; rintro e w9 ⟨rfl, hb9⟩; have HB9 := Sh.mk hb9; clear hb9))
        go_ret
        exact ⟨rfl, below_then HB.out (below_then HR.out HB9.out)⟩
end Go.Proofs.YtdppkdjgadiinaaGreat
