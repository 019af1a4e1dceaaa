/- Package mus: some cores. -/
import Derived.Test.YtdppkdjgadiinaaGreatFind
set_option linter.unusedVariables false
set_option linter.unusedSimpArgs false
namespace Go.Proofs.YtdppkdjgadiinaaGreat
open Go.RowKit

/-- What searches may come to. -/
inductive Found (sb : List Int → Bool) (most : Int) (n : Nat) : Sea → Prop
  | start : Found sb most n (findP sb most ⟨[], []⟩ (nums n))
  | more (s : Sea) (h : Found sb most n s) (i : Nat) (zs : List Int) (k : Int) (hz : s.among[i]? = some zs) : Found sb most n (findP sb most s (kept (fun u => u == k) zs))
structure FInv (sb : List Int → Bool) (most : Int) (n : Nat) (s : Sea) : Prop where
  len : s.among.length = s.cores.length
  most : (s.cores.length : Int) ≤ max most 0
  among : ∀ zs, zs ∈ s.among → zs.Sublist (nums n)
  cores : ∀ c, c ∈ s.cores → ∃ x, x.Sublist (nums n) ∧ sb x = false ∧ c = reduceP sb x x
  unlike : s.cores.Nodup
theorem findP_prefix (sb : List Int → Bool) (most : Int) (s : Sea) (x : List Int) : s.cores <+: (findP sb most s x).cores ∧ s.among <+: (findP sb most s x).among := by
  unfold findP
  split
  · exact ⟨List.prefix_refl _, List.prefix_refl _⟩
  · split
    · exact ⟨List.prefix_refl _, List.prefix_refl _⟩
    · split
      · exact ⟨List.prefix_refl _, List.prefix_refl _⟩
      · exact ⟨List.prefix_append _ _, List.prefix_append _ _⟩
theorem FInv.find {sb : List Int → Bool} {most : Int} {n : Nat} {s : Sea} (h : FInv sb most n s) {x : List Int} (hx : x.Sublist (nums n)) : FInv sb most n (findP sb most s x) := by
  unfold findP
  split
  · exact h
  · rename_i hm
    split
    · exact h
    · rename_i hb
      split
      · exact h
      · rename_i ha
        refine ⟨by simp [h.len], ?_, fun zs hz => ?_, fun c hc => ?_, ?_⟩
        · simp only [List.length_append, List.length_singleton]
          omega
        · rcases List.mem_append.1 hz with e | e
          · exact h.among zs e
          · rw [List.mem_singleton] at e; rw [e]; exact hx
        · rcases List.mem_append.1 hc with e | e
          · exact h.cores c e
          · rw [List.mem_singleton] at e
            exact ⟨x, hx, by simpa using hb, e⟩
        · rw [List.nodup_append]
          refine ⟨h.unlike, by simp, fun a ha2 b hb2 e => ?_⟩
          rw [List.mem_singleton] at hb2
          subst hb2 e
          exact ha (List.any_eq_true.2 ⟨_, ha2, by simp⟩)
theorem Found.inv {sb : List Int → Bool} {most : Int} {n : Nat} {s : Sea} (h : Found sb most n s) : FInv sb most n s := by
  induction h with
  | start => exact FInv.find ⟨rfl, by simp; omega, fun zs hz => by simp at hz, fun c hc => by simp at hc, by simp⟩ (List.Sublist.refl _)
  | more s _ i zs k hz ih => exact ih.find ((kept_sublist _ _).trans (ih.among zs (List.mem_of_getElem? hz)))
theorem Found.first {sb : List Int → Bool} {most : Int} {n : Nat} {s : Sea} (h : Found sb most n s) (hm : 0 < most) (hb : sb (nums n) = false) : s.cores[0]? = some (reduceP sb (nums n) (nums n)) := by
  induction h with
  | start =>
    unfold findP
    rw [if_neg (by simp; omega), if_neg (by rw [hb]; simp)]
    simp
  | more s _ i zs k hz ih =>
    obtain ⟨t, ht⟩ := (findP_prefix sb most s (kept (fun u => u == k) zs)).1
    rw [← ht, List.getElem?_append_left (List.getElem?_eq_some_iff.1 ih).1]
    exact ih
theorem fnv_Cores1 (p : Value) : Fnv Tryz.prog (.func (.func 21) #[] #[p]) 21 #[p] := ⟨rfl, _, Tryz.func21, by kernel_rfl, rfl⟩
theorem Cores1_pred (w : World) (b : Nat) (n : Int) (h : Blk w b 3 [.int .i64 n]) : Pred w (fun k => k = b) 21 #[.pointer (some ⟨b, 0, none⟩)] (fun k => k == n) := by
  intro u w1 hs hb
  have h1 : Blk w1 b 3 [.int .i64 n] := (hb b rfl h.lt).trans h
  have c0 := h1.cell 0
  simp only [List.getElem?_cons_zero] at c0
  clear h h1 hb hs
  show Calls _ _ #[.int .i64 u, .pointer (some ⟨b, 0, none⟩)] _ _
  go_enter Tryz.func21, Tryz.ntmps21
  go_wp2
  go_ret
  exact ⟨rfl, rfl⟩
/-- A search that was found so far, in memory. -/
structure CorL (w : World) (sk fb : Nat) (es : List Eqn) (sb : List Int → Bool) (v : Value) (most : Int) (vc va : Value) (rc ra : List Sl) (s : Sea) (wr : World) : Prop where
  sea : SeaP wr (fun k => k < w.heap.size) sk fb es v most vc va rc ra s
  found : Found sb most es.length s
  below : Below w.heap.size w wr
  new : ∀ k, seaD sk fb vc va k → w.heap.size ≤ k
theorem CorL.next {w wr w' : World} {sk fb : Nat} {es : List Eqn} {sb : List Int → Bool} {v vc va : Value} {most : Int} {rc ra : List Sl} {s : Sea} {x : List Int} {e : Ending} (h : CorL w sk fb es sb v most vc va rc ra s wr) (hf : Found sb most es.length (findP sb most s x))
    (hp : FindPost wr (fun k => k < w.heap.size) sk fb es v most vc va rc ra (findP sb most s x) e w') : e = .returned (.tuple #[]) ∧ ∃ vc' va' rc' ra', CorL w sk fb es sb v most vc' va' rc' ra' (findP sb most s x) w' ∧ rc <+: rc' ∧ ra <+: ra' := by
  obtain ⟨rfl, vc', va', rc', ra', h1, h2, h3, h4, h5⟩ := hp
  refine ⟨rfl, vc', va', rc', ra', ⟨h1, hf, h.below.trans (h2.below h.new h.below.size), fun k hk => ?_⟩, h4, h5⟩
  rcases h3 k hk with e | e
  · exact h.new k e
  · exact Nat.le_trans h.below.size e
theorem prefix_at {α : Type} {a b : List α} (h : a <+: b) {i : Nat} {x : α} (hx : a[i]? = some x) : b[i]? = some x := by
  obtain ⟨t, rfl⟩ := h
  rw [List.getElem?_append_left (List.getElem?_eq_some_iff.1 hx).1]
  exact hx
def CoresPost (w : World) (es : List Eqn) (sb : List Int → Bool) (most : Int) (e : Ending) (w' : World) : Prop :=
  ((coreP es sb).2 ≠ 0 ∧ e = .returned (.tuple #[.slice none 0 0, .int .i64 (coreP es sb).2]) ∧ Below w.heap.size w w') ∨
  ((coreP es sb).2 = 0 ∧ ∃ v rc s, Found sb most es.length s ∧ e = .returned (.tuple #[v, .int .i64 0]) ∧ GRow RowsK w' v rc ∧ RowsOk w' (fun _ => False) rc s.cores ∧ Below w.heap.size w w')
set_option maxRecDepth 100000 in
set_option maxHeartbeats 1000000 in
theorem Cores_calls (w : World) (S : Nat → Prop) (es : List Eqn) (sb : List Int → Bool) (v : Value) (most : Int) (h : EqsAt w S es v) (hsb : SatB es sb) (hle : es.length ≤ 1000000) (hsz : sizes es ≤ 1000000) (hm : most ≤ 1000000) :
    Calls Tryz.prog 8 #[.int .i64 most, v] w (CoresPost w es sb most) := by
  obtain ⟨A, ca, rfl, _⟩ := h.shape
  have h' : EqsAt w (fun k => k < w.heap.size) es (.slice A es.length ca) := Dat.at_mono h (fun k _ hk => hk)
  have HC := Sh.mk (Core_calls w S es sb _ h hsb hle hsz)
  have HSB := Sh.mk hsb
  have HSZ := Sh.mk hsz
  have HMO := Sh.mk hm
  have HE := Sh.mk h'
  obtain ⟨cp, hcp⟩ : ∃ cp, cp = coreP es sb := ⟨_, rfl⟩
  rw [← hcp] at HC
  have HCP := Sh.mk hcp
  obtain ⟨ne, hne⟩ : ∃ ne, ne = es.length := ⟨_, rfl⟩
  rw [← hne] at hle HC HE ⊢
  have HLE := Sh.mk hle
  have HNE := Sh.mk hne
  have hlen63 : ne ≤ 9223372036854775807 := by omega
  clear h h' hsb hsz hm hcp hne hle
  obtain ⟨cv, cc⟩ := cp
  simp only at HC
  go_enter Tryz.func8, Tryz.ntmps8
  by_cases hcc : cc = 0
  · have hne0 : (cc != 0) = false := by simp [hcc]
    have HCC := Sh.mk hcc
    clear hcc
    have HRT : Sh (es.all Eqn.right = true ∧ sb (nums ne) = false) := ⟨by
      have h1 := HCP.out
      unfold coreP at h1
      rw [HNE.out]
      cases hr : es.all Eqn.right with
      | false => rw [hr] at h1; simp at h1; have := h1.2; have := HCC.out; omega
      | true =>
        rw [hr] at h1
        cases hb : sb (nums es.length) with
        | true => rw [hb] at h1; simp at h1; have := h1.2; have := HCC.out; omega
        | false => exact ⟨rfl, rfl⟩⟩
    go_upto_region 4 with (first | (go_at_call 7; refine HC.out.mono ?_; rintro e w1 ⟨v1, rfl, i1, i2, i3⟩; have I3 := Sh.mk i3; clear i1 i2 i3))
    obtain ⟨fb, hfb⟩ : ∃ fb, fb = w1.heap.size := ⟨_, rfl⟩
    obtain ⟨w2, hw2⟩ : ∃ w2, w2 = w1.alloc (.cells #[.slice A ne ca, .int .i64 0] 51) := ⟨_, rfl⟩
    obtain ⟨w3, hw3⟩ : ∃ w3, w3 = w2.alloc (.cells #[.pointer (some ⟨fb, 0, none⟩), .int .i64 most, .slice none 0 0, .slice none 0 0] 53) := ⟨_, rfl⟩
    have hB2 : Below w1.heap.size w1 w2 := by rw [hw2]; exact (Below.refl _ _).alloc (Nat.le_refl _) _
    have hB3 : Below w2.heap.size w2 w3 := by rw [hw3]; exact (Below.refl _ _).alloc (Nat.le_refl _) _
    have hz2 : w2.heap.size = fb + 1 := by rw [hw2, hfb]; simp
    have bf : Blk w3 fb 51 [.slice A ne ca, .int .i64 0] := by
      have : Blk w2 fb 51 [.slice A ne ca, .int .i64 0] := by rw [hw2, hfb]; exact Blk.new _ _ _
      exact this.keep hB3
    have bs : Blk w3 (fb + 1) 53 [.pointer (some ⟨fb, 0, none⟩), .int .i64 most, .slice none 0 0, .slice none 0 0] := by rw [hw3]; exact Blk.new' w2 _ [.pointer (some ⟨fb, 0, none⟩), .int .i64 most, .slice none 0 0, .slice none 0 0] hz2
    have hB13 := below_then hB2 hB3
    have hB03 := below_then I3.out hB13
    have hwf : w.heap.size ≤ fb := by rw [hfb]; exact I3.out.size
    have hnb : ∀ k, (Value.slice none 0 0).ownBlock ≠ some k := fun k e => by simp [Value.ownBlock] at e
    have HSEA : Sh (SeaP w3 (fun k => k < w.heap.size) (fb + 1) fb es (.slice A ne ca) most (.slice none 0 0) (.slice none 0 0) [] [] ⟨[], []⟩) := ⟨bs, ⟨0, bf, HE.out.below hB03, fun k hk => Nat.lt_of_lt_of_le hk hwf⟩, GRow.nil _ _, GRow.nil _ _, ⟨rfl, fun i x xs h => by simp at h⟩, ⟨rfl, fun i x xs h => by simp at h⟩, by omega, ⟨hnb _, hnb _⟩, ⟨hnb _, hnb _⟩, fun k e => absurd e (hnb k), fun k hk e => by
      rcases e with e | e | e | e
      · omega
      · omega
      · exact hnb k e
      · exact hnb k e, rfl⟩
    have HSN : Sh (∀ k, seaD (fb + 1) fb (.slice none 0 0) (.slice none 0 0) k → w.heap.size ≤ k) := ⟨fun k e => by
      rcases e with e | e | e | e
      · omega
      · omega
      · exact absurd e (hnb k)
      · exact absurd e (hnb k)⟩
    have HNUM := Sh.mk (numbers_calls w3 ne HLE.out)
    have HB03 := Sh.mk hB03
    have HW2 := Sh.mk hw2
    have HW3 := Sh.mk hw3
    have HFB := Sh.mk hfb
    clear hw2 hw3 hB2 hB3 hz2 bf bs hB13 hB03 hwf hnb hfb
    go_upto_region 5 with (fail)
    rw [← HFB.out, ← HW2.out]
    have hz : w2.heap.size = fb + 1 := by rw [HW2.out, HFB.out]; simp
    (try rw [hz])
    rw [← HW3.out]
    clear hz HW2 HW3 HFB
    go_upto_region 6 with (first
      | (go_at_call 18; refine HNUM.out.mono ?_; rintro e w4 ⟨v4, rfl, i1, i2, i3⟩; have J1 := Sh.mk i1; have J2 := Sh.mk i2; have J3 := Sh.mk i3; clear i1 i2 i3)
      | (go_at_call 17; refine (find_calls w4 _ (fb + 1) fb es sb _ most _ _ [] [] ⟨[], []⟩ (nums ne) v4 (HSEA.out.keep J3.out) J1.out (fun k hk e => by have := J2.out k hk; have := HSEA.out.lt k e; omega) HRT.out.1 HSB.out (by rw [nums_len]; exact HLE.out) (by rw [← HNE.out]; exact HLE.out) (by rw [HNE.out, pickE_nums]; exact HSZ.out) HMO.out).mono ?_; rintro e w5 hfp; have hL0 : CorL w (fb + 1) fb es sb (.slice A ne ca) most (.slice none 0 0) (.slice none 0 0) [] [] ⟨[], []⟩ w4 → True := fun _ => trivial; have HFP := Sh.mk hfp; obtain ⟨rfl, hfp2⟩ := hfp; clear hfp2 hL0))
    obtain ⟨sk, hsk⟩ : ∃ sk, sk = fb + 1 := ⟨_, rfl⟩
    have HL0 : Sh (∃ s vc va rc ra, CorL w sk fb es sb (.slice A ne ca) most vc va rc ra s w5) := ⟨by
      obtain ⟨_, vc', va', rc', ra', h1, h2, h3, _, _⟩ := HFP.out
      have hb4 := below_then HB03.out J3.out
      rw [hsk]
      refine ⟨_, vc', va', rc', ra', h1, ?_, hb4.trans (h2.below HSN.out hb4.size), fun k hk => ?_⟩
      · rw [HNE.out]; exact Found.start
      · rcases h3 k hk with e | e
        · exact HSN.out k e
        · exact Nat.le_trans hb4.size e⟩
    rw [← hsk]
    clear HFP J1 J2 J3 HSEA HSN HNUM HB03 hsk
    go_wp2
    go_loopw [9] (fun v9 wr => ∃ i : Nat, v9 = .int .i64 i ∧ Sh (∃ s vc va rc ra, CorL w sk fb es sb (.slice A ne ca) most vc va rc ra s wr)) (fun v9 _ => (max most 0).toNat + 1 - (intOf v9).toNat)
    case atStart => exact ⟨0, rfl, HL0⟩
    case round =>
      obtain ⟨i, rfl, HX⟩ := hrel
      clear HL0
      obtain ⟨s, vc, va, rc, ra, hL⟩ := HX.out
      obtain ⟨Ac, cc', rfl⟩ := hL.sea.rowc.shape
      obtain ⟨Aa, ca', rfl⟩ := hL.sea.rowa.shape
      have q2 := hL.sea.blk.cell 2
      simp only [List.getElem?_cons_zero, List.getElem?_cons_succ] at q2
      obtain ⟨nc, hnc⟩ : ∃ nc, nc = rc.length := ⟨_, rfl⟩
      have hlc := hL.sea.okc.1
      have hla := hL.sea.oka.1
      have hll := hL.sea.len
      have hmo := hL.found.inv.most
      rw [← hnc] at hL q2 hlc
      have hnc6 : nc ≤ 1000000 := by have := HMO.out; omega
      have HLL := Sh.mk hL
      have HNC := Sh.mk hnc
      have HMM : Sh ((nc : Int) ≤ max most 0) := ⟨by omega⟩
      clear HX hL hnc
      by_cases hlt : i < nc
      · obtain ⟨⟨xA, xn, xc⟩, hx⟩ : ∃ x, rc[i]? = some x := ⟨_, List.getElem?_eq_getElem (by have := HNC.out; omega)⟩
        obtain ⟨ys, hys⟩ : ∃ ys, s.cores[i]? = some ys := ⟨_, List.getElem?_eq_getElem (by omega)⟩
        obtain ⟨z, hz⟩ : ∃ z, ra[i]? = some z := ⟨_, List.getElem?_eq_getElem (by omega)⟩
        obtain ⟨zs, hzs⟩ : ∃ zs, s.among[i]? = some zs := ⟨_, List.getElem?_eq_getElem (by omega)⟩
        obtain ⟨g, k', e, t0⟩ := RowsK.cells HLL.out.sea.rowc hx
        simp only [Value.slice.injEq] at e
        have e1 := e.1
        clear e
        subst e1
        simp only at t0
        have hxn : xn = ys.length := by
          obtain ⟨A', c', e⟩ := (HLL.out.sea.okc.2 i ⟨xA, xn, xc⟩ ys hx hys).1.shape
          simp only [Value.slice.injEq] at e
          exact e.2.1
        have hx63 : xn ≤ 9223372036854775807 := by rw [hxn]; exact (HLL.out.sea.okc.2 i ⟨xA, xn, xc⟩ ys hx hys).1.len
        have HXN := Sh.mk hxn
        have HIN : Sh (∃ s' vc' va' rc' ra', CorL w sk fb es sb (.slice A ne ca) most vc' va' rc' ra' s' wr ∧ rc'[i]? = some ⟨xA, xn, xc⟩ ∧ s'.cores[i]? = some ys ∧ ra'[i]? = some z ∧ s'.among[i]? = some zs) := ⟨s, _, _, rc, ra, HLL.out, hx, hys, hz, hzs⟩
        clear hx hys hz hzs hxn hlc hla hll hmo
        go_wp2
        go_loopw [48] (fun v48 wr => ∃ j : Nat, v48 = .int .i64 j ∧ j ≤ xn ∧ Sh (∃ s' vc' va' rc' ra', CorL w sk fb es sb (.slice A ne ca) most vc' va' rc' ra' s' wr ∧ rc'[i]? = some ⟨xA, xn, xc⟩ ∧ s'.cores[i]? = some ys ∧ ra'[i]? = some z ∧ s'.among[i]? = some zs)) (fun v48 _ => xn - (intOf v48).toNat)
        case atStart => exact ⟨0, rfl, Nat.zero_le _, HIN⟩
        case round =>
          obtain ⟨j, rfl, hj, HJ⟩ := hrel
          clear HIN t0 q2
          by_cases hjl : j < xn
          · obtain ⟨s', vc', va', rc', ra', hL', r1, r2, r3, r4⟩ := HJ.out
            obtain ⟨u, hu⟩ : ∃ u, ys[j]? = some u := ⟨_, List.getElem?_eq_getElem (by have := HXN.out; omega)⟩
            obtain ⟨y1, y2⟩ := hL'.sea.okc.2 i ⟨xA, xn, xc⟩ ys r1 r2
            obtain ⟨gy, cy, ey, ty, _⟩ := y1.at hu
            obtain ⟨Aa', caa, ea⟩ := hL'.sea.rowa.shape
            subst ea
            obtain ⟨gz, kz, ez, tz⟩ := RowsK.cells hL'.sea.rowa r3
            simp only [Value.slice.injEq] at ez
            have e1 := ez.1
            clear ez
            subst e1
            simp only [Value.slice.injEq] at ey
            have ey1 := ey.1
            clear ey
            subst ey1
            have hil : i < ra'.length := (List.getElem?_eq_some_iff.1 r3).1
            obtain ⟨nr, hnr⟩ : ∃ nr, nr = ra'.length := ⟨_, rfl⟩
            rw [← hnr] at hL' hil
            obtain ⟨w6, hw6⟩ : ∃ w6, w6 = wr.alloc (.cells #[.int .i64 u] 3) := ⟨_, rfl⟩
            have hB6 : Below wr.heap.size wr w6 := by rw [hw6]; exact (Below.refl _ _).alloc (Nat.le_refl _) _
            have HX6 : Sh (Blk w6 wr.heap.size 3 [.int .i64 u]) := ⟨by rw [hw6]; exact Blk.new _ _ _⟩
            have HSE6 := Sh.mk (hL'.sea.keep hB6)
            obtain ⟨z1, z2⟩ := hL'.sea.oka.2 i z zs r3 r4
            have hzl : zs.Sublist (nums es.length) := hL'.found.inv.among zs (List.mem_of_getElem? r4)
            have q3 := HSE6.out.blk.cell 3
            simp only [List.getElem?_cons_zero, List.getElem?_cons_succ] at q3
            have tz6 := (RowsK.cells (hL'.sea.rowa.keep hB6) r3)
            obtain ⟨gz', kz', ez, tz6⟩ := tz6
            simp only [Value.slice.injEq, Option.some.injEq, Addr.mk.injEq, and_true] at ez
            rw [← ez.1] at tz6
            clear ez tz
            have HZ6 := Sh.mk (z1.keep hB6)
            have HZL := Sh.mk hzl
            have hzl6 : zs.length ≤ 1000000 := by have := hzl.length_le; rw [nums_len] at this; have := HLE.out; have := HNE.out; omega
            have HZ66 := Sh.mk hzl6
            have HL6 : Sh (CorL w sk fb es sb (.slice A ne ca) most vc' (.slice (some ⟨gz, 0, none⟩) nr caa) rc' ra' s' w6) := ⟨⟨HSE6.out, hL'.found, below_then hL'.below hB6, hL'.new⟩⟩
            have HR := Sh.mk (And.intro r1 (And.intro r2 (And.intro r3 r4)))
            have HW6 := Sh.mk hw6
            have HSEL := Sh.mk (fun k hk => HSE6.out.lt k hk)
            clear hL' r1 r2 r3 r4 hu y1 y2 hnr hw6 hB6 z1 z2 hzl hzl6 HJ
            go_upto_region 12 with (fail)
            rw [← HW6.out]
            clear HW6 ty
            go_wp2_with (first
              | (go_at_call 20; refine (Clone_row w6 _ zs HZ6.out HZ66.out).mono ?_; rintro e w7 ⟨v7, rfl, i1, i2, i3⟩; have K1 := Sh.mk i1; have K2 := Sh.mk i2; have K3 := Sh.mk i3; have HX7 := Sh.mk (HX6.out.keep i3); clear i1 i2 i3)
              | (go_at_call 19; refine (Delete_row w7 (fun k => k = wr.heap.size) _ _ _ _ (fnv_Cores1 (.pointer (some ⟨wr.heap.size, 0, none⟩))) (Cores1_pred w7 wr.heap.size u HX7.out) v7 zs K1.out (fun k hk e => by have := K2.out k hk; have := HX6.out.lt; omega)).mono ?_; rintro e w8 ⟨v8, rfl, i1, i2, i3⟩; have M1 := Sh.mk i1; have M2 := Sh.mk (show ∀ k, v8.ownBlock = some k → w6.heap.size ≤ k from fun k hk => K2.out k (by rw [← i2]; exact hk)); have M3 := Sh.mk (show Below w6.heap.size w6 w8 from K3.out.trans (i3.below (fun k hk => K2.out k hk) K3.out.size)); clear i1 i2 i3)
              | (go_at_call 17; refine (find_calls w8 _ sk fb es sb _ most _ _ rc' ra' s' (kept (fun k => k == u) zs) v8 (HSE6.out.keep M3.out) M1.out (fun k hk e => by have := M2.out k hk; have := HSEL.out k e; omega) HRT.out.1 HSB.out (Nat.le_trans (kept_sublist _ _).length_le HZ66.out) (by rw [← HNE.out]; exact HLE.out) (Nat.le_trans (sizes_sublist (pickE_sublist ((kept_sublist _ _).trans HZL.out))) (by rw [pickE_nums]; exact HSZ.out)) HMO.out).mono ?_; rintro e w9 hfp; have HFP := Sh.mk (show e = .returned (.tuple #[]) ∧ _ from CorL.next ⟨HL6.out.sea.keep M3.out, HL6.out.found, below_then HL6.out.below M3.out, HL6.out.new⟩ (.more s' HL6.out.found i zs u HR.out.2.2.2) hfp); obtain ⟨rfl, _⟩ := hfp)
              | fail)
            go_roundw
            case rel =>
              obtain ⟨_, vc2, va2, rc2, ra2, g1, g2, g3⟩ := HFP.out
              obtain ⟨p1, p2⟩ := findP_prefix sb most s' (kept (fun k => k == u) zs)
              exact ⟨j + 1, by simp, by omega, ⟨_, vc2, va2, rc2, ra2, g1, prefix_at g2 HR.out.1, prefix_at p1 HR.out.2.1, prefix_at g3 HR.out.2.2.1, prefix_at p2 HR.out.2.2.2⟩⟩
            case measure => simp [intOf]; omega
          · have HJ2 : Sh (∃ s vc va rc ra, CorL w sk fb es sb (.slice A ne ca) most vc va rc ra s wr) := ⟨by obtain ⟨s', vc', va', rc', ra', h1, _⟩ := HJ.out; exact ⟨s', vc', va', rc', ra', h1⟩⟩
            clear HJ
            go_wp2
            case roundEnd => exact ⟨⟨i + 1, by simp, HJ2⟩, by have := HMM.out; simp [intOf]; omega⟩
      · go_wp2
        refine bodyPost_ret (v := .tuple #[.slice Ac nc cc', .int .i64 0]) (by simp [results, Tryz.results8, go_sem, *]) rfl (.inr ⟨by rw [← HCP.out]; exact HCC.out, .slice Ac nc cc', rc, s, HLL.out.found, rfl, HLL.out.sea.rowc, HLL.out.sea.okc.step (fun k _ _ => ⟨rfl, fun e => e⟩), HLL.out.below⟩)
  · have hne0 : (cc != 0) = true := by simp [hcc]
    have HCC := Sh.mk hcc
    clear hcc
    go_wp2_with (first | (go_at_call 7; refine HC.out.mono ?_; rintro e w1 ⟨v1, rfl, i1, i2, i3⟩; have I3 := Sh.mk i3; clear i1 i2 i3))
    go_ret2
    exact .inl ⟨by rw [← HCP.out]; exact HCC.out, by rw [← HCP.out]; rfl, I3.out⟩
end Go.Proofs.YtdppkdjgadiinaaGreat
