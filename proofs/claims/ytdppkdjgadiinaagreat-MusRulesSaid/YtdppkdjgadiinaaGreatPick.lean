/- Package eqs: some equations are picked. -/
import Derived.Test.YtdppkdjgadiinaaGreatDel
import Derived.Deep.RegionHeldLaw
set_option linter.unusedVariables false
set_option linter.unusedSimpArgs false
namespace Go.Proofs.YtdppkdjgadiinaaGreat
open Go.RowKit

/-- An equation in a row of the call's own: where its sides' parts are. -/
structure E8 where
  e : Eqn
  As : Option Addr
  cs : Nat
  At : Option Addr
  ct : Nat
def EqK : RK E8 := ⟨40, 22, 8, 96, .agg #[.int .i64 0, .int .i64 0, .slice none 0 0, .int .i64 0, .int .i64 0, .slice none 0 0, .int .i64 0, .int .i64 0],
  fun x => [.int .i64 x.e.l.kind, .int .i64 x.e.l.n, .slice x.As x.e.l.parts.length x.cs, .int .i64 x.e.r.kind, .int .i64 x.e.r.n, .slice x.At x.e.r.parts.length x.ct, .int .i64 x.e.a, .int .i64 x.e.b]⟩
theorem EqK_ok : RKok EqK := ⟨fun _ => rfl, fun r u hu => by
  simp only [EqK, List.mem_cons, List.not_mem_nil, or_false] at hu
  rcases hu with rfl | rfl | rfl | rfl | rfl | rfl | rfl | rfl <;> simp [Value.oneCell'], Tryz.underlying22, by kernel_rfl, rfl, Nat.succ_pos _⟩
/-- What is picked by a number. -/
def pick1 (es : List Eqn) (n : Int) : Option Eqn := if 0 ≤ n ∧ n < es.length then es[n.toNat]? else none
def pickE (es : List Eqn) (ns : List Int) : List Eqn := ns.filterMap (pick1 es)
theorem pickE_take {es : List Eqn} {ns : List Int} {j : Nat} {n : Int} (h : ns[j]? = some n) : pickE es (ns.take (j + 1)) = pickE es (ns.take j) ++ (pick1 es n).toList := by
  unfold pickE
  rw [List.take_add_one, h, List.filterMap_append]
  cases h1 : pick1 es n <;> simp [h1]
/-- Elements whose sides read as they should. -/
structure E8s (w : World) (B : Nat) (v : Value) (os : List E8) : Prop where
  row : GRow EqK w v os
  own : ∀ k, v.ownBlock = some k → B ≤ k
  parts : ∀ o, o ∈ os → PartsAt w (fun k => B ≤ k ∧ v.ownBlock ≠ some k) o.e.l (.slice o.As o.e.l.parts.length o.cs) ∧ PartsAt w (fun k => B ≤ k ∧ v.ownBlock ≠ some k) o.e.r (.slice o.At o.e.r.parts.length o.ct)
theorem E8s.keep {w w' : World} {B : Nat} {v : Value} {os : List E8} (h : E8s w B v os) (hb : Below w.heap.size w w') : E8s w' B v os :=
  ⟨h.row.keep hb, h.own, fun o ho => ⟨(h.parts o ho).1.below hb, (h.parts o ho).2.below hb⟩⟩
theorem E8s.push {w w1 w2 w3 w4 : World} {B : Nat} {v v4 : Value} {os : List E8} {o : E8} (h : E8s w B v os) (hb1 : Below w.heap.size w w1) (hl : PartsAt w1 (fun k => w.heap.size ≤ k) o.e.l (.slice o.As o.e.l.parts.length o.cs))
    (hb2 : Below w1.heap.size w1 w2) (hr : PartsAt w2 (fun k => w1.heap.size ≤ k) o.e.r (.slice o.At o.e.r.parts.length o.ct)) (hb3 : Below w2.heap.size w2 w3) (hg : w3.grownBy w4 v.ownBlock) (row4 : GRow EqK w4 v4 (os ++ [o])) (own4 : v4.ownBlock = v.ownBlock ∨ v4.ownBlock = some w3.heap.size) (hB : B ≤ w.heap.size) :
    E8s w4 B v4 (os ++ [o]) := by
  have z1 := hb1.size
  have z2 := hb2.size
  have z3 := hb3.size
  have hst : ∀ {u : World}, Below u.heap.size u w3 → Stays (fun k => B ≤ k ∧ v.ownBlock ≠ some k) (fun k => B ≤ k ∧ v4.ownBlock ≠ some k) u w4 := by
    intro u hu k hk hkl
    have := hu.size
    refine ⟨⟨hk.1, fun e => ?_⟩, (hg.block k (by omega) (fun e => hk.2 e.symm)).trans (hu.block k hkl)⟩
    rcases own4 with e4 | e4
    · exact hk.2 (e4 ▸ e)
    · have e2 := e.symm.trans e4
      injection e2 with e2
      omega
  have b13 := below_then hb2 hb3
  have b03 := below_then hb1 b13
  refine ⟨row4, fun k hk => ?_, fun x hx => ?_⟩
  · rcases own4 with e | e
    · exact h.own k (e ▸ hk)
    · have e2 := hk.symm.trans e
      injection e2 with e2
      omega
  · rcases List.mem_append.1 hx with hx | hx
    · exact ⟨Dat.at_step (hst b03) _ _ (h.parts x hx).1, Dat.at_step (hst b03) _ _ (h.parts x hx).2⟩
    · simp only [List.mem_singleton] at hx
      subst hx
      refine ⟨Dat.at_step (hst b13) _ _ (Dat.at_mono hl (fun k hk _ => ⟨by omega, fun e => by have := h.row.lt k e; omega⟩)), Dat.at_step (hst hb3) _ _ (Dat.at_mono hr (fun k hk _ => ⟨by omega, fun e => by have := h.row.lt k e; omega⟩))⟩
theorem addr_add0 (g m : Nat) : (⟨g, 0, none⟩ : Addr).add m = ⟨g, m, none⟩ := by unfold Addr.add; split <;> simp_all
theorem E8s.at {w : World} {B : Nat} {v : Value} {os : List E8} (h : E8s w B v os) : EqsAt w (fun k => B ≤ k) (os.map (·.e)) v := by
  unfold EqsAt
  rw [Dat.row_at]
  obtain ⟨A, c, rfl⟩ := h.row.shape
  have hlen : ((os.map (·.e)).map Eqn.enc).length = os.length := by simp
  have hcap : os.length ≤ c ∧ c ≤ maxLen := by
    rcases h.row.2 with ⟨e, h0⟩ | ⟨g, cap, cur, e, _, _, h3, h4, _⟩
    · simp only [Value.slice.injEq] at e
      obtain ⟨_, h5, h6⟩ := e
      simp only [maxLen]
      omega
    · simp only [Value.slice.injEq] at e
      obtain ⟨_, _, rfl⟩ := e
      exact ⟨h3, h4⟩
  refine ⟨A, c, by rw [hlen], by rw [hlen]; exact hcap.1, hcap.2, fun j d hj => ?_⟩
  rw [List.getElem?_map, List.getElem?_map] at hj
  obtain ⟨x, hx, rfl⟩ := Option.map_eq_some_iff.1 hj
  obtain ⟨o, ho, rfl⟩ := Option.map_eq_some_iff.1 hx
  obtain ⟨g, c', e, hc⟩ := h.row.at EqK_ok ho
  simp only [Value.slice.injEq] at e
  obtain ⟨rfl, _, _⟩ := e
  obtain ⟨p1, p2⟩ := h.parts o (List.mem_of_getElem? ho)
  refine ⟨⟨g, 0, none⟩, EqK.enc o, rfl, h.own g rfl, h.row.lt g rfl, EqK_ok.len o, fun i u hu => ?_, ?_⟩
  · rw [addr_add0]
    have hi : i < 8 := by have := (List.getElem?_eq_some_iff.1 hu).1; rw [EqK_ok.len o] at this; exact this
    have := hc i hi
    rw [hu] at this
    exact this
  · exact Eqn.cells.2 ⟨_, _, rfl, Dat.at_mono p1 (fun k hk _ => hk.1), Dat.at_mono p2 (fun k hk _ => hk.1)⟩
theorem Below.cell {B : Nat} {w w' : World} (h : Below B w w') {a : Addr} (ha : a.block < B) : w'.cell? a = w.cell? a := by
  unfold World.cell?
  rw [h.block a.block ha]
/-- What a round knows. -/
structure PickL (w : World) (es : List Eqn) (ns : List Int) (v : Value) (m j : Nat) (wr : World) : Prop where
  is : ∃ os, E8s wr w.heap.size v os ∧ os.map (·.e) = pickE es (ns.take j) ∧ os.length = m
  below : Below w.heap.size w wr
set_option maxRecDepth 100000 in
set_option maxHeartbeats 1000000 in
theorem Pick_calls (w : World) (S : Nat → Prop) (es : List Eqn) (v : Value) (ns : List Int) (vn : Value) (h : EqsAt w S es v) (hr : es.all Eqn.right = true) (hn : IRow w vn ns) (hl : ns.length ≤ 1000000) (hle : es.length ≤ 1000000) :
    Calls Tryz.prog 45 #[v, vn] w fun e w' => ∃ v', e = .returned v' ∧ EqsAt w' (fun k => w.heap.size ≤ k) (pickE es ns) v' ∧ Below w.heap.size w w' := by
  obtain ⟨A, ca, rfl, hlen⟩ := h.shape
  obtain ⟨An, cn, rfl⟩ := hn.shape
  obtain ⟨m, hm⟩ : ∃ m, m = ns.length := ⟨_, rfl⟩
  obtain ⟨ne, hne⟩ : ∃ ne, ne = es.length := ⟨_, rfl⟩
  rw [← hm] at hn hl ⊢
  rw [← hne] at h hlen hle ⊢
  have H := Sh.mk h
  have HN := Sh.mk hn
  have HM := Sh.mk hm
  have HNE := Sh.mk hne
  have HR := Sh.mk hr
  clear h hr hn hm hne
  go_enter Tryz.func45, Tryz.ntmps45
  go_wp2
  go_loopw [5, 10] (fun v5 v10 wr => ∃ (A5 : Option Addr) (k c5 j : Nat), v5 = .slice A5 k c5 ∧ v10 = .int .i64 j ∧ j ≤ m ∧ Sh (PickL w es ns (.slice A5 k c5) k j wr)) (fun _ v10 _ => m - (intOf v10).toNat)
  case atStart => exact ⟨none, 0, 0, 0, rfl, rfl, Nat.zero_le _, ⟨⟨⟨[], ⟨GRow.nil _ _, fun k hk => by simp [Value.ownBlock] at hk, fun o ho => by simp at ho⟩, by simp [pickE], rfl⟩, Below.refl _ _⟩⟩⟩
  case round =>
    obtain ⟨A5, k, c5, j, rfl, rfl, hj, HL⟩ := hrel
    by_cases hlt : j < m
    · obtain ⟨n, hn⟩ : ∃ n, ns[j]? = some n := ⟨_, List.getElem?_eq_getElem (by have := HM.out; omega)⟩
      obtain ⟨gn, cn', e, t0, _⟩ := (HN.out.keep HL.out.below).at hn
      simp only [Value.slice.injEq] at e
      have e1 := e.1
      clear e
      subst e1
      have HPT := Sh.mk (pickE_take (es := es) hn)
      clear hn
      have hnext : ∀ x, pick1 es n = none → x = () → PickL w es ns (.slice A5 k c5) k (j + 1) wr := fun x hx _ => by
        obtain ⟨os, o1, o2, o3⟩ := HL.out.is
        exact ⟨⟨os, o1, by rw [HPT.out, hx, o2]; simp, o3⟩, HL.out.below⟩
      have HNX := Sh.mk hnext
      clear hnext
      by_cases h0 : 0 ≤ n
      · by_cases h1 : n < ne
        · obtain ⟨i, rfl⟩ : ∃ i : Nat, n = i := ⟨n.toNat, by omega⟩
          obtain ⟨x, hx⟩ : ∃ x, es[i]? = some x := ⟨_, List.getElem?_eq_getElem (by have := HNE.out; omega)⟩
          obtain ⟨ad, As, cs, At, ct, rfl, hS, hbl, c0, c1, c2, c3, c4, c5', c6, c7, hpl, hpr⟩ := eqRow_elem (H.out.below HL.out.below) hx
          have hxr : x.l.right = true ∧ x.r.right = true := by
            have := List.all_eq_true.1 HR.out x (List.mem_of_getElem? hx)
            unfold Eqn.right at this
            simpa using this
          have HPK : Sh (pick1 es (i : Int) = some x) := ⟨by unfold pick1; rw [if_pos (by have := HNE.out; omega)]; simpa using hx⟩
          have HXR := Sh.mk hxr
          have HPL := Sh.mk hpl
          have HPR := Sh.mk hpr
          obtain ⟨os, o1, o2, o3⟩ := HL.out.is
          have HO1 := Sh.mk o1
          have HO2 := Sh.mk o2
          have HO3 := Sh.mk o3
          have HBL := Sh.mk hbl
          have HBW : Sh (ad.block < w.heap.size) := ⟨by
            obtain ⟨ad', _, _, _, _, e, _, hw, _⟩ := eqRow_elem H.out hx
            injection e with e
            rw [e]; exact hw⟩
          have HC : Sh (∀ w' : World, w'.heap[ad.block]? = wr.heap[ad.block]? → w'.cell? (ad.add (i * 8)) = some (.int .i64 x.l.kind) ∧ w'.cell? ⟨(ad.add (i * 8)).block, (ad.add (i * 8)).off + 1, none⟩ = some (.int .i64 x.l.n) ∧
              w'.cell? ⟨(ad.add (i * 8)).block, (ad.add (i * 8)).off + 2, none⟩ = some (.slice As x.l.parts.length cs) ∧ w'.cell? ⟨(ad.add (i * 8)).block, (ad.add (i * 8)).off + 3, none⟩ = some (.int .i64 x.r.kind) ∧
              w'.cell? ⟨(ad.add (i * 8)).block, (ad.add (i * 8)).off + 4, none⟩ = some (.int .i64 x.r.n) ∧ w'.cell? ⟨(ad.add (i * 8)).block, (ad.add (i * 8)).off + 5, none⟩ = some (.slice At x.r.parts.length ct) ∧
              w'.cell? ⟨(ad.add (i * 8)).block, (ad.add (i * 8)).off + 6, none⟩ = some (.int .i64 x.a) ∧ w'.cell? ⟨(ad.add (i * 8)).block, (ad.add (i * 8)).off + 7, none⟩ = some (.int .i64 x.b)) := ⟨fun w' hb => by
            have hcell : ∀ q : Addr, q.block = ad.block → w'.cell? q = wr.cell? q := fun q hq => by
              unfold World.cell?
              rw [hq, hb]
            have hab := add_block ad (i * 8)
            rw [hcell _ hab, hcell ⟨(ad.add (i * 8)).block, (ad.add (i * 8)).off + 1, none⟩ hab, hcell ⟨(ad.add (i * 8)).block, (ad.add (i * 8)).off + 2, none⟩ hab, hcell ⟨(ad.add (i * 8)).block, (ad.add (i * 8)).off + 3, none⟩ hab, hcell ⟨(ad.add (i * 8)).block, (ad.add (i * 8)).off + 4, none⟩ hab, hcell ⟨(ad.add (i * 8)).block, (ad.add (i * 8)).off + 5, none⟩ hab, hcell ⟨(ad.add (i * 8)).block, (ad.add (i * 8)).off + 6, none⟩ hab, hcell ⟨(ad.add (i * 8)).block, (ad.add (i * 8)).off + 7, none⟩ hab]
            exact ⟨c0, c1, c2, c3, c4, c5', c6, c7⟩⟩
          have HKL : Sh (k ≤ 1000000) := ⟨by
            have e1 : os.length = (pickE es (ns.take j)).length := by rw [← o2, List.length_map]
            have e2 : (pickE es (ns.take j)).length ≤ (ns.take j).length := List.length_filterMap_le _ _
            rw [List.length_take] at e2
            omega⟩
          clear hx hS hxr hpl hpr o1 o2 o3 hbl
          have TOK : Sh True := ⟨trivial⟩
          clear c0 c1 c2 c3 c4 c5' c6 c7
          go_wp2
          go_region_held_law (fun w' => w'.cell? (ad.add (i * 8)) = some (.int .i64 x.l.kind) ∧ w'.cell? ⟨(ad.add (i * 8)).block, (ad.add (i * 8)).off + 1, none⟩ = some (.int .i64 x.l.n) ∧
              w'.cell? ⟨(ad.add (i * 8)).block, (ad.add (i * 8)).off + 2, none⟩ = some (.slice As x.l.parts.length cs) ∧ w'.cell? ⟨(ad.add (i * 8)).block, (ad.add (i * 8)).off + 3, none⟩ = some (.int .i64 x.r.kind) ∧
              w'.cell? ⟨(ad.add (i * 8)).block, (ad.add (i * 8)).off + 4, none⟩ = some (.int .i64 x.r.n) ∧ w'.cell? ⟨(ad.add (i * 8)).block, (ad.add (i * 8)).off + 5, none⟩ = some (.slice At x.r.parts.length ct) ∧
              w'.cell? ⟨(ad.add (i * 8)).block, (ad.add (i * 8)).off + 6, none⟩ = some (.int .i64 x.a) ∧ w'.cell? ⟨(ad.add (i * 8)).block, (ad.add (i * 8)).off + 7, none⟩ = some (.int .i64 x.b))
            (first | exact HC.out _ rfl | exact HC.out _ (HB1.out.block _ HBL.out) | exact HC.out _ (HB2.out.block _ HBL.out) | exact HC.out _ (HB3.out.block _ HBL.out) | exact HC.out _ HB4.out)
            (first
            | (go_at_call 59; clear TOK; refine (Copy_calls x.l S _ wr.drew (Ty.right_thin _ HXR.out.1) (HPL.out.below (Below.refl wr.heap.size wr).drew)).mono ?_; rintro e w1 ⟨s1, rfl, q1, q2⟩; have HB1 := Sh.mk (show Below wr.heap.size wr w1 from below_then (Below.refl wr.heap.size wr).drew q2); obtain ⟨As1, cs1, rfl, _⟩ := q1.shape; have Q1 := Sh.mk q1; clear q1 q2)
            | (go_at_call 59; refine (Copy_calls x.r S _ w1 (Ty.right_thin _ HXR.out.2) (HPR.out.below HB1.out)).mono ?_; rintro e w2 ⟨s2, rfl, q3, q4⟩; have HB2 := Sh.mk (show Below wr.heap.size wr w2 from below_then HB1.out q4); have HB12 := Sh.mk q4; obtain ⟨At1, ct1, rfl, _⟩ := q3.shape; have Q3 := Sh.mk q3; clear q3 q4; have HB23 := Sh.mk ((Below.refl w2.heap.size w2).alloc (Nat.le_refl _) (.cells (EqK.enc ⟨x, As1, cs1, At1, ct1⟩).toArray 40)); have HB3 := Sh.mk (below_then HB2.out HB23.out))
            | (refine step_row EqK_ok rfl (.tmp 22) (.tmp 41) rfl (.slice A5 k c5) os [⟨x, As1, cs1, At1, ct1⟩] (.slice (some ⟨w2.heap.size, 0, none⟩) 1 1) rfl rfl (HO1.out.keep HB3.out).row (GRow.lit EqK_ok w2 ⟨x, As1, cs1, At1, ct1⟩) (by { have := HO3.out; have := HKL.out; simp only [List.length_singleton]; omega }) (by { have := HO3.out; have := HKL.out; simp only [List.length_singleton, EqK]; omega }) ?_; intro A9 c9 w9 hI hg hv; have I9 := Sh.mk hI; have G9 := Sh.mk hg; have V9 := Sh.mk hv; have HB4 : Sh (w9.heap[ad.block]? = wr.heap[ad.block]?) := ⟨(hg.block _ (Nat.lt_of_lt_of_le HBL.out HB3.out.size) (fun e => by have := HO1.out.own _ e.symm; have := HBW.out; omega)).trans (HB3.out.block _ HBL.out)⟩; clear hI hg hv))
          have e9 : os.length + [(⟨x, As1, cs1, At1, ct1⟩ : E8)].length = k + 1 := by rw [HO3.out]; rfl
          have i9 := I9.out
          have v9 := V9.out
          rw [e9] at i9 v9
          have hp9 := HO1.out.push (o := ⟨x, As1, cs1, At1, ct1⟩) HB1.out Q1.out HB12.out Q3.out HB23.out G9.out i9 v9 HL.out.below.size
          have hl9 : PickL w es ns (.slice A9 (k + 1) c9) (k + 1) (j + 1) w9 := by
            refine ⟨⟨_, hp9, ?_, by simp [HO3.out]⟩, ?_⟩
            · rw [HPT.out, HPK.out, List.map_append, HO2.out]; rfl
            · refine ⟨?_, ?_, ?_, ?_, ?_⟩
              · exact G9.out.os.trans (HB3.out.os.trans HL.out.below.os)
              · exact G9.out.tape.trans (HB3.out.tape.trans HL.out.below.tape)
              · exact G9.out.output.trans (HB3.out.output.trans HL.out.below.output)
              · exact Nat.le_trans HL.out.below.size (Nat.le_trans HB3.out.size G9.out.size)
              · intro b hb
                have hb1 : b < wr.heap.size := Nat.lt_of_lt_of_le hb HL.out.below.size
                rw [G9.out.block b (Nat.lt_of_lt_of_le hb1 HB3.out.size) (fun e => by have := HO1.out.own _ e.symm; omega)]
                exact (HB3.out.block b hb1).trans (HL.out.below.block b hb)
          have HL9 := Sh.mk hl9
          have HO3' := HO3.out
          clear hp9 hl9 i9 v9 e9
          go_wp2
          go_roundw
          case rel => exact ⟨A9, k + 1, c9, j + 1, by simp [HO3'], by simp, by omega, HL9⟩
          case measure => simp [intOf]; omega
        · have hp : pick1 es n = none := by unfold pick1; rw [if_neg (by have := HNE.out; omega)]
          have HNX1 := Sh.mk (HNX.out () hp rfl)
          clear hp
          go_wp2
          go_roundw
          case rel => exact ⟨A5, k, c5, j + 1, rfl, by simp, by omega, HNX1⟩
          case measure => simp [intOf]; omega
      · have hp : pick1 es n = none := by unfold pick1; rw [if_neg (by omega)]
        have HNX1 := Sh.mk (HNX.out () hp rfl)
        clear hp
        go_wp2
        go_roundw
        case rel => exact ⟨A5, k, c5, j + 1, rfl, by simp, by omega, HNX1⟩
        case measure => simp [intOf]; omega
    · go_wp2
      go_ret
      obtain ⟨os, o1, o2, o3⟩ := HL.out.is
      have := o1.at
      rw [o2, show j = ns.length by have := HM.out; omega, List.take_length] at this
      exact ⟨_, rfl, this, HL.out.below⟩
end Go.Proofs.YtdppkdjgadiinaaGreat
