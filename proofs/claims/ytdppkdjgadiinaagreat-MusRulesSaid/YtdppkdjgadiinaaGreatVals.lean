/- slices.Sorted(slices.Values(xs)) at a row of numbers that rises: a new row, the same numbers. -/
import Derived.Test.YtdppkdjgadiinaaGreatCvars
import Derived.Test.YtdppkdjgadiinaaGreatInts
import Derived.RangeFuncBox
import Derived.RangeFuncFrom
import Derived.RangeFuncWrites
import Derived.RangeFuncLeaves
import Derived.Shelf.Abstract
import Derived.WalkKit
import Derived.OwnWalkIn
import Derived.TacticsInMore
import Derived.LoopNIn
import Derived.LoopIn
import Derived.Maps.AppendAt
set_option linter.unusedVariables false
set_option linter.unusedSimpArgs false
namespace Go.Proofs
open Go.RowKit Go.Maps Go.Sort Go.Shelf
attribute [local go_sem] Oper.semAt_some
namespace YtdppkdjgadiinaaGreat

/-- A row's cells stand in every world that keeps what lies below a bound. -/
structure Held (n₀ : Nat) (v : Value) (xs : List Int) (W : World) : Prop where
  cell : ∀ (W' : World) (k : Nat) (x : Int), Below n₀ W W' → xs[k]? = some x → ∃ g c, v = .slice (some ⟨g, 0, none⟩) xs.length c ∧ W'.cell? ⟨g, k, none⟩ = some (.int .i64 x)
theorem IRow.held {w : World} {v : Value} {xs : List Int} (h : IRow w v xs) : Held w.heap.size v xs w :=
  ⟨fun W' k x hb hx => by
    obtain ⟨g, c, e, hc, _⟩ := (h.keep hb).at hx
    exact ⟨g, c, e, hc⟩⟩
set_option maxRecDepth 100000 in
set_option maxHeartbeats 2000000 in
/-- slices.Values's closure, at a row that the loop's body keeps. -/
theorem values_run (n : Nat) (hn : 1 ≤ n) (l Bs n₀ len cap : Nat) (A : Option Addr) (xs : List Int) (hlen : len = xs.length) (h63 : len ≤ 1000000) (J Jx : List Int → World → Prop)
    (hY : ∀ pre x W, J pre W → pre.length < len → YieldAt Fence.wide (n - 1) Tryz.prog l #[.int .i64 x] W fun e W' =>
      (e = .returned (.bool true) ∧ J (pre ++ [x]) W' ∧ Below n₀ W W') ∨ (e = .returned (.bool false) ∧ Jx (pre ++ [x]) W'))
    (W : World) (hBs : W.cell? ⟨Bs, 0, none⟩ = some (.slice A len cap)) (hH : Held n₀ (.slice A len cap) xs W) (h0 : J [] W) :
    CallsIn Fence.wide n Tryz.prog 41 #[.func (.yield l) #[] #[], .pointer (some ⟨Bs, 0, none⟩)] W fun e W' => (∃ v, e = .returned v) ∧
      ((∃ ys, ys = xs ∧ J ys W') ∨ (∃ pre, pre <+: xs ∧ Jx pre W')) := by
  have HH := Sh.mk hH
  have HL := Sh.mk hlen
  clear hH hlen
  refine callsIn_of_wp Tryz.func41 rfl trivial ?_ rfl
  simp only [Tryz.ntmps41, List.size_toArray, List.length_cons, List.length_nil, Nat.reduceAdd, Nat.reduceSub, Array.replicate_succ, Array.replicate_zero, List.push_toArray, List.append_toArray, List.nil_append, List.cons_append]
  gi_wp2
  gi_loopw [7] (fun i wr => ∃ k : Nat, k ≤ len ∧ i = .int .i64 k ∧ J (xs.take k) wr ∧ Sh (Below n₀ W wr)) (fun i _ => len - (intOf i).toNat)
  case atStart => exact ⟨0, Nat.zero_le _, rfl, by simpa using h0, ⟨Below.refl _ _⟩⟩
  case round =>
    obtain ⟨k, hk, rfl, hJs, HB⟩ := hrel
    by_cases hlt : k < len
    · obtain ⟨x, hx⟩ : ∃ x, xs[k]? = some x := ⟨_, List.getElem?_eq_getElem (by have := HL.out; omega)⟩
      obtain ⟨g, c, e, hc⟩ := HH.out.cell wr k x HB.out hx
      simp only [Value.slice.injEq] at e
      obtain ⟨e1, e2, e3⟩ := e
      subst e1
      have HT : Sh (xs.take (k + 1) = xs.take k ++ [x]) := ⟨by rw [List.take_add_one, hx]; rfl⟩
      have HPX : Sh (xs.take (k + 1) <+: xs) := ⟨List.take_prefix _ _⟩
      obtain ⟨fn, tmps, assign, body, hy, hR⟩ := hY _ x wr hJs (by rw [List.length_take]; have := HL.out; omega)
      clear hx e2 e3
      gi_wp2
      refine hR.mono ?_
      rintro e W3 (⟨rfl, hJ3, hk3⟩ | ⟨rfl, hJx3⟩)
      · gi_wp2
        go_roundw
        case rel => exact ⟨k + 1, by omega, by simp, by rw [HT.out]; exact hJ3, ⟨HB.out.trans hk3⟩⟩
        case measure => simp [intOf]; omega
      · gi_wp2
        refine bodyPost_ret (results_none rfl _ _ _) rfl ?_
        exact ⟨⟨_, rfl⟩, .inr ⟨_, HPX.out, by rw [HT.out]; exact hJx3⟩⟩
    · have HE : Sh (xs.take k = xs) := ⟨by rw [show k = xs.length by have := HL.out; omega, List.take_length]⟩
      gi_wp2
      go_end0
      exact ⟨⟨_, rfl⟩, .inl ⟨_, rfl, by rw [← HE.out]; exact hJs⟩⟩
theorem values_stops (n : Nat) (hn : 1 ≤ n) (Bs n₀ : Nat) (v : Value) (xs : List Int) (h63 : xs.length ≤ 1000000) (w : World) (hBs : Bs < w.heap.size) (hn₀ : n₀ ≤ w.heap.size) (hc : w.cell? ⟨Bs, 0, none⟩ = some v) (hH : Held n₀ v xs w) (hv : ∃ A c, v = .slice A xs.length c) :
    SeqStopsK Fence.wide n Tryz.prog 41 #[.pointer (some ⟨Bs, 0, none⟩)] (fun x : Int => #[Value.int .i64 x]) (Below n₀) (fun ys => ys = xs) (fun pre => pre <+: xs) xs.length w := fun l J Jx W hW _ _ hY h0 => by
  obtain ⟨A, c, rfl⟩ := hv
  exact values_run n hn l Bs n₀ xs.length c A xs rfl h63 J Jx hY W ((hW.cell (p := ⟨Bs, 0, none⟩) hBs).trans hc) ⟨fun W' k x hb hx => hH.cell W' k x ((hW.mono hn₀).trans hb) hx⟩ h0
set_option maxRecDepth 100000 in
set_option maxHeartbeats 2000000 in
/-- slices.AppendSeq(nil, slices.Values(xs)). -/
theorem appendSeq_run (n : Nat) (hn : 2 ≤ n) (Bs : Nat) (v : Value) (xs : List Int) (h63 : xs.length ≤ 1000000) (w : World) (hBs : Bs < w.heap.size) (hc : w.cell? ⟨Bs, 0, none⟩ = some v) (hI : IRow w v xs) :
    CallsIn Fence.wide n Tryz.prog 52 #[.slice none 0 0, .func (.func 41) #[] #[.pointer (some ⟨Bs, 0, none⟩)]] w fun e W' =>
      ∃ u, e = .returned u ∧ W'.ownsRow w.heap.size 3 1 u xs.length (xs.map (Value.int .i64)) ∧ (u = .slice none 0 0 ↔ xs = []) ∧ Below w.heap.size w W' := by
  have h1 : 1 ≤ n := by omega
  have hro : Fence.wide.round = none := rfl
  obtain ⟨i0, hi, hz0, hz1, hz2⟩ := info_parts info_int
  refine callsIn_of_wp_marks Tryz.func52 rfl trivial ?_ hro
  simp only [Tryz.ntmps52, List.size_toArray, List.length_cons, List.length_nil, Nat.reduceAdd, Nat.reduceSub, Array.replicate_succ, Array.replicate_zero, List.push_toArray, List.append_toArray, List.nil_append, List.cons_append]
  gi_wp2
  have bO := Boxed.new w 25 (.slice none 0 0)
  have hB0 : Below w.heap.size w (w.alloc (.cells #[.slice none 0 0] 25)) := (Below.refl _ w).alloc (Nat.le_refl _) _
  have hIH : Held w.heap.size v xs (w.alloc (.cells #[.slice none 0 0] 25)) := ⟨fun W' k x hb hx => hI.held.cell W' k x (hB0.trans hb) hx⟩
  refine wpIn_rangeFunc_ownG hro h1 (gf := 41) (lb := #[.pointer (some ⟨Bs, 0, none⟩)]) rfl trivial (enters_of Tryz.func41 (by kernel_rfl) rfl)
    (values_stops (n - 1) (by omega) Bs w.heap.size v xs h63 _ (by simp; omega) (by simp) ((hB0.cell (p := ⟨Bs, 0, none⟩) hBs).trans hc) hIH hI.shape) belowK_t (belowK_b (by simp)) (Below.refl _ _) (fun _ => rfl)
    (fun pre W => (∃ u, Boxed W w.heap.size 25 u ∧ W.ownsRow w.heap.size 3 1 u pre.length (pre.map (Value.int .i64)) ∧ (u = .slice none 0 0 ↔ pre = [])) ∧ Below w.heap.size w W)
    (fun _ _ _ => False)
    (OwnFrom.and (Own.from (holdsRow_own w.heap.size w.heap.size 25 3 1 (fun pre => pre.length) (fun pre => pre.map (Value.int .i64)) (fun pre u => u = .slice none 0 0 ↔ pre = [])) _) (ownFrom_below (Nat.le_refl _) (by simp)))
    (fun _ _ _ _ _ hs _ _ => hs)
    ⟨⟨_, bO, World.ownsRow_nil _ _ _ _, by simp⟩, hB0⟩
    (fun x => { tmps := #[.slice none 0 0, .func (.func 41) #[] #[.pointer (some ⟨Bs, 0, none⟩)], .pointer (some ⟨w.heap.size, 0, none⟩), undef, .slice none 0 0, .int .i64 x, .func (.func 41) #[] #[.pointer (some ⟨Bs, 0, none⟩)], .int .i64 x, undef, undef, undef, undef, undef], defers := [] }) ?assign ?body ?done ?stop
  case assign =>
    intro l x W K hK
    gi_wp2
    exact hK
  case body =>
    rintro l pre x W ⟨⟨u, hv, hrow, hnil⟩, hB⟩ hlt
    have hc := hv.cell
    gi_wp2_with (gi_at_builtin; refine wpListIn_append_own _ rfl _ _ 25 rfl w.heap.size 3 i0 (.int .i64 0) 1 8 Tryz.underlying25 hi hz0 hz1 hz2 rfl (by decide) _ _ _ rfl (hrow.alloc _) ⟨W.heap.size, 0, none⟩ 1 1 [.int .i64 x] rfl rfl (cell_one_new _ _ _) (by simp [Value.oneCell']) (by simp only [maxLen]; omega) (by omega) (by have := hB.size; simp; omega) ?_; intro v' w1 hown' hgrow _; obtain ⟨g', cap', rfl⟩ := ownsRow_succ hown'; obtain ⟨hv1, hv2, hr2, hk2, hb2⟩ := hv.appended (by decide) hrow hB.size (Nat.le_refl _) hown' hgrow; have hc1 := hv1.cell; have hf1 := hv1.frozen)
    exact ⟨hk2.from _, hb2, ⟨_, hv2, by simpa using hr2, by simp⟩, hB.trans hb2⟩
  case done =>
    rintro D ys W hD rfl ⟨⟨u, hv, hrow, hnil⟩, hB⟩ hK
    have hc := hv.cell
    gi_wp2
    refine ⟨by simp, .inl ⟨_, _, rfl, run_takeDeferred hK, ?_⟩⟩
    exact ⟨_, results_tmp rfl _ _ _, u, rfl, ownsRow_putObj hrow _ hK rfl, hnil, hB.trans (belowK_b (w := w) (Nat.le_refl _) W D _ _ (by simp at hD; omega) hK rfl rfl)⟩
  case stop =>
    rintro D c pre W _ _ h _
    exact h.elim
set_option maxHeartbeats 1000000 in
theorem collect_run (n : Nat) (hn : 3 ≤ n) (Bs : Nat) (v : Value) (xs : List Int) (h63 : xs.length ≤ 1000000) (w : World) (hBs : Bs < w.heap.size) (hc : w.cell? ⟨Bs, 0, none⟩ = some v) (hI : IRow w v xs) :
    CallsIn Fence.wide n Tryz.prog 39 #[.func (.func 41) #[] #[.pointer (some ⟨Bs, 0, none⟩)]] w fun e W' =>
      ∃ u, e = .returned u ∧ W'.ownsRow w.heap.size 3 1 u xs.length (xs.map (Value.int .i64)) ∧ (u = .slice none 0 0 ↔ xs = []) ∧ Below w.heap.size w W' := by
  have h1 : 1 ≤ n := by omega
  have hfn : Fence.wide.fn 52 := trivial
  refine callsIn_of_wp Tryz.func39 rfl trivial ?_ rfl
  simp only [Tryz.ntmps39, List.size_toArray, List.length_cons, List.length_nil, Nat.reduceAdd, Nat.reduceSub, Array.replicate_succ, Array.replicate_zero, List.push_toArray, List.append_toArray, List.nil_append, List.cons_append]
  gi_wp2_with (gi_at_call 52; refine (appendSeq_run (n - 1) (by omega) Bs v xs h63 _ hBs hc hI).mono ?_; rintro e w' ⟨u, rfl, hrow, hnil, hb⟩)
  go_ret
  exact ⟨u, rfl, hrow, hnil, hb⟩
set_option maxHeartbeats 1000000 in
theorem sorted_run (n : Nat) (hn : 4 ≤ n) (Bs : Nat) (v : Value) (xs : List Int) (h63 : xs.length ≤ 1000000) (w : World) (hBs : Bs < w.heap.size) (hc : w.cell? ⟨Bs, 0, none⟩ = some v) (hI : IRow w v xs) :
    CallsIn Fence.wide n Tryz.prog 24 #[.func (.func 41) #[] #[.pointer (some ⟨Bs, 0, none⟩)]] w fun e W' =>
      ∃ u, e = .returned u ∧ W'.ownsRow w.heap.size 3 1 u xs.length ((xs.mergeSort fun x y => decide (x ≤ y)).map (Value.int .i64)) ∧ Below w.heap.size w W' := by
  have h1 : 1 ≤ n := by omega
  have hsort : AnyZI.SortsIn Tryz.prog Tryz.sortedA_ren Fence.wide (n - 1) := Tryz.sortsA (n - 1)
  unfold AnyZI.SortsIn at hsort
  change (∀ (blk off cap : Nat) (ss : List Int) (W : World), Holds encZ W blk off ss.toArray → blk < W.heap.size → ss.length < 4611686018427387904 → CallsIn Fence.wide (n - 1) Tryz.prog 40 _ _ _) ∧ (∀ (p : Option Addr) (cap : Nat) (W : World), CallsIn Fence.wide (n - 1) Tryz.prog 40 _ _ _) at hsort
  have hf1 : Fence.wide.fn 39 := trivial
  have hf2 : Fence.wide.fn 40 := trivial
  refine callsIn_of_wp Tryz.func24 rfl trivial ?_ rfl
  simp only [Tryz.ntmps24, List.size_toArray, List.length_cons, List.length_nil, Nat.reduceAdd, Nat.reduceSub, Array.replicate_succ, Array.replicate_zero, List.push_toArray, List.append_toArray, List.nil_append, List.cons_append]
  gi_wp2_with (gi_at_call 39; refine (collect_run (n - 1) (by omega) Bs v xs h63 _ hBs hc hI).mono ?_; rintro e W ⟨u, rfl, hrow, hnil, hb⟩)
  rcases hrow.2 with ⟨rfl, hz⟩ | ⟨gb, cap, cur, rfl, hbase, hgb, r1, r2, r3, r4⟩
  · have hxs : xs = [] := List.eq_nil_of_length_eq_zero hz
    subst hxs
    gi_wp2_with (gi_at_call 40; refine (hsort.2 none 0 W).mono ?_; rintro e w' ⟨rfl, rfl⟩)
    go_ret
    exact ⟨.slice none 0 0, rfl, by simpa using hrow, hb⟩
  · have hH : Holds encZ W gb 0 xs.toArray := holds_of_block_i hgb (by simpa [encZ] using r4)
    have hgl : gb < W.heap.size := (Array.getElem?_eq_some_iff.1 hgb).1
    have cS := hsort.1 gb 0 cap xs W hH hgl (by omega)
    gi_wp2_with (gi_at_call 40; refine cS.mono ?_; rintro e w' ⟨rfl, nn, os, rfl⟩)
    go_ret
    exact ⟨_, rfl, ownsRow_sorted_i (by simp) hbase hgb r1 r2 r3, hb.grown (grownBy_sorted_i _) hb.size (fun j hj => by cases hj; exact hbase)⟩
theorem Sorted_calls (Bs : Nat) (v : Value) (xs : List Int) (h63 : xs.length ≤ 1000000) (w : World) (hBs : Bs < w.heap.size) (hc : w.cell? ⟨Bs, 0, none⟩ = some v) (hI : IRow w v xs) (hs : xs.Pairwise fun a b => a ≤ b) :
    Calls Tryz.prog 24 #[.func (.func 41) #[] #[.pointer (some ⟨Bs, 0, none⟩)]] w fun e w' => ∃ u, e = .returned u ∧ IRow w' u xs ∧ (∀ k, u.ownBlock = some k → w.heap.size ≤ k) ∧ Below w.heap.size w w' := by
  refine (callsIn_wide (n := 6)).1 ?_
  refine (sorted_run 6 (by omega) Bs v xs h63 w hBs hc hI).mono ?_
  rintro e w' ⟨u, rfl, hrow, hb⟩
  have e1 : (xs.mergeSort fun x y => decide (x ≤ y)) = xs := List.mergeSort_of_pairwise (hs.imp fun h => by simpa using h)
  rw [e1] at hrow
  exact ⟨u, rfl, ownsRow_base_a hrow (Nat.zero_le _), fun k hk => (ownsRow_lt hrow k hk).2, hb⟩
theorem Values_calls (A : Option Addr) (n c : Nat) (w : World) :
    Calls Tryz.prog 25 #[.slice A n c] w fun e w' => e = .returned (.func (.func 41) #[] #[.pointer (some ⟨w.heap.size, 0, none⟩)]) ∧ w' = w.alloc (.cells #[.slice A n c] 25) := by
  go_enter Tryz.func25, Tryz.ntmps25
  go_wp2
  go_ret
  exact ⟨rfl, rfl⟩
end YtdppkdjgadiinaaGreat
end Go.Proofs
