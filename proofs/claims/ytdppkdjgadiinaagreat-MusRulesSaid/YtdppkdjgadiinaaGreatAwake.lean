/- The law's own words: whether two rows of numbers are the same. The law's own words: an example, and its core. -/
import Derived.Test.YtdppkdjgadiinaaGreatCores
import Derived.Test.YtdppkdjgadiinaaGreatMinc
import Derived.Test.YtdppkdjgadiinaaGreatGreat
set_option linter.unusedVariables false
set_option linter.unusedSimpArgs false
namespace Go.Proofs.YtdppkdjgadiinaaGreat
open Go.RowKit

set_option maxRecDepth 100000 in
theorem Ints_calls (w : World) (v u : Value) (xs ys : List Int) (hx : IRow w v xs) (hy : IRow w u ys) :
    Calls Tryz.prog 9 #[v, u] w fun e w' => e = .returned (.bool (decide (xs = ys))) ∧ Below w.heap.size w w' := by
  obtain ⟨A, c, rfl⟩ := hx.shape
  obtain ⟨B, d, rfl⟩ := hy.shape
  have hl1 := hx.len
  have hl2 := hy.len
  obtain ⟨n, hn⟩ : ∃ n, n = xs.length := ⟨_, rfl⟩
  obtain ⟨m, hm⟩ : ∃ m, m = ys.length := ⟨_, rfl⟩
  rw [← hn] at hx hl1 ⊢
  rw [← hm] at hy hl2 ⊢
  have HX := Sh.mk hx
  have HY := Sh.mk hy
  have HN := Sh.mk hn
  have HM := Sh.mk hm
  clear hx hy hn hm
  go_enter Tryz.func9, Tryz.ntmps9
  by_cases hnm : n = m
  · subst hnm
    have hne : ((n : Int) != (n : Int)) = false := by simp
    go_wp2
    go_loopw [5] (fun v5 wr => ∃ j : Nat, v5 = .int .i64 j ∧ j ≤ n ∧ Sh (Below w.heap.size w wr ∧ ∀ i, i < j → xs[i]? = ys[i]?)) (fun v5 _ => n - (intOf v5).toNat)
    case atStart => exact ⟨0, rfl, Nat.zero_le _, ⟨Below.refl _ _, fun i hi => absurd hi (Nat.not_lt_zero _)⟩⟩
    case round =>
      obtain ⟨j, rfl, hj, HR⟩ := hrel
      by_cases hlt : j < n
      · obtain ⟨x, hx⟩ : ∃ x, xs[j]? = some x := ⟨_, List.getElem?_eq_getElem (by have := HN.out; omega)⟩
        obtain ⟨y, hy⟩ : ∃ y, ys[j]? = some y := ⟨_, List.getElem?_eq_getElem (by have := HM.out; omega)⟩
        obtain ⟨g, c', e, t0, _⟩ := (HX.out.keep HR.out.1).at hx
        simp only [Value.slice.injEq] at e
        have e1 := e.1
        clear e
        subst e1
        obtain ⟨g2, c2', e, s0, _⟩ := (HY.out.keep HR.out.1).at hy
        simp only [Value.slice.injEq] at e
        have e1 := e.1
        clear e
        subst e1
        have HXJ := Sh.mk hx
        have HYJ := Sh.mk hy
        clear hx hy
        by_cases hxy : x = y
        · have hq : (x != y) = false := by simp [hxy]
          have HQ := Sh.mk hxy
          clear hxy
          go_wp2
          go_region
          go_wp2
          go_roundw
          case rel =>
            refine ⟨j + 1, by simp, by omega, ⟨HR.out.1.drew, fun i hi => ?_⟩⟩
            rcases Nat.lt_or_ge i j with h | h
            · exact HR.out.2 i h
            · have : i = j := by omega
              subst this
              rw [HXJ.out, HYJ.out, HQ.out]
          case measure => simp [intOf]; omega
        · have hq : (x != y) = true := by simp [hxy]
          have HQ := Sh.mk hxy
          clear hxy
          go_wp2
          go_region
          go_wp2
          go_ret
          refine ⟨?_, HR.out.1.drew⟩
          have : xs ≠ ys := fun e => HQ.out (by have := HXJ.out; rw [e, HYJ.out] at this; injection this with this; exact this.symm)
          simp [this]
      · go_wp2
        go_ret
        refine ⟨?_, HR.out.1⟩
        have : xs = ys := by
          apply List.ext_getElem?
          intro i
          rcases Nat.lt_or_ge i n with h | h
          · exact HR.out.2 i (by omega)
          · rw [List.getElem?_eq_none (by have := HN.out; omega), List.getElem?_eq_none (by have := HM.out; omega)]
        simp [this]
  · have hne : ((n : Int) != (m : Int)) = true := by simp; omega
    have HNM := Sh.mk hnm
    clear hnm
    go_wp2
    go_ret
    have : xs ≠ ys := fun e => HNM.out (by rw [HN.out, HM.out, e])
    exact ⟨by simp [this], Below.refl _ _⟩
end Go.Proofs.YtdppkdjgadiinaaGreat
set_option linter.unusedVariables false
set_option linter.unusedSimpArgs false
namespace Go.Proofs.YtdppkdjgadiinaaGreat
open Go.RowKit

def exA : Ty := .mk 1 0 []
def exB : Ty := .mk 1 1 []
def exInt : Ty := .mk 2 0 []
def exBool : Ty := .mk 3 0 []
def exE : List Eqn := [⟨exA, exInt, 0, 0⟩, ⟨exB, exB, 0, 0⟩, ⟨exA, exBool, 0, 0⟩]
theorem add_zero (g m : Nat) : (⟨g, 0, none⟩ : Addr).add m = ⟨g, m, none⟩ := by
  unfold Addr.add
  split
  · rename_i h; rw [h]
  · simp
theorem Blk.elem {w : World} {S : Nat → Prop} {g : Nat} {t : TypeId} {pre us post : List Value} {i sz : Nat} {e : List Dat} (h : Blk w g t (pre ++ (us ++ post))) (hp : pre.length = i * sz) (hu : us.length = sz) (hc : CellsAt w S e us) (hS : S g) : ElemAt w S sz (some ⟨g, 0, none⟩) i e := by
  refine ⟨⟨g, 0, none⟩, us, rfl, hS, h.lt, hu, fun j u hj => ?_, hc⟩
  have hjl : j < us.length := (List.getElem?_eq_some_iff.1 hj).1
  rw [add_zero, h.cell, List.getElem?_append_right (by omega), List.getElem?_append_left (by omega), ← hj]
  congr 1
  omega
def cellsE : List Value := [.int .i64 1, .int .i64 0, .slice none 0 0, .int .i64 2, .int .i64 0, .slice none 0 0, .int .i64 0, .int .i64 0,
  .int .i64 1, .int .i64 1, .slice none 0 0, .int .i64 1, .int .i64 1, .slice none 0 0, .int .i64 0, .int .i64 0,
  .int .i64 1, .int .i64 0, .slice none 0 0, .int .i64 3, .int .i64 0, .slice none 0 0, .int .i64 0, .int .i64 0]
theorem exE_at {w : World} {g : Nat} {t : TypeId} (h : Blk w g t cellsE) : EqsAt w (fun k => g ≤ k) exE (.slice (some ⟨g, 0, none⟩) 3 3) := by
  have hnil : ∀ t : Ty, t.parts = [] → PartsAt w (fun k => g ≤ k) t (.slice none 0 0) := fun t ht => by
    unfold PartsAt
    rw [ht]
    exact Dat.nil_at _ _ _
  refine Dat.row_at.2 ⟨_, _, rfl, by simp [exE], by simp [maxLen], fun k e hk => ?_⟩
  match k, hk with
  | 0, hk =>
    simp only [exE, List.map_cons, List.getElem?_cons_zero, Option.some.injEq] at hk
    subst hk
    exact Blk.elem (pre := []) (us := cellsE.take 8) (post := cellsE.drop 8) (by simpa using h) rfl rfl (Eqn.cells.2 ⟨.slice none 0 0, .slice none 0 0, rfl, hnil _ rfl, hnil _ rfl⟩) (Nat.le_refl _)
  | 1, hk =>
    simp only [exE, List.map_cons, List.getElem?_cons_zero, List.getElem?_cons_succ, Option.some.injEq] at hk
    subst hk
    exact Blk.elem (pre := cellsE.take 8) (us := (cellsE.drop 8).take 8) (post := cellsE.drop 16) (by simpa [cellsE] using h) rfl rfl (Eqn.cells.2 ⟨.slice none 0 0, .slice none 0 0, rfl, hnil _ rfl, hnil _ rfl⟩) (Nat.le_refl _)
  | 2, hk =>
    simp only [exE, List.map_cons, List.getElem?_cons_zero, List.getElem?_cons_succ, Option.some.injEq] at hk
    subst hk
    exact Blk.elem (pre := cellsE.take 16) (us := (cellsE.drop 16).take 8) (post := []) (by simpa [cellsE] using h) rfl rfl (Eqn.cells.2 ⟨.slice none 0 0, .slice none 0 0, rfl, hnil _ rfl, hnil _ rfl⟩) (Nat.le_refl _)
  | (k + 3), hk => simp [exE] at hk
theorem exE_right : exE.all Eqn.right = true := by
  simp [exE, Eqn.right, Ty.right, Ty.rights, exA, exB, exInt, exBool, Ty.plainB, Ty.knownB]
theorem exE_core : coreP exE (satP exE) = ([0, 2], 0) := by
  have hr := exE_right
  have hn : nums exE.length = [0, 1, 2] := rfl
  have h012 : satP exE [0, 1, 2] = false := by
    rw [← Bool.not_eq_true, satP_iff hr]
    rintro ⟨σ, h⟩
    have h1 := h ⟨exA, exInt, 0, 0⟩ (by simp [pickE, pick1, exE])
    have h2 := h ⟨exA, exBool, 0, 0⟩ (by simp [pickE, pick1, exE])
    simp only [exA, exInt, exBool, Ty.inst] at h1 h2
    rw [h1] at h2
    simp [Ty.insts] at h2
  have h02 : satP exE [0, 2] = false := by
    rw [← Bool.not_eq_true, satP_iff hr]
    rintro ⟨σ, h⟩
    have h1 := h ⟨exA, exInt, 0, 0⟩ (by simp [pickE, pick1, exE])
    have h2 := h ⟨exA, exBool, 0, 0⟩ (by simp [pickE, pick1, exE])
    simp only [exA, exInt, exBool, Ty.inst] at h1 h2
    rw [h1] at h2
    simp [Ty.insts] at h2
  have h12 : satP exE [1, 2] = true := by
    rw [satP_iff hr]
    refine ⟨fun _ => exBool, fun e he => ?_⟩
    simp [pickE, pick1, exE] at he
    rcases he with rfl | rfl
    · rfl
    · simp [exA, exBool, Ty.inst, Ty.insts]
  have h0 : satP exE [0] = true := by
    rw [satP_iff hr]
    refine ⟨fun _ => exInt, fun e he => ?_⟩
    simp [pickE, pick1, exE] at he
    subst he
    simp [exA, exInt, Ty.inst, Ty.insts]
  unfold coreP
  rw [hr, hn, h012]
  simp [reduceP, kept, h12, h02, h0]
theorem exE_sizes : sizes exE ≤ 1000000 := by
  simp [sizes, exE, Eqn.size, exA, exB, exInt, exBool, Ty.size, Ty.sizes]
theorem IRow.lit2 (w : World) (a b : Int) : IRow (w.alloc (.cells #[.int .i64 a, .int .i64 b] 3)) (.slice (some ⟨w.heap.size, 0, none⟩) 2 2) [a, b] := by
  unfold IRow
  exact World.ownsRow_lit w #[.int .i64 a, .int .i64 b] 2 (Nat.zero_le _) (by simp [maxLen]) rfl
theorem awake_calls (w : World) : Calls Tryz.prog 6 #[] w fun e w' => e = .returned (.bool true) ∧ Below w.heap.size w w' := by
  have TOK : Sh (1 = 1) := ⟨rfl⟩
  go_enter Tryz.func6, Tryz.ntmps6
  go_upto_region 2 with (first
    | (go_at_call 14; clear TOK; refine (Var_calls _ _).mono ?_; rintro e w1 ⟨rfl, hb1⟩; have HB1 := Sh.mk hb1; clear hb1)
    | (go_at_call 14; refine (Var_calls _ _).mono ?_; rintro e w2 ⟨rfl, hb2⟩; have HB2 := Sh.mk hb2; clear hb2))
  obtain ⟨W, hW⟩ : ∃ W, W = ((w2.alloc (.cells #[.int .i64 1, .int .i64 0, .slice none 0 0] 36)).alloc (.cells #[.int .i64 1, .int .i64 1, .slice none 0 0] 36)) := ⟨_, rfl⟩
  have hb : Below w2.heap.size w2 W := by rw [hW]; exact ((Below.refl _ _).alloc (Nat.le_refl _) _).alloc (by simp) _
  have b1 : Blk W w2.heap.size 36 [.int .i64 1, .int .i64 0, .slice none 0 0] := by rw [hW]; exact (Blk.new _ _ _).alloc _
  have b2 : Blk W (w2.heap.size + 1) 36 [.int .i64 1, .int .i64 1, .slice none 0 0] := by rw [hW]; exact Blk.new' _ _ _ (by simp)
  have HBW := Sh.mk (below_then (below_then HB1.out HB2.out) hb)
  have p0 := b1.cell 0
  have p1 := b1.cell 1
  have p2 := b1.cell 2
  have q0 := b2.cell 0
  have q1 := b2.cell 1
  have q2 := b2.cell 2
  simp only [List.getElem?_cons_zero, List.getElem?_cons_succ] at p0 p1 p2 q0 q1 q2
  rw [← hW]
  clear hb b1 b2 hW HB1 HB2
  have HX : Sh (Blk (W.alloc (.cells cellsE.toArray 40)) W.heap.size 40 cellsE) := ⟨Blk.new _ _ _⟩
  have HXB : Sh (Below W.heap.size W (W.alloc (.cells cellsE.toArray 40))) := ⟨(Below.refl _ _).alloc (Nat.le_refl _) _⟩
  have HC := Sh.mk (Core_calls _ _ _ _ _ (exE_at HX.out) (satP_is exE) (by simp [exE]) exE_sizes)
  rw [exE_core] at HC
  simp only [cellsE] at HC HXB
  clear HX
  go_upto_region 3 with (first | (go_at_call 7; refine HC.out.mono ?_; rintro e w3 ⟨v3, rfl, i1, i2, i3⟩; have I1 := Sh.mk i1; have I3 := Sh.mk (below_then HXB.out i3); clear i1 i2 i3))
  obtain ⟨v3', hv3⟩ : ∃ v3', v3' = v3 := ⟨_, rfl⟩
  have HL := Sh.mk (IRow.lit2 w3 0 2)
  have HLB : Sh (Below w3.heap.size w3 (w3.alloc (.cells #[.int .i64 0, .int .i64 2] 3))) := ⟨(Below.refl _ _).alloc (Nat.le_refl _) _⟩
  go_wp2_with (first | (go_at_call 9; refine (Ints_calls _ _ _ [0, 2] [0, 2] (I1.out.keep HLB.out) HL.out).mono ?_; rintro e w4 ⟨rfl, hb4⟩; have HB4 := Sh.mk hb4; clear hb4))
  go_ret
  exact ⟨rfl, below_then HBW.out (below_then I3.out (below_then HLB.out HB4.out))⟩
theorem IRow.here {w : World} {A : Option Addr} {n c : Nat} {xs : List Int} (h : IRow w (.slice A n c) xs) {i : Nat} (hi : i < n) : ∃ g x, A = some ⟨g, 0, none⟩ ∧ xs[i]? = some x ∧ w.cell? ⟨g, i, none⟩ = some (.int .i64 x) := by
  obtain ⟨A1, c1, e3⟩ := h.shape
  simp only [Value.slice.injEq] at e3
  obtain ⟨x, hx⟩ : ∃ x, xs[i]? = some x := ⟨_, List.getElem?_eq_getElem (by omega)⟩
  obtain ⟨g, k, e, hc, _⟩ := h.at hx
  simp only [Value.slice.injEq] at e
  exact ⟨g, x, e.1, hx, hc⟩
end Go.Proofs.YtdppkdjgadiinaaGreat
