/- Package slices: rows of numbers: a copy, what a predicate strikes out. -/
import Derived.Test.YtdppkdjgadiinaaGreatSolve
import Derived.Lib.SliceRun
set_option linter.unusedVariables false
set_option linter.unusedSimpArgs false
namespace Go.Proofs.YtdppkdjgadiinaaGreat
open Go.RowKit

def IntK : RK Int := ⟨3, 25, 1, 8, .int .i64 0, fun x => [.int .i64 x]⟩
theorem IntK_ok : RKok IntK := ⟨fun _ => rfl, fun r u hu => by
  simp only [IntK, List.mem_singleton] at hu
  rw [hu]; rfl, Tryz.underlying25, by kernel_rfl, rfl, Nat.succ_pos _⟩
theorem IntK_cells (xs : List Int) : IntK.cells xs = xs.map (Value.int .i64) := by
  unfold RK.cells
  induction xs with
  | nil => rfl
  | cons x xs ih => rw [List.flatMap_cons, ih]; rfl
theorem grow_int {w : World} {v : Value} {xs : List Int} : GRow IntK w v xs ↔ IRow w v xs := by
  unfold GRow IRow
  rw [IntK_cells]
  exact Iff.rfl
/-- A row's head. -/
theorem IRow.head {w : World} {A : Option Addr} {n c m : Nat} {xs : List Int} (h : IRow w (.slice A n c) xs) (hm : m ≤ n) : IRow w (.slice A m c) (xs.take m) := by
  obtain ⟨A', c', e⟩ := h.shape
  simp only [Value.slice.injEq] at e
  obtain ⟨rfl, hn, rfl⟩ := e
  have hl : (xs.take m).length = m := by rw [List.length_take]; omega
  refine ⟨by rw [List.length_map, Nat.mul_one], ?_⟩
  rcases h.2 with ⟨e, h0⟩ | ⟨g, cap, cur, e, h1, h2, h3, h4, h5, h6⟩
  · simp only [Value.slice.injEq] at e
    obtain ⟨rfl, h7, rfl⟩ := e
    refine .inl ⟨?_, by omega⟩
    rw [show m = 0 by omega]
  · simp only [Value.slice.injEq] at e
    obtain ⟨rfl, _, rfl⟩ := e
    refine .inr ⟨g, c, cur, by rw [hl], h1, h2, by omega, h4, h5, ?_⟩
    rw [hl, List.map_take, ← h6, List.take_take]
    congr 1
    omega
/-- Cells of a row are written, from a place on. -/
theorem IRow.cells_set : ∀ (vs : List Int) (o : Nat) {w : World} {g n c : Nat} {xs : List Int}, IRow w (.slice (some ⟨g, 0, none⟩) n c) xs → o + vs.length ≤ n → ∃ ys, IRow (w.setCells g o (vs.map (Value.int .i64))) (.slice (some ⟨g, 0, none⟩) n c) ys ∧ ys.take o = xs.take o ∧ Chg (fun k => k = g) w (w.setCells g o (vs.map (Value.int .i64)))
  | [], o, w, g, n, c, xs, h, hn => ⟨xs, h, rfl, Chg.refl _ _⟩
  | v :: vs, o, w, g, n, c, xs, h, hn => by
    obtain ⟨A, c', e⟩ := h.shape
    simp only [Value.slice.injEq] at e
    simp only [List.length_cons] at hn
    have h1 : IRow (w.setCell ⟨g, o, none⟩ (.int .i64 v)) (.slice (some ⟨g, 0, none⟩) n c) (xs.set o v) := by
      have := h.set (g := g) (c := c) (by rw [← e.2.1]) (i := o) (by omega) v
      exact this
    obtain ⟨ys, h2, h3, h4⟩ := IRow.cells_set vs (o + 1) h1 (by omega)
    refine ⟨ys, h2, ?_, ((Chg.refl (fun k => k = g) w).setCell (p := ⟨g, o, none⟩) (.inl rfl) _).trans h4 (fun k hk _ => .inl hk)⟩
    have h5 := congrArg (List.take o) h3
    rw [List.take_take, List.take_take, Nat.min_eq_left (by omega)] at h5
    rw [h5, List.take_set_of_le (Nat.le_refl _)]
/-- The first place where a predicate holds, or -1. -/
def idxOf (p : Int → Bool) (xs : List Int) : Int := match xs.findIdx? p with | some i => (i : Int) | none => -1
/-- A predicate on numbers that reads only blocks of B, which stand as in w. -/
def Pred (w : World) (B : Nat → Prop) (g : Nat) (cap : Array Value) (p : Int → Bool) : Prop :=
  ∀ (u : Int) (w1 : World), w.heap.size ≤ w1.heap.size → (∀ k, B k → k < w.heap.size → w1.heap[k]? = w.heap[k]?) → Calls Tryz.prog g (#[.int .i64 u] ++ cap) w1 fun e w2 => e = .returned (.bool (p u)) ∧ w2 = w1
theorem Index_row (w : World) (B : Nat → Prop) (g : Nat) (cap : Array Value) (p : Int → Bool) (fv : Value) (hfv : Fnv Tryz.prog fv g cap) (hp : Pred w B g cap p) (v : Value) (xs : List Int) (h : IRow w v xs) :
    Calls Tryz.prog 37 #[v, fv] w fun e w' => e = .returned (.int .i64 (idxOf p xs)) ∧ w' = w := by
  obtain ⟨A, c, rfl⟩ := h.shape
  have hlen := h.len
  have H := Sh.mk h
  have HP := Sh.mk hp
  clear h hp
  obtain ⟨n, hn⟩ : ∃ n, n = xs.length := ⟨_, rfl⟩
  rw [← hn] at hlen H ⊢
  have HN := Sh.mk hn
  clear hn
  go_enter Tryz.func37, Tryz.ntmps37
  go_wp2
  go_loopw [8] (fun v8 wr => ∃ j : Nat, v8 = .int .i64 j ∧ j ≤ n ∧ Sh (wr = w ∧ ∀ i, i < j → ∀ u, xs[i]? = some u → p u = false)) (fun v8 _ => n - (intOf v8).toNat)
  case atStart => exact ⟨0, rfl, Nat.zero_le _, ⟨rfl, fun i hi => absurd hi (Nat.not_lt_zero _)⟩⟩
  case round =>
    obtain ⟨j, rfl, hj, HR⟩ := hrel
    by_cases hlt : j < n
    · obtain ⟨u, hu⟩ : ∃ u, xs[j]? = some u := ⟨_, List.getElem?_eq_getElem (by have := HN.out; omega)⟩
      have hwr := HR.out.1
      subst hwr
      obtain ⟨g', c', e, t0, _, _⟩ := H.out.at hu
      simp only [Value.slice.injEq] at e
      have e1 := e.1
      clear e
      subst e1
      have HU := Sh.mk hu
      clear hu
      go_wp2_with (refine callV (some 16) rfl rfl rfl rfl hfv [_] rfl ?_)
      refine (HP.out u wr (Nat.le_refl _) (fun k _ _ => rfl)).mono ?_
      rintro e w1 ⟨rfl, rfl⟩
      refine ⟨_, rfl, ?_⟩
      cases hpu : p u with
      | true =>
        have HPU := Sh.mk hpu
        clear hpu
        go_wp2
        go_ret
        refine ⟨?_, rfl⟩
        have : xs.findIdx? p = some j := by
          rw [List.findIdx?_eq_some_iff_getElem]
          obtain ⟨h1, h2⟩ := List.getElem?_eq_some_iff.1 HU.out
          exact ⟨h1, by rw [h2]; exact HPU.out, fun i hi => by have := HR.out.2 i hi _ (List.getElem?_eq_getElem (by omega)); simp [this]⟩
        unfold idxOf
        rw [this]
        rfl
      | false =>
        have HPU := Sh.mk hpu
        clear hpu
        go_wp2
        go_roundw
        case rel =>
          refine ⟨j + 1, by simp, by omega, ⟨(by first | exact trivial | rfl), fun i hi v hv => ?_⟩⟩
          rcases Nat.lt_or_ge i j with h | h
          · exact HR.out.2 i h v hv
          · have : i = j := by omega
            subst this
            rw [HU.out] at hv
            injection hv with hv
            rw [← hv]; exact HPU.out
        case measure => simp [intOf]; omega
    · go_wp2
      go_ret
      refine ⟨?_, HR.out.1⟩
      have : xs.findIdx? p = none := by
        rw [List.findIdx?_eq_none_iff]
        intro u hu
        obtain ⟨i, hi⟩ := List.mem_iff_getElem?.1 hu
        have := (List.getElem?_eq_some_iff.1 hi).1
        exact HR.out.2 i (by have := HN.out; omega) u hi
      unfold idxOf
      rw [this]
      rfl
end Go.Proofs.YtdppkdjgadiinaaGreat
