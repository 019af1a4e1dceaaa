/- Package slices: DeleteFunc, Clone at numbers. -/
import Derived.Test.YtdppkdjgadiinaaGreatInts
set_option linter.unusedVariables false
set_option linter.unusedSimpArgs false
namespace Go.Proofs.YtdppkdjgadiinaaGreat
open Go.RowKit

def kept (p : Int → Bool) (xs : List Int) : List Int := xs.filter fun x => !p x
theorem idxOf_none {p : Int → Bool} {xs : List Int} (h : xs.findIdx? p = none) : kept p xs = xs := by
  unfold kept
  rw [List.filter_eq_self]
  intro a ha
  rw [List.findIdx?_eq_none_iff] at h
  simp [h a ha]
theorem kept_take {p : Int → Bool} {xs : List Int} {j : Nat} {u : Int} (hu : xs[j]? = some u) : kept p (xs.take (j + 1)) = kept p (xs.take j) ++ (if p u then [] else [u]) := by
  unfold kept
  rw [List.take_add_one, hu, List.filter_append]
  cases hp : p u <;> simp [hp]
structure DelL (w : World) (v : Value) (xs : List Int) (p : Int → Bool) (i j : Nat) (wr : World) : Prop where
  is : ∃ mid, IRow wr v (kept p (xs.take j) ++ mid ++ xs.drop j) ∧ (kept p (xs.take j)).length = i ∧ i + mid.length = j ∧ 0 < mid.length
  chg : Chg (fun k => v.ownBlock = some k) w wr
theorem DelL.skip {w wr : World} {v : Value} {xs : List Int} {p : Int → Bool} {i j : Nat} {u : Int} (h : DelL w v xs p i j wr) (hu : xs[j]? = some u) (hp : p u = true) : DelL w v xs p i (j + 1) wr := by
  obtain ⟨mid, h1, h2, h3, h4⟩ := h.is
  have e := kept_take (p := p) hu
  rw [hp, if_pos rfl, List.append_nil] at e
  have hd : xs.drop j = u :: xs.drop (j + 1) := by
    obtain ⟨hlt, he⟩ := List.getElem?_eq_some_iff.1 hu
    rw [← he]; exact List.drop_eq_getElem_cons hlt
  refine ⟨⟨mid ++ [u], ?_, by rw [e]; exact h2, by simp; omega, by simp⟩, h.chg⟩
  rw [e]
  rw [hd] at h1
  simpa using h1
theorem DelL.keep {w wr : World} {xs : List Int} {p : Int → Bool} {i j g n c : Nat} {u : Int} (h : DelL w (.slice (some ⟨g, 0, none⟩) n c) xs p i j wr) (hu : xs[j]? = some u) (hp : p u = false) :
    DelL w (.slice (some ⟨g, 0, none⟩) n c) xs p (i + 1) (j + 1) (wr.setCell ⟨g, i, none⟩ (.int .i64 u)) := by
  obtain ⟨mid, h1, h2, h3, h4⟩ := h.is
  have e := kept_take (p := p) hu
  rw [hp, if_neg (by simp)] at e
  have hd : xs.drop j = u :: xs.drop (j + 1) := by
    obtain ⟨hlt, he⟩ := List.getElem?_eq_some_iff.1 hu
    rw [← he]; exact List.drop_eq_getElem_cons hlt
  obtain ⟨A', c', es⟩ := h1.shape
  simp only [Value.slice.injEq] at es
  have h5 := h1.set (g := g) (c := c) (by rw [← es.2.1]) (i := i) (by simp; omega) u
  cases mid with
  | nil => simp at h4
  | cons a mid =>
    refine ⟨⟨mid ++ [u], ?_, by rw [e]; simp [h2], by simp at h3 ⊢; omega, by simp⟩, h.chg.setCell (p := ⟨g, i, none⟩) (.inl (by simp [Value.ownBlock])) _⟩
    rw [e]
    rw [hd, List.append_assoc, List.set_append_right _ _ (by omega), h2, Nat.sub_self] at h5
    simpa using h5
set_option maxRecDepth 100000 in
set_option maxHeartbeats 1000000 in
theorem Delete_row (w : World) (B : Nat → Prop) (g : Nat) (cap : Array Value) (p : Int → Bool) (fv : Value) (hfv : Fnv Tryz.prog fv g cap) (hp : Pred w B g cap p) (v : Value) (xs : List Int) (h : IRow w v xs) (hB : ∀ k, v.ownBlock = some k → ¬ B k) :
    Calls Tryz.prog 19 #[v, fv] w fun e w' => ∃ v', e = .returned v' ∧ IRow w' v' (kept p xs) ∧ v'.ownBlock = v.ownBlock ∧ Chg (fun k => v.ownBlock = some k) w w' := by
  have HI := Sh.mk (Index_row w B g cap p fv hfv hp v xs h)
  have HP := Sh.mk hp
  have H := Sh.mk h
  have HB := Sh.mk hB
  cases hx : xs.findIdx? p with
  | none =>
    have HK := Sh.mk (idxOf_none hx)
    have e1 : idxOf p xs = -1 := by unfold idxOf; rw [hx]
    rw [e1] at HI
    clear e1 hx hp h hB
    go_enter Tryz.func19, Tryz.ntmps19
    go_wp2_with (first | (go_at_call 37; refine HI.out.mono ?_; rintro e w1 ⟨rfl, rfl⟩))
    go_ret
    exact ⟨v, rfl, by rw [HK.out]; exact H.out, rfl, Chg.refl _ _⟩
  | some i0 =>
    have e1 : idxOf p xs = i0 := by unfold idxOf; rw [hx]
    rw [e1] at HI
    rw [List.findIdx?_eq_some_iff_getElem] at hx
    obtain ⟨hi0, hpi, hall⟩ := hx
    obtain ⟨u0, hu0⟩ : ∃ u0, xs[i0]? = some u0 := ⟨_, List.getElem?_eq_getElem hi0⟩
    obtain ⟨g0, c0, rfl, _⟩ := h.at hu0
    have hlen := h.len
    have hL0 : DelL w (.slice (some ⟨g0, 0, none⟩) xs.length c0) xs p i0 (i0 + 1) w := by
      have hk : kept p (xs.take i0) = xs.take i0 := by
        unfold kept
        rw [List.filter_eq_self]
        intro a ha
        obtain ⟨i, hi⟩ := List.mem_iff_getElem?.1 ha
        rw [List.getElem?_take] at hi
        split at hi
        · rename_i hlt
          obtain ⟨h1, h2⟩ := List.getElem?_eq_some_iff.1 hi
          have := hall i hlt
          rw [h2] at this
          simp [this]
        · cases hi
      have e2 := kept_take (p := p) hu0
      have hpu : p u0 = true := by obtain ⟨h1, h2⟩ := List.getElem?_eq_some_iff.1 hu0; rw [← h2]; exact hpi
      rw [hpu, if_pos rfl, List.append_nil, hk] at e2
      have hd : xs.drop i0 = u0 :: xs.drop (i0 + 1) := by
        obtain ⟨hlt, he⟩ := List.getElem?_eq_some_iff.1 hu0
        rw [← he]; exact List.drop_eq_getElem_cons hlt
      refine ⟨⟨[u0], ?_, by rw [e2, List.length_take]; omega, by simp, by simp⟩, Chg.refl _ _⟩
      rw [e2]
      have e3 : List.take i0 xs ++ [u0] ++ List.drop (i0 + 1) xs = xs := by
        rw [List.append_assoc, List.singleton_append, ← hd, List.take_append_drop]
      rw [e3]
      exact h
    have hne : ((i0 : Int) == -1) = false := by simp
    obtain ⟨n, hn⟩ : ∃ n, n = xs.length := ⟨_, rfl⟩
    rw [← hn] at hi0 HI H HB hlen hL0 ⊢
    have HL := Sh.mk hL0
    have HN := Sh.mk hn
    have hcap : n ≤ c0 ∧ c0 ≤ 9223372036854775807 := by
      have := GRow.cap (grow_int.2 H.out)
      exact this
    obtain ⟨hc1, hc2⟩ := hcap
    clear hp h hB e1 hpi hall hu0 hL0 hn
    go_enter Tryz.func19, Tryz.ntmps19
    go_wp2_with (first | (go_at_call 37; refine HI.out.mono ?_; rintro e w1 ⟨rfl, rfl⟩))
    go_loopw [5, 6] (fun v5 v6 wr => ∃ i j : Nat, v5 = .int .i64 i ∧ v6 = .int .i64 j ∧ i < j ∧ j ≤ n ∧ Sh (DelL w1 (.slice (some ⟨g0, 0, none⟩) n c0) xs p i j wr)) (fun _ v6 _ => n - (intOf v6).toNat)
    case atStart => exact ⟨i0, i0 + 1, rfl, by simp, by omega, by omega, HL⟩
    case round =>
      obtain ⟨i, j, rfl, rfl, hij, hj, HR⟩ := hrel
      by_cases hlt : j < n
      · obtain ⟨u, hu⟩ : ∃ u, xs[j]? = some u := ⟨_, List.getElem?_eq_getElem (by have := HN.out; omega)⟩
        obtain ⟨mid, m1, m2, m3, m4⟩ := HR.out.is
        have hge : (kept p (xs.take j) ++ mid ++ xs.drop j)[j]? = some u := by
          rw [List.getElem?_append_right (by simp; omega), List.getElem?_drop]
          simp only [List.length_append, m2, m3]
          simpa using hu
        have t0 := (m1.cell hge).1
        obtain ⟨ui, hui⟩ : ∃ ui, (kept p (xs.take j) ++ mid ++ xs.drop j)[i]? = some ui := ⟨_, List.getElem?_eq_getElem (by simp; omega)⟩
        have ti := (m1.cell hui).1
        have tf := (m1.cell hui).2.1
        have HU := Sh.mk hu
        have HPC := Sh.mk (HP.out u wr HR.out.chg.size (fun k hk hkl => HR.out.chg.block k hkl (fun e => HB.out k e hk)))
        clear hu m1 m2 m3 m4 hge hui
        cases hpu : p u with
        | true =>
          have HPU := Sh.mk hpu
          rw [hpu] at HPC
          clear hpu
          go_wp2_with (refine callV (some 28) rfl rfl rfl rfl hfv [_] rfl ?_)
          refine HPC.out.mono ?_
          rintro e w2 ⟨rfl, rfl⟩
          refine ⟨_, rfl, ?_⟩
          go_wp2
          go_roundw
          case rel => exact ⟨i, j + 1, rfl, by simp, by omega, by omega, ⟨HR.out.skip HU.out HPU.out⟩⟩
          case measure => simp [intOf]; omega
        | false =>
          have HPU := Sh.mk hpu
          rw [hpu] at HPC
          clear hpu
          go_wp2_with (refine callV (some 28) rfl rfl rfl rfl hfv [_] rfl ?_)
          refine HPC.out.mono ?_
          rintro e w2 ⟨rfl, rfl⟩
          refine ⟨_, rfl, ?_⟩
          go_wp2
          go_roundw
          case rel => exact ⟨i + 1, j + 1, by simp, by simp, by omega, by omega, ⟨HR.out.keep HU.out HPU.out⟩⟩
          case measure => simp [intOf]; omega
      · obtain rfl : j = n := by omega
        obtain ⟨mid, m1, m2, m3, m4⟩ := HR.out.is
        rw [HN.out, List.take_length, List.drop_length, List.append_nil] at m1
        rw [HN.out, List.take_length] at m2
        rw [← HN.out] at m1
        have hcl : ∀ ty, (Builtin.clear_ #[25] ty #[.slice (some ⟨g0, i, none⟩) (j - i) (c0 - i)]).run Tryz.prog wr = .ok (.tuple #[]) (wr.setCells g0 i (List.replicate (j - i) (.int .i64 0))) := fun ty =>
          Go.Lib.run_clear_slice wr _ _ ty _ Tryz.underlying25 zero_int rfl rfl g0 i _ _ (by omega)
            (fun t ht => by
              obtain ⟨x, hx⟩ : ∃ x, (kept p xs ++ mid)[i + t]? = some x := ⟨_, List.getElem?_eq_getElem (by simp; omega)⟩
              rw [(m1.cell hx).1]; rfl)
            (fun t ht => by
              obtain ⟨x, hx⟩ : ∃ x, (kept p xs ++ mid)[i + t]? = some x := ⟨_, List.getElem?_eq_getElem (by simp; omega)⟩
              exact (m1.cell hx).2.1)
        obtain ⟨ys, y1, y2, y3⟩ := m1.cells_set (List.replicate (j - i) 0) i (by simp; omega)
        rw [List.map_replicate] at y1 y3
        have hy : ys.take i = kept p xs := by rw [y2, ← m2, List.take_left]
        have Y1 := Sh.mk (y1.head (m := i) (by omega))
        rw [hy] at Y1
        have Y3 := Sh.mk (HR.out.chg.trans y3 (fun k hk _ => .inl (by rw [hk]; rfl)))
        have hi63 : i ≤ 9223372036854775807 := by omega
        clear m1 m2 m3 m4 y1 y2 y3 hy
        go_wp2
        go_ret
        exact ⟨_, rfl, Y1.out, rfl, Y3.out⟩
theorem Clone_row (w : World) (v : Value) (xs : List Int) (h : IRow w v xs) (hl : xs.length ≤ 1000000) :
    Calls Tryz.prog 20 #[v] w fun e w' => ∃ v', e = .returned v' ∧ IRow w' v' xs ∧ (∀ k, v'.ownBlock = some k → w.heap.size ≤ k) ∧ Below w.heap.size w w' := by
  obtain ⟨A, c, rfl⟩ := h.shape
  have H := Sh.mk h
  have HL := Sh.mk hl
  cases A with
  | none =>
    have hx : xs = [] := by
      rcases h.2 with ⟨e, h0⟩ | ⟨g, cap, cur, e, _⟩
      · exact List.length_eq_zero_iff.1 h0
      · simp at e
    subst hx
    have hn := fun w : World => Go.Lib.run_eql_slice_nil (P := Tryz.prog) w 25 3 none 0 c 0 0 Tryz.underlying25
    clear h hl
    show Calls _ _ #[.slice none 0 c] _ _
    go_enter Tryz.func20, Tryz.ntmps20
    go_wp2
    go_ret
    exact ⟨.slice none 0 0, rfl, IRow.nil _, fun k hk => by simp [Value.ownBlock] at hk, Below.refl _ _⟩
  | some ad =>
    obtain ⟨n, hn⟩ : ∃ n, n = xs.length := ⟨_, rfl⟩
    rw [← hn] at H ⊢
    have HN := Sh.mk hn
    have hq := fun w : World => Go.Lib.run_eql_slice_nil (P := Tryz.prog) w 25 3 (some ad) n c 0 0 Tryz.underlying25
    simp only [Option.isNone_some] at hq
    clear h hl hn
    go_enter Tryz.func20, Tryz.ntmps20
    have he : GRow IntK (w.alloc (.cells #[] 3)) (.slice (some ⟨w.heap.size, 0, none⟩) 0 0) [] := by
      have := World.ownsRow_lit (base := 0) (e := 3) (size := 1) w #[] 0 (Nat.zero_le _) (by simp [maxLen]) (by simp)
      simpa [GRow, IntK, RK.cells] using this
    have HE := Sh.mk he
    have HA := Sh.mk (grow_int.2 (H.out.keep ((Below.refl w.heap.size w).alloc (Nat.le_refl _) (.cells #[] 3))))
    have HBA := Sh.mk ((Below.refl w.heap.size w).alloc (Nat.le_refl _) (.cells #[] 3))
    clear he
    go_wp2_with (first | (at_builtin; refine append_row IntK_ok rfl (.tmp 5) (.tmp 6) rfl (.slice (some ⟨w.heap.size, 0, none⟩) 0 0) [] xs (.slice (some ad) n c) rfl rfl HE.out HA.out (by have := HL.out; simp; omega) (by have := HL.out; simp [IntK]; omega) ?_; intro A9 c9 w9 hI hg hv; have I9 := Sh.mk hI; have G9 := Sh.mk hg; have V9 := Sh.mk hv; clear hI hg hv))
    go_ret
    refine ⟨_, rfl, ?_, fun k hk => ?_, ?_⟩
    · have := grow_int.1 I9.out
      simpa using this
    · rcases V9.out with e | e
      · have hk2 : (Value.slice A9 ([] ++ xs).length c9).ownBlock = some k := by simpa [Value.ownBlock] using hk
        have := e.symm.trans (by simpa [Value.ownBlock] using hk)
        simp [Value.ownBlock] at this
        omega
      · have := e.symm.trans (by simpa [Value.ownBlock] using hk)
        simp at this
        omega
    · refine ⟨?_, ?_, ?_, ?_, ?_⟩
      · exact G9.out.os.trans HBA.out.os
      · exact G9.out.tape.trans HBA.out.tape
      · exact G9.out.output.trans HBA.out.output
      · exact Nat.le_trans HBA.out.size G9.out.size
      · intro k hk
        rw [G9.out.block k (by simp; omega) (by simp [Value.ownBlock]; omega)]
        exact HBA.out.block k hk
end Go.Proofs.YtdppkdjgadiinaaGreat
