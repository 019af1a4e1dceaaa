/- Package cycle: a class is ended. -/
import Derived.Test.YtdppkdjgadiinaaGreatEntry
import Derived.Lib.MinMax
set_option linter.unusedVariables false
set_option linter.unusedSimpArgs false
namespace Go.Proofs.YtdppkdjgadiinaaGreat
open Go.RowKit

theorem look_int {w : World} {m : Nat} {l : List (Int × Int)} (h : MapAt (Value.int .i64) w m l) (k : Int) : (Instr.lookup 107 (.map (some m)) (.int .i64 k) false).run Tryz.prog w = .ok (.int .i64 ((mget l k).getD 0)) w := by
  have h1 := lookup_run (P := Tryz.prog) h Tryz.underlying107 Tryz.underlying3 zero_int k false
  rw [h1]
  cases mget l k <;> rfl
theorem look_state {w : World} {m : Nat} {l : List (Int × Int)} (h : MapAt (Value.int .i64) w m l) (k : Int) : (Instr.lookup 105 (.map (some m)) (.int .i64 k) false).run Tryz.prog w = .ok (.int .i64 ((mget l k).getD 0)) w := by
  have h1 := lookup_run (P := Tryz.prog) h Tryz.underlying105 Tryz.underlying3 zero_state k false
  rw [h1]
  cases mget l k <;> rfl
theorem look_bool {w : World} {m : Nat} {l : List (Int × Bool)} (h : MapAt Value.bool w m l) (k : Int) : (Instr.lookup 106 (.map (some m)) (.int .i64 k) false).run Tryz.prog w = .ok (.bool ((mget l k).getD false)) w := by
  have h1 := lookup_run (P := Tryz.prog) h Tryz.underlying106 Tryz.underlying3 zero_bool k false
  rw [h1]
  cases mget l k <;> rfl
theorem PartK.cells {c : Nat} {w : World} {v : Value} {ps : List Nat} (h : GRow (PartK c) w v ps) {i r : Nat} (hr : ps[i]? = some r) : ∃ g k, v = .slice (some ⟨g, 0, none⟩) ps.length k ∧
    w.cell? ⟨g, i * 2, none⟩ = some (.pointer (some ⟨c, 0, none⟩)) ∧ w.cell? ⟨g, i * 2 + 1, none⟩ = some (.int .i64 r) := by
  obtain ⟨g, k, e, hc⟩ := h.at (PartK_ok c) hr
  have h0 := hc 0 (by simp [PartK])
  have h1 := hc 1 (by simp [PartK])
  simp only [PartK, List.getElem?_cons_zero, List.getElem?_cons_succ, Nat.add_zero] at h0 h1
  exact ⟨g, k, e, h0, h1⟩
structure EndL (w : World) (c : Nat) (wk m0 m1 m2 m3 : Nat) (st : List (Int × Int)) (steps : Int) (bad : Bool) (id : Nat) (A : Option Addr) (n ca next : Nat) (ps : List Nat) (wr : World) : Prop where
  k : WkP wr wk m0 m1 m2 m3 (mput st id 2) steps bad
  row : GRow (PartK c) wr (.slice A n ca) ps
  box : Blk wr w.heap.size 155 [.int .i64 id, .slice A n ca, .int .i64 next]
  chg : Chg (wkF wk m0 m1 m2 m3) w wr
theorem EndL.keep {w wr w' : World} {c wk m0 m1 m2 m3 : Nat} {st : List (Int × Int)} {steps : Int} {bad : Bool} {id n ca next : Nat} {A : Option Addr} {ps : List Nat} (h : EndL w c wk m0 m1 m2 m3 st steps bad id A n ca next ps wr) (hb : Below wr.heap.size wr w') :
    EndL w c wk m0 m1 m2 m3 st steps bad id A n ca next ps w' := ⟨h.k.keep hb, h.row.keep hb, h.box.keep hb, h.chg.thenBelow hb⟩
section
variable {w wr w' : World} {c wk m0 m1 m2 m3 : Nat} {st : List (Int × Int)} {steps : Int} {bad : Bool} {id n ca next : Nat} {A : Option Addr} {ps : List Nat}
theorem EndL.rest {m : Nat} (h : EndL w c wk m0 m1 m2 m3 st steps bad id A n ca next ps wr) (hv : ∀ k, (Value.slice A n ca).ownBlock = some k → ¬ wkF wk m0 m1 m2 m3 k) (hm : wkF wk m0 m1 m2 m3 m) (hc : Chg (fun k => k = m) wr w') (hw : w.heap.size ≠ m)
    (hk : WkP w' wk m0 m1 m2 m3 (mput st id 2) steps bad) : EndL w c wk m0 m1 m2 m3 st steps bad id A n ca next ps w' :=
  ⟨hk, h.row.step (fun k hk => hc.block k (h.row.lt k hk) (fun e => hv k hk (e ▸ hm))), (hc.block _ h.box.lt hw).trans h.box, h.chg.trans hc (fun k hk _ => .inl (by subst hk; exact hm))⟩
theorem EndL.put1 {l : List (Int × Bool)} (h : EndL w c wk m0 m1 m2 m3 st steps bad id A n ca next ps wr) (hv : ∀ k, (Value.slice A n ca).ownBlock = some k → ¬ wkF wk m0 m1 m2 m3 k) (hc : Chg (fun k => k = m1) wr w') (hm : MapAt Value.bool w' m1 l) :
    EndL w c wk m0 m1 m2 m3 st steps bad id A n ca next ps w' := h.rest hv (.inr (.inr (.inl rfl))) hc (fun e => by obtain ⟨l, h1⟩ := h.k.a1; exact h1.ne_blk h.box e.symm) (h.k.put1 hc hm)
theorem EndL.put2 {l : List (Int × Int)} (h : EndL w c wk m0 m1 m2 m3 st steps bad id A n ca next ps wr) (hv : ∀ k, (Value.slice A n ca).ownBlock = some k → ¬ wkF wk m0 m1 m2 m3 k) (hc : Chg (fun k => k = m2) wr w') (hm : MapAt (Value.int .i64) w' m2 l) :
    EndL w c wk m0 m1 m2 m3 st steps bad id A n ca next ps w' := h.rest hv (.inr (.inr (.inr (.inl rfl)))) hc (fun e => by obtain ⟨l, h1⟩ := h.k.a2; exact h1.ne_blk h.box e.symm) (h.k.put2 hc hm)
theorem EndL.put3 {l : List (Int × Int)} (h : EndL w c wk m0 m1 m2 m3 st steps bad id A n ca next ps wr) (hv : ∀ k, (Value.slice A n ca).ownBlock = some k → ¬ wkF wk m0 m1 m2 m3 k) (hc : Chg (fun k => k = m3) wr w') (hm : MapAt (Value.int .i64) w' m3 l) :
    EndL w c wk m0 m1 m2 m3 st steps bad id A n ca next ps w' := h.rest hv (.inr (.inr (.inr (.inr rfl)))) hc (fun e => by obtain ⟨l, h1⟩ := h.k.a3; exact h1.ne_blk h.box e.symm) (h.k.put3 hc hm)
/-- The cells that the last statement reads. -/
theorem EndL.three (h : EndL w c wk m0 m1 m2 m3 st steps bad id A n ca next ps wr) : wr.cell? ⟨wk, 2, none⟩ = some (.map (some m2)) ∧ wr.cell? ⟨wk, 3, none⟩ = some (.map (some m3)) ∧ wr.cell? ⟨w.heap.size, 0, none⟩ = some (.int .i64 id) := by
  have q2 := h.k.blk.cell 2
  have q3 := h.k.blk.cell 3
  have b0 := h.box.cell 0
  exact ⟨q2, q3, b0⟩
/-- Both stores of the last statement. -/
theorem EndL.stores (h : EndL w c wk m0 m1 m2 m3 st steps bad id A n ca next ps wr) (hv : ∀ k, (Value.slice A n ca).ownBlock = some k → ¬ wkF wk m0 m1 m2 m3 k) (z : Int) :
    ∃ (v0 : Value) (s0 : Nat) (w1 : World), (Instr.mapEntry 107 (.map (some m2)) (.int .i64 id)).run Tryz.prog wr = .ok (.tuple #[v0, .int .i64 s0]) w1 ∧ (w1.cell? ⟨wk, 2, none⟩ = some (.map (some m2)) ∧ w1.cell? ⟨wk, 3, none⟩ = some (.map (some m3)) ∧ w1.cell? ⟨w.heap.size, 0, none⟩ = some (.int .i64 id)) ∧
      ∀ x : Int, ∃ (w2 : World), (Instr.entryStore 107 (.map (some m2)) (.int .i64 s0) (.int .i64 x)).run Tryz.prog w1 = .ok () w2 ∧ (w2.cell? ⟨wk, 2, none⟩ = some (.map (some m2)) ∧ w2.cell? ⟨wk, 3, none⟩ = some (.map (some m3)) ∧ w2.cell? ⟨w.heap.size, 0, none⟩ = some (.int .i64 id)) ∧
        ∃ (v3 : Value) (s3 : Nat) (w3 : World), (Instr.mapEntry 107 (.map (some m3)) (.int .i64 id)).run Tryz.prog w2 = .ok (.tuple #[v3, .int .i64 s3]) w3 ∧ (w3.cell? ⟨wk, 2, none⟩ = some (.map (some m2)) ∧ w3.cell? ⟨wk, 3, none⟩ = some (.map (some m3)) ∧ w3.cell? ⟨w.heap.size, 0, none⟩ = some (.int .i64 id)) ∧
          ∃ (w4 : World), (Instr.entryStore 107 (.map (some m3)) (.int .i64 s3) (.int .i64 z)).run Tryz.prog w3 = .ok () w4 ∧ (w4.cell? ⟨wk, 2, none⟩ = some (.map (some m2)) ∧ w4.cell? ⟨wk, 3, none⟩ = some (.map (some m3)) ∧ w4.cell? ⟨w.heap.size, 0, none⟩ = some (.int .i64 id)) ∧
            EndL w c wk m0 m1 m2 m3 st steps bad id A n ca next ps w4 := by
  obtain ⟨l2, h2⟩ := h.k.a2
  obtain ⟨v0, s0, w1, r1, c1, z1, f1⟩ := entry_run (P := Tryz.prog) h2 Tryz.underlying107 Tryz.underlying3 zero_int id
  have cells : ∀ {u u' : World} {m : Nat}, EndL w c wk m0 m1 m2 m3 st steps bad id A n ca next ps u → Chg (fun k => k = m) u u' → wk ≠ m → w.heap.size ≠ m → u'.cell? ⟨wk, 2, none⟩ = some (.map (some m2)) ∧ u'.cell? ⟨wk, 3, none⟩ = some (.map (some m3)) ∧ u'.cell? ⟨w.heap.size, 0, none⟩ = some (.int .i64 id) := by
    intro u u' m hu hc n1 n2
    have e1 : Blk u' wk _ _ := (hc.block _ hu.k.blk.lt n1).trans hu.k.blk
    have e2 : Blk u' w.heap.size _ _ := (hc.block _ hu.box.lt n2).trans hu.box
    exact ⟨e1.cell 2, e1.cell 3, e2.cell 0⟩
  have n2 : w.heap.size ≠ m2 := fun e => h2.ne_blk h.box e.symm
  have n3 : w.heap.size ≠ m3 := fun e => by obtain ⟨l, h1⟩ := h.k.a3; exact h1.ne_blk h.box e.symm
  obtain ⟨_, _, k2, k3⟩ := h.k.ne
  refine ⟨v0, s0, w1, r1, cells h c1 k2 n2, fun x => ?_⟩
  obtain ⟨w2, r2, c2, z2, f2⟩ := f1 x w1 rfl
  have h5 : EndL w c wk m0 m1 m2 m3 st steps bad id A n ca next ps w2 := h.put2 hv (c1.trans c2 (fun k hk _ => .inl hk)) f2
  obtain ⟨l3, h3⟩ := h5.k.a3
  obtain ⟨v3, s3, w3, r3, c3, z3, f3⟩ := entry_run (P := Tryz.prog) h3 Tryz.underlying107 Tryz.underlying3 zero_int id
  obtain ⟨w4, r4, c4, z4, f4⟩ := f3 z w3 rfl
  have h6 : EndL w c wk m0 m1 m2 m3 st steps bad id A n ca next ps w4 := h5.put3 hv (c3.trans c4 (fun k hk _ => .inl hk)) f4
  exact ⟨w2, r2, h5.three, v3, s3, w3, r3, cells h5 c3 k3 n3, w4, r4, h6.three, h6⟩
end
set_option maxRecDepth 100000 in
set_option maxHeartbeats 1000000 in
theorem Wk_end (w : World) (c wk m0 m1 m2 m3 : Nat) (st : List (Int × Int)) (steps : Int) (bad : Bool) (id : Nat) (A : Option Addr) (n ca next : Nat) (ps : List Nat)
    (hw : WkP w wk m0 m1 m2 m3 st steps bad) (hf : GRow (PartK c) w (.slice A n ca) ps) (hn : n = ps.length) (hv : ∀ k, (Value.slice A n ca).ownBlock = some k → ¬ wkF wk m0 m1 m2 m3 k) :
    Calls Tryz.prog 108 #[.pointer (some ⟨wk, 0, none⟩), .agg #[.int .i64 id, .slice A n ca, .int .i64 next]] w fun e w' => e = .returned (.tuple #[]) ∧ WkP w' wk m0 m1 m2 m3 (mput st id 2) steps bad ∧ Chg (wkF wk m0 m1 m2 m3) w w' := by
  have hlen := hf.len
  rw [← hn] at hlen
  obtain ⟨w0, hw0⟩ : ∃ w0, w0 = w.alloc (.cells #[.int .i64 id, .slice A n ca, .int .i64 next] 155) := ⟨_, rfl⟩
  have hB0 : Below w.heap.size w w0 := by rw [hw0]; exact (Below.refl w.heap.size w).alloc (Nat.le_refl _) _
  have hx : Blk w0 w.heap.size 155 [.int .i64 id, .slice A n ca, .int .i64 next] := by rw [hw0]; exact Blk.new _ _ _
  have hk1 := hw.keep hB0
  obtain ⟨w1, hr1, hM1, hC1, hs1⟩ := mapUpdate_run (P := Tryz.prog) (w := w0.drew) (hk1.a0.step rfl) Tryz.underlying105 Tryz.underlying3 id 2
  have hL : EndL w c wk m0 m1 m2 m3 st steps bad id A n ca next ps w1 := by
    refine ⟨(hk1.step (w' := w0.drew) (fun _ _ => rfl)).put0 hC1 hM1, (hf.keep hB0).step (fun k hk => hC1.block k ((hf.keep hB0).lt k hk) (fun e => hv k hk (.inr (.inl e)))), (hC1.block _ hx.lt (fun e => hk1.a0.ne_blk hx e.symm)).trans hx, ?_⟩
    exact (Chg.of_below hB0).drew.trans hC1 (fun k hk _ => .inl (.inr (.inl hk)))
  have k0 := hk1.blk.cell 0
  have b0 := hx.cell 0
  simp only [List.getElem?_cons_zero, List.getElem?_cons_succ] at k0 b0
  have y1 := hL.box.cell 1
  simp only [List.getElem?_cons_zero, List.getElem?_cons_succ] at y1
  have HW0 := Sh.mk hw0
  have HL := Sh.mk hL
  have HN := Sh.mk hn
  have HV := Sh.mk hv
  clear hw hw0 hB0 hx hk1 hM1 hC1 hs1 hL hn hv hf
  go_enter Tryz.func108, Tryz.ntmps108
  go_upto_region 1 with (fail)
  rw [← HW0.out]
  clear HW0
  go_region
  clear hr1 k0 b0
  go_wp2
  go_loopw [4, 5, 17] (fun v4 v5 v17 wr => ∃ (d z : Int) (j : Nat), v4 = .int .i64 d ∧ v5 = .int .i64 z ∧ v17 = .int .i64 j ∧ j ≤ n ∧ Sh (EndL w c wk m0 m1 m2 m3 st steps bad id A n ca next ps wr)) (fun _ _ v17 _ => n - (intOf v17).toNat)
  case atStart => exact ⟨0, 1, 0, rfl, rfl, rfl, Nat.zero_le _, HL⟩
  case round =>
    obtain ⟨d, z, j, rfl, rfl, rfl, hj, HR⟩ := hrel
    clear HL y1
    by_cases hlt : j < n
    · obtain ⟨r, hr⟩ : ∃ r, ps[j]? = some r := ⟨_, List.getElem?_eq_getElem (by have := HN.out; omega)⟩
      obtain ⟨g, k', e, p0, p1⟩ := PartK.cells HR.out.row hr
      simp only [Value.slice.injEq] at e
      have e1 := e.1
      clear e
      subst e1
      obtain ⟨w2, hw2⟩ : ∃ w2, w2 = wr.alloc (.cells #[.pointer (some ⟨c, 0, none⟩), .int .i64 r] 137) := ⟨_, rfl⟩
      have HL2 : Sh (EndL w c wk m0 m1 m2 m3 st steps bad id (some ⟨g, 0, none⟩) n ca next ps w2) := ⟨by rw [hw2]; exact HR.out.keep ((Below.refl wr.heap.size wr).alloc (Nat.le_refl _) _)⟩
      have HX2 : Sh (Blk w2 wr.heap.size 137 [.pointer (some ⟨c, 0, none⟩), .int .i64 r]) := ⟨by rw [hw2]; exact Blk.new _ _ _⟩
      have HW2 := Sh.mk hw2
      have HWB : Sh (w.heap.size < wr.heap.size ∧ wr.heap.size < w2.heap.size) := ⟨HR.out.box.lt, HX2.out.lt⟩
      clear hw2 hr
      go_upto_region 6 with (fail)
      rw [← HW2.out]
      clear HW2 p0 p1
      have q0 := HL2.out.k.blk.cell 2
      have b0 := HX2.out.cell 0
      have b1 := HX2.out.cell 1
      simp only [List.getElem?_cons_zero, List.getElem?_cons_succ] at q0 b0 b1
      go_cut [4] from 21 to 29 (fun s4 wx => ∃ d', s4 = .int .i64 d' ∧ Sh (EndL w c wk m0 m1 m2 m3 st steps bad id (some ⟨g, 0, none⟩) n ca next ps wx ∧ Blk wx wr.heap.size 137 [.pointer (some ⟨c, 0, none⟩), .int .i64 r]))
      case first =>
        go_region_held3 (fun w' => w'.cell? ⟨wk, 2, none⟩ = some (.map (some m2)) ∧ w'.cell? ⟨wr.heap.size, 0, none⟩ = some (.pointer (some ⟨c, 0, none⟩)) ∧ w'.cell? ⟨wr.heap.size, 1, none⟩ = some (.int .i64 r)) (first | exact ⟨q0, b0, b1⟩) (first
          | (go_at_call 105; refine (Part_Id _ c r).mono ?_; rintro e w4 ⟨rfl, hw4⟩; have hB4 := (show Below w2.heap.size w2 w4 from (by rw [hw4]; exact ((Below.refl w2.heap.size w2).drew).alloc (Nat.le_refl _) _)); have hl4 := HL2.out.keep hB4; have hx4 := HX2.out.keep hB4; obtain ⟨l4, hm4⟩ := hl4.k.a2; have hlk4 := look_int hm4 r; have q0 := hl4.k.blk.cell 2; have b0 := hx4.cell 0; have b1 := hx4.cell 1; (simp only [List.getElem?_cons_zero, List.getElem?_cons_succ] at q0 b0 b1); (obtain ⟨dd, hdd⟩ : ∃ dd, dd = (mget l4 (r : Int)).getD 0 := ⟨_, rfl⟩); rw [← hdd] at hlk4; clear hdd hm4; have HL4 := Sh.mk hl4; have HX4 := Sh.mk hx4; clear hw4 hB4 hl4 hx4)
          | fail)
        all_goals
          go_wp2
          all_goals
            go_meet
            exact ⟨_, rfl, ⟨HL4.out, HX4.out⟩⟩
      obtain ⟨d', rfl, hc⟩ := hcut
      clear q0 b0 b1
      have HL5 := Sh.mk hc.out.1
      have HX5 := Sh.mk hc.out.2
      clear hc
      go_upto_region 7 with (fail)
      have q0 := HL5.out.k.blk.cell 3
      have b0 := HX5.out.cell 0
      have b1 := HX5.out.cell 1
      simp only [List.getElem?_cons_zero, List.getElem?_cons_succ] at q0 b0 b1
      clear HL2 HX2
      go_cut [5] from 30 to 39 (fun s4 wx => ∃ d', s4 = .int .i64 d' ∧ Sh (EndL w c wk m0 m1 m2 m3 st steps bad id (some ⟨g, 0, none⟩) n ca next ps wx ∧ Blk wx wr.heap.size 137 [.pointer (some ⟨c, 0, none⟩), .int .i64 r]))
      case first =>
        go_region_held3 (fun w' => w'.cell? ⟨wk, 3, none⟩ = some (.map (some m3)) ∧ w'.cell? ⟨wr.heap.size, 0, none⟩ = some (.pointer (some ⟨c, 0, none⟩)) ∧ w'.cell? ⟨wr.heap.size, 1, none⟩ = some (.int .i64 r)) (first | exact ⟨q0, b0, b1⟩) (first
          | (go_at_call 105; refine (Part_Id _ c r).mono ?_; rintro e w4 ⟨rfl, hw4⟩; have hB4 := (show Below wc.heap.size wc w4 from (by rw [hw4]; exact ((Below.refl wc.heap.size wc).drew).alloc (Nat.le_refl _) _)); have hl4 := HL5.out.keep hB4; have hx4 := HX5.out.keep hB4; obtain ⟨l4, hm4⟩ := hl4.k.a3; have hlk4 := look_int hm4 r; have q0 := hl4.k.blk.cell 3; have b0 := hx4.cell 0; have b1 := hx4.cell 1; (simp only [List.getElem?_cons_zero, List.getElem?_cons_succ] at q0 b0 b1); (obtain ⟨dd, hdd⟩ : ∃ dd, dd = (mget l4 (r : Int)).getD 0 := ⟨_, rfl⟩); rw [← hdd] at hlk4; clear hdd hm4; have HL4 := Sh.mk hl4; have HX4 := Sh.mk hx4; clear hw4 hB4 hl4 hx4)
          | fail)
        all_goals
          go_wp2
          all_goals
            go_meet
            exact ⟨_, rfl, ⟨HL4.out, HX4.out⟩⟩
      obtain ⟨z', rfl, hc⟩ := hcut
      clear q0 b0 b1 HL5 HX5
      have HL5 := Sh.mk hc.out.1
      have HX5 := Sh.mk hc.out.2
      clear hc
      go_upto_region 8 with (fail)
      have q0 := HL5.out.k.blk.cell 1
      have b0 := HX5.out.cell 0
      have b1 := HX5.out.cell 1
      have y0 := HL5.out.box.cell 0
      simp only [List.getElem?_cons_zero, List.getElem?_cons_succ] at q0 b0 b1 y0
      obtain ⟨l5, hm5⟩ := HL5.out.k.a1
      have hlk5 := look_bool (w := wc.drew) (hm5.step rfl) id
      obtain ⟨cy, hcy⟩ : ∃ cy, cy = (mget l5 (id : Int)).getD false := ⟨_, rfl⟩
      rw [← hcy] at hlk5
      clear hcy
      cases cy with
      | true =>
        obtain ⟨w6, hr6, hM6, hC6, hs6⟩ := mapUpdate_run (P := Tryz.prog) (w := wc.drew) (hm5.step rfl) Tryz.underlying106 Tryz.underlying3 id true
        have HL6 : Sh (EndL w c wk m0 m1 m2 m3 st steps bad id (some ⟨g, 0, none⟩) n ca next ps w6) := ⟨(HL5.out.keep (Below.refl _ _).drew).put1 HV.out hC6 hM6⟩
        clear hm5 hM6 hC6 hs6
        go_region
        go_wp2
        case roundEnd => exact ⟨⟨d', z', j + 1, rfl, rfl, by simp, by omega, HL6⟩, by simp [intOf]; omega⟩
      | false =>
        go_region_held3 (fun w' => w'.cell? ⟨wk, 1, none⟩ = some (.map (some m1)) ∧ w'.cell? ⟨wr.heap.size, 0, none⟩ = some (.pointer (some ⟨c, 0, none⟩)) ∧ w'.cell? ⟨wr.heap.size, 1, none⟩ = some (.int .i64 r) ∧ w'.cell? ⟨w.heap.size, 0, none⟩ = some (.int .i64 id)) (first | exact ⟨q0, b0, b1, y0⟩ | exact ⟨p0, p1, p2, p3⟩) (first
          | (go_at_call 105; refine (Part_Id _ c r).mono ?_; rintro e w4 ⟨rfl, hw4⟩; have hB4 := (show Below wc.heap.size wc w4 from (by rw [hw4]; exact ((Below.refl wc.heap.size wc).drew).alloc (Nat.le_refl _) _)); have hl4 := HL5.out.keep hB4; have hx4 := HX5.out.keep hB4; obtain ⟨l4, hm4⟩ := hl4.k.a1; have hlk4 := look_bool hm4 r; have q0 := hl4.k.blk.cell 1; have b0 := hx4.cell 0; have b1 := hx4.cell 1; have y0 := hl4.box.cell 0; (simp only [List.getElem?_cons_zero, List.getElem?_cons_succ] at q0 b0 b1 y0); (obtain ⟨dd, hdd⟩ : ∃ dd, dd = (mget l4 (r : Int)).getD false := ⟨_, rfl⟩); rw [← hdd] at hlk4; clear hdd; obtain ⟨w6, hr6, hM6, hC6, hs6⟩ := mapUpdate_run (P := Tryz.prog) hm4 Tryz.underlying106 Tryz.underlying3 id dd; have hl6 := hl4.put1 HV.out hC6 hM6; have hx6 : Blk w6 wr.heap.size 137 [.pointer (some ⟨c, 0, none⟩), .int .i64 r] := (hC6.block _ hx4.lt (fun e => hm4.ne_blk hx4 e.symm)).trans hx4; have p0 := hl6.k.blk.cell 1; have p1 := hx6.cell 0; have p2 := hx6.cell 1; have p3 := hl6.box.cell 0; (simp only [List.getElem?_cons_zero, List.getElem?_cons_succ] at p0 p1 p2 p3); have HL6 := Sh.mk hl6; clear hm4 hM6 hC6 hs6 hl6 hx6; clear hw4 hB4 hl4 hx4)
          | fail)
        all_goals
          go_wp2
          case roundEnd => exact ⟨⟨d', z', j + 1, rfl, rfl, by simp, by omega, HL6⟩, by simp [intOf]; omega⟩
    · go_wp2
      obtain ⟨v0, s0, w1', r1, ⟨a1, a2, a3⟩, f1⟩ := (HR.out.keep (Below.refl _ _).drew).stores HV.out z
      obtain ⟨w2, r2, ⟨b1, b2, b3⟩, v3, s3, w3, r3, ⟨c1, c2, c3⟩, w4, r4, ⟨d1, d2, d3⟩, h4⟩ := f1 (min 1099511627776 (IntKind.i64.wrap (d + 1)))
      have H4 := Sh.mk h4
      obtain ⟨k2, k3, y0⟩ := HR.out.three
      clear f1 h4
      go_region_held3 (fun w' => w'.cell? ⟨wk, 2, none⟩ = some (.map (some m2)) ∧ w'.cell? ⟨wk, 3, none⟩ = some (.map (some m3)) ∧ w'.cell? ⟨w.heap.size, 0, none⟩ = some (.int .i64 id)) (first | exact ⟨k2, k3, y0⟩ | exact ⟨a1, a2, a3⟩ | exact ⟨b1, b2, b3⟩ | exact ⟨c1, c2, c3⟩ | exact ⟨d1, d2, d3⟩) (fail)
      all_goals
        go_wp2
        refine bodyPost_end (results_none rfl _ _ _) rfl ?_
        exact ⟨rfl, H4.out.k, H4.out.chg⟩
end Go.Proofs.YtdppkdjgadiinaaGreat
