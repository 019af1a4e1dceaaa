/- Package cycle: all classes; whether they are finite. -/
import Derived.Test.YtdppkdjgadiinaaGreatWends
import Derived.Test.YtdppkdjgadiinaaGreatKeys
set_option linter.unusedVariables false
set_option linter.unusedSimpArgs false
namespace Go.Proofs.YtdppkdjgadiinaaGreat
open Go.RowKit

/-- A variable's class. -/
def clsOf (s : Cl) (v : Int) : Nat := rtN s ((mget s.G.2 v).getD 0)
noncomputable def Cl.visits (s : Cl) (vs : List Int) (x : Wk) : Wk := vs.foldl (fun x v => x.goes s.parts (clsOf s v)) x
noncomputable def Cl.walked (s : Cl) : Wk := s.visits (varList s.G) ⟨[], [], 0, false⟩
theorem mem_varList (G : GSt) (v : Int) : v ∈ varList G ↔ ∃ i, mget G.2 v = some i := by
  unfold varList
  rw [List.mem_mergeSort]
  cases h : mget G.2 v with
  | none => simp [(mget_none v G.2).1 h]
  | some i =>
    have : ¬ (v ∉ G.2.map (·.1)) := fun e => by rw [(mget_none v G.2).2 e] at h; cases h
    simp only [Decidable.not_not] at this
    simp [this]
theorem fnv_all1 (p : Value) : Fnv Tryz.prog (.func (.func 90) #[] #[p]) 90 #[p] := ⟨rfl, _, Tryz.func90, by kernel_rfl, rfl⟩
theorem all1_calls (w : World) (F : Nat → Prop) (c : Nat) (s : Cl) (wk m0 m1 m2 m3 b : Nat) (x : Wk) (r : Nat) (v : Int) (h : ClAt w F c s) (hk : Cok s) (hr : r < s.whole.length) (hl : s.whole.length ≤ 1000000)
    (hw : WkP w wk m0 m1 m2 m3 x.st x.steps x.bad) (hd : ∀ k, wkF wk m0 m1 m2 m3 k → ¬ F k) (hb : w.cell? ⟨b, 0, none⟩ = some (.pointer (some ⟨wk, 0, none⟩))) (hbl : b < w.heap.size) :
    Calls Tryz.prog 90 #[.int .i64 v, .agg #[.pointer (some ⟨c, 0, none⟩), .int .i64 r], .pointer (some ⟨b, 0, none⟩)] w (WalkPost w F c s wk m0 m1 m2 m3 (x.goes s.parts r)) := by
  obtain ⟨w0, hw0⟩ : ∃ w0, w0 = w.alloc (.cells #[.pointer (some ⟨c, 0, none⟩), .int .i64 r] 137) := ⟨_, rfl⟩
  have hB0 : Below w.heap.size w w0 := by rw [hw0]; exact (Below.refl w.heap.size w).alloc (Nat.le_refl _) _
  have hx : Blk w0 w.heap.size 137 [.pointer (some ⟨c, 0, none⟩), .int .i64 r] := by rw [hw0]; exact Blk.new _ _ _
  have hb0 : w0.cell? ⟨b, 0, none⟩ = some (.pointer (some ⟨wk, 0, none⟩)) := by rw [hw0]; exact cell_alloc hb hbl _
  have HC := Sh.mk (Wk_walk w0 F c s wk m0 m1 m2 m3 x r (h.keep hB0) hk hr hl (hw.keep hB0) hd (enter_ends hk x hr))
  have x0 := hx.cell 0
  have x1 := hx.cell 1
  simp only [List.getElem?_cons_zero, List.getElem?_cons_succ] at x0 x1
  have HW0 := Sh.mk hw0
  have HB0 := Sh.mk hB0
  clear h hk hr hl hw hd hb hw0 hB0 hx
  go_enter Tryz.func90, Tryz.ntmps90
  go_upto_region 1 with (fail)
  rw [← HW0.out]
  clear HW0
  go_wp2_with (first | (go_at_call 91; refine HC.out.mono ?_; rintro e w1 ⟨rfl, e1, e2, e3⟩; have E := Sh.mk (And.intro e1 (And.intro e2 e3)); clear e1 e2 e3))
  refine bodyPost_end (results_none rfl _ _ _) rfl ?_
  exact ⟨rfl, E.out.1, E.out.2.1, (Chg.of_below HB0.out).trans E.out.2.2 (fun k hk _ => .inl hk)⟩
/-- What a round knows. -/
structure EachL (w : World) (F : Nat → Prop) (c : Nat) (s : Cl) (wk m0 m1 m2 m3 b : Nat) (v : Value) (j : Nat) (wr : World) : Prop where
  cl : ClAt wr F c s
  k : WkP wr wk m0 m1 m2 m3 (s.visits ((varList s.G).take j) ⟨[], [], 0, false⟩).st (s.visits ((varList s.G).take j) ⟨[], [], 0, false⟩).steps (s.visits ((varList s.G).take j) ⟨[], [], 0, false⟩).bad
  row : IRow wr v (varList s.G)
  own : ∀ k, v.ownBlock = some k → w.heap.size ≤ k
  box : Blk wr b 103 [.pointer (some ⟨wk, 0, none⟩)]
  chg : Chg (fun k => F k ∨ wkF wk m0 m1 m2 m3 k) w wr
set_option maxRecDepth 100000 in
set_option maxHeartbeats 1000000 in
theorem each_calls (w : World) (F : Nat → Prop) (c : Nat) (s : Cl) (wk m0 m1 m2 m3 b : Nat) (h : ClAt w F c s) (hk : Cok s) (hc : s.clash = false) (hky : KeysOk s.G) (hl : s.G.1.length ≤ 1000000)
    (hw : WkP w wk m0 m1 m2 m3 [] 0 false) (hd : ∀ k, wkF wk m0 m1 m2 m3 k → ¬ F k) (hb : Blk w b 103 [.pointer (some ⟨wk, 0, none⟩)]) (hbn : ¬ F b ∧ ¬ wkF wk m0 m1 m2 m3 b) :
    Calls Tryz.prog 89 #[.pointer (some ⟨c, 0, none⟩), .func (.func 90) #[] #[.pointer (some ⟨b, 0, none⟩)]] w (WalkPost w F c s wk m0 m1 m2 m3 s.walked) := by
  have hF : ∀ k, F k ∨ wkF wk m0 m1 m2 m3 k → k < w.heap.size := fun k hk => hk.elim (h.lt k) (hw.lt k)
  have HV := Sh.mk (Clo_Vars w F c s h hc hky.1 (by have := hky.2; omega))
  have H := Sh.mk h
  have HW := Sh.mk hw
  have HB := Sh.mk hb
  have HBN := Sh.mk hbn
  have HK := Sh.mk hk
  have HC := Sh.mk hc
  have HL := Sh.mk hl
  have HD := Sh.mk hd
  have HF := Sh.mk hF
  have HFN := Sh.mk (fnv_all1 (.pointer (some ⟨b, 0, none⟩)))
  clear h hk hc hky hl hw hd hb hbn hF
  go_enter Tryz.func89, Tryz.ntmps89
  go_wp2_with (first | (go_at_call 103; refine HV.out.mono ?_; rintro e w1 ⟨v1, rfl, i1, i2, i3⟩; have I1 := Sh.mk i1; have I2 := Sh.mk i2; have I3 := Sh.mk i3; obtain ⟨A, ca, rfl⟩ := i1.shape; clear i1 i2 i3))
  obtain ⟨n, hn⟩ : ∃ n, n = (varList s.G).length := ⟨_, rfl⟩
  have hn63 := I1.out.len
  rw [← hn] at hn63 I1 I2 ⊢
  have HN := Sh.mk hn
  clear hn
  have HL0 : Sh (EachL w F c s wk m0 m1 m2 m3 b (.slice A n ca) 0 w1) := ⟨⟨H.out.keep I3.out, HW.out.keep I3.out, I1.out, I2.out, HB.out.keep I3.out, Chg.of_below I3.out⟩⟩
  clear HV I1 I2 I3
  go_loopw [11] (fun v11 wr => ∃ j : Nat, v11 = .int .i64 j ∧ j ≤ n ∧ Sh (EachL w F c s wk m0 m1 m2 m3 b (.slice A n ca) j wr)) (fun v11 _ => n - (intOf v11).toNat)
  case atStart => exact ⟨0, rfl, Nat.zero_le _, HL0⟩
  case round =>
    obtain ⟨j, rfl, hj, HR⟩ := hrel
    clear HL0
    by_cases hlt : j < n
    · obtain ⟨v, hv⟩ : ∃ v, (varList s.G)[j]? = some v := ⟨_, List.getElem?_eq_getElem (by have := HN.out; omega)⟩
      obtain ⟨g, ca', e, t0, _, _⟩ := HR.out.row.at hv
      simp only [Value.slice.injEq] at e
      have e1 := e.1
      clear e
      subst e1
      obtain ⟨i, hi⟩ := (mem_varList s.G v).1 (List.mem_of_getElem? hv)
      have hil : i < s.G.1.length := HK.out.vars v i hi
      obtain ⟨r1, r2, _⟩ := HK.out.rtN hil
      obtain ⟨X, hX⟩ : ∃ X, X = s.visits ((varList s.G).take j) ⟨[], [], 0, false⟩ := ⟨_, rfl⟩
      have hX2 : s.visits ((varList s.G).take (j + 1)) ⟨[], [], 0, false⟩ = X.goes s.parts (rtN s i) := by
        rw [List.take_add_one, hv, hX, Cl.visits, Cl.visits, Option.toList_some, List.foldl_append]
        simp only [List.foldl_cons, List.foldl_nil, clsOf, hi, Option.getD_some]
      obtain ⟨r, hr⟩ : ∃ r, r = rtN s i := ⟨_, rfl⟩
      rw [← hr] at r1 r2 hX2
      have HX2 := Sh.mk hX2
      have hkx := HR.out.k
      rw [← hX] at hkx
      have HKX := Sh.mk hkx
      have HI := Sh.mk (And.intro hi r1)
      have HRL := Sh.mk (show r < s.whole.length by have := HK.out.whl; omega)
      clear hv hi hil r1 r2 hX hX2 hr hkx
      go_wp2_with (first | (go_at_call 104; refine (Clo_Part wr F c s v i r HR.out.cl HC.out HI.out.1 HI.out.2).mono ?_; rintro e w2 ⟨rfl, e1, e2⟩; have E1 := Sh.mk e1; have E2 := Sh.mk e2; clear e1 e2))
      obtain ⟨w3, hw3⟩ : ∃ w3, w3 = w2.alloc (.cells #[.pointer (some ⟨c, 0, none⟩), .int .i64 r] 137) := ⟨_, rfl⟩
      rw [← hw3]
      have hB3 : Below w2.heap.size w2 w3 := by rw [hw3]; exact (Below.refl w2.heap.size w2).alloc (Nat.le_refl _) _
      have C3 : Chg F wr w3 := E2.out.thenBelow hB3
      have hwh := HK.out.whl
      have b3 : Blk w3 b 103 [.pointer (some ⟨wk, 0, none⟩)] := (C3.block b HR.out.box.lt HBN.out.1).trans HR.out.box
      have b30 := b3.cell 0
      simp only [List.getElem?_cons_zero] at b30
      refine (all1_calls w3 F c s wk m0 m1 m2 m3 b X r v (E1.out.keep hB3) HK.out HRL.out (by have := HL.out; omega) (HKX.out.chg C3 HD.out) HD.out b30 b3.lt).mono ?_
      rintro e w4 ⟨rfl, e1, e2, e3⟩
      have hL : EachL w F c s wk m0 m1 m2 m3 b (.slice (some ⟨g, 0, none⟩) n ca) (j + 1) w4 := by
        have z := C3.size
        have z1 := HR.out.chg.size
        have hlow : ∀ k, k < wr.heap.size → ¬ F k → ¬ wkF wk m0 m1 m2 m3 k → w4.heap[k]? = wr.heap[k]? := fun k hk h1 h2 => (e3.block k (by omega) (fun e => e.elim h1 h2)).trans (C3.block k hk h1)
        have hnew : ∀ k, w.heap.size ≤ k → ¬ F k ∧ ¬ wkF wk m0 m1 m2 m3 k := fun k hk => ⟨fun e => by have := HF.out k (.inl e); omega, fun e => by have := HF.out k (.inr e); omega⟩
        refine ⟨e1, by rw [HX2.out]; exact e2, HR.out.row.step (fun k hk => ?_), HR.out.own, (hlow b HR.out.box.lt HBN.out.1 HBN.out.2).trans HR.out.box, (HR.out.chg.trans C3 (fun k hk _ => .inl (.inl hk))).trans e3 (fun k hk _ => .inl hk)⟩
        have := hnew k (HR.out.own k hk)
        exact hlow k (HR.out.row.lt k hk) this.1 this.2
      have HLn := Sh.mk hL
      clear hL hw3 hB3 C3 hwh b3 b30 e1 e2 e3 t0
      go_wp2
      go_roundw
      case rel => exact ⟨j + 1, by simp, by omega, HLn⟩
      case measure => simp [intOf]; omega
    · go_wp2
      refine bodyPost_end (results_none rfl _ _ _) rfl ?_
      have hjn : j = n := by omega
      have hkx := HR.out.k
      rw [hjn, HN.out, List.take_length] at hkx
      exact ⟨rfl, HR.out.cl, hkx, HR.out.chg⟩
/-- What is told of a closure: whether classes are finite, and steps. -/
def CountPost (w : World) (F : Nat → Prop) (c : Nat) (s : Cl) (e : Ending) (w' : World) : Prop :=
  e = .returned (.tuple #[.bool (!s.walked.bad), .int .i64 s.walked.steps]) ∧ ClAt w' F c s ∧ Chg F w w'
set_option maxRecDepth 100000 in
set_option maxHeartbeats 1000000 in
theorem all_calls (w : World) (F : Nat → Prop) (c : Nat) (s : Cl) (h : ClAt w F c s) (hk : Cok s) (hc : s.clash = false) (hky : KeysOk s.G) (hl : s.G.1.length ≤ 1000000) :
    Calls Tryz.prog 66 #[.pointer (some ⟨c, 0, none⟩)] w fun e w' => ∃ wk m0 m1 m2 m3, e = .returned (.pointer (some ⟨wk, 0, none⟩)) ∧ WkP w' wk m0 m1 m2 m3 s.walked.st s.walked.steps s.walked.bad ∧ ClAt w' F c s ∧ Chg F w w' := by
  have hmm := @run_makeMap Tryz.prog
  have H := Sh.mk h
  have HK := Sh.mk hk
  have HC := Sh.mk hc
  have HKY := Sh.mk hky
  have HL := Sh.mk hl
  clear h hk hc hky hl
  go_enter Tryz.func66, Tryz.ntmps66
  go_upto_region 2 with (fail)
  obtain ⟨w1, hw1⟩ : ∃ w1, w1 = w.alloc (.map #[] 0) := ⟨_, rfl⟩
  obtain ⟨w2, hw2⟩ : ∃ w2, w2 = w1.alloc (.map #[] 0) := ⟨_, rfl⟩
  obtain ⟨w3, hw3⟩ : ∃ w3, w3 = w2.alloc (.map #[] 0) := ⟨_, rfl⟩
  obtain ⟨w4, hw4⟩ : ∃ w4, w4 = w3.alloc (.map #[] 0) := ⟨_, rfl⟩
  rw [← hw1, ← hw2, ← hw3, ← hw4]
  obtain ⟨S, hS⟩ : ∃ S, S = w.heap.size := ⟨_, rfl⟩
  rw [← hS]
  obtain ⟨w5, hw5⟩ : ∃ w5, w5 = w4.alloc (.cells #[.map (some S), .map (some (S + 1)), .map (some (S + 1 + 1)), .map (some (S + 1 + 1 + 1)), .int .i64 0, .bool false] 109) := ⟨_, rfl⟩
  rw [← hw5]
  obtain ⟨w6, hw6⟩ : ∃ w6, w6 = w5.alloc (.cells #[.pointer (some ⟨S + 1 + 1 + 1 + 1, 0, none⟩)] 103) := ⟨_, rfl⟩
  rw [← hw6]
  have z1 : w1.heap.size = S + 1 := by rw [hw1, hS]; simp
  have z2 : w2.heap.size = S + 1 + 1 := by rw [hw2, ← z1]; simp
  have z3 : w3.heap.size = S + 1 + 1 + 1 := by rw [hw3, ← z2]; simp
  have z4 : w4.heap.size = S + 1 + 1 + 1 + 1 := by rw [hw4, ← z3]; simp
  have z5 : w5.heap.size = S + 1 + 1 + 1 + 1 + 1 := by rw [hw5, ← z4]; simp
  have b1 : Below w.heap.size w w1 := by rw [hw1]; exact (Below.refl _ _).alloc (Nat.le_refl _) _
  have b2 : Below w1.heap.size w1 w2 := by rw [hw2]; exact (Below.refl _ _).alloc (Nat.le_refl _) _
  have b3 : Below w2.heap.size w2 w3 := by rw [hw3]; exact (Below.refl _ _).alloc (Nat.le_refl _) _
  have b4 : Below w3.heap.size w3 w4 := by rw [hw4]; exact (Below.refl _ _).alloc (Nat.le_refl _) _
  have b5 : Below w4.heap.size w4 w5 := by rw [hw5]; exact (Below.refl _ _).alloc (Nat.le_refl _) _
  have b6 : Below w5.heap.size w5 w6 := by rw [hw6]; exact (Below.refl _ _).alloc (Nat.le_refl _) _
  have c5 := below_then b5 b6
  have c4 := below_then b4 c5
  have c3 := below_then b3 c4
  have c2 := below_then b2 c3
  have HB := Sh.mk (below_then b1 c2)
  have step : ∀ {α : Type} {enc : α → Value} {u u' : World} {m : Nat} {l : List (Int × α)}, MapAt enc u m l → Below u.heap.size u u' → MapAt enc u' m l := fun h hb => h.step (hb.block _ h.lt)
  have m0 : MapAt (Value.int .i64) w6 S [] := by have := MapAt.new (Value.int .i64) w; rw [← hw1, ← hS] at this; exact step this c2
  have m1 : MapAt Value.bool w6 (S + 1) [] := by have := MapAt.new Value.bool w1; rw [← hw2, z1] at this; exact step this c3
  have m2 : MapAt (Value.int .i64) w6 (S + 1 + 1) [] := by have := MapAt.new (Value.int .i64) w2; rw [← hw3, z2] at this; exact step this c4
  have m3 : MapAt (Value.int .i64) w6 (S + 1 + 1 + 1) [] := by have := MapAt.new (Value.int .i64) w3; rw [← hw4, z3] at this; exact step this c5
  have bw : Blk w6 (S + 1 + 1 + 1 + 1) 109 [.map (some S), .map (some (S + 1)), .map (some (S + 1 + 1)), .map (some (S + 1 + 1 + 1)), .int .i64 0, .bool false] := by
    have := Blk.new' w4 109 [.map (some S), .map (some (S + 1)), .map (some (S + 1 + 1)), .map (some (S + 1 + 1 + 1)), .int .i64 0, .bool false] z4
    exact (this : Blk (w4.alloc _) _ _ _) |> fun h => by rw [hw5] at b6; exact Blk.keep h b6
  have bx : Blk w6 (S + 1 + 1 + 1 + 1 + 1) 103 [.pointer (some ⟨S + 1 + 1 + 1 + 1, 0, none⟩)] := by rw [hw6]; exact Blk.new' w5 103 [.pointer (some ⟨S + 1 + 1 + 1 + 1, 0, none⟩)] z5
  have HWK : Sh (WkP w6 (S + 1 + 1 + 1 + 1) S (S + 1) (S + 1 + 1) (S + 1 + 1 + 1) [] 0 false) := ⟨⟨bw, m0, ⟨_, m1⟩, ⟨_, m2⟩, ⟨_, m3⟩, by omega, by omega, by omega, by omega, by omega, by omega⟩⟩
  have HBX := Sh.mk bx
  have HS := Sh.mk hS
  have hD : ∀ k, wkF (S + 1 + 1 + 1 + 1) S (S + 1) (S + 1 + 1) (S + 1 + 1 + 1) k → ¬ F k := fun k hk e => by
    have := H.out.lt k e
    have := HS.out
    rcases hk with h | h | h | h | h <;> omega
  have HNB : Sh (¬ F (S + 1 + 1 + 1 + 1 + 1) ∧ ¬ wkF (S + 1 + 1 + 1 + 1) S (S + 1) (S + 1 + 1) (S + 1 + 1 + 1) (S + 1 + 1 + 1 + 1 + 1)) := ⟨⟨fun e => by have := H.out.lt _ e; have := HS.out; omega, fun hk => by rcases hk with h | h | h | h | h <;> omega⟩⟩
  have HD := Sh.mk hD
  have HC6 := Sh.mk (H.out.keep HB.out)
  have HERR := Sh.mk (Clo_Err w6 F c s HC6.out)
  rw [HC.out] at HERR
  have bx0 := bx.cell 0
  simp only [List.getElem?_cons_zero] at bx0
  clear hw1 hw2 hw3 hw4 hw5 hw6 z1 z2 z3 z4 z5 b1 b2 b3 b4 b5 b6 c2 c3 c4 c5 m0 m1 m2 m3 bw bx hS hmm step hD
  obtain ⟨T, hT⟩ : ∃ T, T = S + 1 + 1 + 1 + 1 := ⟨_, rfl⟩
  rw [← hT] at HWK HBX HNB HD bx0 ⊢
  have HT := Sh.mk hT
  clear hT
  go_wp2_with (first
    | (go_at_call 65; refine HERR.out.mono ?_; rintro e w7 ⟨rfl, rfl⟩)
    | (go_at_call 89; refine (each_calls _ F c s T S (S + 1) (S + 1 + 1) (S + 1 + 1 + 1) (T + 1) HC6.out HK.out HC.out HKY.out HL.out HWK.out HD.out HBX.out HNB.out).mono ?_; rintro e w8 ⟨rfl, e1, e2, e3⟩; have E1 := Sh.mk e1; have E2 := Sh.mk e2; have E3 := Sh.mk e3; have bz := (show Blk w8 (T + 1) _ _ from (e3.block _ HBX.out.lt (fun e => e.elim HNB.out.1 HNB.out.2)).trans HBX.out).cell 0; (simp only [List.getElem?_cons_zero] at bz); clear e1 e2 e3))
  go_ret
  refine ⟨T, S, S + 1, S + 1 + 1, S + 1 + 1 + 1, rfl, E2.out, E1.out, (Chg.of_below HB.out).trans E3.out (fun k hk _ => ?_)⟩
  rcases hk with e | e
  · exact .inl e
  · have := HS.out
    have := HT.out
    rcases e with h | h | h | h | h <;> (right; omega)
theorem Count_calls (w : World) (F : Nat → Prop) (c : Nat) (s : Cl) (h : ClAt w F c s) (hk : Cok s) (hc : s.clash = false) (hky : KeysOk s.G) (hl : s.G.1.length ≤ 1000000) :
    Calls Tryz.prog 51 #[.pointer (some ⟨c, 0, none⟩)] w (CountPost w F c s) := by
  have HA := Sh.mk (all_calls w F c s h hk hc hky hl)
  clear h hk hc hky hl
  go_enter Tryz.func51, Tryz.ntmps51
  go_wp2_with (first | (go_at_call 66; refine HA.out.mono ?_; rintro e w1 ⟨wk, m0, m1, m2, m3, rfl, e1, e2, e3⟩; have E1 := Sh.mk e1; have E2 := Sh.mk (And.intro e2 e3); have q4 := e1.blk.cell 4; have q5 := e1.blk.cell 5; (simp only [List.getElem?_cons_zero, List.getElem?_cons_succ] at q4 q5); clear e1 e2 e3))
  go_region
  go_wp2
  go_ret2
  exact ⟨rfl, E2.out.1.drew, E2.out.2.drew⟩
end Go.Proofs.YtdppkdjgadiinaaGreat
