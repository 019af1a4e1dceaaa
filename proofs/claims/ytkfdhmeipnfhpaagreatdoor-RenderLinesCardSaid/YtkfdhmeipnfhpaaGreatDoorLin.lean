/- Package render: what Lines says of a name that is open. -/
import Derived.Test.YtkfdhmeipnfhpaaGreatDoorCaret
import Derived.Test.YtkfdhmeipnfhpaaGreatDoorBld
import Derived.Deep.RegionHeldLaw
set_option linter.unusedVariables false
set_option linter.unusedSimpArgs false
namespace Go.Proofs.YtkfdhmeipnfhpaaGreatDoor
open Go.RowKit

/-- A row of texts. -/
def StrK : RK ByteArray := ⟨9, 30, 1, 16, .string ByteArray.empty, fun s => [.string s]⟩
theorem StrK_ok : RKok StrK := ⟨fun _ => rfl, fun r u hu => by
  simp only [StrK, List.mem_cons, List.not_mem_nil, or_false] at hu
  rcases hu with rfl <;> simp [Value.oneCell'], Tryz.underlying30, by kernel_rfl, rfl, Nat.succ_pos _⟩
theorem GRow.of_blk {α : Type} {K : RK α} {w : World} {g n : Nat} {xs : List α} (hK : RKok K) (h : Blk w g K.t (K.cells xs)) (hn : n = xs.length) (hm : n ≤ 9223372036854775807) : GRow K w (.slice (some ⟨g, 0, none⟩) n n) xs := by
  subst hn
  refine ⟨RK.cells_len hK xs, .inr ⟨g, xs.length, (K.cells xs).toArray, rfl, Nat.zero_le _, h, Nat.le_refl _, by simpa [maxLen] using hm, by simp [RK.cells_len hK xs], ?_⟩⟩
  rw [List.toList_toArray]
  exact List.take_of_length_le (by rw [RK.cells_len hK xs]; exact Nat.le_refl _)
section
variable {α : Type} {k : RK α} {W : World} {ops : Array Oper} {o : Oper} {a : Act} {K : Act → World → Prop} {Q : Exit → Act → World → Prop} {E : Prop}
/-- step_row, the slot named. -/
theorem step_rowD (hK : RKok k) (hgd : o.guard = none) (s x : Operand) (d : Option Nat) (hd : o.dst = d) (ho : o.op = .call { callee := .builtin .append, args := #[s, x], argTypes := #[k.st, k.st] })
    (v : Value) (ps qs : List α) (u : Value) (hs : a.eval s = v) (hx : a.eval x = u) (HO : GRow k W v ps) (HX : GRow k W u qs) (h63 : ps.length + qs.length ≤ 9223372036854775807) (hl : (ps.length + qs.length) * k.bytes ≤ 140737488355328)
    (h : ∀ A1 c1 w1, GRow k w1 (.slice A1 (ps.length + qs.length) c1) (ps ++ qs) → W.grownBy w1 v.ownBlock → ((Value.slice A1 (ps.length + qs.length) c1).ownBlock = v.ownBlock ∨ (Value.slice A1 (ps.length + qs.length) c1).ownBlock = some W.heap.size) → K (a.put d (.slice A1 (ps.length + qs.length) c1)) w1) :
    if Region.wanted o (yielded ops a.tmps) = true then Oper.wp Tryz.prog o a W K Q else E := by
  subst hd
  exact step_row hK hgd s x ho v ps qs u hs hx HO HX h63 hl h
end
/-- What a call that hands a text back says. -/
def SaysT (f : FuncId) (args : Array Value) (w : World) (p : ByteArray) : Prop := ∀ W, Below w.heap.size w W → Calls Tryz.prog f args W fun e w' => e = .returned (.string p) ∧ Below W.heap.size W w'
/-- What a call that hands a row of texts of its own back says. -/
def SaysL (f : FuncId) (args : Array Value) (w : World) (l : List ByteArray) : Prop := ∀ W, Below w.heap.size w W → Calls Tryz.prog f args W fun e w' => ∃ A c, e = .returned (.slice A l.length c) ∧ GRow StrK w' (.slice A l.length c) l ∧ (∀ b, (Value.slice A l.length c).ownBlock = some b → W.heap.size ≤ b) ∧ Below W.heap.size W w'

def sUnbound : ByteArray := ⟨#[117, 110, 98, 111, 117, 110, 100, 32]⟩
def sAt : ByteArray := ⟨#[32, 97, 116, 32]⟩
set_option maxRecDepth 100000 in
set_option maxHeartbeats 2000000 in
theorem Lines3_calls (w : World) (bs bv : Nat) (s sch p q l1 l2 : ByteArray) (k a b lim st : Int) (v5 v6 : Value) (hbs : Blk w bs 9 [.string s]) (hbv : Blk w bv 27 [.int .i64 k, .string sch, .int .i64 a, .int .i64 b, .int .i64 lim, v5, v6, .int .i64 st])
    (hp : SaysT 17 #[.string s, .agg #[.int .i64 a, .int .i64 b]] w p) (hq : SaysT 14 #[.string s, .int .i64 a] w q) (hc : SaysL 15 #[.string s, .agg #[.int .i64 a, .int .i64 b]] w [l1, l2])
    (hps : p.size ≤ 1000000) (hqs : q.size ≤ 1000000) :
    Calls Tryz.prog 16 #[.pointer (some ⟨bs, 0, none⟩), .pointer (some ⟨bv, 0, none⟩)] w fun e w' => ∃ A c, e = .returned (.slice A 3 c) ∧ GRow StrK w' (.slice A 3 c) [sUnbound ++ p ++ sAt ++ q, l1, l2] ∧ (∀ b, (Value.slice A 3 c).ownBlock = some b → w.heap.size ≤ b) ∧ Below w.heap.size w w' := by
  have HS := Sh.mk hbs
  have HV := Sh.mk hbv
  have HP := Sh.mk hp
  have HQ := Sh.mk hq
  have HC := Sh.mk hc
  have s0 := (hbs).cell 0
  simp only [List.getElem?_cons_zero, List.getElem?_cons_succ] at s0
  have v0 := (hbv).cell 0
  have v1 := (hbv).cell 1
  have v2 := (hbv).cell 2
  have v3 := (hbv).cell 3
  have v4 := (hbv).cell 4
  have v5 := (hbv).cell 5
  have v6 := (hbv).cell 6
  have v7 := (hbv).cell 7
  simp only [List.getElem?_cons_zero, List.getElem?_cons_succ] at v0 v1 v2 v3 v4 v5 v6 v7
  clear hbs hbv hp hq hc
  go_enter Tryz.func16, Tryz.ntmps16
  go_upto_region 1 with (fail)
  have HB0 : Sh (Below w.heap.size w w.drew) := ⟨(Below.refl _ _).drew⟩
  have g1 : (9223372036854775807 < 8 + p.size) = False := by simp; omega
  have g2 : (9223372036854775807 < 8 + p.size + 4) = False := by simp; omega
  have g3 : (9223372036854775807 < 8 + p.size + 4 + q.size) = False := by simp; omega
  obtain ⟨T, hT⟩ : ∃ T : ByteArray, T = ⟨#[117, 110, 98, 111, 117, 110, 100, 32]⟩ ++ p ++ ⟨#[32, 97, 116, 32]⟩ ++ q := ⟨_, rfl⟩
  go_region_held_law (fun w' => w'.cell? ⟨bs, 0, none⟩ = some (.string s) ∧ w'.cell? ⟨bv, 2, none⟩ = some (.int .i64 a) ∧ w'.cell? ⟨bv, 3, none⟩ = some (.int .i64 b)) (first | exact ⟨s0, v2, v3⟩ | exact ⟨p0, p2, p3⟩ | exact ⟨q0, q2, q3⟩ | exact ⟨(S2.out.alloc _).cell 0, (V2.out.alloc _).cell 2, (V2.out.alloc _).cell 3⟩ | exact ⟨S4.out.cell 0, V4.out.cell 2, V4.out.cell 3⟩ | exact ⟨(S4.out.alloc _).cell 0, (V4.out.alloc _).cell 2, (V4.out.alloc _).cell 3⟩ | exact ⟨S9.out.cell 0, V9.out.cell 2, V9.out.cell 3⟩) (first
    | (go_at_call 17; refine (HP.out _ HB0.out).mono ?_; rintro e w1 ⟨rfl, hb1⟩; have HB1 := Sh.mk (HB0.out.trans (hb1.mono HB0.out.size)); have hs1 := HS.out.keep HB1.out; have hv1 := HV.out.keep HB1.out; have p0 := hs1.cell 0; have p2 := hv1.cell 2; have p3 := hv1.cell 3; (simp only [List.getElem?_cons_zero, List.getElem?_cons_succ] at p0 p2 p3); clear hs1 hv1 hb1)
    | (go_at_call 14; refine (HQ.out _ HB1.out).mono ?_; rintro e w2 ⟨rfl, hb2⟩; have HB2 := Sh.mk (HB1.out.trans (hb2.mono HB1.out.size)); have hs1 := HS.out.keep HB2.out; have hv1 := HV.out.keep HB2.out; have q0 := hs1.cell 0; have q2 := hv1.cell 2; have q3 := hv1.cell 3; (simp only [List.getElem?_cons_zero, List.getElem?_cons_succ] at q0 q2 q3); have S2 := Sh.mk hs1; have V2 := Sh.mk hv1; clear hs1 hv1 hb2)
    | (go_at_call 15; (try rw [← hT]); refine (HC.out _ (by first | exact HB2.out | exact HB2.out.alloc HB2.out.size _)).mono ?_; rintro e w4 ⟨A4, c4, rfl, hr4, ho4, hb4⟩; have HB4 : Sh (Below w.heap.size w w4) := ⟨(by first | exact HB2.out.trans (hb4.mono HB2.out.size) | exact (HB2.out.alloc HB2.out.size _).trans (hb4.mono (HB2.out.alloc HB2.out.size _).size))⟩; (try (have HT4 : Sh (GRow StrK w4 (.slice (some ⟨w2.heap.size, 0, none⟩) 1 1) [T]) := ⟨(GRow.lit StrK_ok w2 T).keep hb4⟩)); have S4 := Sh.mk (HS.out.keep HB4.out); have V4 := Sh.mk (HV.out.keep HB4.out); have HR4 := Sh.mk hr4; have HO4 := Sh.mk ho4; clear hr4 ho4 hb4)
    | (refine step_rowD StrK_ok rfl (.tmp 15) (.tmp 19) (some 20) rfl rfl (.slice (some ⟨w2.heap.size, 0, none⟩) 1 1) [T] [l1, l2] (.slice A4 2 c4) rfl rfl HT4.out HR4.out (by simp) (by simp [StrK]) ?_; intro A9 c9 w9 hI hg hv; have ho1 : ∀ b, (Value.slice (some ⟨w2.heap.size, 0, none⟩) 1 1).ownBlock = some b → w.heap.size ≤ b := (fun b hb => by { simp [Value.ownBlock] at hb; have := HB2.out.size; omega }); have HB9 : Sh (Below w.heap.size w w9) := ⟨grow_below HB4.out hg ho1⟩; have HO9 := Sh.mk (grow_own hv HB4.out ho1); have S9 := Sh.mk (HS.out.keep HB9.out); have V9 := Sh.mk (HV.out.keep HB9.out); have I9 := Sh.mk hI; clear hI hg hv ho1)
    | ((try rw [← hT]); refine step_rowD StrK_ok rfl (.tmp 15) (.tmp 19) (some 20) rfl rfl (.slice (some ⟨w4.heap.size, 0, none⟩) 1 1) [T] [l1, l2] (.slice A4 2 c4) rfl rfl (GRow.lit StrK_ok w4 T) (HR4.out.keep ((Below.refl _ _).alloc (Nat.le_refl _) _)) (by simp) (by simp [StrK]) ?_; intro A9 c9 w9 hI hg hv; have ho1 : ∀ b, (Value.slice (some ⟨w4.heap.size, 0, none⟩) 1 1).ownBlock = some b → w.heap.size ≤ b := (fun b hb => by { simp [Value.ownBlock] at hb; have := HB4.out.size; omega }); have HB9 : Sh (Below w.heap.size w w9) := ⟨grow_below (HB4.out.alloc HB4.out.size _) hg ho1⟩; have HO9 := Sh.mk (grow_own hv (HB4.out.alloc HB4.out.size _) ho1); have S9 := Sh.mk (HS.out.keep HB9.out); have V9 := Sh.mk (HV.out.keep HB9.out); have I9 := Sh.mk hI; clear hI hg hv ho1)
    | fail)
  all_goals
    go_wp2
    go_ret
    have hI := I9.out
    rw [hT] at hI
    exact ⟨A9, c9, rfl, hI, HO9.out, HB9.out⟩
end Go.Proofs.YtkfdhmeipnfhpaaGreatDoor
