/- Package render: what Lines says of a scheme, of a syntax error, of a limit, of slices. -/
import Derived.Test.YtkfdhmeipnfhpaaGreatDoorLinb
import Derived.Test.YtkfdhmeipnfhpaaGreatDoorPlg
set_option linter.unusedVariables false
set_option linter.unusedSimpArgs false
namespace Go.Proofs.YtkfdhmeipnfhpaaGreatDoor
open Go.RowKit

/-- A verdict's cells. -/
def verdL (k : Int) (sch : ByteArray) (a b lim : Int) (v5 v6 : Value) (st : Int) : List Value := [.int .i64 k, .string sch, .int .i64 a, .int .i64 b, .int .i64 lim, v5, v6, .int .i64 st]
def sType : ByteArray := ⟨#[116, 121, 112, 101, 58, 32]⟩
def sSyntax : ByteArray := ⟨#[115, 121, 110, 116, 97, 120, 32, 101, 114, 114, 111, 114, 32, 97, 116, 32]⟩
def sLimit : ByteArray := ⟨#[108, 105, 109, 105, 116, 58, 32]⟩
set_option maxRecDepth 100000 in
theorem Lines1_calls (w : World) (bv : Nat) (k a b lim st : Int) (sch : ByteArray) (v5 v6 : Value) (hbv : Blk w bv 27 (verdL k sch a b lim v5 v6 st)) (hs : sch.size ≤ 1000000) :
    Calls Tryz.prog 12 #[.pointer (some ⟨bv, 0, none⟩)] w fun e w' => ∃ A c, e = .returned (.slice A 1 c) ∧ GRow StrK w' (.slice A 1 c) [sType ++ sch] ∧ (∀ b, (Value.slice A 1 c).ownBlock = some b → w.heap.size ≤ b) ∧ Below w.heap.size w w' := by
  unfold verdL at hbv
  have v0 := (hbv).cell 0
  have v1 := (hbv).cell 1
  have v2 := (hbv).cell 2
  have v3 := (hbv).cell 3
  have v4 := (hbv).cell 4
  have v5 := (hbv).cell 5
  have v6 := (hbv).cell 6
  have v7 := (hbv).cell 7
  simp only [List.getElem?_cons_zero, List.getElem?_cons_succ] at v0 v1 v2 v3 v4 v5 v6 v7
  clear hbv
  have g1 : (9223372036854775807 < 6 + sch.size) = False := by simp; omega
  go_enter Tryz.func12, Tryz.ntmps12
  go_wp2
  go_ret
  exact ⟨_, _, rfl, GRow.of_blk StrK_ok (xs := [sType ++ sch]) (Blk.new _ _ _) rfl (by simp), fun b hb => by simp [Value.ownBlock] at hb; omega, (Below.refl _ _).alloc (Nat.le_refl _) _⟩
set_option maxRecDepth 100000 in
set_option maxHeartbeats 2000000 in
theorem Lines2_calls (w : World) (bs bv : Nat) (s sch q l1 l2 : ByteArray) (k a b lim st : Int) (v5 v6 : Value) (hbs : Blk w bs 9 [.string s]) (hbv : Blk w bv 27 (verdL k sch a b lim v5 v6 st))
    (hq : SaysT 14 #[.string s, .int .i64 a] w q) (hc : SaysL 15 #[.string s, .agg #[.int .i64 a, .int .i64 b]] w [l1, l2]) (hqs : q.size ≤ 10000000) :
    Calls Tryz.prog 13 #[.pointer (some ⟨bs, 0, none⟩), .pointer (some ⟨bv, 0, none⟩)] w fun e w' => ∃ A c, e = .returned (.slice A 3 c) ∧ GRow StrK w' (.slice A 3 c) [sSyntax ++ q, l1, l2] ∧ (∀ b, (Value.slice A 3 c).ownBlock = some b → w.heap.size ≤ b) ∧ Below w.heap.size w w' := by
  unfold verdL at hbv
  have HS := Sh.mk hbs
  have HV := Sh.mk hbv
  have HQ := Sh.mk hq
  have HC := Sh.mk hc
  have s0 := (hbs).cell 0
  simp only [List.getElem?_cons_zero, List.getElem?_cons_succ] at s0
  have v0 := (hbv).cell 0
  have v1 := (hbv).cell 1
  have v2 := (hbv).cell 2
  have v3 := (hbv).cell 3
  have v4 := (hbv).cell 4
  have v5 := (hbv).cell 5
  have v6 := (hbv).cell 6
  have v7 := (hbv).cell 7
  simp only [List.getElem?_cons_zero, List.getElem?_cons_succ] at v0 v1 v2 v3 v4 v5 v6 v7
  clear hbs hbv hq hc
  go_enter Tryz.func13, Tryz.ntmps13
  go_upto_region 1 with (fail)
  have HB0 : Sh (Below w.heap.size w w.drew) := ⟨(Below.refl _ _).drew⟩
  have g1 : (9223372036854775807 < 16 + q.size) = False := by simp; omega
  obtain ⟨T, hT⟩ : ∃ T : ByteArray, T = ⟨#[115, 121, 110, 116, 97, 120, 32, 101, 114, 114, 111, 114, 32, 97, 116, 32]⟩ ++ q := ⟨_, rfl⟩
  go_region_held_law (fun w' => w'.cell? ⟨bs, 0, none⟩ = some (.string s) ∧ w'.cell? ⟨bv, 2, none⟩ = some (.int .i64 a) ∧ w'.cell? ⟨bv, 3, none⟩ = some (.int .i64 b)) (first | exact ⟨s0, v2, v3⟩ | exact ⟨q0, q2, q3⟩ | exact ⟨(S2.out.alloc _).cell 0, (V2.out.alloc _).cell 2, (V2.out.alloc _).cell 3⟩ | exact ⟨S4.out.cell 0, V4.out.cell 2, V4.out.cell 3⟩ | exact ⟨(S4.out.alloc _).cell 0, (V4.out.alloc _).cell 2, (V4.out.alloc _).cell 3⟩ | exact ⟨S9.out.cell 0, V9.out.cell 2, V9.out.cell 3⟩) (first
    | (go_at_call 14; refine (HQ.out _ HB0.out).mono ?_; rintro e w2 ⟨rfl, hb2⟩; have HB2 := Sh.mk (HB0.out.trans (hb2.mono HB0.out.size)); have hs1 := HS.out.keep HB2.out; have hv1 := HV.out.keep HB2.out; have q0 := hs1.cell 0; have q2 := hv1.cell 2; have q3 := hv1.cell 3; (simp only [List.getElem?_cons_zero, List.getElem?_cons_succ] at q0 q2 q3); have S2 := Sh.mk hs1; have V2 := Sh.mk hv1; clear hs1 hv1 hb2)
    | (go_at_call 15; (try rw [← hT]); refine (HC.out _ (by first | exact HB2.out | exact HB2.out.alloc HB2.out.size _)).mono ?_; rintro e w4 ⟨A4, c4, rfl, hr4, ho4, hb4⟩; have HB4 : Sh (Below w.heap.size w w4) := ⟨(by first | exact HB2.out.trans (hb4.mono HB2.out.size) | exact (HB2.out.alloc HB2.out.size _).trans (hb4.mono (HB2.out.alloc HB2.out.size _).size))⟩; (try (have HT4 : Sh (GRow StrK w4 (.slice (some ⟨w2.heap.size, 0, none⟩) 1 1) [T]) := ⟨(GRow.lit StrK_ok w2 T).keep hb4⟩)); have S4 := Sh.mk (HS.out.keep HB4.out); have V4 := Sh.mk (HV.out.keep HB4.out); have HR4 := Sh.mk hr4; have HO4 := Sh.mk ho4; clear hr4 ho4 hb4)
    | (refine step_rowD StrK_ok rfl (.tmp 9) (.tmp 13) (some 14) rfl rfl (.slice (some ⟨w2.heap.size, 0, none⟩) 1 1) [T] [l1, l2] (.slice A4 2 c4) rfl rfl HT4.out HR4.out (by simp) (by simp [StrK]) ?_; intro A9 c9 w9 hI hg hv; have ho1 : ∀ b, (Value.slice (some ⟨w2.heap.size, 0, none⟩) 1 1).ownBlock = some b → w.heap.size ≤ b := (fun b hb => by { simp [Value.ownBlock] at hb; have := HB2.out.size; omega }); have HB9 : Sh (Below w.heap.size w w9) := ⟨grow_below HB4.out hg ho1⟩; have HO9 := Sh.mk (grow_own hv HB4.out ho1); have S9 := Sh.mk (HS.out.keep HB9.out); have V9 := Sh.mk (HV.out.keep HB9.out); have I9 := Sh.mk hI; clear hI hg hv ho1)
    | ((try rw [← hT]); refine step_rowD StrK_ok rfl (.tmp 9) (.tmp 13) (some 14) rfl rfl (.slice (some ⟨w4.heap.size, 0, none⟩) 1 1) [T] [l1, l2] (.slice A4 2 c4) rfl rfl (GRow.lit StrK_ok w4 T) (HR4.out.keep ((Below.refl _ _).alloc (Nat.le_refl _) _)) (by simp) (by simp [StrK]) ?_; intro A9 c9 w9 hI hg hv; have ho1 : ∀ b, (Value.slice (some ⟨w4.heap.size, 0, none⟩) 1 1).ownBlock = some b → w.heap.size ≤ b := (fun b hb => by { simp [Value.ownBlock] at hb; have := HB4.out.size; omega }); have HB9 : Sh (Below w.heap.size w w9) := ⟨grow_below (HB4.out.alloc HB4.out.size _) hg ho1⟩; have HO9 := Sh.mk (grow_own hv (HB4.out.alloc HB4.out.size _) ho1); have S9 := Sh.mk (HS.out.keep HB9.out); have V9 := Sh.mk (HV.out.keep HB9.out); have I9 := Sh.mk hI; clear hI hg hv ho1)
    | fail)
  all_goals
    go_wp2
    go_ret
    have hI := I9.out
    rw [hT] at hI
    exact ⟨A9, c9, rfl, hI, HO9.out, HB9.out⟩
/-- What the table of limits holds. -/
def LimsAt (w : World) : Prop := w.cell? ⟨0, 1, none⟩ = some (.string ⟨#[98, 121, 116, 101, 115]⟩) ∧ w.cell? ⟨0, 2, none⟩ = some (.string ⟨#[100, 101, 112, 116, 104]⟩) ∧
  w.cell? ⟨0, 3, none⟩ = some (.string ⟨#[101, 113, 117, 97, 116, 105, 111, 110, 115]⟩) ∧ w.cell? ⟨0, 4, none⟩ = some (.string ⟨#[115, 105, 122, 101]⟩) ∧ 0 < w.heap.size
theorem LimsAt.below {w w' : World} (h : LimsAt w) (hb : Below w.heap.size w w') : LimsAt w' := by
  obtain ⟨h1, h2, h3, h4, h5⟩ := h
  exact ⟨(hb.cell h5).trans h1, (hb.cell h5).trans h2, (hb.cell h5).trans h3, (hb.cell h5).trans h4, Nat.lt_of_lt_of_le h5 hb.size⟩
/-- A limit's name. -/
def limS (n : Int) : ByteArray := if n = 1 then ⟨#[98, 121, 116, 101, 115]⟩ else if n = 2 then ⟨#[100, 101, 112, 116, 104]⟩ else if n = 3 then ⟨#[101, 113, 117, 97, 116, 105, 111, 110, 115]⟩ else if n = 4 then ⟨#[115, 105, 122, 101]⟩ else ⟨#[117, 110, 107, 110, 111, 119, 110]⟩
set_option maxRecDepth 100000 in
theorem limit_calls (n : Int) (w : World) (h : LimsAt w) : Calls Tryz.prog 19 #[.int .i64 n] w fun e w' => e = .returned (.string (limS n)) ∧ w' = w := by
  obtain ⟨h1, h2, h3, h4, h5⟩ := h
  clear h5
  by_cases e1 : n = 1
  · subst e1
    go_enter Tryz.func19, Tryz.ntmps19
    go_wp2
    go_ret
    exact ⟨rfl, rfl⟩
  by_cases e2 : n = 2
  · subst e2
    go_enter Tryz.func19, Tryz.ntmps19
    go_wp2
    go_ret
    exact ⟨rfl, rfl⟩
  by_cases e3 : n = 3
  · subst e3
    go_enter Tryz.func19, Tryz.ntmps19
    go_wp2
    go_ret
    exact ⟨rfl, rfl⟩
  by_cases e4 : n = 4
  · subst e4
    go_enter Tryz.func19, Tryz.ntmps19
    go_wp2
    go_ret
    exact ⟨rfl, rfl⟩
  have hs : limS n = ⟨#[117, 110, 107, 110, 111, 119, 110]⟩ := by unfold limS; rw [if_neg e1, if_neg e2, if_neg e3, if_neg e4]
  rw [hs]
  by_cases hn : n < 1
  · go_enter Tryz.func19, Tryz.ntmps19
    go_wp2
    go_ret
    exact ⟨rfl, rfl⟩
  · have hn5 : 5 ≤ n := by omega
    go_enter Tryz.func19, Tryz.ntmps19
    go_wp2
    go_ret
    exact ⟨rfl, rfl⟩
theorem limS_size (n : Int) : (limS n).size ≤ 100 := by unfold limS; split <;> (try split) <;> (try split) <;> (try split) <;> decide
set_option maxRecDepth 100000 in
theorem Lines4_calls (w : World) (bv : Nat) (k a b lim st : Int) (sch : ByteArray) (v5 v6 : Value) (hbv : Blk w bv 27 (verdL k sch a b lim v5 v6 st)) (hL : LimsAt w) :
    Calls Tryz.prog 18 #[.pointer (some ⟨bv, 0, none⟩)] w fun e w' => ∃ A c, e = .returned (.slice A 1 c) ∧ GRow StrK w' (.slice A 1 c) [sLimit ++ limS lim] ∧ (∀ b, (Value.slice A 1 c).ownBlock = some b → w.heap.size ≤ b) ∧ Below w.heap.size w w' := by
  unfold verdL at hbv
  have v0 := (hbv).cell 0
  have v1 := (hbv).cell 1
  have v2 := (hbv).cell 2
  have v3 := (hbv).cell 3
  have v4 := (hbv).cell 4
  have v5 := (hbv).cell 5
  have v6 := (hbv).cell 6
  have v7 := (hbv).cell 7
  simp only [List.getElem?_cons_zero, List.getElem?_cons_succ] at v0 v1 v2 v3 v4 v5 v6 v7
  clear hbv
  have HL := Sh.mk (limit_calls lim w hL)
  have hz := limS_size lim
  obtain ⟨l, hl⟩ : ∃ l, limS lim = l := ⟨_, rfl⟩
  rw [hl] at HL hz ⊢
  have g1 : (9223372036854775807 < 7 + l.size) = False := by simp; omega
  clear hl hL
  go_enter Tryz.func18, Tryz.ntmps18
  go_wp2_with (go_at_call 19; refine HL.out.mono ?_; rintro e w1 ⟨rfl, hw1⟩; rw [hw1]; clear hw1)
  go_ret
  exact ⟨_, _, rfl, GRow.of_blk StrK_ok (xs := [sLimit ++ l]) (Blk.new _ _ _) rfl (by simp), fun b hb => by simp [Value.ownBlock] at hb; omega, (Below.refl _ _).alloc (Nat.le_refl _) _⟩
end Go.Proofs.YtkfdhmeipnfhpaaGreatDoor
