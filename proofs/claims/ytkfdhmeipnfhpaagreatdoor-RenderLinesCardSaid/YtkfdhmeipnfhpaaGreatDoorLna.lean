/- Package render: Lines at any verdict. -/
import Derived.Test.YtkfdhmeipnfhpaaGreatDoorSlc
import Derived.Test.YtkfdhmeipnfhpaaGreatDoorCarb
set_option linter.unusedVariables false
set_option linter.unusedSimpArgs false
namespace Go.Proofs.YtkfdhmeipnfhpaaGreatDoor
open Go.RowKit

set_option maxRecDepth 100000 in
theorem Lines5_calls (w : World) (bs bv : Nat) (s sch : ByteArray) (k a b lim st : Int) (v5 v6 : Value) (l : List (Int × Int)) (S : Nat → Prop) (hbs : Blk w bs 9 [.string s]) (hbv : Blk w bv 27 (verdL k sch a b lim v5 v6 st))
    (hs : s.size ≤ 100000) (hl : l.length ≤ 1000000) (h5 : v5.oneCell' = true) (hv6 : SpansAt w S l v6) (hG : Gl w) (m : Int) (hm : w.cell? ⟨1, 0, none⟩ = some (.int .i64 m)) (h0 : 1 < w.heap.size) :
    Calls Tryz.prog 20 #[.pointer (some ⟨bs, 0, none⟩), .pointer (some ⟨bv, 0, none⟩)] w fun e w' => ∃ A c, e = .returned (.slice A (slLines s l).length c) ∧ GRow StrK w' (.slice A (slLines s l).length c) (slLines s l) ∧ (∀ b, (Value.slice A (slLines s l).length c).ownBlock = some b → w.heap.size ≤ b) ∧ Below w.heap.size w w' := by
  have HC := Sh.mk (slices_calls w s sch k a b lim st v5 v6 l S hs hl h5 hv6 hG m hm h0)
  unfold verdL at hbv HC
  have s0 := (hbs).cell 0
  simp only [List.getElem?_cons_zero, List.getElem?_cons_succ] at s0
  have v0 := (hbv).cell 0
  have v1 := (hbv).cell 1
  have v2 := (hbv).cell 2
  have v3 := (hbv).cell 3
  have v4 := (hbv).cell 4
  have v5 := (hbv).cell 5
  have v6 := (hbv).cell 6
  have v7 := (hbv).cell 7
  simp only [List.getElem?_cons_zero, List.getElem?_cons_succ] at v0 v1 v2 v3 v4 v5 v6 v7
  clear hbs hbv hv6 hG hm h0
  go_enter Tryz.func20, Tryz.ntmps20
  go_wp2_with (go_at_call 21; refine HC.out.mono ?_; rintro e w1 ⟨A, c, rfl, hr, ho, hb⟩; have HR := Sh.mk hr; have HO := Sh.mk ho; have HB := Sh.mk hb; clear hr ho hb)
  go_ret
  exact ⟨A, c, rfl, HR.out, HO.out, HB.out⟩
/-- The line and the marks of a span. -/
structure CaretIs (s : ByteArray) (lo hi : Nat) (l1 l2 : ByteArray) : Prop where
  out : ∃ B E n1 M : Nat, l1 = s.extract B E ∧ l2 = marksOf n1 M ∧ IsB s lo B ∧ IsE s lo E ∧ (lo : Int) - B = n1 ∧ max 1 (min (hi : Int) (E : Int) - (lo : Int)) = (M : Int)
theorem CaretIs.uniq {s : ByteArray} {lo hi : Nat} {l1 l2 k1 k2 : ByteArray} (hl : lo ≤ s.size) (h : CaretIs s lo hi l1 l2) (k : CaretIs s lo hi k1 k2) : l1 = k1 ∧ l2 = k2 := by
  obtain ⟨B, E, n, M, rfl, rfl, h1, h2, h3, h4⟩ := h.out
  obtain ⟨B2, E2, n2, M2, rfl, rfl, k1, k2, k3, k4⟩ := k.out
  obtain rfl := h1.uniq hl k1
  obtain rfl := h2.uniq k2
  obtain rfl : n = n2 := by omega
  obtain rfl : M = M2 := by omega
  exact ⟨rfl, rfl⟩
theorem Caret_says (s : ByteArray) (x : Int × Int) (hs : s.size ≤ 100000) : ∃ l1 l2, CaretIs s (clipLo s x) (clipHi s x) l1 l2 ∧ ∀ w, SaysL 15 #[.string s, .agg #[.int .i64 x.1, .int .i64 x.2]] w [l1, l2] := by
  have e1 := clipLo_eq s x
  have e2 := clipHi_eq s x
  generalize clipLo s x = lo at e1
  generalize clipHi s x = hi at e2
  have hl : lo ≤ s.size := by omega
  obtain ⟨B, hB, iB⟩ := isB_of s lo hl
  obtain ⟨k, E, hk, hE, iE⟩ := isE_of s lo hl
  obtain ⟨M, hM⟩ : ∃ M : Nat, max 1 (min (hi : Int) (E : Int) - (lo : Int)) = (M : Int) := ⟨(max 1 (min (hi : Int) (E : Int) - (lo : Int))).toNat, by omega⟩
  have h1 := iB.le
  refine ⟨s.extract B E, marksOf (lo - B) M, ⟨⟨B, E, lo - B, M, rfl, rfl, iB, iE, by omega, hM⟩⟩, fun w W _ => ?_⟩
  refine (Caret_calls s x.1 x.2 (by omega) W lo hi e1 e2 B E (lo - B) M k hB h1 hk hE iE.le iE.le2 (by omega) hM).mono ?_
  rintro e w' ⟨g, rfl, h1, h2, h3⟩
  exact ⟨_, _, rfl, GRow.of_blk StrK_ok (xs := [s.extract B E, marksOf (lo - B) M]) h2 rfl (by simp), fun b hb => by simp [Value.ownBlock] at hb; omega, h3⟩
def sNothing : ByteArray := ⟨#[110, 111, 116, 104, 105, 110, 103]⟩
/-- A verdict in words. -/
def LinesIs (s : ByteArray) (k : Int) (sch : ByteArray) (x : Int × Int) (lim : Int) (l : List (Int × Int)) (ls : List ByteArray) : Prop :=
  (k = 1 ∧ ls = [sType ++ sch]) ∨ (k = 2 ∧ ∃ l1 l2, CaretIs s (clipLo s x) (clipHi s x) l1 l2 ∧ ls = [sSyntax ++ placeS s (clipLo s x), l1, l2]) ∨
  (k = 3 ∧ ∃ l1 l2, CaretIs s (clipLo s x) (clipHi s x) l1 l2 ∧ ls = [sUnbound ++ pieceS s (clipLo s x) (clipHi s x) ++ sAt ++ placeS s (clipLo s x), l1, l2]) ∨
  (k = 4 ∧ ls = [sLimit ++ limS lim]) ∨ (k = 5 ∧ ls = slLines s l) ∨ ((k < 1 ∨ 6 ≤ k) ∧ ls = [sNothing])
theorem LinesIs.uniq {s : ByteArray} {k : Int} {sch : ByteArray} {x : Int × Int} {lim : Int} {l : List (Int × Int)} {ls ms : List ByteArray} (h : LinesIs s k sch x lim l ls) (h2 : LinesIs s k sch x lim l ms) : ls = ms := by
  have hl : clipLo s x ≤ s.size := by have := clipLo_eq s x; omega
  rcases h with ⟨hk, rfl⟩ | ⟨hk, l1, l2, hc, rfl⟩ | ⟨hk, l1, l2, hc, rfl⟩ | ⟨hk, rfl⟩ | ⟨hk, rfl⟩ | ⟨hk, rfl⟩ <;>
  rcases h2 with ⟨hk2, rfl⟩ | ⟨hk2, k1, k2, hc2, rfl⟩ | ⟨hk2, k1, k2, hc2, rfl⟩ | ⟨hk2, rfl⟩ | ⟨hk2, rfl⟩ | ⟨hk2, rfl⟩ <;>
  first
    | rfl
    | omega
    | (obtain ⟨rfl, rfl⟩ := hc.uniq hl hc2; rfl)
end Go.Proofs.YtkfdhmeipnfhpaaGreatDoor
