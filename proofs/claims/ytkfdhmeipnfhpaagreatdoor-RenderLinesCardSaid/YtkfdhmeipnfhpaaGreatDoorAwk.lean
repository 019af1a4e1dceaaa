/- The document's example of layer 24: awake says true. -/
import Derived.Test.YtkfdhmeipnfhpaaGreatDoorRep
import Derived.Test.YtkfdhmeipnfhpaaGreatDoorParsd
set_option linter.unusedVariables false
set_option linter.unusedSimpArgs false
namespace Go.Proofs.YtkfdhmeipnfhpaaGreatDoor
open Go.RowKit

/-- The text "x". -/
def sX : ByteArray := ⟨#[120]⟩
theorem Term_x (w : World) (hG : Gl w) : Calls Tryz.prog 70 #[.string sX, .int .i64 1000] w fun e w' => e = .returned (.tuple #[.agg #[.int .i64 1, .string sX, .int .i64 0, .int .i64 0, .int .i64 0, .slice none 0 0, .slice none 0 0, .int .i64 0, .int .i64 1], .agg #[.int .i64 0, .int .i64 0], .int .i64 0]) ∧ Below w.heap.size w w' :=
  Term_one w sX 1 1 sX 0 (fun W hW => Words_one sX (by decide) rfl 1 (by decide) (by decide) (fun W2 hW2 => next_small sX (by decide) rfl (by decide) (by decide +kernel) W2 hW2) W hW) (one_name sX) hG
theorem Check_x (w : World) (hG : Gl w) : Calls Tryz.prog 25 #[.string sX, .agg #[.int .i64 1000, .int .i64 1000, .int .i64 200]] w fun e w' => e = .returned (.agg #[.int .i64 3, .string ⟨#[]⟩, .int .i64 0, .int .i64 1, .int .i64 0, .slice none 0 0, .slice none 0 0, .int .i64 2]) ∧ Below w.heap.size w w' :=
  Check_name w sX sX 1000 200 0 0 1 (by decide) (by decide) (by decide) (by decide) (fun W hW => Term_x W hW) (by decide) rfl (by decide) (by decide +kernel) (by decide) (by decide) hG
theorem piece_x (w : World) (m : Int) (hm : w.cell? ⟨1, 0, none⟩ = some (.int .i64 m)) (h0 : 1 < w.heap.size) : SaysT 17 #[.string sX, .agg #[.int .i64 0, .int .i64 1]] w sX := fun W hW => by
  have h := piece_calls sX 0 1 m (by decide) W (fun W2 hb => by rw [hb.cell (show 1 < W.heap.size by have := hW.size; omega), hW.cell h0]; exact hm) 0 1 (by decide) (by decide) (by decide +kernel)
  refine h.mono ?_
  rintro e w' ⟨rfl, hb⟩
  exact ⟨by rfl, hb⟩
theorem place_x (w : World) : SaysT 14 #[.string sX, .int .i64 0] w ⟨#[49, 58, 49]⟩ := fun W hW => by
  have h := place_small sX 0 (by decide) (by decide +kernel) (by decide +kernel) (by decide +kernel) 1 1 (by decide +kernel) (by decide +kernel) (by decide) (by decide) (by decide +kernel) (by decide +kernel) W
  refine h.mono ?_
  rintro e w' ⟨rfl, rfl⟩
  have e1 : (⟨(Lib.decDigits 1).toArray⟩ ++ ⟨#[58]⟩ ++ ⟨(Lib.decDigits 1).toArray⟩ : ByteArray) = ⟨#[49, 58, 49]⟩ := by decide +kernel
  rw [e1]
  exact ⟨rfl, Below.refl _ _⟩
theorem Caret_x (w : World) : SaysL 15 #[.string sX, .agg #[.int .i64 0, .int .i64 1]] w [sX, ⟨#[94]⟩] := fun W hW => by
  have h := Caret_calls sX 0 1 (by decide) W 0 1 (by decide) (by decide) 0 1 0 1 (-1) (by decide +kernel) (by decide) (by decide +kernel) (.inl ⟨by decide, by decide⟩) (by decide) (by decide) (by decide) (by decide)
  refine h.mono ?_
  rintro e w' ⟨g, rfl, hg, hb, hB⟩
  have e1 : sX.extract 0 1 = sX := by decide +kernel
  have e2 : marksOf 0 1 = ⟨#[94]⟩ := by decide +kernel
  rw [e1, e2] at hb
  exact ⟨_, _, rfl, GRow.of_blk StrK_ok (xs := [sX, ⟨#[94]⟩]) hb rfl (by decide), fun b hb => by simp [Value.ownBlock] at hb; omega, hB⟩
def sAwake : ByteArray := ⟨#[117, 110, 98, 111, 117, 110, 100, 32, 120, 32, 97, 116, 32, 49, 58, 49, 10, 120, 10, 94, 10]⟩
theorem Lines_x (w : World) (m : Int) (hm : w.cell? ⟨1, 0, none⟩ = some (.int .i64 m)) (h0 : 1 < w.heap.size) : SaysL 7 #[.string sX, .agg #[.int .i64 3, .string ⟨#[]⟩, .int .i64 0, .int .i64 1, .int .i64 0, .slice none 0 0, .slice none 0 0, .int .i64 2]] w [sUnbound ++ sX ++ sAt ++ ⟨#[49, 58, 49]⟩, sX, ⟨#[94]⟩] := fun W hW => by
  refine (Lines_scope W sX ⟨#[]⟩ sX ⟨#[49, 58, 49]⟩ sX ⟨#[94]⟩ 0 1 0 2 (.slice none 0 0) (.slice none 0 0) rfl rfl (piece_x W m (by rw [hW.cell h0]; exact hm) (by have := hW.size; omega)) (place_x W) (Caret_x W) (by decide) (by decide)).mono ?_
  rintro e w' ⟨A, c, rfl, h1, h2, h3⟩
  exact ⟨A, c, rfl, h1, h2, h3⟩
theorem Report_x (w : World) (hG : Gl w) (m : Int) (hm : w.cell? ⟨1, 0, none⟩ = some (.int .i64 m)) (h0 : 1 < w.heap.size) : Calls Tryz.prog 10 #[.string sX, .agg #[.int .i64 1000, .int .i64 1000, .int .i64 200]] w fun e w' => e = .returned (.string sAwake) ∧ Below w.heap.size w w' := by
  have hlen : ∀ k, (endedL (List.take k [sUnbound ++ sX ++ sAt ++ ⟨#[49, 58, 49]⟩, sX, ⟨#[94]⟩])).length ≤ 1000000 := by
    intro k
    rcases k with _ | _ | _ | k
    · decide +kernel
    · decide +kernel
    · decide +kernel
    · have : List.take (k + 1 + 1 + 1) [sUnbound ++ sX ++ sAt ++ ⟨#[49, 58, 49]⟩, sX, ⟨#[94]⟩] = [sUnbound ++ sX ++ sAt ++ ⟨#[49, 58, 49]⟩, sX, ⟨#[94]⟩] := by simp
      rw [this]
      decide +kernel
  refine (Report_calls w sX 1000 1000 200 _ _ (fun W hW => Check_x W (hG.below hW)) (Lines_x w m hm h0) hlen (by decide) (fun x hx => by simp only [List.mem_cons, List.not_mem_nil, or_false] at hx; rcases hx with rfl | rfl | rfl <;> decide +kernel)).mono ?_
  rintro e w' ⟨rfl, hb⟩
  exact ⟨by rfl, hb⟩
theorem Wide_calls (w : World) : Calls Tryz.prog 11 #[] w fun e w' => e = .returned (.agg #[.int .i64 1000, .int .i64 1000, .int .i64 200]) ∧ Below w.heap.size w w' := by
  go_enter Tryz.func11, Tryz.ntmps11
  go_wp2
  have hx : Blk (w.alloc (.cells #[.int .i64 1000, .int .i64 1000, .int .i64 200] 36)) w.heap.size 36 [.int .i64 1000, .int .i64 1000, .int .i64 200] := Blk.new _ _ _
  have hb : Below w.heap.size w (w.alloc (.cells #[.int .i64 1000, .int .i64 1000, .int .i64 200] 36)) := (Below.refl _ _).alloc (Nat.le_refl _) _
  have c0 := (hx).cell 0
  have c1 := (hx).cell 1
  have c2 := (hx).cell 2
  simp only [List.getElem?_cons_zero, List.getElem?_cons_succ] at c0 c1 c2
  first
    | (go_ret; exact ⟨rfl, hb⟩)
    | exact bodyPost_ret (v := .agg #[.int .i64 1000, .int .i64 1000, .int .i64 200]) (by simp only [results, Tryz.results11]; simp [go_sem, c0, c1, c2]) rfl ⟨rfl, hb⟩
set_option maxRecDepth 100000 in
theorem awake_calls (w : World) (hG : Gl w) (m : Int) (hm : w.cell? ⟨1, 0, none⟩ = some (.int .i64 m)) (h0 : 1 < w.heap.size) : Calls Tryz.prog 5 #[] w fun e w' => e = .returned (.bool true) ∧ Below w.heap.size w w' := by
  have HR := Sh.mk (fun (W : World) (hb : Below w.heap.size w W) => Report_x W (hG.below hb) m (by rw [hb.cell h0]; exact hm) (by have := hb.size; omega))
  have hs : (sAwake.toList == [117, 110, 98, 111, 117, 110, 100, 32, 120, 32, 97, 116, 32, 49, 58, 49, 10, 120, 10, 94, 10]) = true := by rw [ByteArray.toList_eq]; rfl
  clear hG hm
  go_enter Tryz.func5, Tryz.ntmps5
  go_wp2_with (first
    | (go_at_call 11; refine (Wide_calls _).mono ?_; rintro e w1 ⟨rfl, hb1⟩; have HB1 := Sh.mk hb1; clear hb1)
    | (go_at_call 10; refine (HR.out _ HB1.out).mono ?_; rintro e w2 ⟨rfl, hb2⟩; have HB2 := Sh.mk (HB1.out.trans (hb2.mono HB1.out.size)); clear hb2))
  go_ret
  exact ⟨rfl, HB2.out⟩
end Go.Proofs.YtkfdhmeipnfhpaaGreatDoor
