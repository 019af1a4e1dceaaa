/- Package render: Caret. -/
import Derived.Test.YtkfdhmeipnfhpaaGreatDoorPiece
set_option linter.unusedVariables false
set_option linter.unusedSimpArgs false
namespace Go.Proofs.YtkfdhmeipnfhpaaGreatDoor
open Go.RowKit

/-- n bytes that are all one. -/
def reps (c : UInt8) (n : Nat) : ByteArray := ⟨(Lib.repeatL [c] n).toArray⟩
/-- The marks below a line. -/
def marksOf (n m : Nat) : ByteArray := reps 32 n ++ reps 94 m
theorem reps_size (c : UInt8) (n : Nat) : (reps c n).size = n := by
  have h : ∀ n, (Lib.repeatL [c] n).length = n := by
    intro n
    induction n with
    | zero => rfl
    | succ n ih => unfold Lib.repeatL; simp [ih]; try omega
  unfold reps ByteArray.size
  simpa using h n
set_option maxRecDepth 100000 in
set_option maxHeartbeats 2000000 in
theorem Caret_calls (s : ByteArray) (a b : Int) (hs : s.size ≤ 1000000) (w : World) (lo hi : Nat) (hlo : max 0 (min a (s.size : Int)) = (lo : Int)) (hhi : max 0 (max (min a (s.size : Int)) (max 0 (min b (s.size : Int)))) = (hi : Int))
    (B E n1 M : Nat) (k : Int) (hB : Lib.lastIndexByte (s.extract 0 lo) 10 = (B : Int) - 1) (hBl : B ≤ lo) (hk : Lib.indexByte (s.extract lo s.size).data.toList (10 : Int).toNat.toUInt8 = k)
    (hE : k < 0 ∧ E = s.size ∨ 0 ≤ k ∧ (lo : Int) + k = (E : Int)) (hEl : lo ≤ E) (hEs : E ≤ s.size) (hn1 : (lo : Int) - (B : Int) = (n1 : Int)) (hM : max 1 (min (hi : Int) (E : Int) - (lo : Int)) = (M : Int)) :
    Calls Tryz.prog 15 #[.string s, .agg #[.int .i64 a, .int .i64 b]] w fun e w' => ∃ g, e = .returned (.slice (some ⟨g, 0, none⟩) 2 2) ∧ w.heap.size ≤ g ∧ Blk w' g 9 [.string (s.extract B E), .string (marksOf n1 M)] ∧ Below w.heap.size w w' := by
  have hle : lo ≤ hi := by omega
  have hhs : hi ≤ s.size := by omega
  have hn1s : n1 ≤ 1000000 := by omega
  have hMs : M ≤ 1000000 := by omega
  have HC := Sh.mk (fun W => clip_calls s a b (by omega) W)
  rw [hlo, hhi] at HC
  have HL := Sh.mk (fun W => Tryz.strings_LastIndexByte (s.extract 0 lo) 10 (by rw [ByteArray.size_extract]; omega) W)
  rw [hB] at HL
  have HI := Sh.mk (fun W => Tryz.strings_IndexByte (s.extract lo s.size) 10 W)
  rw [hk] at HI
  have HR1 : Sh (∀ W : World, Calls Tryz.prog 34 #[.string ⟨#[32]⟩, .int .i64 n1] W fun e w' => e = .returned (.string (reps 32 n1)) ∧ Below W.heap.size W w') := ⟨fun W => Tryz.strings_Repeat ⟨#[32]⟩ n1 W (by omega) (by show 1 * n1 ≤ _; omega)⟩
  have HR2 : Sh (∀ W : World, Calls Tryz.prog 34 #[.string ⟨#[94]⟩, .int .i64 M] W fun e w' => e = .returned (.string (reps 94 M)) ∧ Below W.heap.size W w') := ⟨fun W => Tryz.strings_Repeat ⟨#[94]⟩ M W (by omega) (by show 1 * M ≤ _; omega)⟩
  have z1 := reps_size 32 n1
  have z2 := reps_size 94 M
  obtain ⟨r1, hr1⟩ : ∃ r, reps 32 n1 = r := ⟨_, rfl⟩
  obtain ⟨r2, hr2⟩ : ∃ r, reps 94 M = r := ⟨_, rfl⟩
  have hmk : marksOf n1 M = r1 ++ r2 := by unfold marksOf; rw [hr1, hr2]
  rw [hmk]
  rw [hr1] at HR1 z1
  rw [hr2] at HR2 z2
  obtain ⟨V, hV⟩ : ∃ V, V = w.alloc (.cells #[.int .i64 a, .int .i64 b] 23) := ⟨_, rfl⟩
  have hx : Blk V w.heap.size 23 [.int .i64 a, .int .i64 b] := by rw [hV]; exact Blk.new _ _ _
  have hw : Below w.heap.size w V := by rw [hV]; exact (Below.refl _ _).alloc (Nat.le_refl _) _
  have HW := Sh.mk hw
  have HX := Sh.mk hx
  have HN1 := Sh.mk hn1
  have HM := Sh.mk hM
  clear hr1 hr2 hmk
  go_enter Tryz.func15, Tryz.ntmps15
  go_upto_region 1 with (fail)
  rw [← hV]
  have p0 := (hx).cell 0
  have p1 := (hx).cell 1
  simp only [List.getElem?_cons_zero, List.getElem?_cons_succ] at p0 p1
  clear hV hx hw hlo hhi hB hk
  go_upto_region 2 with (first
    | (go_at_call 31; refine (HC.out _).mono ?_; rintro e w2 ⟨rfl, hb2⟩; have hx2 := HX.out.keep hb2; clear p0 p1; have p0 := (hx2).cell 0; have p1 := (hx2).cell 1; (simp only [List.getElem?_cons_zero, List.getElem?_cons_succ] at p0 p1); have f0 := (hx2).frozen 0; have f1 := (hx2).frozen 1;  have HX2 := Sh.mk hx2; have HW2 := Sh.mk (HW.out.trans (hb2.mono HW.out.size)); clear hx2 hb2))
  obtain ⟨W3, hW3⟩ : ∃ W3, W3 = (w2.setCell ⟨w.heap.size, 0, none⟩ (.int .i64 lo)).setCell ⟨w.heap.size, 1, none⟩ (.int .i64 hi) := ⟨_, rfl⟩
  have hx3 : Blk W3 w.heap.size 23 [.int .i64 lo, .int .i64 hi] := by rw [hW3]; exact (HX2.out.set_ 0 _).set_ 1 _
  have HW3 : Sh (Below w.heap.size w W3) := ⟨by rw [hW3]; exact (HW2.out.setCell (Nat.le_refl _) _).setCell (Nat.le_refl _) _⟩
  rw [← hW3]
  clear hW3 p0 p1 f0 f1
  have p0 := (hx3).cell 0
  have p1 := (hx3).cell 1
  simp only [List.getElem?_cons_zero, List.getElem?_cons_succ] at p0 p1
  have HX3 := Sh.mk hx3
  clear hx3 hn1 hM
  have HSZ : Sh (w.heap.size < W3.heap.size) := ⟨HX3.out.lt⟩
  have hszW := HSZ.out
  have TOK : Sh (1 = 1) := ⟨rfl⟩
  have hcat : (9223372036854775807 < n1 + M) = False := by simp; omega
  have hBs : B ≤ s.size := by omega
  have hBE : B ≤ E := by omega
  have hwr : IntKind.i64.wrap ((lo : Int) - (B : Int)) = (n1 : Int) := by rw [IntWalk.i64_in _ (by omega)]; exact HN1.out
  rcases hE with ⟨hk0, rfl⟩ | ⟨hk0, hkE⟩
  · have hc : (decide (0 ≤ k)) = false := by simpa using hk0
    go_upto_region 8 with (first
      | (go_at_call 32; refine (HL.out _).mono ?_; rintro e w4 ⟨rfl, hw4⟩; rw [hw4]; clear hw4)
      | (go_at_call 33; refine (HI.out _).mono ?_; rintro e w4 ⟨rfl, hw4⟩; rw [hw4]; clear hw4))
    rw [HM.out]
    go_region_law (first
      | (clear TOK; refine step_call rfl (.func 34) #[.const (.string ⟨#[32]⟩), .tmp 46] #[9, 3] rfl rfl ⟨_, Tryz.func34, by kernel_rfl, rfl⟩ [.string ⟨#[32]⟩, .int .i64 n1] rfl ?_; refine (HR1.out _).mono ?_; rintro e w5 ⟨rfl, hb5⟩; refine ⟨_, rfl, ?_⟩; have HB5 : Sh (Below W3.heap.size W3 w5) := ⟨(by first | exact hb5 | exact (Below.refl _ W3).drew.trans hb5)⟩; clear hb5)
      | (refine step_call rfl (.func 34) #[.const (.string ⟨#[94]⟩), .tmp 48] #[9, 3] rfl rfl ⟨_, Tryz.func34, by kernel_rfl, rfl⟩ [.string ⟨#[94]⟩, .int .i64 M] rfl ?_; refine (HR2.out _).mono ?_; rintro e w6 ⟨rfl, hb6⟩; refine ⟨_, rfl, ?_⟩; have HB6 : Sh (Below W3.heap.size W3 w6) := ⟨HB5.out.trans (hb6.mono HB5.out.size)⟩; clear hb6 HB5))
    go_wp2
    go_ret
    exact ⟨_, rfl, Nat.le_trans HW3.out.size HB6.out.size, Blk.new _ _ _, (HW3.out.trans (HB6.out.mono HW3.out.size)).alloc (Nat.le_trans HW3.out.size HB6.out.size) _⟩
  · have hc : (decide (0 ≤ k)) = true := by simpa using hk0
    go_upto_region 8 with (first
      | (go_at_call 32; refine (HL.out _).mono ?_; rintro e w4 ⟨rfl, hw4⟩; rw [hw4]; clear hw4)
      | (go_at_call 33; refine (HI.out _).mono ?_; rintro e w4 ⟨rfl, hw4⟩; rw [hw4]; clear hw4))
    rw [HM.out]
    go_region_law (first
      | (clear TOK; refine step_call rfl (.func 34) #[.const (.string ⟨#[32]⟩), .tmp 46] #[9, 3] rfl rfl ⟨_, Tryz.func34, by kernel_rfl, rfl⟩ [.string ⟨#[32]⟩, .int .i64 n1] rfl ?_; refine (HR1.out _).mono ?_; rintro e w5 ⟨rfl, hb5⟩; refine ⟨_, rfl, ?_⟩; have HB5 : Sh (Below W3.heap.size W3 w5) := ⟨(by first | exact hb5 | exact (Below.refl _ W3).drew.trans hb5)⟩; clear hb5)
      | (refine step_call rfl (.func 34) #[.const (.string ⟨#[94]⟩), .tmp 48] #[9, 3] rfl rfl ⟨_, Tryz.func34, by kernel_rfl, rfl⟩ [.string ⟨#[94]⟩, .int .i64 M] rfl ?_; refine (HR2.out _).mono ?_; rintro e w6 ⟨rfl, hb6⟩; refine ⟨_, rfl, ?_⟩; have HB6 : Sh (Below W3.heap.size W3 w6) := ⟨HB5.out.trans (hb6.mono HB5.out.size)⟩; clear hb6 HB5))
    go_wp2
    go_ret
    exact ⟨_, rfl, Nat.le_trans HW3.out.size HB6.out.size, Blk.new _ _ _, (HW3.out.trans (HB6.out.mono HW3.out.size)).alloc (Nat.le_trans HW3.out.size HB6.out.size) _⟩
end Go.Proofs.YtkfdhmeipnfhpaaGreatDoor
