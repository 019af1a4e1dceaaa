/- Package check: reading a text of one name. -/
import Derived.Test.YtkfdhmeipnfhpaaGreatDoorSteps
set_option linter.unusedVariables false
set_option linter.unusedSimpArgs false
namespace Go.Proofs.YtkfdhmeipnfhpaaGreatDoor
open Go.RowKit

set_option maxRecDepth 100000 in
set_option maxHeartbeats 2000000 in
theorem wread_calls (w : World) (r : Nat) (s nm : ByteArray) (lb lk st : Int) (n a b : Int)
    (hT : ∀ W, Gl W → Calls Tryz.prog 70 #[.string s, .int .i64 1000] W fun e w' => e = .returned (.tuple #[.agg #[.int .i64 1, .string nm, .int .i64 n, .int .i64 0, .int .i64 0, .slice none 0 0, .slice none 0 0, .int .i64 a, .int .i64 b], .agg #[.int .i64 0, .int .i64 0], .int .i64 0]) ∧ Below W.heap.size W w') (hG : Gl w) (h : Blk w r 71 [.string s, .int .i64 lb, .int .i64 1000, .int .i64 lk, .int .i64 0, .string ⟨#[]⟩, .int .i64 0, .int .i64 0, .int .i64 0, .slice none 0 0, .slice none 0 0, .int .i64 0, .int .i64 0, .slice none 0 0, .int .i64 0, .string ⟨#[]⟩, .int .i64 0, .int .i64 0, .int .i64 0, .slice none 0 0, .slice none 0 0, .int .i64 st]) :
    Calls Tryz.prog 53 #[.pointer (some ⟨r, 0, none⟩)] w fun e w' => e = .returned (.bool true) ∧ Chg (fun i => i = r) w w' ∧ Blk w' r 71 [.string s, .int .i64 lb, .int .i64 1000, .int .i64 lk, .int .i64 1, .string nm, .int .i64 n, .int .i64 0, .int .i64 0, .slice none 0 0, .slice none 0 0, .int .i64 a, .int .i64 b, .slice none 0 0, .int .i64 0, .string ⟨#[]⟩, .int .i64 0, .int .i64 0, .int .i64 0, .slice none 0 0, .slice none 0 0, .int .i64 st] := by
  have HT := Sh.mk (fun (W : World) (hb : Below w.heap.size w W) => (hT W (hG.below hb)).mono (R' := fun e w' => e = .returned (.tuple #[.agg #[.int .i64 1, .string nm, .int .i64 n, .int .i64 0, .int .i64 0, .slice none 0 0, .slice none 0 0, .int .i64 a, .int .i64 b], .agg #[.int .i64 0, .int .i64 0], .int .i64 0]) ∧ Below W.heap.size W w' ∧ Below w.heap.size w w') fun e w' h => ⟨h.1, h.2, hb.trans (h.2.mono hb.size)⟩)
  have H := Sh.mk h
  have HG := Sh.mk hG
  have hrl := h.lt
  have p0 := (h).cell 0
  have p1 := (h).cell 1
  have p2 := (h).cell 2
  have p3 := (h).cell 3
  have p4 := (h).cell 4
  have p5 := (h).cell 5
  have p6 := (h).cell 6
  have p7 := (h).cell 7
  have p8 := (h).cell 8
  have p9 := (h).cell 9
  have p10 := (h).cell 10
  have p11 := (h).cell 11
  have p12 := (h).cell 12
  have p13 := (h).cell 13
  have p14 := (h).cell 14
  have p15 := (h).cell 15
  have p16 := (h).cell 16
  have p17 := (h).cell 17
  have p18 := (h).cell 18
  have p19 := (h).cell 19
  have p20 := (h).cell 20
  have p21 := (h).cell 21
  simp only [List.getElem?_cons_zero, List.getElem?_cons_succ] at p0 p1 p2 p3 p4 p5 p6 p7 p8 p9 p10 p11 p12 p13 p14 p15 p16 p17 p18 p19 p20 p21
  clear h hT hG
  go_enter Tryz.func53, Tryz.ntmps53
  go_upto_region 1 with (fail)
  go_cut [3, 4, 5] from 6 to 19 (fun s3 s4 s5 wx => ∃ b3 b4, s3 = .pointer (some ⟨b3, 0, none⟩) ∧ s4 = .pointer (some ⟨b4, 0, none⟩) ∧ s5 = .int .i64 0 ∧ Sh (Below w.heap.size w wx ∧ Blk wx b3 68 [.int .i64 1, .string nm, .int .i64 n, .int .i64 0, .int .i64 0, .slice none 0 0, .slice none 0 0, .int .i64 a, .int .i64 b] ∧ w.heap.size ≤ b3))
  case first =>
    go_region_law (refine step_call rfl (.func 70) #[.tmp 10, .tmp 15] #[9, 3] rfl rfl ⟨_, Tryz.func70, by kernel_rfl, rfl⟩ [.string s, .int .i64 1000] rfl ?_; refine (HT.out _ (by first | exact Below.refl _ _ | exact (Below.refl _ _).drew | exact ((Below.refl _ _).drew).alloc (by (first | (simp; done) | omega)) _ | exact ((Below.refl _ _).alloc (by (first | (simp; done) | omega)) _).drew | exact (Below.refl _ _).alloc (by (first | (simp; done) | omega)) _ | exact (((Below.refl _ _).alloc (by (first | (simp; done) | omega)) _).alloc (by (first | (simp; done) | omega)) _).drew | exact (((Below.refl _ _).drew).alloc (by (first | (simp; done) | omega)) _).alloc (by (first | (simp; done) | omega)) _ | exact ((Below.refl _ _).alloc (by (first | (simp; done) | omega)) _).alloc (by (first | (simp; done) | omega)) _ | exact (((Below.refl _ _).alloc (by (first | (simp; done) | omega)) _).drew).alloc (by (first | (simp; done) | omega)) _)).mono ?_; rintro e w2 ⟨rfl, hb, hw2⟩; have HW2 := Sh.mk hw2; clear hw2; refine ⟨_, rfl, ?_⟩; (try (have hz : Blk w2 (w.heap.size) 68 [.int .i64 0, .string ⟨#[]⟩, .int .i64 0, .int .i64 0, .int .i64 0, .slice none 0 0, .slice none 0 0, .int .i64 0, .int .i64 0] := (hb.block _ (by (first | (simp; done) | (simp; omega) | omega))).trans (by first | exact Blk.new _ _ _ | exact (Blk.new _ _ _).alloc _ | exact Blk.new' _ _ _ (by (first | (simp; done) | omega)) | exact (Blk.new _ _ _).drew | exact ((Blk.new _ _ _).alloc _).drew | exact (Blk.new' _ _ _ (by (first | (simp; done) | omega))).drew | exact ((Blk.new _ _ _).drew).alloc _); have u0 := (hz).cell 0; have u1 := (hz).cell 1; have u2 := (hz).cell 2; have u3 := (hz).cell 3; have u4 := (hz).cell 4; have u5 := (hz).cell 5; have u6 := (hz).cell 6; have u7 := (hz).cell 7; have u8 := (hz).cell 8; (simp only [List.getElem?_cons_zero, List.getElem?_cons_succ] at u0 u1 u2 u3 u4 u5 u6 u7 u8); have uf0 := (hz).frozen 0; have uf1 := (hz).frozen 1; have uf2 := (hz).frozen 2; have uf3 := (hz).frozen 3; have uf4 := (hz).frozen 4; have uf5 := (hz).frozen 5; have uf6 := (hz).frozen 6; have uf7 := (hz).frozen 7; have uf8 := (hz).frozen 8;  have hlu := hz.lt; have Hu := Sh.mk hz; clear hz)); (try (have hz : Blk w2 (w.heap.size) 23 [.int .i64 0, .int .i64 0] := (hb.block _ (by (first | (simp; done) | (simp; omega) | omega))).trans (by first | exact Blk.new _ _ _ | exact (Blk.new _ _ _).alloc _ | exact Blk.new' _ _ _ (by (first | (simp; done) | omega)) | exact (Blk.new _ _ _).drew | exact ((Blk.new _ _ _).alloc _).drew | exact (Blk.new' _ _ _ (by (first | (simp; done) | omega))).drew | exact ((Blk.new _ _ _).drew).alloc _); have v0 := (hz).cell 0; have v1 := (hz).cell 1; (simp only [List.getElem?_cons_zero, List.getElem?_cons_succ] at v0 v1); have vf0 := (hz).frozen 0; have vf1 := (hz).frozen 1;  have hlv := hz.lt; have Hv := Sh.mk hz; clear hz)); (try (have hz : Blk w2 (w.heap.size + 1) 68 [.int .i64 0, .string ⟨#[]⟩, .int .i64 0, .int .i64 0, .int .i64 0, .slice none 0 0, .slice none 0 0, .int .i64 0, .int .i64 0] := (hb.block _ (by (first | (simp; done) | (simp; omega) | omega))).trans (by first | exact Blk.new _ _ _ | exact (Blk.new _ _ _).alloc _ | exact Blk.new' _ _ _ (by (first | (simp; done) | omega)) | exact (Blk.new _ _ _).drew | exact ((Blk.new _ _ _).alloc _).drew | exact (Blk.new' _ _ _ (by (first | (simp; done) | omega))).drew | exact ((Blk.new _ _ _).drew).alloc _); have x0 := (hz).cell 0; have x1 := (hz).cell 1; have x2 := (hz).cell 2; have x3 := (hz).cell 3; have x4 := (hz).cell 4; have x5 := (hz).cell 5; have x6 := (hz).cell 6; have x7 := (hz).cell 7; have x8 := (hz).cell 8; (simp only [List.getElem?_cons_zero, List.getElem?_cons_succ] at x0 x1 x2 x3 x4 x5 x6 x7 x8); have xf0 := (hz).frozen 0; have xf1 := (hz).frozen 1; have xf2 := (hz).frozen 2; have xf3 := (hz).frozen 3; have xf4 := (hz).frozen 4; have xf5 := (hz).frozen 5; have xf6 := (hz).frozen 6; have xf7 := (hz).frozen 7; have xf8 := (hz).frozen 8;  have hlx := hz.lt; have Hx := Sh.mk hz; clear hz)); (try (have hz : Blk w2 (w.heap.size + 1) 23 [.int .i64 0, .int .i64 0] := (hb.block _ (by (first | (simp; done) | (simp; omega) | omega))).trans (by first | exact Blk.new _ _ _ | exact (Blk.new _ _ _).alloc _ | exact Blk.new' _ _ _ (by (first | (simp; done) | omega)) | exact (Blk.new _ _ _).drew | exact ((Blk.new _ _ _).alloc _).drew | exact (Blk.new' _ _ _ (by (first | (simp; done) | omega))).drew | exact ((Blk.new _ _ _).drew).alloc _); have y0 := (hz).cell 0; have y1 := (hz).cell 1; (simp only [List.getElem?_cons_zero, List.getElem?_cons_succ] at y0 y1); have yf0 := (hz).frozen 0; have yf1 := (hz).frozen 1;  have hly := hz.lt; have Hy := Sh.mk hz; clear hz)); have HB2 := Sh.mk hb; clear hb)
    all_goals (first
      | (obtain ⟨W9, hW9⟩ : ∃ W9, W9 = (w2.alloc (.cells #[.int .i64 1, .string nm, .int .i64 n, .int .i64 0, .int .i64 0, .slice none 0 0, .slice none 0 0, .int .i64 a, .int .i64 b] 68)).alloc (.cells #[.int .i64 0, .int .i64 0] 23) := ⟨_, rfl⟩; have hs9 := hW9; (try simp only [setAll] at hs9); rw [← hs9]; clear hs9; have h91 : Below w.heap.size w W9 := (by rw [hW9]; exact (HW2.out.alloc HW2.out.size _).alloc (by (have := HW2.out.size; simp; omega)) _); have h92 : Blk W9 w2.heap.size 68 [.int .i64 1, .string nm, .int .i64 n, .int .i64 0, .int .i64 0, .slice none 0 0, .slice none 0 0, .int .i64 a, .int .i64 b] := (by rw [hW9]; exact (Blk.new _ _ _).alloc _); have HP : Sh (Below w.heap.size w W9 ∧ Blk W9 (w2.heap.size) 68 [.int .i64 1, .string nm, .int .i64 n, .int .i64 0, .int .i64 0, .slice none 0 0, .slice none 0 0, .int .i64 a, .int .i64 b] ∧ w.heap.size ≤ w2.heap.size) := ⟨⟨h91, h92, by (have := HW2.out.size; omega)⟩⟩; clear hW9 h91 h92)
      | (obtain ⟨W9, hW9⟩ : ∃ W9, W9 = (w2.alloc (.cells #[.int .i64 0, .int .i64 0] 23)).alloc (.cells #[.int .i64 1, .string nm, .int .i64 n, .int .i64 0, .int .i64 0, .slice none 0 0, .slice none 0 0, .int .i64 a, .int .i64 b] 68) := ⟨_, rfl⟩; have hs9 := hW9; (try simp only [setAll] at hs9); rw [← hs9]; clear hs9; have h91 : Below w.heap.size w W9 := (by rw [hW9]; exact (HW2.out.alloc HW2.out.size _).alloc (by (have := HW2.out.size; simp; omega)) _); have h92 : Blk W9 (w2.heap.size + 1) 68 [.int .i64 1, .string nm, .int .i64 n, .int .i64 0, .int .i64 0, .slice none 0 0, .slice none 0 0, .int .i64 a, .int .i64 b] := (by rw [hW9]; exact Blk.new' _ _ _ (by simp)); have HP : Sh (Below w.heap.size w W9 ∧ Blk W9 (w2.heap.size + 1) 68 [.int .i64 1, .string nm, .int .i64 n, .int .i64 0, .int .i64 0, .slice none 0 0, .slice none 0 0, .int .i64 a, .int .i64 b] ∧ w.heap.size ≤ w2.heap.size + 1) := ⟨⟨h91, h92, by (have := HW2.out.size; omega)⟩⟩; clear hW9 h91 h92)
      | (obtain ⟨W9, hW9⟩ : ∃ W9, W9 = (setAll w2 w.heap.size 0 [.int .i64 1, .string nm, .int .i64 n, .int .i64 0, .int .i64 0, .slice none 0 0, .slice none 0 0, .int .i64 a, .int .i64 b]).alloc (.cells #[.int .i64 0, .int .i64 0] 23) := ⟨_, rfl⟩; have hs9 := hW9; (try simp only [setAll] at hs9); rw [← hs9]; clear hs9; have hk := setAll_chg w.heap.size [.int .i64 1, .string nm, .int .i64 n, .int .i64 0, .int .i64 0, .slice none 0 0, .slice none 0 0, .int .i64 a, .int .i64 b] 0 w2; have h91 : Below w.heap.size w W9 := (by rw [hW9]; exact (HW2.out.trans (hk.below (fun i hi => by omega) HW2.out.size)).alloc (Nat.le_trans HW2.out.size hk.size) _); have h92 : Blk W9 w.heap.size 68 [.int .i64 1, .string nm, .int .i64 n, .int .i64 0, .int .i64 0, .slice none 0 0, .slice none 0 0, .int .i64 a, .int .i64 b] := (by rw [hW9]; have h0 : Blk (setAll w2 w.heap.size 0 [.int .i64 1, .string nm, .int .i64 n, .int .i64 0, .int .i64 0, .slice none 0 0, .slice none 0 0, .int .i64 a, .int .i64 b]) w.heap.size 68 [.int .i64 1, .string nm, .int .i64 n, .int .i64 0, .int .i64 0, .slice none 0 0, .slice none 0 0, .int .i64 a, .int .i64 b] := setAll_blk Hu.out rfl; exact h0.alloc _); have HP : Sh (Below w.heap.size w W9 ∧ Blk W9 (w.heap.size) 68 [.int .i64 1, .string nm, .int .i64 n, .int .i64 0, .int .i64 0, .slice none 0 0, .slice none 0 0, .int .i64 a, .int .i64 b] ∧ w.heap.size ≤ w.heap.size) := ⟨⟨h91, h92, by (have := HW2.out.size; omega)⟩⟩; clear hW9 h91 h92)
      | (obtain ⟨W9, hW9⟩ : ∃ W9, W9 = setAll (setAll w2 w.heap.size 0 [.int .i64 1, .string nm, .int .i64 n, .int .i64 0, .int .i64 0, .slice none 0 0, .slice none 0 0, .int .i64 a, .int .i64 b]) (w.heap.size + 1) 0 [.int .i64 0, .int .i64 0] := ⟨_, rfl⟩; have hs9 := hW9; (try simp only [setAll] at hs9); rw [← hs9]; clear hs9; have hk := setAll_chg w.heap.size [.int .i64 1, .string nm, .int .i64 n, .int .i64 0, .int .i64 0, .slice none 0 0, .slice none 0 0, .int .i64 a, .int .i64 b] 0 w2; have hk2 := setAll_chg (w.heap.size + 1) [.int .i64 0, .int .i64 0] 0 (setAll w2 w.heap.size 0 [.int .i64 1, .string nm, .int .i64 n, .int .i64 0, .int .i64 0, .slice none 0 0, .slice none 0 0, .int .i64 a, .int .i64 b]); have h91 : Below w.heap.size w W9 := (by rw [hW9]; exact (HW2.out.trans (hk.below (fun i hi => by omega) HW2.out.size)).trans (hk2.below (fun i hi => by omega) (Nat.le_trans HW2.out.size hk.size))); have h92 : Blk W9 w.heap.size 68 [.int .i64 1, .string nm, .int .i64 n, .int .i64 0, .int .i64 0, .slice none 0 0, .slice none 0 0, .int .i64 a, .int .i64 b] := (by rw [hW9]; have h0 : Blk (setAll w2 w.heap.size 0 [.int .i64 1, .string nm, .int .i64 n, .int .i64 0, .int .i64 0, .slice none 0 0, .slice none 0 0, .int .i64 a, .int .i64 b]) w.heap.size 68 [.int .i64 1, .string nm, .int .i64 n, .int .i64 0, .int .i64 0, .slice none 0 0, .slice none 0 0, .int .i64 a, .int .i64 b] := setAll_blk Hu.out rfl; exact (hk2.block _ h0.lt (by omega)).trans h0); have HP : Sh (Below w.heap.size w W9 ∧ Blk W9 (w.heap.size) 68 [.int .i64 1, .string nm, .int .i64 n, .int .i64 0, .int .i64 0, .slice none 0 0, .slice none 0 0, .int .i64 a, .int .i64 b] ∧ w.heap.size ≤ w.heap.size) := ⟨⟨h91, h92, by (have := HW2.out.size; omega)⟩⟩; clear hW9 h91 h92)
      | (obtain ⟨W9, hW9⟩ : ∃ W9, W9 = (setAll w2 w.heap.size 0 [.int .i64 0, .int .i64 0]).alloc (.cells #[.int .i64 1, .string nm, .int .i64 n, .int .i64 0, .int .i64 0, .slice none 0 0, .slice none 0 0, .int .i64 a, .int .i64 b] 68) := ⟨_, rfl⟩; have hs9 := hW9; (try simp only [setAll] at hs9); rw [← hs9]; clear hs9; have hk := setAll_chg w.heap.size [.int .i64 0, .int .i64 0] 0 w2; have h91 : Below w.heap.size w W9 := (by rw [hW9]; exact (HW2.out.trans (hk.below (fun i hi => by omega) HW2.out.size)).alloc (Nat.le_trans HW2.out.size hk.size) _); have h92 : Blk W9 (setAll w2 w.heap.size 0 [.int .i64 0, .int .i64 0]).heap.size 68 [.int .i64 1, .string nm, .int .i64 n, .int .i64 0, .int .i64 0, .slice none 0 0, .slice none 0 0, .int .i64 a, .int .i64 b] := (by rw [hW9]; exact Blk.new _ _ _); have HP : Sh (Below w.heap.size w W9 ∧ Blk W9 ((setAll w2 w.heap.size 0 [.int .i64 0, .int .i64 0]).heap.size) 68 [.int .i64 1, .string nm, .int .i64 n, .int .i64 0, .int .i64 0, .slice none 0 0, .slice none 0 0, .int .i64 a, .int .i64 b] ∧ w.heap.size ≤ (setAll w2 w.heap.size 0 [.int .i64 0, .int .i64 0]).heap.size) := ⟨⟨h91, h92, Nat.le_trans HW2.out.size hk.size⟩⟩; (simp only [setAll, World.size_setCell] at HP); clear hW9 h91 h92)
      | (obtain ⟨W9, hW9⟩ : ∃ W9, W9 = setAll (setAll w2 (w.heap.size + 1) 0 [.int .i64 1, .string nm, .int .i64 n, .int .i64 0, .int .i64 0, .slice none 0 0, .slice none 0 0, .int .i64 a, .int .i64 b]) w.heap.size 0 [.int .i64 0, .int .i64 0] := ⟨_, rfl⟩; have hs9 := hW9; (try simp only [setAll] at hs9); rw [← hs9]; clear hs9; have hk := setAll_chg (w.heap.size + 1) [.int .i64 1, .string nm, .int .i64 n, .int .i64 0, .int .i64 0, .slice none 0 0, .slice none 0 0, .int .i64 a, .int .i64 b] 0 w2; have hk2 := setAll_chg w.heap.size [.int .i64 0, .int .i64 0] 0 (setAll w2 (w.heap.size + 1) 0 [.int .i64 1, .string nm, .int .i64 n, .int .i64 0, .int .i64 0, .slice none 0 0, .slice none 0 0, .int .i64 a, .int .i64 b]); have h91 : Below w.heap.size w W9 := (by rw [hW9]; exact (HW2.out.trans (hk.below (fun i hi => by omega) HW2.out.size)).trans (hk2.below (fun i hi => by omega) (Nat.le_trans HW2.out.size hk.size))); have h92 : Blk W9 (w.heap.size + 1) 68 [.int .i64 1, .string nm, .int .i64 n, .int .i64 0, .int .i64 0, .slice none 0 0, .slice none 0 0, .int .i64 a, .int .i64 b] := (by rw [hW9]; have h0 : Blk (setAll w2 (w.heap.size + 1) 0 [.int .i64 1, .string nm, .int .i64 n, .int .i64 0, .int .i64 0, .slice none 0 0, .slice none 0 0, .int .i64 a, .int .i64 b]) (w.heap.size + 1) 68 [.int .i64 1, .string nm, .int .i64 n, .int .i64 0, .int .i64 0, .slice none 0 0, .slice none 0 0, .int .i64 a, .int .i64 b] := setAll_blk Hx.out rfl; exact (hk2.block _ h0.lt (by omega)).trans h0); have HP : Sh (Below w.heap.size w W9 ∧ Blk W9 (w.heap.size + 1) 68 [.int .i64 1, .string nm, .int .i64 n, .int .i64 0, .int .i64 0, .slice none 0 0, .slice none 0 0, .int .i64 a, .int .i64 b] ∧ w.heap.size ≤ w.heap.size + 1) := ⟨⟨h91, h92, by (have := HW2.out.size; omega)⟩⟩; clear hW9 h91 h92))
    all_goals
      go_wp2_with fail
      go_meet
      case rel => exact ⟨_, _, rfl, rfl, rfl, HP⟩
  case rest =>
    obtain ⟨b3, b4, rfl, rfl, rfl, HC⟩ := hcut
    have hx := HC.out.2.1
    have hr := H.out.keep HC.out.1
    have hb3 : r ≠ b3 := by have := HC.out.2.2; omega
    clear p0 p1 p2 p3 p4 p5 p6 p7 p8 p9 p10 p11 p12 p13 p14 p15 p16 p17 p18 p19 p20 p21
    have q0 := (hx).cell 0
    have q1 := (hx).cell 1
    have q2 := (hx).cell 2
    have q3 := (hx).cell 3
    have q4 := (hx).cell 4
    have q5 := (hx).cell 5
    have q6 := (hx).cell 6
    have q7 := (hx).cell 7
    have q8 := (hx).cell 8
    simp only [List.getElem?_cons_zero, List.getElem?_cons_succ] at q0 q1 q2 q3 q4 q5 q6 q7 q8
    have p0 := (hr).cell 0
    have p1 := (hr).cell 1
    have p2 := (hr).cell 2
    have p3 := (hr).cell 3
    have p4 := (hr).cell 4
    have p5 := (hr).cell 5
    have p6 := (hr).cell 6
    have p7 := (hr).cell 7
    have p8 := (hr).cell 8
    have p9 := (hr).cell 9
    have p10 := (hr).cell 10
    have p11 := (hr).cell 11
    have p12 := (hr).cell 12
    have p13 := (hr).cell 13
    have p14 := (hr).cell 14
    have p15 := (hr).cell 15
    have p16 := (hr).cell 16
    have p17 := (hr).cell 17
    have p18 := (hr).cell 18
    have p19 := (hr).cell 19
    have p20 := (hr).cell 20
    have p21 := (hr).cell 21
    simp only [List.getElem?_cons_zero, List.getElem?_cons_succ] at p0 p1 p2 p3 p4 p5 p6 p7 p8 p9 p10 p11 p12 p13 p14 p15 p16 p17 p18 p19 p20 p21
    have f0 := (hr).frozen 0
    have f1 := (hr).frozen 1
    have f2 := (hr).frozen 2
    have f3 := (hr).frozen 3
    have f4 := (hr).frozen 4
    have f5 := (hr).frozen 5
    have f6 := (hr).frozen 6
    have f7 := (hr).frozen 7
    have f8 := (hr).frozen 8
    have f9 := (hr).frozen 9
    have f10 := (hr).frozen 10
    have f11 := (hr).frozen 11
    have f12 := (hr).frozen 12
    have HR := Sh.mk hr
    clear hx hr
    go_wp2
    have hk : Chg (fun i => i = r) wc (setAll wc r 4 [.int .i64 1, .string nm, .int .i64 n, .int .i64 0, .int .i64 0, .slice none 0 0, .slice none 0 0, .int .i64 a, .int .i64 b]) := setAll_chg _ _ _ _
    have hb9 : Blk (setAll wc r 4 [.int .i64 1, .string nm, .int .i64 n, .int .i64 0, .int .i64 0, .slice none 0 0, .slice none 0 0, .int .i64 a, .int .i64 b]) r 71 [.string s, .int .i64 lb, .int .i64 1000, .int .i64 lk, .int .i64 1, .string nm, .int .i64 n, .int .i64 0, .int .i64 0, .slice none 0 0, .slice none 0 0, .int .i64 a, .int .i64 b, .slice none 0 0, .int .i64 0, .string ⟨#[]⟩, .int .i64 0, .int .i64 0, .int .i64 0, .slice none 0 0, .slice none 0 0, .int .i64 st] := setAll_pre r 71 [.int .i64 1, .string nm, .int .i64 n, .int .i64 0, .int .i64 0, .slice none 0 0, .slice none 0 0, .int .i64 a, .int .i64 b] [.string s, .int .i64 lb, .int .i64 1000, .int .i64 lk] [.int .i64 0, .string ⟨#[]⟩, .int .i64 0, .int .i64 0, .int .i64 0, .slice none 0 0, .slice none 0 0, .int .i64 0, .int .i64 0] [.slice none 0 0, .int .i64 0, .string ⟨#[]⟩, .int .i64 0, .int .i64 0, .int .i64 0, .slice none 0 0, .slice none 0 0, .int .i64 st] wc HR.out rfl
    have hc9 : Chg (fun i => i = r) w (setAll wc r 4 [.int .i64 1, .string nm, .int .i64 n, .int .i64 0, .int .i64 0, .slice none 0 0, .slice none 0 0, .int .i64 a, .int .i64 b]) := (Chg.of_below HC.out.1).trans hk (fun i hi _ => .inl hi)
    simp only [setAll, Nat.reduceAdd] at hb9 hc9
    go_ret
    exact ⟨rfl, hc9, hb9⟩
end Go.Proofs.YtkfdhmeipnfhpaaGreatDoor
