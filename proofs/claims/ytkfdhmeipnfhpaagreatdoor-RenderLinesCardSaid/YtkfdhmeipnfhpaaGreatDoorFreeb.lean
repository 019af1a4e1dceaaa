/- Package scope: walk and free at a term that is one name. -/
import Derived.Test.YtkfdhmeipnfhpaaGreatDoorFree
set_option linter.unusedVariables false
set_option linter.unusedSimpArgs false
namespace Go.Proofs.YtkfdhmeipnfhpaaGreatDoor
open Go.RowKit

set_option maxRecDepth 100000 in
set_option maxHeartbeats 2000000 in
theorem walk_free (nm : ByteArray) (n a b : Int) (c : Nat) (w : World) (hC : Blk w c 66 [.slice none 0 0]) :
    Calls Tryz.prog 110 #[.agg #[.int .i64 1, .string nm, .int .i64 n, .int .i64 0, .int .i64 0, .slice none 0 0, .slice none 0 0, .int .i64 a, .int .i64 b], .slice none 0 0, .func (.func 111) #[] #[.pointer (some ⟨c, 0, none⟩)]] w fun e w' =>
      e = .returned (.agg #[.int .i64 1, .string nm, .int .i64 n, .int .i64 0, .int .i64 0, .slice none 0 0, .slice none 0 0, .int .i64 a, .int .i64 b]) ∧ Chg (fun i => i = c) w w' ∧
      ∃ g cap tl, w.heap.size ≤ g ∧ Blk w' c 66 [.slice (some ⟨g, 0, none⟩) 1 cap] ∧ Blk w' g 68 (leafV 1 nm n a b ++ tl) := by
  have hlt := hC.lt
  obtain ⟨V, hV⟩ : ∃ V, V = (w.alloc (.cells #[.int .i64 1, .string nm, .int .i64 n, .int .i64 0, .int .i64 0, .slice none 0 0, .slice none 0 0, .int .i64 a, .int .i64 b] 68)).alloc (.cells #[.int .i64 0, .string ⟨#[]⟩, .int .i64 0, .int .i64 0, .int .i64 0, .slice none 0 0, .slice none 0 0, .int .i64 0, .int .i64 0] 68) := ⟨_, rfl⟩
  have hB : Blk V w.heap.size 68 [.int .i64 1, .string nm, .int .i64 n, .int .i64 0, .int .i64 0, .slice none 0 0, .slice none 0 0, .int .i64 a, .int .i64 b] := by rw [hV]; exact (Blk.new _ _ _).alloc _
  have hR : Blk V (w.heap.size + 1) 68 [.int .i64 0, .string ⟨#[]⟩, .int .i64 0, .int .i64 0, .int .i64 0, .slice none 0 0, .slice none 0 0, .int .i64 0, .int .i64 0] := by rw [hV]; exact Blk.new' _ _ _ (by simp)
  have hc : Blk V c 66 [.slice none 0 0] := by rw [hV]; exact (hC.alloc _).alloc _
  have hch : Chg (fun i => i = c) w V := by rw [hV]; exact ((Chg.refl _ _).alloc _).alloc _
  have HSZ : Sh (V.heap.size = w.heap.size + 2) := ⟨by rw [hV]; simp⟩
  have hfn : Fnv Tryz.prog (.func (.func 111) #[] #[.pointer (some ⟨c, 0, none⟩)]) 111 #[.pointer (some ⟨c, 0, none⟩)] := ⟨rfl, _, Tryz.func111, by kernel_rfl, rfl⟩
  go_enter Tryz.func110, Tryz.ntmps110
  have HB := Sh.mk hB
  have HR := Sh.mk hR
  have HC := Sh.mk hc
  have HCH := Sh.mk hch
  go_upto_region 1 with (fail)
  rw [← hV]
  have p0 := (hB).cell 0
  have p1 := (hB).cell 1
  have p2 := (hB).cell 2
  have p3 := (hB).cell 3
  have p4 := (hB).cell 4
  have p5 := (hB).cell 5
  have p6 := (hB).cell 6
  have p7 := (hB).cell 7
  have p8 := (hB).cell 8
  simp only [List.getElem?_cons_zero, List.getElem?_cons_succ] at p0 p1 p2 p3 p4 p5 p6 p7 p8
  clear hV hC hB hR hc hch
  go_wp2_with (go_at_call 111; refine (free1_calls 1 nm n a b c V HC.out).mono ?_; rintro e w2 ⟨rfl, hch2, g, cap, tl, hg, hc2, hg2⟩; have HR2 := Sh.mk (show Blk w2 (w.heap.size + 1) 68 [.int .i64 0, .string ⟨#[]⟩, .int .i64 0, .int .i64 0, .int .i64 0, .slice none 0 0, .slice none 0 0, .int .i64 0, .int .i64 0] from (hch2.block _ HR.out.lt (by omega)).trans HR.out); have hgv : w.heap.size + 2 ≤ g := (by have := HSZ.out; omega); have HH2 := Sh.mk (HCH.out.trans hch2 (fun i hi _ => .inl hi)); have HC2 := Sh.mk hc2; have HG2 := Sh.mk hg2; have hr2 := HR2.out; have q0 := hr2.cell 0; have q1 := hr2.cell 1; have q2 := hr2.cell 2; have q3 := hr2.cell 3; have q4 := hr2.cell 4; have q5 := hr2.cell 5; have q6 := hr2.cell 6; have q7 := hr2.cell 7; have q8 := hr2.cell 8; (simp only [List.getElem?_cons_zero, List.getElem?_cons_succ] at q0 q1 q2 q3 q4 q5 q6 q7 q8); have f0 := hr2.frozen 0; have f1 := hr2.frozen 1; have f2 := hr2.frozen 2; have f3 := hr2.frozen 3; have f4 := hr2.frozen 4; have f5 := hr2.frozen 5; have f6 := hr2.frozen 6; have f7 := hr2.frozen 7; have f8 := hr2.frozen 8; clear p0 p1 p2 p3 p4 p5 p6 p7 p8 hc2 hg2 hch2 hr2 hg)
  obtain ⟨W7, hW7⟩ : ∃ W7, W7 = setAll w2 (w.heap.size + 1) 0 [.int .i64 1, .string nm, .int .i64 n, .int .i64 0, .int .i64 0, .slice none 0 0, .slice none 0 0, .int .i64 a, .int .i64 b] := ⟨_, rfl⟩
  have hC7 : Chg (fun i => i = w.heap.size + 1) w2 W7 := by rw [hW7]; exact setAll_chg _ _ _ _
  have hX7 : Blk W7 (w.heap.size + 1) 68 [.int .i64 1, .string nm, .int .i64 n, .int .i64 0, .int .i64 0, .slice none 0 0, .slice none 0 0, .int .i64 a, .int .i64 b] := by rw [hW7]; exact setAll_blk HR2.out rfl
  simp only [setAll] at hW7
  rw [← hW7]
  clear hW7 q0 q1 q2 q3 q4 q5 q6 q7 q8 f0 f1 f2 f3 f4 f5 f6 f7 f8
  have p0 := (hX7).cell 0
  have p1 := (hX7).cell 1
  have p2 := (hX7).cell 2
  have p3 := (hX7).cell 3
  have p4 := (hX7).cell 4
  have p5 := (hX7).cell 5
  have p6 := (hX7).cell 6
  have p7 := (hX7).cell 7
  have p8 := (hX7).cell 8
  simp only [List.getElem?_cons_zero, List.getElem?_cons_succ] at p0 p1 p2 p3 p4 p5 p6 p7 p8
  exact bodyPost_ret (v := .agg #[.int .i64 1, .string nm, .int .i64 n, .int .i64 0, .int .i64 0, .slice none 0 0, .slice none 0 0, .int .i64 a, .int .i64 b]) (by simp [results, Tryz.results110, go_sem, p0, p1, p2, p3, p4, p5, p6, p7, p8]) rfl ⟨rfl, HH2.out.trans hC7 (fun i hi _ => .inr (by omega)), _, _, tl, (by omega), (hC7.block _ HC2.out.lt (by omega)).trans HC2.out, (hC7.block _ HG2.out.lt (by omega)).trans HG2.out⟩
set_option maxRecDepth 100000 in
set_option maxHeartbeats 2000000 in
theorem free_calls (nm : ByteArray) (n a b : Int) (w : World) :
    Calls Tryz.prog 87 #[.agg #[.int .i64 1, .string nm, .int .i64 n, .int .i64 0, .int .i64 0, .slice none 0 0, .slice none 0 0, .int .i64 a, .int .i64 b]] w fun e w' => ∃ g cap tl, e = .returned (.slice (some ⟨g, 0, none⟩) 1 cap) ∧ Below w.heap.size w w' ∧ w.heap.size ≤ g ∧ Blk w' g 68 (leafV 1 nm n a b ++ tl) := by
  obtain ⟨V, hV⟩ : ∃ V, V = (w.alloc (.cells #[.int .i64 1, .string nm, .int .i64 n, .int .i64 0, .int .i64 0, .slice none 0 0, .slice none 0 0, .int .i64 a, .int .i64 b] 68)).alloc (.cells #[.slice none 0 0] 66) := ⟨_, rfl⟩
  have hB : Blk V w.heap.size 68 [.int .i64 1, .string nm, .int .i64 n, .int .i64 0, .int .i64 0, .slice none 0 0, .slice none 0 0, .int .i64 a, .int .i64 b] := by rw [hV]; exact (Blk.new _ _ _).alloc _
  have hc : Blk V (w.heap.size + 1) 66 [.slice none 0 0] := by rw [hV]; exact Blk.new' _ _ _ (by simp)
  have HW : Sh (Below w.heap.size w V) := ⟨by rw [hV]; exact ((Below.refl _ _).alloc (Nat.le_refl _) _).alloc (by simp) _⟩
  have HSZ : Sh (V.heap.size = w.heap.size + 2) := ⟨by rw [hV]; simp⟩
  have HC := Sh.mk hc
  go_enter Tryz.func87, Tryz.ntmps87
  go_upto_region 2 with (fail)
  rw [← hV]
  have p0 := (hB).cell 0
  have p1 := (hB).cell 1
  have p2 := (hB).cell 2
  have p3 := (hB).cell 3
  have p4 := (hB).cell 4
  have p5 := (hB).cell 5
  have p6 := (hB).cell 6
  have p7 := (hB).cell 7
  have p8 := (hB).cell 8
  simp only [List.getElem?_cons_zero, List.getElem?_cons_succ] at p0 p1 p2 p3 p4 p5 p6 p7 p8
  clear hV hB hc
  go_wp2_with (go_at_call 110; refine (walk_free nm n a b (w.heap.size + 1) V HC.out).mono ?_; rintro e w2 ⟨rfl, hch2, g, cap, tl, hg, hc2, hg2⟩; have hgv : w.heap.size + 2 ≤ g := (by have := HSZ.out; omega); have HH2 := Sh.mk hch2; have HG2 := Sh.mk hg2; have q0 := hc2.cell 0; (simp only [List.getElem?_cons_zero] at q0); clear p0 p1 p2 p3 p4 p5 p6 p7 p8 hc2 hg2 hch2 hg)
  go_ret
  have hsz := HSZ.out
  exact ⟨_, _, tl, rfl, HW.out.trans (HH2.out.below (fun i hi => by omega) HW.out.size), by omega, HG2.out⟩
set_option maxRecDepth 100000 in
set_option maxHeartbeats 2000000 in
/-- A term that is one name is open: the code of an unbound name, and its place. -/
theorem Resolve_name (w : World) (nm : ByteArray) (n a b : Int) (hlt : 0 < nm.size) (h1 : nm.size = 1) (hs : smallB nm[0] = true) (hk : kwB nm = false) (hn0 : 0 ≤ n) (hn1 : n ≤ 9223372036854775807) (hG : Gl w) :
    Calls Tryz.prog 71 #[.agg #[.int .i64 1, .string nm, .int .i64 n, .int .i64 0, .int .i64 0, .slice none 0 0, .slice none 0 0, .int .i64 a, .int .i64 b]] w fun e w' => e = .returned (.tuple #[.agg #[.int .i64 0, .string ⟨#[]⟩, .int .i64 0, .int .i64 0, .int .i64 0, .slice none 0 0, .slice none 0 0, .int .i64 0, .int .i64 0], .agg #[.int .i64 a, .int .i64 b], .int .i64 5]) ∧ Below w.heap.size w w' := by
  have HRT : Sh (∀ W, Gl W → Calls Tryz.prog 86 #[.agg #[.int .i64 1, .string nm, .int .i64 n, .int .i64 0, .int .i64 0, .slice none 0 0, .slice none 0 0, .int .i64 a, .int .i64 b]] W fun e W' => e = .returned (.bool true) ∧ Below W.heap.size W W') := ⟨fun W hW => (callsIn_wide (n := 5)).1 (Right_run 5 (Nat.le_refl _) 1 nm n a b (fun W hW => plain_var W nm n a b hlt h1 hs hk hn0 hn1 hW) W hW)⟩
  obtain ⟨V, hV⟩ : ∃ V, V = ((w.alloc (.cells #[.int .i64 1, .string nm, .int .i64 n, .int .i64 0, .int .i64 0, .slice none 0 0, .slice none 0 0, .int .i64 a, .int .i64 b] 68)).alloc (.cells #[.int .i64 0, .string ⟨#[]⟩, .int .i64 0, .int .i64 0, .int .i64 0, .slice none 0 0, .slice none 0 0, .int .i64 0, .int .i64 0] 68)).alloc (.cells #[.int .i64 0, .int .i64 0] 23) := ⟨_, rfl⟩
  have hB : Blk V w.heap.size 68 [.int .i64 1, .string nm, .int .i64 n, .int .i64 0, .int .i64 0, .slice none 0 0, .slice none 0 0, .int .i64 a, .int .i64 b] := by rw [hV]; exact ((Blk.new _ _ _).alloc _).alloc _
  have hT : Blk V (w.heap.size + 1) 68 [.int .i64 0, .string ⟨#[]⟩, .int .i64 0, .int .i64 0, .int .i64 0, .slice none 0 0, .slice none 0 0, .int .i64 0, .int .i64 0] := by rw [hV]; exact (Blk.new' _ _ _ (by simp)).alloc _
  have hS : Blk V (w.heap.size + 2) 23 [.int .i64 0, .int .i64 0] := by rw [hV]; exact Blk.new' _ _ _ (by simp)
  have hW : Below w.heap.size w V := by rw [hV]; exact (((Below.refl _ _).alloc (Nat.le_refl _) _).alloc (by simp) _).alloc (by simp; omega) _
  have HGV := Sh.mk (hG.below hW)
  have HSZ : Sh (V.heap.size = w.heap.size + 3) := ⟨by rw [hV]; simp⟩
  have HB := Sh.mk hB
  have HT := Sh.mk hT
  have HS := Sh.mk hS
  have HW := Sh.mk hW
  go_enter Tryz.func71, Tryz.ntmps71
  go_upto_region 1 with (fail)
  rw [← hV]
  have p0 := (hB).cell 0
  have p1 := (hB).cell 1
  have p2 := (hB).cell 2
  have p3 := (hB).cell 3
  have p4 := (hB).cell 4
  have p5 := (hB).cell 5
  have p6 := (hB).cell 6
  have p7 := (hB).cell 7
  have p8 := (hB).cell 8
  simp only [List.getElem?_cons_zero, List.getElem?_cons_succ] at p0 p1 p2 p3 p4 p5 p6 p7 p8
  clear hV hB hT hS hW hlt h1 hs hk hG hn0 hn1
  go_upto_region 5 with (first
    | (go_at_call 86; refine (HRT.out _ HGV.out).mono ?_; rintro e w2 ⟨rfl, hb2⟩; have hx2 := HB.out.keep hb2; clear p0 p1 p2 p3 p4 p5 p6 p7 p8; have p0 := (hx2).cell 0; have p1 := (hx2).cell 1; have p2 := (hx2).cell 2; have p3 := (hx2).cell 3; have p4 := (hx2).cell 4; have p5 := (hx2).cell 5; have p6 := (hx2).cell 6; have p7 := (hx2).cell 7; have p8 := (hx2).cell 8; (simp only [List.getElem?_cons_zero, List.getElem?_cons_succ] at p0 p1 p2 p3 p4 p5 p6 p7 p8); have HB2 := Sh.mk hb2; have HX2 := Sh.mk hx2; clear hb2 hx2)
    | (go_at_call 87; refine (free_calls nm n a b _).mono ?_; rintro e w3 ⟨g, cap, tl, rfl, hb3, hg3, hgb⟩; have HB3 := Sh.mk (HB2.out.trans (hb3.mono HB2.out.size)); have HG3 := Sh.mk hgb; have hgv : w.heap.size + 3 ≤ g := (by have := HSZ.out; have := HB2.out.size; omega); clear p0 p1 p2 p3 p4 p5 p6 p7 p8 hb3 hg3 hgb))
  have hg3 : Blk w3 g 68 (.int .i64 1 :: .string nm :: .int .i64 n :: .int .i64 0 :: .int .i64 0 :: .slice none 0 0 :: .slice none 0 0 :: .int .i64 a :: .int .i64 b :: tl) := HG3.out
  have ht3 := HT.out.keep HB3.out
  have hs3 := HS.out.keep HB3.out
  have z7 := hg3.cell 7
  have z8 := hg3.cell 8
  simp only [List.getElem?_cons_zero, List.getElem?_cons_succ] at z7 z8
  have q0 := (ht3).cell 0
  have q1 := (ht3).cell 1
  have q2 := (ht3).cell 2
  have q3 := (ht3).cell 3
  have q4 := (ht3).cell 4
  have q5 := (ht3).cell 5
  have q6 := (ht3).cell 6
  have q7 := (ht3).cell 7
  have q8 := (ht3).cell 8
  simp only [List.getElem?_cons_zero, List.getElem?_cons_succ] at q0 q1 q2 q3 q4 q5 q6 q7 q8
  have f0 := (ht3).frozen 0
  have f1 := (ht3).frozen 1
  have f2 := (ht3).frozen 2
  have f3 := (ht3).frozen 3
  have f4 := (ht3).frozen 4
  have f5 := (ht3).frozen 5
  have f6 := (ht3).frozen 6
  have f7 := (ht3).frozen 7
  have f8 := (ht3).frozen 8
  have r0 := (hs3).cell 0
  have r1 := (hs3).cell 1
  simp only [List.getElem?_cons_zero, List.getElem?_cons_succ] at r0 r1
  have h0 := (hs3).frozen 0
  have h1 := (hs3).frozen 1
  have HT3 := Sh.mk ht3
  have HS3 := Sh.mk hs3
  have HW3 := Sh.mk (HW.out.trans (HB3.out.mono HW.out.size))
  clear hg3 ht3 hs3 HB2 HX2 HGV HRT HB HT HS
  go_region
  obtain ⟨W7, hW7⟩ : ∃ W7, W7 = (setAll (setAll w3 (w.heap.size + 1) 0 [.int .i64 0, .string ⟨#[]⟩, .int .i64 0, .int .i64 0, .int .i64 0, .slice none 0 0, .slice none 0 0, .int .i64 0, .int .i64 0]) (w.heap.size + 1 + 1) 0 [.int .i64 a, .int .i64 b]).drew := ⟨_, rfl⟩
  have hc4 : Chg (fun i => i = w.heap.size + 1) w3 (setAll w3 (w.heap.size + 1) 0 [.int .i64 0, .string ⟨#[]⟩, .int .i64 0, .int .i64 0, .int .i64 0, .slice none 0 0, .slice none 0 0, .int .i64 0, .int .i64 0]) := setAll_chg _ _ _ _
  have ht4 : Blk (setAll w3 (w.heap.size + 1) 0 [.int .i64 0, .string ⟨#[]⟩, .int .i64 0, .int .i64 0, .int .i64 0, .slice none 0 0, .slice none 0 0, .int .i64 0, .int .i64 0]) (w.heap.size + 1) 68 [.int .i64 0, .string ⟨#[]⟩, .int .i64 0, .int .i64 0, .int .i64 0, .slice none 0 0, .slice none 0 0, .int .i64 0, .int .i64 0] := setAll_blk HT3.out rfl
  have hs4 : Blk (setAll w3 (w.heap.size + 1) 0 [.int .i64 0, .string ⟨#[]⟩, .int .i64 0, .int .i64 0, .int .i64 0, .slice none 0 0, .slice none 0 0, .int .i64 0, .int .i64 0]) (w.heap.size + 1 + 1) 23 [.int .i64 0, .int .i64 0] := (hc4.block _ HS3.out.lt (by omega)).trans HS3.out
  have hc5 : Chg (fun i => i = w.heap.size + 1 + 1) (setAll w3 (w.heap.size + 1) 0 [.int .i64 0, .string ⟨#[]⟩, .int .i64 0, .int .i64 0, .int .i64 0, .slice none 0 0, .slice none 0 0, .int .i64 0, .int .i64 0]) W7 := by rw [hW7]; exact (setAll_chg _ _ _ _).drew
  have hs7 : Blk W7 (w.heap.size + 1 + 1) 23 [.int .i64 a, .int .i64 b] := by
    have hs5 : Blk (setAll (setAll w3 (w.heap.size + 1) 0 [.int .i64 0, .string ⟨#[]⟩, .int .i64 0, .int .i64 0, .int .i64 0, .slice none 0 0, .slice none 0 0, .int .i64 0, .int .i64 0]) (w.heap.size + 1 + 1) 0 [.int .i64 a, .int .i64 b]) (w.heap.size + 1 + 1) 23 [.int .i64 a, .int .i64 b] := setAll_blk hs4 rfl
    rw [hW7]; exact hs5.drew
  have ht7 : Blk W7 (w.heap.size + 1) 68 [.int .i64 0, .string ⟨#[]⟩, .int .i64 0, .int .i64 0, .int .i64 0, .slice none 0 0, .slice none 0 0, .int .i64 0, .int .i64 0] := (hc5.block _ ht4.lt (by omega)).trans ht4
  have hb7 : Below w.heap.size w W7 := (HW3.out.trans (hc4.below (fun i hi => by omega) HW3.out.size)).trans (hc5.below (fun i hi => by omega) (Nat.le_trans HW3.out.size hc4.size))
  have HB7 := Sh.mk hb7
  simp only [setAll] at hW7
  rw [← hW7]
  clear hW7 hc4 ht4 hs4 hc5 hb7 q0 q1 q2 q3 q4 q5 q6 q7 q8 f0 f1 f2 f3 f4 f5 f6 f7 f8 r0 r1 h0 h1 z7 z8
  have p0 := (ht7).cell 0
  have p1 := (ht7).cell 1
  have p2 := (ht7).cell 2
  have p3 := (ht7).cell 3
  have p4 := (ht7).cell 4
  have p5 := (ht7).cell 5
  have p6 := (ht7).cell 6
  have p7 := (ht7).cell 7
  have p8 := (ht7).cell 8
  simp only [List.getElem?_cons_zero, List.getElem?_cons_succ] at p0 p1 p2 p3 p4 p5 p6 p7 p8
  have r0 := (hs7).cell 0
  have r1 := (hs7).cell 1
  simp only [List.getElem?_cons_zero, List.getElem?_cons_succ] at r0 r1
  clear ht7 hs7
  go_wp2
  exact bodyPost_ret (v := .tuple #[.agg #[.int .i64 0, .string ⟨#[]⟩, .int .i64 0, .int .i64 0, .int .i64 0, .slice none 0 0, .slice none 0 0, .int .i64 0, .int .i64 0], .agg #[.int .i64 a, .int .i64 b], .int .i64 5]) (by simp [results, Tryz.results71, go_sem, p0, p1, p2, p3, p4, p5, p6, p7, p8, r0, r1]) rfl ⟨rfl, HB7.out⟩
end Go.Proofs.YtkfdhmeipnfhpaaGreatDoor
