/- Package check: the verdict on a text of one name: it is open. -/
import Derived.Test.YtkfdhmeipnfhpaaGreatDoorRun
set_option linter.unusedVariables false
set_option linter.unusedSimpArgs false
namespace Go.Proofs.YtkfdhmeipnfhpaaGreatDoor
open Go.RowKit

set_option maxRecDepth 100000 in
set_option maxHeartbeats 2000000 in
theorem Check_name (w : World) (s nm : ByteArray) (lb lk : Int) (n a b : Int) (hs1 : (s.size : Int) ≤ lb) (hs2 : s.size ≤ 1000000) (hl1 : 1 ≤ lb ∧ lb ≤ 1073741824) (hl2 : 1 ≤ lk ∧ lk ≤ 1073741824)
    (hT : ∀ W, Gl W → Calls Tryz.prog 70 #[.string s, .int .i64 1000] W fun e w' => e = .returned (.tuple #[.agg #[.int .i64 1, .string nm, .int .i64 n, .int .i64 0, .int .i64 0, .slice none 0 0, .slice none 0 0, .int .i64 a, .int .i64 b], .agg #[.int .i64 0, .int .i64 0], .int .i64 0]) ∧ Below W.heap.size W w')
    (hlt : 0 < nm.size) (h1 : nm.size = 1) (hs : smallB nm[0] = true) (hk : kwB nm = false) (hn0 : 0 ≤ n) (hn1 : n ≤ 9223372036854775807) (hG : Gl w) :
    Calls Tryz.prog 25 #[.string s, .agg #[.int .i64 lb, .int .i64 1000, .int .i64 lk]] w fun e w' => e = .returned (.agg #[.int .i64 3, .string ⟨#[]⟩, .int .i64 a, .int .i64 b, .int .i64 0, .slice none 0 0, .slice none 0 0, .int .i64 ((s.size : Int) + 1)]) ∧ Below w.heap.size w w' := by
  obtain ⟨V, hV⟩ : ∃ V, V = (w.alloc (.cells #[.int .i64 lb, .int .i64 1000, .int .i64 lk] 36)).alloc (.cells #[.int .i64 0, .string ⟨#[]⟩, .int .i64 0, .int .i64 0, .int .i64 0, .slice none 0 0, .slice none 0 0, .int .i64 0] 27) := ⟨_, rfl⟩
  have hl : Blk V w.heap.size 36 [.int .i64 lb, .int .i64 1000, .int .i64 lk] := by rw [hV]; exact (Blk.new _ _ _).alloc _
  have hv : Blk V (w.heap.size + 1) 27 [.int .i64 0, .string ⟨#[]⟩, .int .i64 0, .int .i64 0, .int .i64 0, .slice none 0 0, .slice none 0 0, .int .i64 0] := by rw [hV]; exact Blk.new' _ _ _ (by simp)
  have hw : Below w.heap.size w V := by rw [hV]; exact ((Below.refl _ _).alloc (Nat.le_refl _) _).alloc (by simp) _
  have HRT := Sh.mk (fun W => cRight_calls lb 1000 lk hl1 ⟨by decide, by decide⟩ hl2 W)
  have HRN := Sh.mk (fun (W : World) (hb : Below w.heap.size w W) => run_name W s nm lb lk n a b hs1 hs2 hT hlt h1 hs hk hn0 hn1 (hG.below hb))
  have HL := Sh.mk hl
  have HV := Sh.mk hv
  have HW := Sh.mk hw
  go_enter Tryz.func25, Tryz.ntmps25
  go_upto_region 1 with (fail)
  rw [← hV]
  have l0 := (hl).cell 0
  have l1 := (hl).cell 1
  have l2 := (hl).cell 2
  simp only [List.getElem?_cons_zero, List.getElem?_cons_succ] at l0 l1 l2
  clear hV hl hv hw hT hlt h1 hs hk hn0 hn1 hG hs1 hs2 hl1 hl2
  go_wp2_with (first
    | (go_at_call 38; refine (HRT.out _).mono ?_; rintro e w2 ⟨rfl, hb2⟩; have hx2 := HL.out.keep hb2; clear l0 l1 l2; have l0 := (hx2).cell 0; have l1 := (hx2).cell 1; have l2 := (hx2).cell 2; (simp only [List.getElem?_cons_zero, List.getElem?_cons_succ] at l0 l1 l2); have HW2 := Sh.mk (HW.out.trans (hb2.mono HW.out.size)); have HV2 := Sh.mk (HV.out.keep hb2); clear hb2 hx2)
    | (go_at_call 39; refine (HRN.out _ HW2.out).mono ?_; rintro e w3 ⟨r, rfl, hb3, hr3⟩; have HW3 := Sh.mk (HW2.out.trans (hb3.mono HW2.out.size)); have hv3 := HV2.out.keep hb3; have HV3 := Sh.mk hv3; clear l0 l1 l2; have p0 := (hr3).cell 0; have p1 := (hr3).cell 1; have p2 := (hr3).cell 2; have p3 := (hr3).cell 3; have p4 := (hr3).cell 4; have p5 := (hr3).cell 5; have p6 := (hr3).cell 6; have p7 := (hr3).cell 7; have p8 := (hr3).cell 8; have p9 := (hr3).cell 9; have p10 := (hr3).cell 10; have p11 := (hr3).cell 11; have p12 := (hr3).cell 12; have p13 := (hr3).cell 13; have p14 := (hr3).cell 14; have p15 := (hr3).cell 15; have p16 := (hr3).cell 16; have p17 := (hr3).cell 17; have p18 := (hr3).cell 18; have p19 := (hr3).cell 19; have p20 := (hr3).cell 20; have p21 := (hr3).cell 21; (simp only [List.getElem?_cons_zero, List.getElem?_cons_succ] at p0 p1 p2 p3 p4 p5 p6 p7 p8 p9 p10 p11 p12 p13 p14 p15 p16 p17 p18 p19 p20 p21); have q0 := (hv3).cell 0; have q1 := (hv3).cell 1; have q2 := (hv3).cell 2; have q3 := (hv3).cell 3; have q4 := (hv3).cell 4; have q5 := (hv3).cell 5; have q6 := (hv3).cell 6; have q7 := (hv3).cell 7; (simp only [List.getElem?_cons_zero, List.getElem?_cons_succ] at q0 q1 q2 q3 q4 q5 q6 q7); have f0 := (hv3).frozen 0; have f1 := (hv3).frozen 1; have f2 := (hv3).frozen 2; have f3 := (hv3).frozen 3; have f4 := (hv3).frozen 4; have f5 := (hv3).frozen 5; have f6 := (hv3).frozen 6; have f7 := (hv3).frozen 7;  have HR3 := Sh.mk hr3; have hne : r ≠ w.heap.size + 1 := (fun e => by (have h1 := HR3.out; have h2 := HV3.out; unfold Blk at h1 h2; rw [e] at h1; rw [h1] at h2; simp at h2)); clear hb3 hr3 hv3))
  have hk : Chg (fun i => i = w.heap.size + 1) w3 (setAll w3 (w.heap.size + 1) 0 [.int .i64 3, .string ⟨#[]⟩, .int .i64 a, .int .i64 b, .int .i64 0, .slice none 0 0, .slice none 0 0, .int .i64 ((s.size : Int) + 1)]) := setAll_chg _ _ _ _
  have hx : Blk (setAll w3 (w.heap.size + 1) 0 [.int .i64 3, .string ⟨#[]⟩, .int .i64 a, .int .i64 b, .int .i64 0, .slice none 0 0, .slice none 0 0, .int .i64 ((s.size : Int) + 1)]) (w.heap.size + 1) 27 [.int .i64 3, .string ⟨#[]⟩, .int .i64 a, .int .i64 b, .int .i64 0, .slice none 0 0, .slice none 0 0, .int .i64 ((s.size : Int) + 1)] := setAll_blk HV3.out rfl
  have hb := HW3.out.trans (hk.below (fun i hi => by omega) HW3.out.size)
  simp only [setAll, Nat.reduceAdd] at hx hb
  clear p0 p1 p2 p3 p4 p5 p6 p7 p8 p9 p10 p11 p12 p13 p14 p15 p16 p17 p18 p19 p20 p21 q0 q1 q2 q3 q4 q5 q6 q7 f0 f1 f2 f3 f4 f5 f6 f7
  have p0 := (hx).cell 0
  have p1 := (hx).cell 1
  have p2 := (hx).cell 2
  have p3 := (hx).cell 3
  have p4 := (hx).cell 4
  have p5 := (hx).cell 5
  have p6 := (hx).cell 6
  have p7 := (hx).cell 7
  simp only [List.getElem?_cons_zero, List.getElem?_cons_succ] at p0 p1 p2 p3 p4 p5 p6 p7
  exact bodyPost_ret (v := .agg #[.int .i64 3, .string ⟨#[]⟩, .int .i64 a, .int .i64 b, .int .i64 0, .slice none 0 0, .slice none 0 0, .int .i64 ((s.size : Int) + 1)]) (by simp only [results, Tryz.results25]; simp [go_sem, p0, p1, p2, p3, p4, p5, p6, p7]) rfl ⟨rfl, hb⟩
end Go.Proofs.YtkfdhmeipnfhpaaGreatDoor
