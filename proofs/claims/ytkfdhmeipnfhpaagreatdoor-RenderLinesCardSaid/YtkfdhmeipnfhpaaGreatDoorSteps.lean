/- Package check: the steps of work, at a text of one name. -/
import Derived.Test.YtkfdhmeipnfhpaaGreatDoorCheck
set_option linter.unusedVariables false
set_option linter.unusedSimpArgs false
namespace Go.Proofs.YtkfdhmeipnfhpaaGreatDoor
open Go.RowKit

theorem wsize_calls (w : World) (r : Nat) (s : ByteArray) (lb ld lk : Int) (hs : (s.size : Int) ≤ lb) (hs2 : s.size ≤ 1000000) (h : Blk w r 71 [.string s, .int .i64 lb, .int .i64 ld, .int .i64 lk, .int .i64 0, .string ⟨#[]⟩, .int .i64 0, .int .i64 0, .int .i64 0, .slice none 0 0, .slice none 0 0, .int .i64 0, .int .i64 0, .slice none 0 0, .int .i64 0, .string ⟨#[]⟩, .int .i64 0, .int .i64 0, .int .i64 0, .slice none 0 0, .slice none 0 0, .int .i64 0]) :
    Calls Tryz.prog 52 #[.pointer (some ⟨r, 0, none⟩)] w fun e w' => e = .returned (.bool true) ∧ Chg (fun i => i = r) w w' ∧ Blk w' r 71 [.string s, .int .i64 lb, .int .i64 ld, .int .i64 lk, .int .i64 0, .string ⟨#[]⟩, .int .i64 0, .int .i64 0, .int .i64 0, .slice none 0 0, .slice none 0 0, .int .i64 0, .int .i64 0, .slice none 0 0, .int .i64 0, .string ⟨#[]⟩, .int .i64 0, .int .i64 0, .int .i64 0, .slice none 0 0, .slice none 0 0, .int .i64 ((s.size : Int) + 1)] := by
  have hc : decide (lb < (s.size : Int)) = false := by simp; omega
  obtain ⟨V, hV⟩ : ∃ V, V = w.setCell ⟨r, 21, none⟩ (.int .i64 ((s.size : Int) + 1)) := ⟨_, rfl⟩
  have hv : Blk V r 71 [.string s, .int .i64 lb, .int .i64 ld, .int .i64 lk, .int .i64 0, .string ⟨#[]⟩, .int .i64 0, .int .i64 0, .int .i64 0, .slice none 0 0, .slice none 0 0, .int .i64 0, .int .i64 0, .slice none 0 0, .int .i64 0, .string ⟨#[]⟩, .int .i64 0, .int .i64 0, .int .i64 0, .slice none 0 0, .slice none 0 0, .int .i64 ((s.size : Int) + 1)] := by rw [hV]; exact h.set_ 21 _
  have hch : Chg (fun i => i = r) w V := by rw [hV]; exact (Chg.refl (fun i => i = r) w).setCell (p := ⟨r, 21, none⟩) (.inl rfl) _
  have HV := Sh.mk hv
  have HCH := Sh.mk hch
  have p0 := h.cell 0
  have p21 := h.cell 21
  have f21 := h.frozen 21
  have q0 := hv.cell 0
  have q1 := hv.cell 1
  simp only [List.getElem?_cons_zero, List.getElem?_cons_succ] at p0 p21 q0 q1
  clear h hv hch
  go_enter Tryz.func52, Tryz.ntmps52
  go_upto_region 2 with (fail)
  rw [← hV]
  clear hV p0 p21 f21
  go_quiet (fail)
  go_wp2
  go_ret
  exact ⟨rfl, HCH.out.drewN _, HV.out⟩
set_option maxRecDepth 100000 in
set_option maxHeartbeats 2000000 in
theorem wclosed_calls (w : World) (r : Nat) (s nm : ByteArray) (lb ld lk st : Int) (n a b : Int) (hlt : 0 < nm.size) (h1 : nm.size = 1) (hs : smallB nm[0] = true) (hk : kwB nm = false) (hn0 : 0 ≤ n) (hn1 : n ≤ 9223372036854775807) (hG : Gl w) (h : Blk w r 71 [.string s, .int .i64 lb, .int .i64 ld, .int .i64 lk, .int .i64 1, .string nm, .int .i64 n, .int .i64 0, .int .i64 0, .slice none 0 0, .slice none 0 0, .int .i64 a, .int .i64 b, .slice none 0 0, .int .i64 0, .string ⟨#[]⟩, .int .i64 0, .int .i64 0, .int .i64 0, .slice none 0 0, .slice none 0 0, .int .i64 st]) :
    Calls Tryz.prog 54 #[.pointer (some ⟨r, 0, none⟩)] w fun e w' => e = .returned (.bool false) ∧ Chg (fun i => i = r) w w' ∧ Blk w' r 71 [.string s, .int .i64 lb, .int .i64 ld, .int .i64 lk, .int .i64 1, .string nm, .int .i64 n, .int .i64 0, .int .i64 0, .slice none 0 0, .slice none 0 0, .int .i64 a, .int .i64 b, .slice none 0 0, .int .i64 3, .string ⟨#[]⟩, .int .i64 a, .int .i64 b, .int .i64 0, .slice none 0 0, .slice none 0 0, .int .i64 st] := by
  have HR := Sh.mk (Resolve_name w nm n a b hlt h1 hs hk hn0 hn1 hG)
  have H := Sh.mk h
  have p0 := (h).cell 0
  have p1 := (h).cell 1
  have p2 := (h).cell 2
  have p3 := (h).cell 3
  have p4 := (h).cell 4
  have p5 := (h).cell 5
  have p6 := (h).cell 6
  have p7 := (h).cell 7
  have p8 := (h).cell 8
  have p9 := (h).cell 9
  have p10 := (h).cell 10
  have p11 := (h).cell 11
  have p12 := (h).cell 12
  have p13 := (h).cell 13
  have p14 := (h).cell 14
  have p15 := (h).cell 15
  have p16 := (h).cell 16
  have p17 := (h).cell 17
  have p18 := (h).cell 18
  have p19 := (h).cell 19
  have p20 := (h).cell 20
  have p21 := (h).cell 21
  simp only [List.getElem?_cons_zero, List.getElem?_cons_succ] at p0 p1 p2 p3 p4 p5 p6 p7 p8 p9 p10 p11 p12 p13 p14 p15 p16 p17 p18 p19 p20 p21
  clear h hlt h1 hs hk hn0 hn1 hG
  go_enter Tryz.func54, Tryz.ntmps54
  go_upto_region 2 with (first
    | (go_at_call 71; refine HR.out.mono ?_; rintro e w2 ⟨rfl, hb2⟩; have HB2 := Sh.mk hb2; clear hb2 p0 p1 p2 p3 p4 p5 p6 p7 p8 p9 p10 p11 p12 p13 p14 p15 p16 p17 p18 p19 p20 p21))
  obtain ⟨V, hV⟩ : ∃ V, V = (w2.alloc (.cells #[.int .i64 0, .string ⟨#[]⟩, .int .i64 0, .int .i64 0, .int .i64 0, .slice none 0 0, .slice none 0 0, .int .i64 0, .int .i64 0] 68)).alloc (.cells #[.int .i64 a, .int .i64 b] 23) := ⟨_, rfl⟩
  have hx : Blk V r 71 [.string s, .int .i64 lb, .int .i64 ld, .int .i64 lk, .int .i64 1, .string nm, .int .i64 n, .int .i64 0, .int .i64 0, .slice none 0 0, .slice none 0 0, .int .i64 a, .int .i64 b, .slice none 0 0, .int .i64 0, .string ⟨#[]⟩, .int .i64 0, .int .i64 0, .int .i64 0, .slice none 0 0, .slice none 0 0, .int .i64 st] := by rw [hV]; exact ((H.out.keep HB2.out).alloc _).alloc _
  have hs : Blk V (w2.heap.size + 1) 23 [.int .i64 a, .int .i64 b] := by rw [hV]; exact Blk.new' _ _ _ (by simp)
  have HCH : Sh (Chg (fun i => i = r) w V) := ⟨by rw [hV]; exact ((Chg.of_below HB2.out).alloc _).alloc _⟩
  have HX := Sh.mk hx
  have hne : r ≠ w2.heap.size + 1 := by have := (H.out.keep HB2.out).lt; omega
  rw [← hV]
  have p0 := (hx).cell 0
  have p1 := (hx).cell 1
  have p2 := (hx).cell 2
  have p3 := (hx).cell 3
  have p4 := (hx).cell 4
  have p5 := (hx).cell 5
  have p6 := (hx).cell 6
  have p7 := (hx).cell 7
  have p8 := (hx).cell 8
  have p9 := (hx).cell 9
  have p10 := (hx).cell 10
  have p11 := (hx).cell 11
  have p12 := (hx).cell 12
  have p13 := (hx).cell 13
  have p14 := (hx).cell 14
  have p15 := (hx).cell 15
  have p16 := (hx).cell 16
  have p17 := (hx).cell 17
  have p18 := (hx).cell 18
  have p19 := (hx).cell 19
  have p20 := (hx).cell 20
  have p21 := (hx).cell 21
  simp only [List.getElem?_cons_zero, List.getElem?_cons_succ] at p0 p1 p2 p3 p4 p5 p6 p7 p8 p9 p10 p11 p12 p13 p14 p15 p16 p17 p18 p19 p20 p21
  have q0 := (hs).cell 0
  have q1 := (hs).cell 1
  simp only [List.getElem?_cons_zero, List.getElem?_cons_succ] at q0 q1
  have f14 := hx.frozen 14
  have f16 := hx.frozen 16
  have f17 := hx.frozen 17
  clear hV hx hs HB2 H HR
  go_upto_region 3 with (fail)
  go_region
  obtain ⟨W7, hW7⟩ : ∃ W7, W7 = (((V.setCell ⟨r, 14, none⟩ (.int .i64 3)).setCell ⟨r, 16, none⟩ (.int .i64 a)).setCell ⟨r, 17, none⟩ (.int .i64 b)).drew := ⟨_, rfl⟩
  have h7 : Blk W7 r 71 [.string s, .int .i64 lb, .int .i64 ld, .int .i64 lk, .int .i64 1, .string nm, .int .i64 n, .int .i64 0, .int .i64 0, .slice none 0 0, .slice none 0 0, .int .i64 a, .int .i64 b, .slice none 0 0, .int .i64 3, .string ⟨#[]⟩, .int .i64 a, .int .i64 b, .int .i64 0, .slice none 0 0, .slice none 0 0, .int .i64 st] := by
    have h6 : Blk (((V.setCell ⟨r, 14, none⟩ (.int .i64 3)).setCell ⟨r, 16, none⟩ (.int .i64 a)).setCell ⟨r, 17, none⟩ (.int .i64 b)) r 71 [.string s, .int .i64 lb, .int .i64 ld, .int .i64 lk, .int .i64 1, .string nm, .int .i64 n, .int .i64 0, .int .i64 0, .slice none 0 0, .slice none 0 0, .int .i64 a, .int .i64 b, .slice none 0 0, .int .i64 3, .string ⟨#[]⟩, .int .i64 a, .int .i64 b, .int .i64 0, .slice none 0 0, .slice none 0 0, .int .i64 st] := ((HX.out.set_ 14 _).set_ 16 _).set_ 17 _
    rw [hW7]; exact h6.drew
  have hc7 : Chg (fun i => i = r) w W7 := by
    rw [hW7]
    exact (((HCH.out.setCell (p := ⟨r, 14, none⟩) (.inl rfl) _).setCell (p := ⟨r, 16, none⟩) (.inl rfl) _).setCell (p := ⟨r, 17, none⟩) (.inl rfl) _).drew
  rw [← hW7]
  clear hW7 p0 p1 p2 p3 p4 p5 p6 p7 p8 p9 p10 p11 p12 p13 p14 p15 p16 p17 p18 p19 p20 p21 q0 q1 f14 f16 f17
  go_wp2
  go_ret
  exact ⟨rfl, hc7, h7⟩
end Go.Proofs.YtkfdhmeipnfhpaaGreatDoor
