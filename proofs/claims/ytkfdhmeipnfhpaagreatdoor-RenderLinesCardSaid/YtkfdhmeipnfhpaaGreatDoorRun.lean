/- Package check: work run at a text of one name. -/
import Derived.Test.YtkfdhmeipnfhpaaGreatDoorRead
import Derived.Scope
import Derived.WalkMore
set_option linter.unusedVariables false
set_option linter.unusedSimpArgs false
namespace Go.Proofs.YtkfdhmeipnfhpaaGreatDoor
open Go.RowKit

set_option maxRecDepth 100000 in
set_option maxHeartbeats 2000000 in
theorem run_name (w : World) (s nm : ByteArray) (lb lk : Int) (n a b : Int) (hs1 : (s.size : Int) ≤ lb) (hs2 : s.size ≤ 1000000)
    (hT : ∀ W, Gl W → Calls Tryz.prog 70 #[.string s, .int .i64 1000] W fun e w' => e = .returned (.tuple #[.agg #[.int .i64 1, .string nm, .int .i64 n, .int .i64 0, .int .i64 0, .slice none 0 0, .slice none 0 0, .int .i64 a, .int .i64 b], .agg #[.int .i64 0, .int .i64 0], .int .i64 0]) ∧ Below W.heap.size W w')
    (hlt : 0 < nm.size) (h1 : nm.size = 1) (hs : smallB nm[0] = true) (hk : kwB nm = false) (hn0 : 0 ≤ n) (hn1 : n ≤ 9223372036854775807) (hG : Gl w) :
    Calls Tryz.prog 39 #[.string s, .agg #[.int .i64 lb, .int .i64 1000, .int .i64 lk]] w fun e w' => ∃ r, e = .returned (.pointer (some ⟨r, 0, none⟩)) ∧ Below w.heap.size w w' ∧ Blk w' r 71 [.string s, .int .i64 lb, .int .i64 1000, .int .i64 lk, .int .i64 1, .string nm, .int .i64 n, .int .i64 0, .int .i64 0, .slice none 0 0, .slice none 0 0, .int .i64 a, .int .i64 b, .slice none 0 0, .int .i64 3, .string ⟨#[]⟩, .int .i64 a, .int .i64 b, .int .i64 0, .slice none 0 0, .slice none 0 0, .int .i64 ((s.size : Int) + 1)] := by
  obtain ⟨V, hV⟩ : ∃ V, V = ((w.alloc (.cells #[.int .i64 lb, .int .i64 1000, .int .i64 lk] 36)).alloc (.cells #[.string s, .int .i64 lb, .int .i64 1000, .int .i64 lk, .int .i64 0, .string ⟨#[]⟩, .int .i64 0, .int .i64 0, .int .i64 0, .slice none 0 0, .slice none 0 0, .int .i64 0, .int .i64 0, .slice none 0 0, .int .i64 0, .string ⟨#[]⟩, .int .i64 0, .int .i64 0, .int .i64 0, .slice none 0 0, .slice none 0 0, .int .i64 0] 71)).alloc (.cells #[.func (.func 52) #[.pointer (some ⟨w.heap.size + 1, 0, none⟩)] #[], .func (.func 53) #[.pointer (some ⟨w.heap.size + 1, 0, none⟩)] #[], .func (.func 54) #[.pointer (some ⟨w.heap.size + 1, 0, none⟩)] #[], .func (.func 55) #[.pointer (some ⟨w.heap.size + 1, 0, none⟩)] #[], .func (.func 56) #[.pointer (some ⟨w.heap.size + 1, 0, none⟩)] #[], .func (.func 57) #[.pointer (some ⟨w.heap.size + 1, 0, none⟩)] #[]] 29) := ⟨_, rfl⟩
  have hr : Blk V (w.heap.size + 1) 71 [.string s, .int .i64 lb, .int .i64 1000, .int .i64 lk, .int .i64 0, .string ⟨#[]⟩, .int .i64 0, .int .i64 0, .int .i64 0, .slice none 0 0, .slice none 0 0, .int .i64 0, .int .i64 0, .slice none 0 0, .int .i64 0, .string ⟨#[]⟩, .int .i64 0, .int .i64 0, .int .i64 0, .slice none 0 0, .slice none 0 0, .int .i64 0] := by rw [hV]; exact (Blk.new' _ _ _ (by simp)).alloc _
  have hf : Blk V (w.heap.size + 2) 29 [.func (.func 52) #[.pointer (some ⟨w.heap.size + 1, 0, none⟩)] #[], .func (.func 53) #[.pointer (some ⟨w.heap.size + 1, 0, none⟩)] #[], .func (.func 54) #[.pointer (some ⟨w.heap.size + 1, 0, none⟩)] #[], .func (.func 55) #[.pointer (some ⟨w.heap.size + 1, 0, none⟩)] #[], .func (.func 56) #[.pointer (some ⟨w.heap.size + 1, 0, none⟩)] #[], .func (.func 57) #[.pointer (some ⟨w.heap.size + 1, 0, none⟩)] #[]] := by rw [hV]; exact Blk.new' _ _ _ (by simp)
  have hw : Below w.heap.size w V := by rw [hV]; exact (((Below.refl _ _).alloc (Nat.le_refl _) _).alloc (by simp) _).alloc (by simp; omega) _
  have HS := Sh.mk (fun (W : World) (h : Blk W (w.heap.size + 1) 71 [.string s, .int .i64 lb, .int .i64 1000, .int .i64 lk, .int .i64 0, .string ⟨#[]⟩, .int .i64 0, .int .i64 0, .int .i64 0, .slice none 0 0, .slice none 0 0, .int .i64 0, .int .i64 0, .slice none 0 0, .int .i64 0, .string ⟨#[]⟩, .int .i64 0, .int .i64 0, .int .i64 0, .slice none 0 0, .slice none 0 0, .int .i64 0]) => wsize_calls W _ s lb 1000 lk hs1 hs2 h)
  have HRD := Sh.mk (fun (W : World) (hb : Below w.heap.size w W) (h : Blk W (w.heap.size + 1) 71 [.string s, .int .i64 lb, .int .i64 1000, .int .i64 lk, .int .i64 0, .string ⟨#[]⟩, .int .i64 0, .int .i64 0, .int .i64 0, .slice none 0 0, .slice none 0 0, .int .i64 0, .int .i64 0, .slice none 0 0, .int .i64 0, .string ⟨#[]⟩, .int .i64 0, .int .i64 0, .int .i64 0, .slice none 0 0, .slice none 0 0, .int .i64 ((s.size : Int) + 1)]) => wread_calls W _ s nm lb lk ((s.size : Int) + 1) n a b hT (hG.below hb) h)
  have HCL := Sh.mk (fun (W : World) (hb : Below w.heap.size w W) (h : Blk W (w.heap.size + 1) 71 [.string s, .int .i64 lb, .int .i64 1000, .int .i64 lk, .int .i64 1, .string nm, .int .i64 n, .int .i64 0, .int .i64 0, .slice none 0 0, .slice none 0 0, .int .i64 a, .int .i64 b, .slice none 0 0, .int .i64 0, .string ⟨#[]⟩, .int .i64 0, .int .i64 0, .int .i64 0, .slice none 0 0, .slice none 0 0, .int .i64 ((s.size : Int) + 1)]) => wclosed_calls W _ s nm lb 1000 lk ((s.size : Int) + 1) n a b hlt h1 hs hk hn0 hn1 (hG.below hb) h)
  have HSZ : Sh (V.heap.size = w.heap.size + 3) := ⟨by rw [hV]; simp⟩
  have HR := Sh.mk hr
  have HF := Sh.mk hf
  have HW := Sh.mk hw
  go_enter Tryz.func39, Tryz.ntmps39
  clear hr hf hw hT hlt h1 hs hk hn0 hn1 hG hs1 hs2
  go_wp2_with fail
  refine wp_scope_straight ?_
  go_wp2_with fail
  go_step3
  simp only [Exit.then]
  go_wp2_with fail
  rw [← hV]
  clear hV
  go_loopw [26] (fun v wr => (v = .int .i64 0 ∧ Sh (Below w.heap.size w wr ∧ Blk wr (w.heap.size + 1) 71 [.string s, .int .i64 lb, .int .i64 1000, .int .i64 lk, .int .i64 0, .string ⟨#[]⟩, .int .i64 0, .int .i64 0, .int .i64 0, .slice none 0 0, .slice none 0 0, .int .i64 0, .int .i64 0, .slice none 0 0, .int .i64 0, .string ⟨#[]⟩, .int .i64 0, .int .i64 0, .int .i64 0, .slice none 0 0, .slice none 0 0, .int .i64 0] ∧ Blk wr (w.heap.size + 2) 29 [.func (.func 52) #[.pointer (some ⟨w.heap.size + 1, 0, none⟩)] #[], .func (.func 53) #[.pointer (some ⟨w.heap.size + 1, 0, none⟩)] #[], .func (.func 54) #[.pointer (some ⟨w.heap.size + 1, 0, none⟩)] #[], .func (.func 55) #[.pointer (some ⟨w.heap.size + 1, 0, none⟩)] #[], .func (.func 56) #[.pointer (some ⟨w.heap.size + 1, 0, none⟩)] #[], .func (.func 57) #[.pointer (some ⟨w.heap.size + 1, 0, none⟩)] #[]])) ∨ (v = .int .i64 1 ∧ Sh (Below w.heap.size w wr ∧ Blk wr (w.heap.size + 1) 71 [.string s, .int .i64 lb, .int .i64 1000, .int .i64 lk, .int .i64 0, .string ⟨#[]⟩, .int .i64 0, .int .i64 0, .int .i64 0, .slice none 0 0, .slice none 0 0, .int .i64 0, .int .i64 0, .slice none 0 0, .int .i64 0, .string ⟨#[]⟩, .int .i64 0, .int .i64 0, .int .i64 0, .slice none 0 0, .slice none 0 0, .int .i64 ((s.size : Int) + 1)] ∧ Blk wr (w.heap.size + 2) 29 [.func (.func 52) #[.pointer (some ⟨w.heap.size + 1, 0, none⟩)] #[], .func (.func 53) #[.pointer (some ⟨w.heap.size + 1, 0, none⟩)] #[], .func (.func 54) #[.pointer (some ⟨w.heap.size + 1, 0, none⟩)] #[], .func (.func 55) #[.pointer (some ⟨w.heap.size + 1, 0, none⟩)] #[], .func (.func 56) #[.pointer (some ⟨w.heap.size + 1, 0, none⟩)] #[], .func (.func 57) #[.pointer (some ⟨w.heap.size + 1, 0, none⟩)] #[]])) ∨ (v = .int .i64 2 ∧ Sh (Below w.heap.size w wr ∧ Blk wr (w.heap.size + 1) 71 [.string s, .int .i64 lb, .int .i64 1000, .int .i64 lk, .int .i64 1, .string nm, .int .i64 n, .int .i64 0, .int .i64 0, .slice none 0 0, .slice none 0 0, .int .i64 a, .int .i64 b, .slice none 0 0, .int .i64 0, .string ⟨#[]⟩, .int .i64 0, .int .i64 0, .int .i64 0, .slice none 0 0, .slice none 0 0, .int .i64 ((s.size : Int) + 1)] ∧ Blk wr (w.heap.size + 2) 29 [.func (.func 52) #[.pointer (some ⟨w.heap.size + 1, 0, none⟩)] #[], .func (.func 53) #[.pointer (some ⟨w.heap.size + 1, 0, none⟩)] #[], .func (.func 54) #[.pointer (some ⟨w.heap.size + 1, 0, none⟩)] #[], .func (.func 55) #[.pointer (some ⟨w.heap.size + 1, 0, none⟩)] #[], .func (.func 56) #[.pointer (some ⟨w.heap.size + 1, 0, none⟩)] #[], .func (.func 57) #[.pointer (some ⟨w.heap.size + 1, 0, none⟩)] #[]]))) (fun v _ => 3 - (intOf v).toNat)
  case atStart => exact .inl ⟨rfl, ⟨HW.out, HR.out, HF.out⟩⟩
  case round =>
    rcases hrel with ⟨rfl, H⟩ | ⟨rfl, H⟩ | ⟨rfl, H⟩
    · have hf := H.out.2.2
      have hwr : w.heap.size + 2 < wr.heap.size := hf.lt
      have q0 := (hf).cell 0
      have q1 := (hf).cell 1
      have q2 := (hf).cell 2
      have q3 := (hf).cell 3
      have q4 := (hf).cell 4
      have q5 := (hf).cell 5
      simp only [List.getElem?_cons_zero, List.getElem?_cons_succ] at q0 q1 q2 q3 q4 q5
      clear hf
      go_wp2_with (go_at_call 52; refine (HS.out wr H.out.2.1).mono ?_; rintro e w2 ⟨rfl, hc2, hb2⟩; have HC2 := Sh.mk hc2; have HB2 := Sh.mk hb2; clear hc2 hb2)
      go_roundw
      case rel => exact .inr (.inl ⟨rfl, ⟨H.out.1.trans (HC2.out.below (fun i hi => by omega) H.out.1.size), HB2.out, (HC2.out.block _ H.out.2.2.lt (by omega)).trans H.out.2.2⟩⟩)
      case measure => simp [intOf]
    · have hf := H.out.2.2
      have hwr : w.heap.size + 2 < wr.heap.size := hf.lt
      have q0 := (hf).cell 0
      have q1 := (hf).cell 1
      have q2 := (hf).cell 2
      have q3 := (hf).cell 3
      have q4 := (hf).cell 4
      have q5 := (hf).cell 5
      simp only [List.getElem?_cons_zero, List.getElem?_cons_succ] at q0 q1 q2 q3 q4 q5
      clear hf
      go_wp2_with (go_at_call 53; refine (HRD.out wr H.out.1 H.out.2.1).mono ?_; rintro e w2 ⟨rfl, hc2, hb2⟩; have HC2 := Sh.mk hc2; have HB2 := Sh.mk hb2; clear hc2 hb2)
      go_roundw
      case rel => exact .inr (.inr ⟨rfl, ⟨H.out.1.trans (HC2.out.below (fun i hi => by omega) H.out.1.size), HB2.out, (HC2.out.block _ H.out.2.2.lt (by omega)).trans H.out.2.2⟩⟩)
      case measure => simp [intOf]
    · have hf := H.out.2.2
      have hwr : w.heap.size + 2 < wr.heap.size := hf.lt
      have q0 := (hf).cell 0
      have q1 := (hf).cell 1
      have q2 := (hf).cell 2
      have q3 := (hf).cell 3
      have q4 := (hf).cell 4
      have q5 := (hf).cell 5
      simp only [List.getElem?_cons_zero, List.getElem?_cons_succ] at q0 q1 q2 q3 q4 q5
      clear hf
      go_wp2_with (go_at_call 54; refine (HCL.out wr H.out.1 H.out.2.1).mono ?_; rintro e w2 ⟨rfl, hc2, hb2⟩; have HC2 := Sh.mk hc2; have HB2 := Sh.mk hb2; clear hc2 hb2)
      (try simp only [Exit.noGoto])
      go_ret
      exact ⟨_, rfl, H.out.1.trans (HC2.out.below (fun i hi => by omega) H.out.1.size), HB2.out⟩
end Go.Proofs.YtkfdhmeipnfhpaaGreatDoor
