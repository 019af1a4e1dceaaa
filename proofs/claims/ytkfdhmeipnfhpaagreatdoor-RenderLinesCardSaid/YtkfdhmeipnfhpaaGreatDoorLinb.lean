/- Package render: Lines at a name that is open. -/
import Derived.Test.YtkfdhmeipnfhpaaGreatDoorLin
set_option linter.unusedVariables false
set_option linter.unusedSimpArgs false
namespace Go.Proofs.YtkfdhmeipnfhpaaGreatDoor
open Go.RowKit

set_option maxRecDepth 100000 in
set_option maxHeartbeats 2000000 in
theorem Lines_scope (w : World) (s sch p q l1 l2 : ByteArray) (a b lim st : Int) (v5 v6 : Value) (h5 : v5.oneCell' = true) (h6 : v6.oneCell' = true)
    (hp : SaysT 17 #[.string s, .agg #[.int .i64 a, .int .i64 b]] w p) (hq : SaysT 14 #[.string s, .int .i64 a] w q) (hc : SaysL 15 #[.string s, .agg #[.int .i64 a, .int .i64 b]] w [l1, l2])
    (hps : p.size ≤ 1000000) (hqs : q.size ≤ 1000000) :
    Calls Tryz.prog 7 #[.string s, .agg #[.int .i64 3, .string sch, .int .i64 a, .int .i64 b, .int .i64 lim, v5, v6, .int .i64 st]] w fun e w' => ∃ A c, e = .returned (.slice A 3 c) ∧ GRow StrK w' (.slice A 3 c) [sUnbound ++ p ++ sAt ++ q, l1, l2] ∧ (∀ b, (Value.slice A 3 c).ownBlock = some b → w.heap.size ≤ b) ∧ Below w.heap.size w w' := by
  have HP := Sh.mk hp
  have HQ := Sh.mk hq
  have HC := Sh.mk hc
  clear hp hq hc
  go_enter Tryz.func7, Tryz.ntmps7
  go_upto_region 2 with (fail)
  obtain ⟨V, hV⟩ : ∃ V, V = ((w.alloc (.cells #[.string s] 9)).alloc (.cells #[.int .i64 3, .string sch, .int .i64 a, .int .i64 b, .int .i64 lim, v5, v6, .int .i64 st] 27)).alloc (.cells #[.nilFunc, .func (.func 12) #[] #[.pointer (some ⟨w.heap.size + 1, 0, none⟩)], .func (.func 13) #[] #[.pointer (some ⟨w.heap.size, 0, none⟩), .pointer (some ⟨w.heap.size + 1, 0, none⟩)], .func (.func 16) #[] #[.pointer (some ⟨w.heap.size, 0, none⟩), .pointer (some ⟨w.heap.size + 1, 0, none⟩)], .func (.func 18) #[] #[.pointer (some ⟨w.heap.size + 1, 0, none⟩)], .func (.func 20) #[] #[.pointer (some ⟨w.heap.size, 0, none⟩), .pointer (some ⟨w.heap.size + 1, 0, none⟩)]] 43) := ⟨_, rfl⟩
  have hs : Blk V w.heap.size 9 [.string s] := by rw [hV]; exact ((Blk.new _ _ _).alloc _).alloc _
  have hv : Blk V (w.heap.size + 1) 27 [.int .i64 3, .string sch, .int .i64 a, .int .i64 b, .int .i64 lim, v5, v6, .int .i64 st] := by rw [hV]; exact (Blk.new' _ _ _ (by simp)).alloc _
  have hf : Blk V (w.heap.size + 1 + 1) 43 (#[.nilFunc, .func (.func 12) #[] #[.pointer (some ⟨w.heap.size + 1, 0, none⟩)], .func (.func 13) #[] #[.pointer (some ⟨w.heap.size, 0, none⟩), .pointer (some ⟨w.heap.size + 1, 0, none⟩)], .func (.func 16) #[] #[.pointer (some ⟨w.heap.size, 0, none⟩), .pointer (some ⟨w.heap.size + 1, 0, none⟩)], .func (.func 18) #[] #[.pointer (some ⟨w.heap.size + 1, 0, none⟩)], .func (.func 20) #[] #[.pointer (some ⟨w.heap.size, 0, none⟩), .pointer (some ⟨w.heap.size + 1, 0, none⟩)]] : Array Value).toList := by rw [hV]; exact Blk.new' _ _ _ (by simp)
  have hw : Below w.heap.size w V := by rw [hV]; exact (((Below.refl _ _).alloc (Nat.le_refl _) _).alloc (by simp) _).alloc (by simp; omega) _
  rw [← hV]
  have c0 := hv.cell 0
  have d3 := hf.cell 3
  simp only [List.getElem?_cons_zero, List.getElem?_cons_succ] at c0 d3
  have HW := Sh.mk hw
  have HL3 := Sh.mk (Lines3_calls V w.heap.size (w.heap.size + 1) s sch p q l1 l2 3 a b lim st v5 v6 hs hv (fun W hb => HP.out W (hw.trans (hb.mono hw.size))) (fun W hb => HQ.out W (hw.trans (hb.mono hw.size))) (fun W hb => HC.out W (hw.trans (hb.mono hw.size))) hps hqs)
  clear hV hs hv hf hw
  go_wp2_with (first
    | (go_at_call 16; refine HL3.out.mono ?_; rintro e w4 ⟨A, c, rfl, hr, ho, hb⟩; have HR := Sh.mk hr; have HO := Sh.mk ho; have HB := Sh.mk hb; clear hr ho hb))
  go_ret
  exact ⟨A, c, rfl, HR.out, fun b hb => Nat.le_trans HW.out.size (HO.out b hb), HW.out.trans (HB.out.mono HW.out.size)⟩
end Go.Proofs.YtkfdhmeipnfhpaaGreatDoor
