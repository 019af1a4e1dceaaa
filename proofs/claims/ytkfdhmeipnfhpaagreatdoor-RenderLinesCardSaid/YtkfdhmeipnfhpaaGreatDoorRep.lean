/- Package render: Report. -/
import Derived.Test.YtkfdhmeipnfhpaaGreatDoorLinb
set_option linter.unusedVariables false
set_option linter.unusedSimpArgs false
namespace Go.Proofs.YtkfdhmeipnfhpaaGreatDoor
open Go.RowKit

/-- Lines, each ended. -/
def endedL (l : List ByteArray) : List UInt8 := l.flatMap fun s => s.data.toList ++ [10]
theorem endedL_append (l : List ByteArray) (s : ByteArray) : endedL (l ++ [s]) = endedL l ++ s.data.toList ++ [10] := by unfold endedL; rw [List.flatMap_append]; simp
set_option maxRecDepth 100000 in
set_option maxHeartbeats 2000000 in
theorem Report_calls (w : World) (s : ByteArray) (b0 b1 b2 : Int) (vs : Array Value) (ls : List ByteArray)
    (hC : ∀ W, Below w.heap.size w W → Calls Tryz.prog 25 #[.string s, .agg #[.int .i64 b0, .int .i64 b1, .int .i64 b2]] W fun e w' => e = .returned (.agg vs) ∧ Below W.heap.size W w')
    (hL : SaysL 7 #[.string s, .agg vs] w ls) (hlen : ∀ k, (endedL (ls.take k)).length ≤ 1000000) (hls : ls.length ≤ 1000) (hsz : ∀ x ∈ ls, x.size ≤ 1000000) :
    Calls Tryz.prog 10 #[.string s, .agg #[.int .i64 b0, .int .i64 b1, .int .i64 b2]] w fun e w' => e = .returned (.string ⟨(endedL ls).toArray⟩) ∧ Below w.heap.size w w' := by
  have HC := Sh.mk hC
  have HL := Sh.mk hL
  have HN := Sh.mk hlen
  have HS := Sh.mk hsz
  obtain ⟨V, hV⟩ : ∃ V, V = (w.alloc (.cells #[.int .i64 b0, .int .i64 b1, .int .i64 b2] 36)).alloc (.cells #[.pointer none, .slice none 0 0] 48) := ⟨_, rfl⟩
  have hl : Blk V w.heap.size 36 [.int .i64 b0, .int .i64 b1, .int .i64 b2] := by rw [hV]; exact (Blk.new _ _ _).alloc _
  have hb : Blk V (w.heap.size + 1) 48 [.pointer none, .slice none 0 0] := by rw [hV]; exact Blk.new' _ _ _ (by simp)
  have hw : Below w.heap.size w V := by rw [hV]; exact ((Below.refl _ _).alloc (Nat.le_refl _) _).alloc (by simp) _
  have HW := Sh.mk hw
  have HB := Sh.mk hb
  clear hC hL hlen hsz
  go_enter Tryz.func10, Tryz.ntmps10
  go_upto_region 2 with (fail)
  rw [← hV]
  have p0 := (hl).cell 0
  have p1 := (hl).cell 1
  have p2 := (hl).cell 2
  simp only [List.getElem?_cons_zero, List.getElem?_cons_succ] at p0 p1 p2
  clear hV hl hb hw
  go_wp2_with (first
    | (go_at_call 25; refine (HC.out _ HW.out).mono ?_; rintro e w1 ⟨rfl, hb1⟩; have HW1 := Sh.mk (HW.out.trans (hb1.mono HW.out.size)); have HB1 := Sh.mk (HB.out.keep hb1); clear hb1)
    | (go_at_call 7; refine (HL.out _ HW1.out).mono ?_; rintro e w2 ⟨A, c, rfl, hr, ho, hb2⟩; have HW2 := Sh.mk (HW1.out.trans (hb2.mono HW1.out.size)); have HB2 := Sh.mk (HB1.out.keep hb2); have HR := Sh.mk hr; have HO := Sh.mk ho; have H21 : Sh (w.heap.size + 1 < w1.heap.size ∧ w1.heap.size ≤ w2.heap.size) := ⟨HB1.out.lt, hb2.size⟩; clear hb2 hr ho))
  have hll : (ls.length : Int) ≤ 1000 := by omega
  have hbo : ∀ b, (Value.slice A ls.length c).ownBlock = some b → b ≠ w.heap.size + 1 := fun b hb e => by have := HO.out b hb; have := H21.out.1; omega
  have HBO := Sh.mk hbo
  have HW2' := HW2.out
  clear p0 p1 p2 hbo
  go_loopw [14] (fun v14 wr => ∃ k : Nat, k ≤ ls.length ∧ v14 = .int .i64 k ∧ Sh (Bld (w.heap.size + 1) (w.heap.size + 1) (endedL (ls.take k)) wr) ∧ Sh (GRow StrK wr (.slice A ls.length c) ls) ∧ Sh (Below w.heap.size w wr) ∧ Sh (w.heap.size + 1 < wr.heap.size)) (fun v14 _ => ls.length - (intOf v14).toNat)
  case atStart => exact ⟨0, Nat.zero_le _, rfl, ⟨Bld.new HB2.out (Nat.le_refl _)⟩, HR, HW2, ⟨Nat.lt_of_lt_of_le H21.out.1 H21.out.2⟩⟩
  case round =>
    clear HR HW2' HW2 HB2 HW1 HB1 HW HB HL HC
    obtain ⟨k, hk, rfl, HBd, HR, HW, HZ⟩ := hrel
    by_cases hlt : k < ls.length
    · have hx : ls[k]? = some ls[k] := List.getElem?_eq_getElem hlt
      have hmem : ls[k] ∈ ls := List.getElem_mem hlt
      have htk : ls.take (k + 1) = ls.take k ++ [ls[k]] := by rw [List.take_add_one, hx]; rfl
      generalize ls[k] = x at hx hmem htk
      have HX := Sh.mk hx
      have HTK := Sh.mk htk
      have HXS := Sh.mk (HS.out x hmem)
      obtain ⟨g, c', hv, hcell⟩ := HR.out.at StrK_ok hx
      simp only [Value.slice.injEq, true_and] at hv
      obtain ⟨rfl, rfl⟩ := hv
      have d0 : wr.cell? ⟨g, k, none⟩ = some (.string x) := by have := hcell 0 (by decide); simpa [StrK] using this
      have hN := HN.out k
      have HN1 := Sh.mk hN
      clear hx hmem htk hcell hN
      go_wp2_with (first
        | (go_at_call 26; refine (WriteString_calls (w.heap.size + 1) (w.heap.size + 1) (endedL (ls.take k)) x wr HBd.out (by have h1 := HN1.out; have h2 := HXS.out; omega) (by have := HZ.out; omega)).mono ?_; rintro e w4 ⟨rfl, hb4, hl4, hk4⟩; have HBd4 := Sh.mk hb4; have HR4 := Sh.mk (HR.out.kept hk4 (fun e => HBO.out _ e rfl) (by decide)); have HW4 := Sh.mk (HW.out.trans (hl4.mono (by omega))); have HZ4 : Sh (w.heap.size + 1 < w4.heap.size) := ⟨Nat.lt_of_lt_of_le HZ.out hl4.size⟩; clear hb4 hl4 hk4 d0)
        | (go_at_call 27; refine (WriteByte_calls (w.heap.size + 1) (w.heap.size + 1) (endedL (ls.take k) ++ x.data.toList) 10 w4 HBd4.out (by have h1 := HN1.out; have h2 := HXS.out; rw [List.length_append]; have : x.data.toList.length = x.size := rfl; omega) (by have := HZ4.out; omega)).mono ?_; rintro e w5 ⟨rfl, hb5, hl5, hk5⟩; have HBd5 := Sh.mk hb5; have HR5 := Sh.mk (HR4.out.kept hk5 (fun e => HBO.out _ e rfl) (by decide)); have HW5 := Sh.mk (HW4.out.trans (hl5.mono (by omega))); have HZ5 : Sh (w.heap.size + 1 < w5.heap.size) := ⟨Nat.lt_of_lt_of_le HZ4.out hl5.size⟩; clear hb5 hl5 hk5))
      go_roundw
      case rel => exact ⟨k + 1, by omega, by go_num, ⟨by rw [HTK.out, endedL_append]; exact HBd5.out⟩, HR5, HW5, HZ5⟩
      case measure => simp [intOf]; omega
    · have hk2 : k = ls.length := by omega
      subst hk2
      have HBd' : Sh (Bld (w.heap.size + 1) (w.heap.size + 1) (endedL ls) wr) := ⟨by have := HBd.out; rwa [List.take_length] at this⟩
      go_wp2_with (first
        | (go_at_call 28; refine (String_calls (w.heap.size + 1) (w.heap.size + 1) (endedL ls) wr HBd'.out (by have := HZ.out; omega)).mono ?_; rintro e w6 ⟨rfl, hb6, hl6, hk6⟩; have HW6 := Sh.mk (HW.out.trans (hl6.mono (by omega))); clear hb6 hl6 hk6))
      go_ret
      exact ⟨rfl, HW6.out⟩
end Go.Proofs.YtkfdhmeipnfhpaaGreatDoor
