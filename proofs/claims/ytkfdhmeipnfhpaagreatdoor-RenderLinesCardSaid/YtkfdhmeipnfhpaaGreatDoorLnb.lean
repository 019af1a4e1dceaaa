/- Package render: Lines at any verdict (written by tools/gen_lnb.py). -/
import Derived.Test.YtkfdhmeipnfhpaaGreatDoorLna
set_option linter.unusedVariables false
set_option linter.unusedSimpArgs false
namespace Go.Proofs.YtkfdhmeipnfhpaaGreatDoor
open Go.RowKit

/-- What Lines is asked of: a text, a verdict, the tables. -/
structure LnPre (w : World) (s : ByteArray) (l : List (Int × Int)) (S : Nat → Prop) (v5 v6 : Value) (sch : ByteArray) (m : Int) : Prop where
  hs : s.size ≤ 100000
  hl : l.length ≤ 1000000
  hsch : sch.size ≤ 1000000
  h5 : v5.oneCell' = true
  hv6 : SpansAt w S l v6
  hG : Gl w
  hL : LimsAt w
  hm : w.cell? ⟨1, 0, none⟩ = some (.int .i64 m)
  h0 : 1 < w.heap.size
theorem LnPre.below {w w' : World} {s : ByteArray} {l : List (Int × Int)} {S : Nat → Prop} {v5 v6 : Value} {sch : ByteArray} {m : Int} (h : LnPre w s l S v5 v6 sch m) (hb : Below w.heap.size w w') : LnPre w' s l S v5 v6 sch m :=
  ⟨h.hs, h.hl, h.hsch, h.h5, h.hv6.below hb, h.hG.below hb, h.hL.below hb, by rw [hb.cell h.h0]; exact h.hm, by have := hb.size; have := h.h0; omega⟩
theorem LnPre.place {w : World} {s : ByteArray} {l : List (Int × Int)} {S : Nat → Prop} {v5 v6 : Value} {sch : ByteArray} {m : Int} (h : LnPre w s l S v5 v6 sch m) (x : Int × Int) : SaysT 14 #[.string s, .int .i64 x.1] w (placeS s (clipLo s x)) :=
  fun W hW => place_any s x.1 h.hs (clipLo s x) (clipLo_eq s x) W (h.hG.below hW)
theorem LnPre.piece {w : World} {s : ByteArray} {l : List (Int × Int)} {S : Nat → Prop} {v5 v6 : Value} {sch : ByteArray} {m : Int} (h : LnPre w s l S v5 v6 sch m) (x : Int × Int) : SaysT 17 #[.string s, .agg #[.int .i64 x.1, .int .i64 x.2]] w (pieceS s (clipLo s x) (clipHi s x)) :=
  fun W hW => piece_any s x.1 x.2 h.hs _ _ (clipLo_eq s x) (clipHi_eq s x) W m (fun W2 hW2 => (h.below (hW.trans (hW2.mono hW.size))).hm)
theorem LnPre.psize {w : World} {s : ByteArray} {l : List (Int × Int)} {S : Nat → Prop} {v5 v6 : Value} {sch : ByteArray} {m : Int} (h : LnPre w s l S v5 v6 sch m) (x : Int × Int) : (placeS s (clipLo s x)).size ≤ 300000 := placeS_size s _ (by have := clipLo_eq s x; have := h.hs; omega)
def LnPost (w : World) (ls : List ByteArray) (e : Ending) (w' : World) : Prop := ∃ A c, e = .returned (.slice A ls.length c) ∧ GRow StrK w' (.slice A ls.length c) ls ∧ (∀ b, (Value.slice A ls.length c).ownBlock = some b → w.heap.size ≤ b) ∧ Below w.heap.size w w'
set_option maxRecDepth 100000 in
set_option maxHeartbeats 2000000 in
theorem Lines_k1 (w : World) (s sch : ByteArray) (x : Int × Int) (lim st m : Int) (v5 v6 : Value) (l : List (Int × Int)) (S : Nat → Prop) (h : LnPre w s l S v5 v6 sch m) :
    Calls Tryz.prog 7 #[.string s, .agg #[.int .i64 1, .string sch, .int .i64 x.1, .int .i64 x.2, .int .i64 lim, v5, v6, .int .i64 st]] w (LnPost w [sType ++ sch]) := by
  obtain ⟨V, hV⟩ : ∃ V, V = ((w.alloc (.cells #[.string s] 9)).alloc (.cells #[.int .i64 1, .string sch, .int .i64 x.1, .int .i64 x.2, .int .i64 lim, v5, v6, .int .i64 st] 27)).alloc (.cells #[.nilFunc, .func (.func 12) #[] #[.pointer (some ⟨w.heap.size + 1, 0, none⟩)], .func (.func 13) #[] #[.pointer (some ⟨w.heap.size, 0, none⟩), .pointer (some ⟨w.heap.size + 1, 0, none⟩)], .func (.func 16) #[] #[.pointer (some ⟨w.heap.size, 0, none⟩), .pointer (some ⟨w.heap.size + 1, 0, none⟩)], .func (.func 18) #[] #[.pointer (some ⟨w.heap.size + 1, 0, none⟩)], .func (.func 20) #[] #[.pointer (some ⟨w.heap.size, 0, none⟩), .pointer (some ⟨w.heap.size + 1, 0, none⟩)]] 43) := ⟨_, rfl⟩
  have hs : Blk V w.heap.size 9 [.string s] := by rw [hV]; exact ((Blk.new _ _ _).alloc _).alloc _
  have hv : Blk V (w.heap.size + 1) 27 [.int .i64 1, .string sch, .int .i64 x.1, .int .i64 x.2, .int .i64 lim, v5, v6, .int .i64 st] := by rw [hV]; exact (Blk.new' _ _ _ (by simp)).alloc _
  have hf : Blk V (w.heap.size + 1 + 1) 43 (#[.nilFunc, .func (.func 12) #[] #[.pointer (some ⟨w.heap.size + 1, 0, none⟩)], .func (.func 13) #[] #[.pointer (some ⟨w.heap.size, 0, none⟩), .pointer (some ⟨w.heap.size + 1, 0, none⟩)], .func (.func 16) #[] #[.pointer (some ⟨w.heap.size, 0, none⟩), .pointer (some ⟨w.heap.size + 1, 0, none⟩)], .func (.func 18) #[] #[.pointer (some ⟨w.heap.size + 1, 0, none⟩)], .func (.func 20) #[] #[.pointer (some ⟨w.heap.size, 0, none⟩), .pointer (some ⟨w.heap.size + 1, 0, none⟩)]] : Array Value).toList := by rw [hV]; exact Blk.new' _ _ _ (by simp)
  have hw : Below w.heap.size w V := by rw [hV]; exact (((Below.refl _ _).alloc (Nat.le_refl _) _).alloc (by simp) _).alloc (by simp; omega) _
  have HW := Sh.mk hw
  have HP := h.below hw
  have HL := Sh.mk (Lines1_calls V (w.heap.size + 1) 1 x.1 x.2 lim st sch v5 v6 hv h.hsch)
  have c0 := hv.cell 0
  have d3 := hf.cell 1
  simp only [List.getElem?_cons_zero, List.getElem?_cons_succ] at c0 d3
  have h6 : v6.oneCell' = true := by obtain ⟨A6, c6, e6, _⟩ := h.hv6.shape; rw [e6]; rfl
  have h5 := h.h5
  have KV := Sh.mk hV
  clear hV hs hv hf hw HP h
  go_enter Tryz.func7, Tryz.ntmps7
  go_upto_region 2 with (fail)
  rw [← KV.out]
  clear KV
  go_wp2_with (first
    | (go_at_call 12; refine HL.out.mono ?_; rintro e w4 ⟨A, c, rfl, hr, ho, hb⟩; have HR := Sh.mk hr; have HO := Sh.mk ho; have HB := Sh.mk hb; clear hr ho hb))
  go_ret
  exact ⟨A, c, rfl, HR.out, fun b hb => Nat.le_trans HW.out.size (HO.out b hb), HW.out.trans (HB.out.mono HW.out.size)⟩
set_option maxRecDepth 100000 in
set_option maxHeartbeats 2000000 in
theorem Lines_k2 (w : World) (s sch : ByteArray) (x : Int × Int) (lim st m : Int) (v5 v6 : Value) (l : List (Int × Int)) (S : Nat → Prop) (h : LnPre w s l S v5 v6 sch m) (l1 l2 : ByteArray) (hc : ∀ w, SaysL 15 #[.string s, .agg #[.int .i64 x.1, .int .i64 x.2]] w [l1, l2]) :
    Calls Tryz.prog 7 #[.string s, .agg #[.int .i64 2, .string sch, .int .i64 x.1, .int .i64 x.2, .int .i64 lim, v5, v6, .int .i64 st]] w (LnPost w [sSyntax ++ placeS s (clipLo s x), l1, l2]) := by
  obtain ⟨V, hV⟩ : ∃ V, V = ((w.alloc (.cells #[.string s] 9)).alloc (.cells #[.int .i64 2, .string sch, .int .i64 x.1, .int .i64 x.2, .int .i64 lim, v5, v6, .int .i64 st] 27)).alloc (.cells #[.nilFunc, .func (.func 12) #[] #[.pointer (some ⟨w.heap.size + 1, 0, none⟩)], .func (.func 13) #[] #[.pointer (some ⟨w.heap.size, 0, none⟩), .pointer (some ⟨w.heap.size + 1, 0, none⟩)], .func (.func 16) #[] #[.pointer (some ⟨w.heap.size, 0, none⟩), .pointer (some ⟨w.heap.size + 1, 0, none⟩)], .func (.func 18) #[] #[.pointer (some ⟨w.heap.size + 1, 0, none⟩)], .func (.func 20) #[] #[.pointer (some ⟨w.heap.size, 0, none⟩), .pointer (some ⟨w.heap.size + 1, 0, none⟩)]] 43) := ⟨_, rfl⟩
  have hs : Blk V w.heap.size 9 [.string s] := by rw [hV]; exact ((Blk.new _ _ _).alloc _).alloc _
  have hv : Blk V (w.heap.size + 1) 27 [.int .i64 2, .string sch, .int .i64 x.1, .int .i64 x.2, .int .i64 lim, v5, v6, .int .i64 st] := by rw [hV]; exact (Blk.new' _ _ _ (by simp)).alloc _
  have hf : Blk V (w.heap.size + 1 + 1) 43 (#[.nilFunc, .func (.func 12) #[] #[.pointer (some ⟨w.heap.size + 1, 0, none⟩)], .func (.func 13) #[] #[.pointer (some ⟨w.heap.size, 0, none⟩), .pointer (some ⟨w.heap.size + 1, 0, none⟩)], .func (.func 16) #[] #[.pointer (some ⟨w.heap.size, 0, none⟩), .pointer (some ⟨w.heap.size + 1, 0, none⟩)], .func (.func 18) #[] #[.pointer (some ⟨w.heap.size + 1, 0, none⟩)], .func (.func 20) #[] #[.pointer (some ⟨w.heap.size, 0, none⟩), .pointer (some ⟨w.heap.size + 1, 0, none⟩)]] : Array Value).toList := by rw [hV]; exact Blk.new' _ _ _ (by simp)
  have hw : Below w.heap.size w V := by rw [hV]; exact (((Below.refl _ _).alloc (Nat.le_refl _) _).alloc (by simp) _).alloc (by simp; omega) _
  have HW := Sh.mk hw
  have HP := h.below hw
  have hz := h.psize x
  have HL := Sh.mk (Lines2_calls V w.heap.size (w.heap.size + 1) s sch _ l1 l2 2 x.1 x.2 lim st v5 v6 hs hv (HP.place x) (hc V) (by omega))
  clear hz hc
  have c0 := hv.cell 0
  have d3 := hf.cell 2
  simp only [List.getElem?_cons_zero, List.getElem?_cons_succ] at c0 d3
  have h6 : v6.oneCell' = true := by obtain ⟨A6, c6, e6, _⟩ := h.hv6.shape; rw [e6]; rfl
  have h5 := h.h5
  have KV := Sh.mk hV
  clear hV hs hv hf hw HP h
  go_enter Tryz.func7, Tryz.ntmps7
  go_upto_region 2 with (fail)
  rw [← KV.out]
  clear KV
  go_wp2_with (first
    | (go_at_call 13; refine HL.out.mono ?_; rintro e w4 ⟨A, c, rfl, hr, ho, hb⟩; have HR := Sh.mk hr; have HO := Sh.mk ho; have HB := Sh.mk hb; clear hr ho hb))
  go_ret
  exact ⟨A, c, rfl, HR.out, fun b hb => Nat.le_trans HW.out.size (HO.out b hb), HW.out.trans (HB.out.mono HW.out.size)⟩
set_option maxRecDepth 100000 in
set_option maxHeartbeats 2000000 in
theorem Lines_k3 (w : World) (s sch : ByteArray) (x : Int × Int) (lim st m : Int) (v5 v6 : Value) (l : List (Int × Int)) (S : Nat → Prop) (h : LnPre w s l S v5 v6 sch m) (l1 l2 : ByteArray) (hc : ∀ w, SaysL 15 #[.string s, .agg #[.int .i64 x.1, .int .i64 x.2]] w [l1, l2]) :
    Calls Tryz.prog 7 #[.string s, .agg #[.int .i64 3, .string sch, .int .i64 x.1, .int .i64 x.2, .int .i64 lim, v5, v6, .int .i64 st]] w (LnPost w [sUnbound ++ pieceS s (clipLo s x) (clipHi s x) ++ sAt ++ placeS s (clipLo s x), l1, l2]) := by
  obtain ⟨V, hV⟩ : ∃ V, V = ((w.alloc (.cells #[.string s] 9)).alloc (.cells #[.int .i64 3, .string sch, .int .i64 x.1, .int .i64 x.2, .int .i64 lim, v5, v6, .int .i64 st] 27)).alloc (.cells #[.nilFunc, .func (.func 12) #[] #[.pointer (some ⟨w.heap.size + 1, 0, none⟩)], .func (.func 13) #[] #[.pointer (some ⟨w.heap.size, 0, none⟩), .pointer (some ⟨w.heap.size + 1, 0, none⟩)], .func (.func 16) #[] #[.pointer (some ⟨w.heap.size, 0, none⟩), .pointer (some ⟨w.heap.size + 1, 0, none⟩)], .func (.func 18) #[] #[.pointer (some ⟨w.heap.size + 1, 0, none⟩)], .func (.func 20) #[] #[.pointer (some ⟨w.heap.size, 0, none⟩), .pointer (some ⟨w.heap.size + 1, 0, none⟩)]] 43) := ⟨_, rfl⟩
  have hs : Blk V w.heap.size 9 [.string s] := by rw [hV]; exact ((Blk.new _ _ _).alloc _).alloc _
  have hv : Blk V (w.heap.size + 1) 27 [.int .i64 3, .string sch, .int .i64 x.1, .int .i64 x.2, .int .i64 lim, v5, v6, .int .i64 st] := by rw [hV]; exact (Blk.new' _ _ _ (by simp)).alloc _
  have hf : Blk V (w.heap.size + 1 + 1) 43 (#[.nilFunc, .func (.func 12) #[] #[.pointer (some ⟨w.heap.size + 1, 0, none⟩)], .func (.func 13) #[] #[.pointer (some ⟨w.heap.size, 0, none⟩), .pointer (some ⟨w.heap.size + 1, 0, none⟩)], .func (.func 16) #[] #[.pointer (some ⟨w.heap.size, 0, none⟩), .pointer (some ⟨w.heap.size + 1, 0, none⟩)], .func (.func 18) #[] #[.pointer (some ⟨w.heap.size + 1, 0, none⟩)], .func (.func 20) #[] #[.pointer (some ⟨w.heap.size, 0, none⟩), .pointer (some ⟨w.heap.size + 1, 0, none⟩)]] : Array Value).toList := by rw [hV]; exact Blk.new' _ _ _ (by simp)
  have hw : Below w.heap.size w V := by rw [hV]; exact (((Below.refl _ _).alloc (Nat.le_refl _) _).alloc (by simp) _).alloc (by simp; omega) _
  have HW := Sh.mk hw
  have HP := h.below hw
  have hz := h.psize x
  have hz2 := pieceS_size s (clipLo s x) (clipHi s x)
  have hz3 := h.hs
  have HL := Sh.mk (Lines3_calls V w.heap.size (w.heap.size + 1) s sch _ _ l1 l2 3 x.1 x.2 lim st v5 v6 hs hv (HP.piece x) (HP.place x) (hc V) (by omega) (by omega))
  clear hz hz2 hz3 hc
  have c0 := hv.cell 0
  have d3 := hf.cell 3
  simp only [List.getElem?_cons_zero, List.getElem?_cons_succ] at c0 d3
  have h6 : v6.oneCell' = true := by obtain ⟨A6, c6, e6, _⟩ := h.hv6.shape; rw [e6]; rfl
  have h5 := h.h5
  have KV := Sh.mk hV
  clear hV hs hv hf hw HP h
  go_enter Tryz.func7, Tryz.ntmps7
  go_upto_region 2 with (fail)
  rw [← KV.out]
  clear KV
  go_wp2_with (first
    | (go_at_call 16; refine HL.out.mono ?_; rintro e w4 ⟨A, c, rfl, hr, ho, hb⟩; have HR := Sh.mk hr; have HO := Sh.mk ho; have HB := Sh.mk hb; clear hr ho hb))
  go_ret
  exact ⟨A, c, rfl, HR.out, fun b hb => Nat.le_trans HW.out.size (HO.out b hb), HW.out.trans (HB.out.mono HW.out.size)⟩
set_option maxRecDepth 100000 in
set_option maxHeartbeats 2000000 in
theorem Lines_k4 (w : World) (s sch : ByteArray) (x : Int × Int) (lim st m : Int) (v5 v6 : Value) (l : List (Int × Int)) (S : Nat → Prop) (h : LnPre w s l S v5 v6 sch m) :
    Calls Tryz.prog 7 #[.string s, .agg #[.int .i64 4, .string sch, .int .i64 x.1, .int .i64 x.2, .int .i64 lim, v5, v6, .int .i64 st]] w (LnPost w [sLimit ++ limS lim]) := by
  obtain ⟨V, hV⟩ : ∃ V, V = ((w.alloc (.cells #[.string s] 9)).alloc (.cells #[.int .i64 4, .string sch, .int .i64 x.1, .int .i64 x.2, .int .i64 lim, v5, v6, .int .i64 st] 27)).alloc (.cells #[.nilFunc, .func (.func 12) #[] #[.pointer (some ⟨w.heap.size + 1, 0, none⟩)], .func (.func 13) #[] #[.pointer (some ⟨w.heap.size, 0, none⟩), .pointer (some ⟨w.heap.size + 1, 0, none⟩)], .func (.func 16) #[] #[.pointer (some ⟨w.heap.size, 0, none⟩), .pointer (some ⟨w.heap.size + 1, 0, none⟩)], .func (.func 18) #[] #[.pointer (some ⟨w.heap.size + 1, 0, none⟩)], .func (.func 20) #[] #[.pointer (some ⟨w.heap.size, 0, none⟩), .pointer (some ⟨w.heap.size + 1, 0, none⟩)]] 43) := ⟨_, rfl⟩
  have hs : Blk V w.heap.size 9 [.string s] := by rw [hV]; exact ((Blk.new _ _ _).alloc _).alloc _
  have hv : Blk V (w.heap.size + 1) 27 [.int .i64 4, .string sch, .int .i64 x.1, .int .i64 x.2, .int .i64 lim, v5, v6, .int .i64 st] := by rw [hV]; exact (Blk.new' _ _ _ (by simp)).alloc _
  have hf : Blk V (w.heap.size + 1 + 1) 43 (#[.nilFunc, .func (.func 12) #[] #[.pointer (some ⟨w.heap.size + 1, 0, none⟩)], .func (.func 13) #[] #[.pointer (some ⟨w.heap.size, 0, none⟩), .pointer (some ⟨w.heap.size + 1, 0, none⟩)], .func (.func 16) #[] #[.pointer (some ⟨w.heap.size, 0, none⟩), .pointer (some ⟨w.heap.size + 1, 0, none⟩)], .func (.func 18) #[] #[.pointer (some ⟨w.heap.size + 1, 0, none⟩)], .func (.func 20) #[] #[.pointer (some ⟨w.heap.size, 0, none⟩), .pointer (some ⟨w.heap.size + 1, 0, none⟩)]] : Array Value).toList := by rw [hV]; exact Blk.new' _ _ _ (by simp)
  have hw : Below w.heap.size w V := by rw [hV]; exact (((Below.refl _ _).alloc (Nat.le_refl _) _).alloc (by simp) _).alloc (by simp; omega) _
  have HW := Sh.mk hw
  have HP := h.below hw
  have HL := Sh.mk (Lines4_calls V (w.heap.size + 1) 4 x.1 x.2 lim st sch v5 v6 hv HP.hL)
  have c0 := hv.cell 0
  have d3 := hf.cell 4
  simp only [List.getElem?_cons_zero, List.getElem?_cons_succ] at c0 d3
  have h6 : v6.oneCell' = true := by obtain ⟨A6, c6, e6, _⟩ := h.hv6.shape; rw [e6]; rfl
  have h5 := h.h5
  have KV := Sh.mk hV
  clear hV hs hv hf hw HP h
  go_enter Tryz.func7, Tryz.ntmps7
  go_upto_region 2 with (fail)
  rw [← KV.out]
  clear KV
  go_wp2_with (first
    | (go_at_call 18; refine HL.out.mono ?_; rintro e w4 ⟨A, c, rfl, hr, ho, hb⟩; have HR := Sh.mk hr; have HO := Sh.mk ho; have HB := Sh.mk hb; clear hr ho hb))
  go_ret
  exact ⟨A, c, rfl, HR.out, fun b hb => Nat.le_trans HW.out.size (HO.out b hb), HW.out.trans (HB.out.mono HW.out.size)⟩
set_option maxRecDepth 100000 in
set_option maxHeartbeats 2000000 in
theorem Lines_k5 (w : World) (s sch : ByteArray) (x : Int × Int) (lim st m : Int) (v5 v6 : Value) (l : List (Int × Int)) (S : Nat → Prop) (h : LnPre w s l S v5 v6 sch m) :
    Calls Tryz.prog 7 #[.string s, .agg #[.int .i64 5, .string sch, .int .i64 x.1, .int .i64 x.2, .int .i64 lim, v5, v6, .int .i64 st]] w (LnPost w (slLines s l)) := by
  obtain ⟨V, hV⟩ : ∃ V, V = ((w.alloc (.cells #[.string s] 9)).alloc (.cells #[.int .i64 5, .string sch, .int .i64 x.1, .int .i64 x.2, .int .i64 lim, v5, v6, .int .i64 st] 27)).alloc (.cells #[.nilFunc, .func (.func 12) #[] #[.pointer (some ⟨w.heap.size + 1, 0, none⟩)], .func (.func 13) #[] #[.pointer (some ⟨w.heap.size, 0, none⟩), .pointer (some ⟨w.heap.size + 1, 0, none⟩)], .func (.func 16) #[] #[.pointer (some ⟨w.heap.size, 0, none⟩), .pointer (some ⟨w.heap.size + 1, 0, none⟩)], .func (.func 18) #[] #[.pointer (some ⟨w.heap.size + 1, 0, none⟩)], .func (.func 20) #[] #[.pointer (some ⟨w.heap.size, 0, none⟩), .pointer (some ⟨w.heap.size + 1, 0, none⟩)]] 43) := ⟨_, rfl⟩
  have hs : Blk V w.heap.size 9 [.string s] := by rw [hV]; exact ((Blk.new _ _ _).alloc _).alloc _
  have hv : Blk V (w.heap.size + 1) 27 [.int .i64 5, .string sch, .int .i64 x.1, .int .i64 x.2, .int .i64 lim, v5, v6, .int .i64 st] := by rw [hV]; exact (Blk.new' _ _ _ (by simp)).alloc _
  have hf : Blk V (w.heap.size + 1 + 1) 43 (#[.nilFunc, .func (.func 12) #[] #[.pointer (some ⟨w.heap.size + 1, 0, none⟩)], .func (.func 13) #[] #[.pointer (some ⟨w.heap.size, 0, none⟩), .pointer (some ⟨w.heap.size + 1, 0, none⟩)], .func (.func 16) #[] #[.pointer (some ⟨w.heap.size, 0, none⟩), .pointer (some ⟨w.heap.size + 1, 0, none⟩)], .func (.func 18) #[] #[.pointer (some ⟨w.heap.size + 1, 0, none⟩)], .func (.func 20) #[] #[.pointer (some ⟨w.heap.size, 0, none⟩), .pointer (some ⟨w.heap.size + 1, 0, none⟩)]] : Array Value).toList := by rw [hV]; exact Blk.new' _ _ _ (by simp)
  have hw : Below w.heap.size w V := by rw [hV]; exact (((Below.refl _ _).alloc (Nat.le_refl _) _).alloc (by simp) _).alloc (by simp; omega) _
  have HW := Sh.mk hw
  have HP := h.below hw
  have HL := Sh.mk (Lines5_calls V w.heap.size (w.heap.size + 1) s sch 5 x.1 x.2 lim st v5 v6 l S hs hv h.hs h.hl h.h5 HP.hv6 HP.hG m HP.hm HP.h0)
  have c0 := hv.cell 0
  have d3 := hf.cell 5
  simp only [List.getElem?_cons_zero, List.getElem?_cons_succ] at c0 d3
  have h6 : v6.oneCell' = true := by obtain ⟨A6, c6, e6, _⟩ := h.hv6.shape; rw [e6]; rfl
  have h5 := h.h5
  have KV := Sh.mk hV
  clear hV hs hv hf hw HP h
  go_enter Tryz.func7, Tryz.ntmps7
  go_upto_region 2 with (fail)
  rw [← KV.out]
  clear KV
  go_wp2_with (first
    | (go_at_call 20; refine HL.out.mono ?_; rintro e w4 ⟨A, c, rfl, hr, ho, hb⟩; have HR := Sh.mk hr; have HO := Sh.mk ho; have HB := Sh.mk hb; clear hr ho hb))
  go_ret
  exact ⟨A, c, rfl, HR.out, fun b hb => Nat.le_trans HW.out.size (HO.out b hb), HW.out.trans (HB.out.mono HW.out.size)⟩
set_option maxRecDepth 100000 in
set_option maxHeartbeats 2000000 in
theorem Lines_k0 (k : Int) (w : World) (s sch : ByteArray) (x : Int × Int) (lim st m : Int) (v5 v6 : Value) (l : List (Int × Int)) (S : Nat → Prop) (h : LnPre w s l S v5 v6 sch m) (hk : k < 1 ∨ 6 ≤ k) :
    Calls Tryz.prog 7 #[.string s, .agg #[.int .i64 k, .string sch, .int .i64 x.1, .int .i64 x.2, .int .i64 lim, v5, v6, .int .i64 st]] w (LnPost w [sNothing]) := by
  obtain ⟨V, hV⟩ : ∃ V, V = ((w.alloc (.cells #[.string s] 9)).alloc (.cells #[.int .i64 k, .string sch, .int .i64 x.1, .int .i64 x.2, .int .i64 lim, v5, v6, .int .i64 st] 27)).alloc (.cells #[.nilFunc, .func (.func 12) #[] #[.pointer (some ⟨w.heap.size + 1, 0, none⟩)], .func (.func 13) #[] #[.pointer (some ⟨w.heap.size, 0, none⟩), .pointer (some ⟨w.heap.size + 1, 0, none⟩)], .func (.func 16) #[] #[.pointer (some ⟨w.heap.size, 0, none⟩), .pointer (some ⟨w.heap.size + 1, 0, none⟩)], .func (.func 18) #[] #[.pointer (some ⟨w.heap.size + 1, 0, none⟩)], .func (.func 20) #[] #[.pointer (some ⟨w.heap.size, 0, none⟩), .pointer (some ⟨w.heap.size + 1, 0, none⟩)]] 43) := ⟨_, rfl⟩
  have hv : Blk V (w.heap.size + 1) 27 [.int .i64 k, .string sch, .int .i64 x.1, .int .i64 x.2, .int .i64 lim, v5, v6, .int .i64 st] := by rw [hV]; exact (Blk.new' _ _ _ (by simp)).alloc _
  have hw : Below w.heap.size w V := by rw [hV]; exact (((Below.refl _ _).alloc (Nat.le_refl _) _).alloc (by simp) _).alloc (by simp; omega) _
  have HW := Sh.mk hw
  have c0 := hv.cell 0
  simp only [List.getElem?_cons_zero] at c0
  have h6 : v6.oneCell' = true := by obtain ⟨A6, c6, e6, _⟩ := h.hv6.shape; rw [e6]; rfl
  have h5 := h.h5
  have KV := Sh.mk hV
  clear hV hv hw h
  rcases hk with hk | hk
  · go_enter Tryz.func7, Tryz.ntmps7
    go_upto_region 2 with (fail)
    rw [← KV.out]
    clear KV
    go_wp2
    go_ret
    exact ⟨_, _, rfl, GRow.of_blk StrK_ok (xs := [sNothing]) (Blk.new _ _ _) rfl (by simp), fun b hb => by simp [Value.ownBlock] at hb; have := HW.out.size; omega, HW.out.alloc HW.out.size _⟩
  · have hk1 : ¬ k < 1 := by omega
    go_enter Tryz.func7, Tryz.ntmps7
    go_upto_region 2 with (fail)
    rw [← KV.out]
    clear KV
    go_wp2
    go_ret
    exact ⟨_, _, rfl, GRow.of_blk StrK_ok (xs := [sNothing]) (Blk.new _ _ _) rfl (by simp), fun b hb => by simp [Value.ownBlock] at hb; have := HW.out.size; omega, HW.out.alloc HW.out.size _⟩
theorem Lines_any (k : Int) (w : World) (s sch : ByteArray) (x : Int × Int) (lim st m : Int) (v5 v6 : Value) (l : List (Int × Int)) (S : Nat → Prop) (h : LnPre w s l S v5 v6 sch m) :
    ∃ ls, LinesIs s k sch x lim l ls ∧ Calls Tryz.prog 7 #[.string s, .agg #[.int .i64 k, .string sch, .int .i64 x.1, .int .i64 x.2, .int .i64 lim, v5, v6, .int .i64 st]] w (LnPost w ls) := by
  obtain ⟨l1, l2, hci, hc⟩ := Caret_says s x h.hs
  by_cases e1 : k = 1
  · subst e1; exact ⟨_, .inl ⟨rfl, rfl⟩, Lines_k1 w s sch x lim st m v5 v6 l S h⟩
  by_cases e2 : k = 2
  · subst e2; exact ⟨_, .inr (.inl ⟨rfl, l1, l2, hci, rfl⟩), Lines_k2 w s sch x lim st m v5 v6 l S h l1 l2 hc⟩
  by_cases e3 : k = 3
  · subst e3; exact ⟨_, .inr (.inr (.inl ⟨rfl, l1, l2, hci, rfl⟩)), Lines_k3 w s sch x lim st m v5 v6 l S h l1 l2 hc⟩
  by_cases e4 : k = 4
  · subst e4; exact ⟨_, .inr (.inr (.inr (.inl ⟨rfl, rfl⟩))), Lines_k4 w s sch x lim st m v5 v6 l S h⟩
  by_cases e5 : k = 5
  · subst e5; exact ⟨_, .inr (.inr (.inr (.inr (.inl ⟨rfl, rfl⟩)))), Lines_k5 w s sch x lim st m v5 v6 l S h⟩
  · have hk : k < 1 ∨ 6 ≤ k := by omega
    exact ⟨_, .inr (.inr (.inr (.inr (.inr ⟨hk, rfl⟩)))), Lines_k0 k w s sch x lim st m v5 v6 l S h hk⟩
end Go.Proofs.YtkfdhmeipnfhpaaGreatDoor
