/- Package lex: words, names; the token at a place; a text of one token. -/
import Derived.Test.YtkfdhmeipnfhpaaGreatDoorLex
import Derived.Test.YtkfdhmeipnfhpaaGreatDoorRk
import Derived.Test.YtkfdhmeipnfhpaaGreatDoorShlf
set_option linter.unusedVariables false
set_option linter.unusedSimpArgs false
namespace Go.Proofs.YtkfdhmeipnfhpaaGreatDoor
open Go.RowKit

/-- A token. -/
structure Tok where
  kind : Int
  text : ByteArray
  a : Int
  b : Int
def TokK : RK Tok := ⟨124, 118, 4, 40, .agg #[.int .i64 0, .string ByteArray.empty, .int .i64 0, .int .i64 0], fun t => [.int .i64 t.kind, .string t.text, .int .i64 t.a, .int .i64 t.b]⟩
theorem TokK_ok : RKok TokK := ⟨fun _ => rfl, fun r u hu => by
  simp only [TokK, List.mem_cons, List.not_mem_nil, or_false] at hu
  rcases hu with rfl | rfl | rfl | rfl <;> simp [Value.oneCell'], Tryz.underlying118, by kernel_rfl, rfl, Nat.succ_pos _⟩
/-- The place at which no token is passed over. -/
theorem skip_here (s : ByteArray) (a : Nat) (h : a < s.size) (hb : blankB s[a] = false) (hc : (((s[a].toNat : Nat) : Int) == 35) = false) (hs : s.size ≤ 4611686018427387904) (w : World) :
    Calls Tryz.prog 105 #[.string s, .int .i64 a] w fun e w' => e = .returned (.int .i64 a) ∧ w' = w := by
  have HB := Sh.mk hb
  clear hb
  go_enter Tryz.func105, Tryz.ntmps105
  go_wp2
  go_loop [1] (fun v => v = .int .i64 a) (fun _ => 0)
  case atStart => rfl
  case round =>
    subst hrel
    go_wp2_with (go_at_call 145; refine (blank_calls s[a] _).mono ?_; rw [HB.out]; rintro e w1 ⟨rfl, rfl⟩)
    go_ret
    exact ⟨rfl, rfl⟩
theorem skip_end (s : ByteArray) (hs : s.size ≤ 4611686018427387904) (w : World) :
    Calls Tryz.prog 105 #[.string s, .int .i64 s.size] w fun e w' => e = .returned (.int .i64 s.size) ∧ w' = w := by
  go_enter Tryz.func105, Tryz.ntmps105
  go_wp2
  go_loop [1] (fun v => v = .int .i64 s.size) (fun _ => 0)
  case atStart => rfl
  case round =>
    subst hrel
    go_wp2
    go_ret
    exact ⟨rfl, rfl⟩
/-- What the library's tables hold. -/
structure Gl (w : World) : Prop where
  sp : Lib.TabIs Tryz.prog w "strings.asciiSpace" .u8 Lib.asciiSpaceTab
  pow : Lib.TabIs Tryz.prog w "internal/strconv.uint64pow10" .u64 Lib.pow10Tab
theorem tab_below {n : String} {g : Nat} {k : IntKind} {zs : List Int} {w w' : World} (hg : Tryz.prog.globalNamed n = some g) (h : Lib.TabIs Tryz.prog w n k zs) (hb : Below w.heap.size w w') : Lib.TabIs Tryz.prog w' n k zs := by
  unfold Lib.TabIs World.var? at h ⊢
  rw [hg] at h ⊢
  simp only [Option.bind_some] at h ⊢
  have hlt : g < w.heap.size := by
    rcases Nat.lt_or_ge g w.heap.size with h' | h'
    · exact h'
    · rw [Array.getElem?_eq_none h'] at h; cases h
  rw [hb.block g hlt]
  exact h
theorem Gl.below {w w' : World} (h : Gl w) (hb : Below w.heap.size w w') : Gl w' :=
  ⟨tab_below (g := (Tryz.prog.globalNamed "strings.asciiSpace").getD 0) (by kernel_rfl) h.sp hb, tab_below (g := (Tryz.prog.globalNamed "internal/strconv.uint64pow10").getD 0) (by kernel_rfl) h.pow hb⟩
def wordsL : List (List UInt8) := [[102, 117, 110], [108, 101, 116], [114, 101, 99], [105, 110], [105, 102], [116, 104, 101, 110], [101, 108, 115, 101], [116, 114, 117, 101], [102, 97, 108, 115, 101], [105, 110, 116], [98, 111, 111, 108]]
def wordsS : List ByteArray := wordsL.map fun l => ⟨l.toArray⟩
def kwB (s : ByteArray) : Bool := Lib.containsS wordsS s
theorem words_fields : Lib.fields [32, 102, 117, 110, 32, 108, 101, 116, 32, 114, 101, 99, 32, 105, 110, 32, 105, 102, 32, 116, 104, 101, 110, 32, 101, 108, 115, 101, 32, 116, 114, 117, 101, 32, 102, 97, 108, 115, 101, 32, 105, 110, 116, 32, 98, 111, 111, 108, 32] = wordsL := by decide +kernel
theorem ascii_all {l : List UInt8} (h : l.all (fun b => decide (b.toNat < 128)) = true) (j : Nat) (b : UInt8) (hb : l[j]? = some b) : b.toNat < 128 := by
  have := List.all_eq_true.1 h b (List.mem_of_getElem? hb)
  simpa using this
theorem Keyword_calls (s : ByteArray) (w : World) (hG : Gl w) :
    Calls Tryz.prog 150 #[.string s] w fun e w' => e = .returned (.bool (kwB s)) ∧ Below w.heap.size w w' := by
  have HF := Sh.mk (Tryz.strings_Fields_laid ⟨#[32, 102, 117, 110, 32, 108, 101, 116, 32, 114, 101, 99, 32, 105, 110, 32, 105, 102, 32, 116, 104, 101, 110, 32, 101, 108, 115, 101, 32, 116, 114, 117, 101, 32, 102, 97, 108, 115, 101, 32, 105, 110, 116, 32, 98, 111, 111, 108, 32]⟩ w (by decide) (ascii_all (by decide +kernel)) hG.sp)
  have HB := Sh.mk ((Below.refl w.heap.size w).alloc (Nat.le_refl _) (.cells (wordsL.map fun l => Value.string ⟨l.toArray⟩).toArray 9))
  have HC := Sh.mk (Tryz.slices_Contains_string w.heap.size 0 11 11 wordsS s (w.alloc (.cells (wordsL.map fun l => Value.string ⟨l.toArray⟩).toArray 9)) (by decide) (by decide) (fun j hj => by
    have h := (Blk.new w 9 (wordsL.map fun l => Value.string ⟨l.toArray⟩)).cell (0 + j)
    rw [h, Nat.zero_add]
    simp only [wordsS, List.length_map] at hj
    simp only [wordsS, List.getD_eq_getElem?_getD, List.getElem?_map]
    rw [List.getElem?_eq_getElem hj]; rfl))
  clear hG
  go_enter Tryz.func150, Tryz.ntmps150
  go_wp2_with (first
    | (go_at_call 200; refine HF.out.mono ?_; simp only [words_fields]; rintro e w1 ⟨rfl, rfl⟩)
    | (go_at_call 199; refine HC.out.mono ?_; rintro e w1 ⟨rfl, rfl⟩))
  go_ret
  exact ⟨rfl, HB.out⟩
end Go.Proofs.YtkfdhmeipnfhpaaGreatDoor
