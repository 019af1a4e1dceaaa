/- Package lex: names and tokens of one byte. -/
import Derived.Test.YtkfdhmeipnfhpaaGreatDoorLexa
import Derived.Laws.Strings3
import Derived.Lib.Walk
import Derived.Lib.Strings
import Derived.WalkSpells
set_option linter.unusedVariables false
set_option linter.unusedSimpArgs false
namespace Go.Proofs.YtkfdhmeipnfhpaaGreatDoor
open Go.RowKit

theorem small_inner {c : UInt8} (h : smallB c = true) : innerB c = true := by unfold innerB; rw [h]; rfl
theorem run_one {p : UInt8 → Bool} {s : ByteArray} (h1 : s.size = 1) (hp : p (s[0]'(by omega)) = true) {k : Nat} (h : RunIs p s 0 k) : k = 1 := by
  have hl := h.le
  rcases Nat.lt_or_ge k 1 with hk | hk
  · have : k = 0 := by omega
    subst this
    have := h.stop (by omega)
    simp only [Nat.add_zero] at this
    rw [hp] at this; cases this
  · omega
theorem not_empty {s : ByteArray} (h : 0 < s.size) : s.toList.isEmpty = false := by
  rw [ByteArray.toList_eq]
  have h2 : s.data.toList.length = s.size := rfl
  cases hl : s.data.toList with
  | nil => rw [hl] at h2; simp at h2; omega
  | cons _ _ => rfl
theorem Name_one (s : ByteArray) (hlt : 0 < s.size) (h1 : s.size = 1) (hs : smallB s[0] = true) (hk : kwB s = false) (w : World) (hG : Gl w) :
    Calls Tryz.prog 159 #[.string s] w fun e w' => e = .returned (.bool true) ∧ Below w.heap.size w w' := by
  have HG := Sh.mk hG
  have HS := Sh.mk hs
  have HK := Sh.mk hk
  have HR := Sh.mk (fun w => run_calls innerB _ tells_inner s (by omega) 0 (by omega) w)
  have HO := Sh.mk (fun (k : Nat) (h : RunIs innerB s 0 k) => run_one h1 (small_inner hs) h)
  have hne : s.toList.isEmpty = false := not_empty hlt
  have hle : s.size ≤ 1 := by omega
  have heq : ((1 : Int) == (s.size : Int)) = true := by rw [h1]; rfl
  clear hG hs hk h1
  go_enter Tryz.func159, Tryz.ntmps159
  go_wp2_with (first
    | (go_at_call 148; refine (small_calls s[0] _).mono ?_; rw [HS.out]; rintro e w1 ⟨rfl, rfl⟩)
    | (go_at_call 146; refine (HR.out _).mono ?_; rintro e w1 ⟨⟨k, rfl, hk⟩, rfl⟩; obtain rfl := HO.out k hk)
    | (go_at_call 150; refine (Keyword_calls s _ HG.out).mono ?_; rw [HK.out]; rintro e w1 ⟨rfl, hb⟩; have HB := Sh.mk hb; clear hb))
  go_ret
  exact ⟨rfl, HB.out⟩
set_option maxRecDepth 100000 in
/-- The token at a place: a name or a number of one byte. -/
theorem next_small (s : ByteArray) (hlt : 0 < s.size) (h1 : s.size = 1) (hs : smallB s[0] = true) (hk : kwB s = false) (w : World) (hG : Gl w) :
    Calls Tryz.prog 106 #[.string s, .int .i64 0] w fun e w' => e = .returned (.tuple #[.int .i64 1, .int .i64 1, .int .i64 0]) ∧ Below w.heap.size w w' := by
  have HG := Sh.mk hG
  have HS := Sh.mk hs
  have HK := Sh.mk hk
  have HR := Sh.mk (fun w => run_calls innerB _ tells_inner s (by omega) 0 (by omega) w)
  have HO := Sh.mk (fun (k : Nat) (h : RunIs innerB s 0 k) => run_one h1 (small_inner hs) h)
  have HX : Sh (s.extract 0 1 = s) := ⟨by rw [← h1]; exact ByteArray.extract_zero_size⟩
  have hle : s.size ≤ 1 := by omega
  have hge : 1 ≤ s.size := by omega
  clear hG hs hk h1
  go_enter Tryz.func106, Tryz.ntmps106
  go_wp2_with (first
    | (go_at_call 148; refine (small_calls s[0] _).mono ?_; rw [HS.out]; rintro e w1 ⟨rfl, rfl⟩)
    | (go_at_call 146; refine (HR.out _).mono ?_; rintro e w1 ⟨⟨k, rfl, hk⟩, rfl⟩; obtain rfl := HO.out k hk)
    | (go_at_call 150; rw [HX.out]; refine (Keyword_calls s _ HG.out).mono ?_; rw [HK.out]; rintro e w1 ⟨rfl, hb⟩; have HB := Sh.mk hb; clear hb))
  go_ret3
  exact ⟨rfl, HB.out⟩
set_option maxRecDepth 100000 in
theorem number_one (s : ByteArray) (hlt : 0 < s.size) (h1 : s.size = 1) (hs : digitB s[0] = true) (w : World) :
    Calls Tryz.prog 152 #[.string s, .int .i64 0] w fun e w' => e = .returned (.tuple #[.int .i64 2, .int .i64 1, .int .i64 0]) ∧ w' = w := by
  have HR := Sh.mk (fun w => run_calls digitB _ tells_digit s (by omega) 0 (by omega) w)
  have HO := Sh.mk (fun (k : Nat) (h : RunIs digitB s 0 k) => run_one h1 hs h)
  have hle : s.size ≤ 1 := by omega
  have hge : 1 ≤ s.size := by omega
  clear hs h1
  go_enter Tryz.func152, Tryz.ntmps152
  go_wp2_with (first
    | (go_at_call 146; refine (HR.out _).mono ?_; rintro e w1 ⟨⟨k, rfl, hk⟩, rfl⟩; obtain rfl := HO.out k hk))
  go_ret3
  exact ⟨rfl, rfl⟩
set_option maxRecDepth 100000 in
theorem next_digit (s : ByteArray) (hlt : 0 < s.size) (h1 : s.size = 1) (hs : digitB s[0] = true) (w : World) :
    Calls Tryz.prog 106 #[.string s, .int .i64 0] w fun e w' => e = .returned (.tuple #[.int .i64 2, .int .i64 1, .int .i64 0]) ∧ Below w.heap.size w w' := by
  have HS := Sh.mk hs
  have HN := Sh.mk (show smallB s[0] = false by
    unfold digitB at hs; unfold smallB
    simp only [Bool.and_eq_true, decide_eq_true_eq] at hs
    rw [Bool.and_eq_false_iff]; left; rw [decide_eq_false_iff_not]; omega)
  have HR := Sh.mk (number_one s hlt h1 hs)
  clear hs h1
  go_enter Tryz.func106, Tryz.ntmps106
  go_wp2_with (first
    | (go_at_call 148; refine (small_calls s[0] _).mono ?_; rw [HN.out]; rintro e w1 ⟨rfl, rfl⟩)
    | (go_at_call 151; refine (digit_calls s[0] _).mono ?_; rw [HS.out]; rintro e w1 ⟨rfl, rfl⟩)
    | (go_at_call 152; refine (HR.out _).mono ?_; rintro e w1 ⟨rfl, rfl⟩))
  go_ret3
  exact ⟨rfl, Below.refl _ _⟩
/-- The tokens of a text of one byte. -/
def WordsPost (w : World) (s : ByteArray) (k : Int) (e : Ending) (w' : World) : Prop :=
  ∃ A c, e = .returned (.tuple #[.slice A 2 c, .int .i64 0, .int .i64 0]) ∧ GRow TokK w' (.slice A 2 c) [⟨k, s, 0, 1⟩, ⟨0, ByteArray.empty, 1, 1⟩] ∧ (∀ b, (Value.slice A 2 c).ownBlock = some b → w.heap.size ≤ b) ∧ Below w.heap.size w w'
def WordsL (w : World) (s : ByteArray) (k : Int) (v5 v6 : Value) (wr : World) : Prop :=
  (v5 = .slice none 0 0 ∧ v6 = .int .i64 0 ∧ wr = w) ∨ (∃ A c, v5 = .slice A 1 c ∧ v6 = .int .i64 1 ∧ GRow TokK wr (.slice A 1 c) [⟨k, s, 0, 1⟩] ∧ (∀ b, (Value.slice A 1 c).ownBlock = some b → w.heap.size ≤ b) ∧ Below w.heap.size w wr)
set_option maxRecDepth 100000 in
theorem Words_one (s : ByteArray) (hlt : 0 < s.size) (h1 : s.size = 1) (k : Int) (hb : blankB s[0] = false) (hc : (((s[0].toNat : Nat) : Int) == 35) = false)
    (hn : ∀ w, Gl w → Calls Tryz.prog 106 #[.string s, .int .i64 0] w fun e w' => e = .returned (.tuple #[.int .i64 k, .int .i64 1, .int .i64 0]) ∧ Below w.heap.size w w') (w : World) (hG : Gl w) :
    Calls Tryz.prog 84 #[.string s] w (WordsPost w s k) := by
  have HN := Sh.mk hn
  have HG := Sh.mk hG
  have HS0 := Sh.mk (fun w => skip_here s 0 hlt hb hc (by omega) w)
  have HS1 : Sh (∀ w, Calls Tryz.prog 105 #[.string s, .int .i64 1] w fun e w' => e = .returned (.int .i64 1) ∧ w' = w) := ⟨fun w => by
    have h := skip_end s (by omega) w
    rw [show ((s.size : Nat) : Int) = 1 by rw [h1]; rfl] at h
    exact h⟩
  have HX : Sh (s.extract 0 1 = s) := ⟨by rw [← h1]; exact ByteArray.extract_zero_size⟩
  have HZ : Sh ((s.size : Int) = 1) := ⟨by rw [h1]; rfl⟩
  have hle : s.size ≤ 1 := by omega
  have hge : 1 ≤ s.size := by omega
  clear hn hG hb hc h1
  go_enter Tryz.func84, Tryz.ntmps84
  go_wp2_with (go_at_call 105; refine (HS0.out _).mono ?_; rintro e w1 ⟨rfl, rfl⟩)
  go_loopw [5, 6] (fun v5 v6 wr => WordsL w1 s k v5 v6 wr) (fun _ v6 _ => 1 - (intOf v6).toNat)
  case atStart => exact .inl ⟨rfl, rfl, rfl⟩
  case round =>
    rcases hrel with ⟨rfl, rfl, rfl⟩ | ⟨A, c, rfl, rfl, hrow, hown, hbel⟩
    · go_wp2_with (first
        | (go_at_call 106; refine (HN.out _ HG.out).mono ?_; rintro e w2 ⟨rfl, hb⟩; have HB := Sh.mk hb; clear hb)
        | (at_builtin; refine append_row TokK_ok rfl (.tmp 27) (.tmp 41) rfl (.slice none 0 0) [] [⟨k, s.extract 0 1, 0, 1⟩] (.slice (some ⟨w2.heap.size, 0, none⟩) 1 1) rfl rfl (GRow.nil _ _) (GRow.lit TokK_ok w2 ⟨k, s.extract 0 1, 0, 1⟩) (by simp) (by simp [TokK]) ?_; intro A9 c9 w9 hI hg hv; have I9 := Sh.mk hI; have G9 := Sh.mk hg; have V9 := Sh.mk hv; clear hI hg hv)
        | (go_at_call 105; refine (HS1.out _).mono ?_; rintro e w3 ⟨rfl, rfl⟩))
      go_roundw
      case rel =>
        have hI := I9.out
        rw [HX.out] at hI
        have hW := HB.out.alloc HB.out.size (.cells #[.int .i64 k, .string (s.extract 0 1), .int .i64 0, .int .i64 1] 124)
        exact .inr ⟨A9, c9, rfl, by simp, hI, grow_own V9.out hW (fun b hb => by simp [Value.ownBlock] at hb), grow_below hW G9.out (fun b hb => by simp [Value.ownBlock] at hb)⟩
      case measure => simp [intOf]
    · go_wp2_with (first
        | (at_builtin; refine append_row TokK_ok rfl (.tmp 48) (.tmp 55) rfl (.slice A 1 c) [⟨k, s, 0, 1⟩] [⟨0, ⟨#[]⟩, (s.size : Int), (s.size : Int)⟩] (.slice (some ⟨wr.heap.size, 0, none⟩) 1 1) rfl rfl (hrow.keep ((Below.refl _ _).alloc (Nat.le_refl _) _)) (GRow.lit TokK_ok wr ⟨0, ⟨#[]⟩, (s.size : Int), (s.size : Int)⟩) (by simp) (by simp [TokK]) ?_; intro A9 c9 w9 hI hg hv; have I9 := Sh.mk hI; have G9 := Sh.mk hg; have V9 := Sh.mk hv; clear hI hg hv))
      go_ret3
      have hI := I9.out
      rw [HZ.out] at hI
      have hW := hbel.alloc hbel.size (.cells #[.int .i64 0, .string ⟨#[]⟩, .int .i64 s.size, .int .i64 s.size] 124)
      exact ⟨A9, c9, rfl, hI, grow_own V9.out hW hown, grow_below hW G9.out hown⟩
end Go.Proofs.YtkfdhmeipnfhpaaGreatDoor
