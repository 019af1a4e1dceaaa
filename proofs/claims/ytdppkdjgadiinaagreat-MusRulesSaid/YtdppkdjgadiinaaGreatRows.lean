/-
  NARROWER THAN 'FOR EVERY INPUT', by the rows' own cells (each row's printed sentence says how): MusFirst: loops · MusRules: loops.
  DERIVED. THE GIVEN ROWS OF THIS SEAT. 2 by the template 'for every input the law returns true; each argument reads behind the call as it read before'; 0 by the template 'total and deterministic' (their statements: YtdppkdjgadiinaaGreatTotals.lean).
  GIVEN WITH THE SEED: the statements are not yours to turn. If you find one false, say at which input.
  Laid BY PROGRAM, IN A SANDBOX (cutbox-rows.mjs): the forced cells as the released guide's own fill.sh prints them over the translation f51e093b3fe3f82c… (all of the seat's roots in one cut). By AI agents, Wed Nov 11 2026. No macro, syntax, notation, axiom, sorry.
-/
import Derived.Test.YtdppkdjgadiinaaGreatChecked
import GoSem.Claim
import GoSem.ClaimJoined
import GoSem.ClaimMapViews
import Derived.JoinedTies
import Derived.KernelRfl
namespace Go.Proofs.YtdppkdjgadiinaaGreat
/- THE CELL 'sum', in the pinned program and in every row, IS THE sha256 OF THE DUMP (.gsa) THAT YtdppkdjgadiinaaGreatProg.lean LOADS. Nothing in Lean hashes anything: it is a label: what it is worth is what the hold of that sum in a sandbox is worth. -/
noncomputable def Tryz.pinned : Pinned := { name := "ytdppkdjgadiinaagreat", sum := "f51e093b3fe3f82c8f546521ab47483fea9a591659673eb3d3dceb2bfa4f964a", checked := Tryz.checked }
namespace Rows
def none {H : Type} : Left H := { results := [], args := [] }

/-- 'pangramlaw19.MusFirst': WHATEVER THE INPUT: true; the input reads as it did. -/
def musFirstSpec : ChangeSpec := { name := "musFirst", fn := fun _ => fun
  | [d] => { results := [.lit (.bool true)], args := [d] }
  | _ => none }
def musFirstRow : OpenClaim := { program := "ytdppkdjgadiinaagreat", sum := "f51e093b3fe3f82c8f546521ab47483fea9a591659673eb3d3dceb2bfa4f964a", func := "pangram/pangramlaw19.MusFirst", spec := "musFirst", unfollowed := true, recurses := true, loops := true, apart := false }
def MusFirstSaid : Prop := musFirstRow.holds Tryz.pinned (OpenSpec.ofChange musFirstSpec)

/-- ITS FALSE NEIGHBOUR: 'it returns false'. Refute it at one input. -/
def musFirstWrong : ChangeSpec := { name := "musFirst", fn := fun _ => fun
  | [d] => { results := [.lit (.bool false)], args := [d] }
  | _ => none }
def MusFirstWrongFalsely : Prop := musFirstRow.holds Tryz.pinned (OpenSpec.ofChange musFirstWrong)

/-- 'pangramlaw19.MusRules': WHATEVER THE INPUT: true; the input reads as it did. -/
def musRulesSpec : ChangeSpec := { name := "musRules", fn := fun _ => fun
  | [d] => { results := [.lit (.bool true)], args := [d] }
  | _ => none }
def musRulesRow : OpenClaim := { program := "ytdppkdjgadiinaagreat", sum := "f51e093b3fe3f82c8f546521ab47483fea9a591659673eb3d3dceb2bfa4f964a", func := "pangram/pangramlaw19.MusRules", spec := "musRules", unfollowed := true, recurses := true, loops := true, apart := false }
def MusRulesSaid : Prop := musRulesRow.holds Tryz.pinned (OpenSpec.ofChange musRulesSpec)

/-- ITS FALSE NEIGHBOUR: 'it returns false'. Refute it at one input. -/
def musRulesWrong : ChangeSpec := { name := "musRules", fn := fun _ => fun
  | [d] => { results := [.lit (.bool false)], args := [d] }
  | _ => none }
def MusRulesWrongFalsely : Prop := musRulesRow.holds Tryz.pinned (OpenSpec.ofChange musRulesWrong)

/- THE SECOND FORM. 'bulk': how many values and letters a reading holds, each counted each time it is reached (what is shared counts as often as it is met; a slice's spare places count too). A statement '..UptoSaid' is the law's where the arguments, and the package variables that the reading takes, are together of bulk at most 1048576: NARROWER than '..Said'. Prove '..Said' where nothing that the law and all that it calls make is longer than what came in: it says more and counts as full. Else prove '..UptoSaid'. A law counts once. -/
mutual
def uptoBulk {H : Type} : DataW H → Nat
  | .lit (.string bytes) => bytes.length + 1
  | .lit _ => 1
  | .nil => 1
  | .ptr d => uptoBulk d + 1
  | .slice elems spare => uptoBulkAll elems + uptoBulkAll spare + 1
  | .agg parts => uptoBulkAll parts + 1
  | .iface _ d => uptoBulk d + 1
  | .map entries => uptoBulkEntries entries + 1
  | .held _ => 1
def uptoBulkAll {H : Type} : List (DataW H) → Nat
  | [] => 0
  | d :: r => uptoBulk d + uptoBulkAll r
def uptoBulkEntries {H : Type} : List (Lit × DataW H) → Nat
  | [] => 0
  | x :: r => uptoBulkEntry x + uptoBulkEntries r
def uptoBulkEntry {H : Type} : Lit × DataW H → Nat
  | (.string bytes, d) => bytes.length + uptoBulk d + 1
  | (_, d) => uptoBulk d + 1
 end
def uptoSmall : (H : Type) → List (DataW H) → Bool := fun _ ds => decide (uptoBulkAll ds ≤ 1048576)
def OpenSpec.upto (s : _root_.Go.ChangeSpec) : _root_.Go.OpenSpec := { _root_.Go.OpenSpec.ofChange s with cond := some uptoSmall }

/-- 'pangramlaw19.MusFirst', WHERE WHAT IT READS IS OF BULK AT MOST 1048576: true; the input reads as it did. -/
def musFirstUptoRow : OpenClaim := { program := "ytdppkdjgadiinaagreat", sum := "f51e093b3fe3f82c8f546521ab47483fea9a591659673eb3d3dceb2bfa4f964a", func := "pangram/pangramlaw19.MusFirst", spec := "musFirst", unfollowed := true, recurses := true, loops := true, apart := false, narrowed := true }
def MusFirstUptoSaid : Prop := musFirstUptoRow.holds Tryz.pinned (OpenSpec.upto musFirstSpec)

/-- 'pangramlaw19.MusRules', WHERE WHAT IT READS IS OF BULK AT MOST 1048576: true; the input reads as it did. -/
def musRulesUptoRow : OpenClaim := { program := "ytdppkdjgadiinaagreat", sum := "f51e093b3fe3f82c8f546521ab47483fea9a591659673eb3d3dceb2bfa4f964a", func := "pangram/pangramlaw19.MusRules", spec := "musRules", unfollowed := true, recurses := true, loops := true, apart := false, narrowed := true }
def MusRulesUptoSaid : Prop := musRulesUptoRow.holds Tryz.pinned (OpenSpec.upto musRulesSpec)

end Rows
end Go.Proofs.YtdppkdjgadiinaaGreat
