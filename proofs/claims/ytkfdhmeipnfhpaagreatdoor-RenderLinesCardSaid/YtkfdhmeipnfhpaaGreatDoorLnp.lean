/- RenderLines: the world that meets the row's condition; what the condition gives. -/
import Derived.Test.YtkfdhmeipnfhpaaGreatDoorRows
import Derived.Test.YtkfdhmeipnfhpaaGreatDoorCards
import Derived.Test.YtkfdhmeipnfhpaaGreatDoorTie
import Derived.Test.YtkfdhmeipnfhpaaGreatDoorRll
import Derived.Test.YtkfdhmeipnfhpaaGreatDoorOpv
import Derived.Deep.DeepHandedRow
import Derived.Deep.DeepWitnessRowRef
import Derived.LaidMore
import Derived.LaidHandle
import Derived.MakeChecks
import Derived.Lib.LaidTab
import Derived.Lib.LaidU8
import Derived.Lib.SmallJoins
import Derived.Shelf.Vars
import Derived.WalkKit
import Derived.ProofKit
import Derived.OpenShut
import Derived.ShutString
import Derived.ChangeOld
import Derived.ChangeMaps5
import Derived.JoinedOf
import Derived.Below
namespace Go.Proofs.YtkfdhmeipnfhpaaGreatDoor
open Go.ChangeShapes Go.WideShapes Go.ChangeAt Go.RowKit
set_option linter.unusedVariables false

theorem own_knob : ownKnob Tryz.prog.godebug = none := by kernel_rfl
theorem laid_out : laidOutB Tryz.prog = true := by kernel_rfl
theorem tab_of_reads {P : Program} {W : World} {name : String} {k : IntKind} {zs : List Int} {g : Nat} {t e : TypeId} {n : Nat}
    (hg : P.globalNamed name = some g) (hty : (P.globals[g]?).map (·.type) = some t) (ht : P.underlying t = some (.array n e)) (he : P.underlying e = some (.int k)) (hce : P.cellsOf e = 1) (hct : P.cellsOf t = n)
    (h : Lib.VarReads P W name (Lib.tabData k zs)) : Lib.TabIs P W name k zs := by
  obtain ⟨g', t', cs, fuel, p, hg', ht', hvar, hd⟩ := h
  obtain rfl := Option.some.inj (hg.symm.trans hg')
  obtain rfl := Option.some.inj (hty.symm.trans ht')
  have := Lib.cells_of_tab ht he hce hct hd
  unfold Lib.TabIs
  rw [hvar]
  congr 1
  rw [← this]
/-- The cells of a table. -/
def flat : Nat → DataW Unit → List Value
  | 0, _ => []
  | n + 1, .lit (.int k z) => [.int k z]
  | n + 1, .lit (.string bs) => [.string ⟨bs.toArray⟩]
  | n + 1, .agg ds => ds.flatMap (flat n)
  | _, _ => []
/-- The witness: the settled world with four blocks more (two errors' texts; unicode.White_Space's ranges, its table), the listed variables holding what their initialisers lay. -/
noncomputable def laidWorld (os : Os) : World :=
  let N := (World.settled Tryz.prog os).heap.size
  let w0 := World.holding Tryz.prog os ⟨#[.cells #[.string ⟨#[118, 97, 108, 117, 101, 32, 111, 117, 116, 32, 111, 102, 32, 114, 97, 110, 103, 101]⟩] 409, .cells #[.string ⟨#[105, 110, 118, 97, 108, 105, 100, 32, 115, 121, 110, 116, 97, 120]⟩] 409,
    .cells (Lib.whiteT.map fun (z : Nat) => Value.int .u16 (z : Int)).toArray 368, .cells #[.slice (some ⟨N + 2, 0, none⟩) 7 7, .slice none 0 0, .int .i64 2] 365], #[], []⟩
  let put (h : Array Obj) (g : Nat) (cs : Array Value) : Array Obj := h.modify g fun
    | .cells _ t frozen => .cells cs t frozen
    | o => o
  let h1 := put w0.heap 0 (flat 3 Rows.laid_pangram_render_limits).toArray
  let h2 := put h1 2 (flat 3 Rows.laid_internal_strconv_uint64pow10).toArray
  let h3 := put h2 3 (flat 3 Rows.laid_unicode_utf8_first).toArray
  let h4 := put h3 4 (flat 3 Rows.laid_unicode_utf8_acceptRanges).toArray
  let h5 := put h4 5 (flat 3 Rows.laid_math_bits_deBruijn32tab).toArray
  let h6 := put h5 6 (flat 3 Rows.laid_math_bits_deBruijn64tab).toArray
  let h7 := put h6 7 (flat 3 Rows.laid_strings_asciiSpace).toArray
  let h8 := put h7 8 #[.pointer (some ⟨N + 3, 0, none⟩)]
  let h9 := put h8 9 #[.iface 407 (.pointer (some ⟨N + 1, 0, none⟩))]
  let h10 := put h9 10 #[.iface 407 (.pointer (some ⟨N, 0, none⟩))]
  { w0 with heap := h10 }
/-- Places in runs: within a block they rise; no block comes again. -/
def runs : Nat → Nat → List Nat → List (Nat × Nat) → Bool
  | _, _, _, [] => true
  | cb, co, seen, (b, o) :: r => if b == cb then decide (co < o) && runs cb o seen r else !seen.contains b && runs b o (cb :: seen) r
theorem runs_nodup : ∀ (l : List (Nat × Nat)) (cb co : Nat) (seen : List Nat), cb ∉ seen → runs cb co seen l = true → l.Nodup ∧ ∀ x ∈ l, x.1 ∉ seen ∧ (x.1 = cb → co < x.2)
  | [], _, _, _, _, _ => ⟨List.nodup_nil, fun x hx => by cases hx⟩
  | (b, o) :: r, cb, co, seen, hs, h => by
    unfold runs at h
    split at h
    · rename_i hb
      have hb' : b = cb := by simpa using hb
      subst hb'
      simp only [Bool.and_eq_true, decide_eq_true_eq] at h
      obtain ⟨h1, h2⟩ := runs_nodup r b o seen hs h.2
      refine ⟨List.nodup_cons.2 ⟨fun hm => absurd ((h2 _ hm).2 rfl) (Nat.lt_irrefl _), h1⟩, fun x hx => ?_⟩
      rcases List.mem_cons.1 hx with rfl | hx
      · exact ⟨hs, fun _ => h.1⟩
      · exact ⟨(h2 x hx).1, fun e => Nat.lt_trans h.1 ((h2 x hx).2 e)⟩
    · rename_i hb
      have hb' : b ≠ cb := by simpa using hb
      simp only [Bool.and_eq_true, Bool.not_eq_true', List.contains_eq_mem, decide_eq_false_iff_not] at h
      have hs2 : b ∉ cb :: seen := by simp [hb', h.1]
      obtain ⟨h1, h2⟩ := runs_nodup r b o (cb :: seen) hs2 h.2
      refine ⟨List.nodup_cons.2 ⟨fun hm => absurd ((h2 _ hm).2 rfl) (Nat.lt_irrefl _), h1⟩, fun x hx => ?_⟩
      rcases List.mem_cons.1 hx with rfl | hx
      · exact ⟨h.1, fun e => absurd e hb'⟩
      · have := (h2 x hx).1
        simp only [List.mem_cons, not_or] at this
        exact ⟨this.2, fun e => absurd e this.1⟩
def spot : MemPlace → Nat × Nat
  | .cell b o => (b, o)
  | .map b => (b, 0)
theorem laidMet_of_runs {P : Program} {w : World} {l : List (String × DataW Unit)} (fuel : Nat) (h : (DataW.laidRun P w fuel (l.map (·.1))).map (·.1) = some l)
    (hn : (DataW.laidRun P w fuel (l.map (·.1))).map (fun x => runs 1000000 0 [] (x.2.map spot)) = some true) (hr : (DataW.laidRun P w fuel (l.map (·.1))).map (fun x => laidRowsB P w x.2) = some true) : laidMet P l w := by
  refine laidMet_of_run' fuel h ?_
  cases hx : DataW.laidRun P w fuel (l.map (·.1)) with
  | none => rw [hx] at hn; cases hn
  | some x =>
    rw [hx] at hn hr
    simp only [Option.map_some, Option.some.injEq] at hn hr ⊢
    have h1 := (runs_nodup _ _ _ _ (by simp) hn).1
    have h2 : x.2.Nodup := List.Pairwise.of_map spot (fun a b hne e => hne (by rw [e])) h1
    rw [hr, Bool.and_true]
    exact decide_eq_true h2
theorem laid_a (os : Os) (args : Array Value) : (Rows.renderLinesRow.laid.filter fun x => x.2.handleName?.isSome && x.2.funcsIn?.isNone).all (handleAtB Tryz.prog ((laidWorld os).forCall (fun _ _ => 0) ⟨#[], args, []⟩).memory) = true := by kernel_rfl
theorem laid_b (os : Os) (args : Array Value) : funcsRun Tryz.prog ((laidWorld os).forCall (fun _ _ => 0) ⟨#[], args, []⟩).memory 10 ((funcsListed Rows.renderLinesRow.laid).map (·.1)) = some ((funcsListed Rows.renderLinesRow.laid).map (·.2.funcsOut)) := by kernel_rfl
theorem laid_c (os : Os) (args : Array Value) : (DataW.laidRun Tryz.prog ((laidWorld os).forCall (fun _ _ => 0) ⟨#[], args, []⟩).memory 10 ((Rows.renderLinesRow.laid.filter fun x => x.2.handleName?.isNone).map (·.1))).map (·.1) = some (Rows.renderLinesRow.laid.filter fun x => x.2.handleName?.isNone) := by kernel_rfl
theorem laid_d (os : Os) (args : Array Value) : (DataW.laidRun Tryz.prog ((laidWorld os).forCall (fun _ _ => 0) ⟨#[], args, []⟩).memory 10 ((Rows.renderLinesRow.laid.filter fun x => x.2.handleName?.isNone).map (·.1))).map (fun x => runs 1000000 0 [] (x.2.map spot)) = some true := by kernel_rfl
theorem laid_e (os : Os) (args : Array Value) : (DataW.laidRun Tryz.prog ((laidWorld os).forCall (fun _ _ => 0) ⟨#[], args, []⟩).memory 10 ((Rows.renderLinesRow.laid.filter fun x => x.2.handleName?.isNone).map (·.1))).map (fun x => laidRowsB Tryz.prog ((laidWorld os).forCall (fun _ _ => 0) ⟨#[], args, []⟩).memory x.2) = some true := by kernel_rfl
theorem laid_met (os : Os) (args : Array Value) : laidMetH Tryz.prog Rows.renderLinesRow.laid ((laidWorld os).forCall (fun _ _ => 0) ⟨#[], args, []⟩).memory :=
  laidMetH_of_parts3 (fuel := 10) (laidMet_of_runs 10 (laid_c os args) (laid_d os args) (laid_e os args)) (laid_a os args) (laid_b os args)
theorem witness_row (os : Os) {H : Type} (enc : TypeId × Value → H) :
    (OpenSpec.ofChange Rows.renderLinesSpec).preRow enc Tryz.prog Tryz.f3 Rows.renderLinesRow.domain false Rows.renderLinesRow.laid ((laidWorld os).forCall (fun _ _ => 0) ⟨#[], #[.string ⟨#[]⟩, .agg #[.int .i64 0, .string ⟨#[]⟩, .int .i64 0, .int .i64 0, .int .i64 0, .slice none 0 0, .slice none 0 0, .int .i64 0]], []⟩).memory #[.string ⟨#[]⟩, .agg #[.int .i64 0, .string ⟨#[]⟩, .int .i64 0, .int .i64 0, .int .i64 0, .slice none 0 0, .slice none 0 0, .int .i64 0]] := by
  have hw : (DataW.whole enc Tryz.prog ((laidWorld os).forCall (fun _ _ => 0) ⟨#[], #[.string ⟨#[]⟩, .agg #[.int .i64 0, .string ⟨#[]⟩, .int .i64 0, .int .i64 0, .int .i64 0, .slice none 0 0, .slice none 0 0, .int .i64 0]], []⟩).memory Tryz.f3.params.toList Rows.renderLinesSpec.vars false #[Value.string ⟨#[]⟩, .agg #[.int .i64 0, .string ⟨#[]⟩, .int .i64 0, .int .i64 0, .int .i64 0, .slice none 0 0, .slice none 0 0, .int .i64 0]].toList 8).map (fun x => (x.1, x.2.1)) =
      some ([.lit (.string []), .agg [.lit (.int .i64 0), .lit (.string []), .agg [.lit (.int .i64 0), .lit (.int .i64 0)], .lit (.int .i64 0), .nil, .nil, .lit (.int .i64 0)]], []) := by kernel_rfl
  obtain ⟨⟨x1, x2, x3⟩, hx, hx1⟩ := Option.map_eq_some_iff.1 hw
  simp only [Prod.mk.injEq] at hx1
  obtain ⟨rfl, rfl⟩ := hx1
  exact OpenSpec.preRow_of_cond 8 hx (by kernel_rfl) (fun k hk => by cases hk) (by kernel_rfl) (laid_met os _)
theorem gAscii : Tryz.prog.globalNamed "strings.asciiSpace" = some 7 := by kernel_rfl
theorem gPow : Tryz.prog.globalNamed "internal/strconv.uint64pow10" = some 2 := by kernel_rfl
theorem tAscii : (Tryz.prog.globals[7]?).map (·.type) = some 149 := by kernel_rfl
theorem tPow : (Tryz.prog.globals[2]?).map (·.type) = some 146 := by kernel_rfl
theorem asciiD : Rows.laid_strings_asciiSpace (H := Unit) = Lib.tabData .u8 Lib.asciiSpaceTab := by kernel_rfl
theorem powD : Rows.laid_internal_strconv_uint64pow10 (H := Unit) = Lib.tabData .u64 Lib.pow10Tab := by kernel_rfl
/-- What the row's condition gives the walk. -/
theorem gl_of_laid {W : World} (h : laidMetH Tryz.prog Rows.renderLinesRow.laid W) : Gl W := by
  rw [MakeChecks.laidMetH_plain _ _ _ (by kernel_rfl)] at h
  refine ⟨?_, ?_⟩
  · exact tab_of_reads gAscii tAscii Tryz.underlying149 Tryz.underlying5 (by kernel_rfl) (by kernel_rfl) (asciiD ▸ Lib.laidMet.reads h (by simp [Rows.renderLinesRow]))
  · exact tab_of_reads gPow tPow Tryz.underlying146 Tryz.underlying93 (by kernel_rfl) (by kernel_rfl) (powD ▸ Lib.laidMet.reads h (by simp [Rows.renderLinesRow]))
theorem gLims : Tryz.prog.globalNamed "pangram/render.limits" = some 0 := by kernel_rfl
theorem tLims : (Tryz.prog.globals[0]?).map (·.type) = some 61 := by kernel_rfl
theorem limsD : Rows.laid_pangram_render_limits (H := Unit) = .agg ([[], [98, 121, 116, 101, 115], [100, 101, 112, 116, 104], [101, 113, 117, 97, 116, 105, 111, 110, 115], [115, 105, 122, 101]].map fun z => DataW.lit (Lit.string z)) := by kernel_rfl
theorem lims_of_laid {W : World} (h : laidMetH Tryz.prog Rows.renderLinesRow.laid W) : LimsAt W := by
  rw [MakeChecks.laidMetH_plain _ _ _ (by kernel_rfl)] at h
  have hr := Lib.laidMet.reads h (n := "pangram/render.limits") (d := Rows.laid_pangram_render_limits) (by simp [Rows.renderLinesRow])
  obtain ⟨g', t', cs, fuel, p, hg', ht', hvar, hd⟩ := hr
  obtain rfl := Option.some.inj (gLims.symm.trans hg')
  obtain rfl := Option.some.inj (tLims.symm.trans ht')
  rw [limsD] at hd
  have hs := strs_of_tab Tryz.underlying61 Tryz.underlying9 (by kernel_rfl) (by kernel_rfl) hd
  have hc : ∀ (i : Nat) (z : List UInt8), ([[], [98, 121, 116, 101, 115], [100, 101, 112, 116, 104], [101, 113, 117, 97, 116, 105, 111, 110, 115], [115, 105, 122, 101]] : List (List UInt8))[i]? = some z → W.cell? ⟨0, i, none⟩ = some (.string ⟨z.toArray⟩) := fun i z hz => by
    have h1 := hs i z hz
    rw [World.var?_cell gLims hvar i]
    simpa using h1
  refine ⟨hc 1 _ rfl, hc 2 _ rfl, hc 3 _ rfl, hc 4 _ rfl, ?_⟩
  have h1 := hc 1 _ rfl
  exact cell_lt h1
end Go.Proofs.YtkfdhmeipnfhpaaGreatDoor
