/- Package strings: the builder's WriteString, WriteByte and String (the shelf's contracts at this program's numbers). -/
import Derived.Test.YtkfdhmeipnfhpaaGreatDoorShlg
import Derived.Test.YtkfdhmeipnfhpaaGreatDoorObj
import Derived.Test.YtkfdhmeipnfhpaaGreatDoorRk
import Derived.Shelf.Strings.BuilderK
set_option linter.unusedVariables false
set_option linter.unusedSimpArgs false
namespace Go.Proofs.YtkfdhmeipnfhpaaGreatDoor
open Go.RowKit Go.Shelf

/-- The builder at block b holds bytes. -/
def Bld (B b : Nat) (l : List UInt8) (w : World) : Prop := Lib.IsBuilderF 48 5 B b (Lib.byteCells l) w
/-- All that is no row of bytes, but block b, stands as it stood. -/
def Kept (b : Nat) (w w' : World) : Prop := Lib.OthersKept 5 (some b) w w'
def ren167 : Go.Shelf.Ren := ⟨fun | 167 => 27 | n => Tryz.lays105_ren.f n, Tryz.lays105_ren.t, Tryz.lays105_ren.g⟩
theorem lays167 : Go.Proofs.Lays.n167 Tryz.prog ren167 := { Tryz.lays105 with
  f167 := Tryz.func27.trans (congrArg some (by kernel_rfl))
  f240 := Tryz.func40.trans (congrArg some (by kernel_rfl))
  f276 := Tryz.lays105.f276.trans (congrArg some (by kernel_rfl)) }
theorem extra167 : Builder.Extra Tryz.prog ren167 := {
  sizeBuilder := by kernel_rfl
  liesBuilder := by kernel_rfl
  t5 := Tryz.underlying5
  a5 := Tryz.isAgg5
  z5 := Tryz.sizeOf5
  v5 := Tryz.zeroValue5
  infoByte := by kernel_rfl
  cellsByte := by kernel_rfl
  sizeByte := by kernel_rfl
  neB5 := by decide }
theorem WriteString_calls (B b : Nat) (l : List UInt8) (s : ByteArray) (w : World) (h : Bld B b l w) (hlen : l.length + s.size ≤ 140737488355328) (hBw : B ≤ w.heap.size) :
    Calls Tryz.prog 26 #[.pointer (some ⟨b, 0, none⟩), .string s] w fun e w' => e = .returned (.tuple #[.int .i64 s.size, .nilIface]) ∧ Bld B b (l ++ s.data.toList) w' ∧ Below B w w' ∧ Kept b w w' := by
  refine (Any.Builder_WriteString_k (P := Tryz.prog) (ρ := Tryz.lays105_ren) { Tryz.lays105 with } Tryz.Builder_Extra_105 B b (Lib.byteCells l) s w h (by rw [Lib.byteCells_length]; exact hlen) hBw).mono ?_
  rintro e w' ⟨rfl, h1, h2, h3⟩
  refine ⟨rfl, .inr ?_, h2, h3⟩
  have e : Lib.byteCells (l ++ s.data.toList) = Lib.byteCells l ++ Lib.strCells s := by unfold Lib.byteCells Lib.strCells; rw [List.map_append]
  rw [e]
  exact h1
theorem WriteByte_calls (B b : Nat) (l : List UInt8) (c : UInt8) (w : World) (h : Bld B b l w) (hlen : l.length + 1 ≤ 140737488355328) (hBw : B ≤ w.heap.size) :
    Calls Tryz.prog 27 #[.pointer (some ⟨b, 0, none⟩), .int .u8 c.toNat] w fun e w' => e = .returned .nilIface ∧ Bld B b (l ++ [c]) w' ∧ Below B w w' ∧ Kept b w w' := by
  refine (Any.Builder_WriteByte_k (P := Tryz.prog) (ρ := ren167) lays167 extra167 B b (Lib.byteCells l) c.toNat w h (by rw [Lib.byteCells_length]; exact hlen) hBw).mono ?_
  rintro e w' ⟨rfl, h1, h2, h3⟩
  refine ⟨rfl, .inr ?_, h2, h3⟩
  have e : Lib.byteCells (l ++ [c]) = Lib.byteCells l ++ [.int .u8 c.toNat] := by unfold Lib.byteCells; rw [List.map_append]; rfl
  rw [e]
  exact h1
theorem String_calls (B b : Nat) (l : List UInt8) (w : World) (h : Bld B b l w) (hBw : B ≤ w.heap.size) :
    Calls Tryz.prog 28 #[.pointer (some ⟨b, 0, none⟩)] w fun e w' => e = .returned (.string ⟨l.toArray⟩) ∧ Bld B b l w' ∧ Below B w w' ∧ Kept b w w' :=
  Any.Builder_String_any_k (P := Tryz.prog) (ρ := Tryz.lays169_ren) Tryz.lays169 Tryz.Builder_Extra_169 B b l w h hBw
/-- A new builder. -/
theorem Bld.new {w : World} {b B : Nat} (h : Blk w b 48 [.pointer none, .slice none 0 0]) (hB : B ≤ b) : Bld B b [] w :=
  .inl ⟨hB, .slice none 0 0, h, World.ownsRowF_of ⟨rfl, .inl ⟨rfl, rfl⟩⟩, by simp [Value.ownBlock]⟩
theorem GRow.kept {α : Type} {K : RK α} {w w' : World} {v : Value} {xs : List α} {b : Nat} (h : GRow K w v xs) (hk : Kept b w w') (hb : v.ownBlock ≠ some b) (ht : K.t ≠ 5) : GRow K w' v xs := by
  refine h.step (fun k hv => ?_)
  rcases h.2 with ⟨rfl, _⟩ | ⟨g, cap, cur, rfl, _, hh, _⟩
  · simp [Value.ownBlock] at hv
  · have : g = k := by simpa [Value.ownBlock] using hv
    subst this
    rw [hh]
    exact hk g _ hh (fun e => hb (by simpa [Value.ownBlock] using e)) (fun c fz e => by injection e with _ e; exact ht e)
end Go.Proofs.YtkfdhmeipnfhpaaGreatDoor
