/- A verdict, read out of memory. -/
import Derived.Test.YtkfdhmeipnfhpaaGreatDoorOpr
import Derived.Test.YtkfdhmeipnfhpaaGreatDoorSlc
import Derived.Lib.LaidTab
set_option linter.unusedVariables false
set_option linter.unusedSimpArgs false
namespace Go.Proofs.YtkfdhmeipnfhpaaGreatDoor
open Go.RowKit Go.ChangeShapes Go.WideShapes

theorem array8 {α : Type} {cs : Array α} (h : cs.size = 8) : ∃ c0 c1 c2 c3 c4 c5 c6 c7, cs = #[c0, c1, c2, c3, c4, c5, c6, c7] := by
  obtain ⟨l⟩ := cs
  match l, h with
  | [c0, c1, c2, c3, c4, c5, c6, c7], _ => exact ⟨c0, c1, c2, c3, c4, c5, c6, c7, rfl⟩
section
variable {H : Type} {enc : TypeId × Value → H} {w : World} {base : Nat} {spare : Nat → Bool} {held : Bool}
set_option maxRecDepth 100000 in
theorem open_span (fuel : Nat) (cs : List Value) (x : DataW H × List MemPlace) (h : DataW.trod enc Tryz.prog w base spare held fuel 23 cs = some x) : ∃ a b : Int, cs = [.int .i64 a, .int .i64 b] := by
  obtain ⟨xs, n, rfl, _, hlen, hxl, hf⟩ := DataW.trod_struct Tryz.underlying23 h
  have hC : Tryz.prog.cellsOf 23 = 2 := by kernel_rfl
  rw [hC] at hlen
  have hx3 : xs.length = 2 := hxl
  match cs, hlen, xs, hx3 with
  | [c0, c1], _, [y0, y1], _ =>
    have h0 := hf 0 _ rfl
    have h1 := hf 1 _ rfl
    have e1 : Tryz.prog.cellsOf 3 = 1 := by kernel_rfl
    simp [e1] at h0 h1
    obtain ⟨a, h0', _, _⟩ := DataW.trod_int Tryz.underlying3 h0
    obtain ⟨b, h1', _, _⟩ := DataW.trod_int Tryz.underlying3 h1
    simp only [List.cons.injEq, and_true] at h0' h1'
    subst h0' h1'
    exact ⟨a, b, rfl⟩
set_option maxRecDepth 100000 in
theorem open_verdict {r : Reach} {b0 : Nat} {v : Value} {d : DataW H} {p : List MemPlace} (hv : Value.okWide Tryz.prog w r b0 27 v) (h : DataW.Trod enc Tryz.prog w base spare held 27 v d p) :
    ∃ (k : Int) (sch : ByteArray) (a b lim : Int) (A5 : Option Addr) (n5 c5 : Nat) (v6 : Value) (l : List (Int × Int)) (st : Int), v = .agg #[.int .i64 k, .string sch, .int .i64 a, .int .i64 b, .int .i64 lim, .slice A5 n5 c5, v6, .int .i64 st] ∧ SpansAt w (fun _ => True) l v6 := by
  have hC : Tryz.prog.cellsOf 27 = 8 := by kernel_rfl
  have hC2 : Tryz.prog.cellsOf 23 = 2 := by kernel_rfl
  obtain ⟨cs, rfl, hsz⟩ := okWide_struct Tryz.underlying27 hv
  obtain ⟨c0, c1, c2, c3, c4, c5, c6, c7, rfl⟩ := array8 (hsz.trans hC)
  obtain ⟨fuel, hf0⟩ := h
  obtain ⟨xs, n, hfu, hx, hlen, hxl, hf⟩ := DataW.trod_struct Tryz.underlying27 hf0
  have hx3 : xs.length = 7 := hxl
  match xs, hx3 with
  | [y0, y1, y2, y3, y4, y5, y6], _ =>
    have h0 := hf 0 _ rfl
    have h1 := hf 1 _ rfl
    have h2 := hf 2 _ rfl
    have h3 := hf 3 _ rfl
    have h4 := hf 4 _ rfl
    have h5 := hf 5 _ rfl
    have h6 := hf 6 _ rfl
    have e1 : Tryz.prog.cellsOf 3 = 1 := by kernel_rfl
    have e2 : Tryz.prog.cellsOf 9 = 1 := by kernel_rfl
    have e3 : Tryz.prog.cellsOf 24 = 1 := by kernel_rfl
    have e4 : Tryz.prog.cellsOf 25 = 1 := by kernel_rfl
    simp [e1, e2, e3, e4, hC2, Value.cells] at h0 h1 h2 h3 h4 h5 h6
    obtain ⟨k, h0', _, _⟩ := DataW.trod_int Tryz.underlying3 h0
    obtain ⟨sch, h1', _, _⟩ := DataW.trod_string Tryz.underlying9 h1
    obtain ⟨a, b, h2'⟩ := open_span _ _ _ h2
    obtain ⟨lim, h3', _, _⟩ := DataW.trod_int Tryz.underlying3 h3
    obtain ⟨A5, n5, m5, h4'⟩ : ∃ A5 n5 m5, [c5] = [Value.slice A5 n5 m5] := by
      rcases DataW.trod_slice Tryz.underlying24 h4 with ⟨e, _⟩ | ⟨q, len, cap, _, _, _, _, e, _⟩
      · exact ⟨_, _, _, e⟩
      · exact ⟨_, _, _, e⟩
    obtain ⟨l, v6, h5', h5''⟩ := open_rows (f := spanD) Tryz.underlying25 hC2 (by omega) h5 (fun n us y _ hy => by
      obtain ⟨a, b, rfl⟩ := open_span _ _ _ hy
      refine ⟨(a, b), ?_⟩
      unfold spanD
      rw [CellsAt_cons]
      refine ⟨_, _, rfl, Dat.raw_at.2 rfl, ?_⟩
      rw [CellsAt_cons]
      exact ⟨_, _, rfl, Dat.raw_at.2 rfl, CellsAt_nil.2 rfl⟩)
    obtain ⟨st, h6', _, _⟩ := DataW.trod_int Tryz.underlying3 h6
    simp only [List.cons.injEq, and_true] at h0' h1' h2' h3' h4' h5' h6'
    obtain ⟨rfl, rfl⟩ := h2'
    subst h0' h1' h3' h4' h5' h6'
    exact ⟨k, sch, a, b, lim, A5, n5, m5, _, l, st, rfl, h5''⟩
end
/-- An array of texts that reads as the table holds the table's texts, cell for cell. -/
theorem strs_of_tab {H : Type} {enc : TypeId × Value → H} {P : Program} {w : World} {base : Nat} {sp : Nat → Bool} {held : Bool} {fuel : Nat} {t e : TypeId} {n : Nat} {cs : List Value} {zs : List (List UInt8)} {p : List MemPlace}
    (ht : P.underlying t = some (.array n e)) (he : P.underlying e = some .string) (hce : P.cellsOf e = 1) (hct : P.cellsOf t = n)
    (h : DataW.trod enc P w base sp held fuel t cs = some ((DataW.agg (zs.map fun z => DataW.lit (Lit.string z)) : DataW H), p)) : ∀ (i : Nat) (z : List UInt8), zs[i]? = some z → cs[i]? = some (Value.string ⟨z.toArray⟩) := by
  intro i z0 hz0
  cases fuel with
  | zero => simp [DataW.trod] at h
  | succ fuel =>
    simp only [DataW.trod, ht, hce, hct, Nat.mul_one] at h
    split at h
    · rename_i hl
      obtain ⟨xs, hm, hx⟩ := Option.map_eq_some_iff.1 h
      have hxs : xs.map (·.1) = zs.map fun z => (DataW.lit (.string z) : DataW H) := by
        have := congrArg Prod.fst hx
        simpa using this
      have hxl : xs.length = n := by simpa using Lib.mapM_length hm
      have hzl : zs.length = n := by
        have := congrArg List.length hxs
        simp at this
        omega
      have hi : i < n := by have := (List.getElem?_eq_some_iff.1 hz0).1; omega
      obtain ⟨b, hb, hf⟩ := Lib.mapM_at hm i i (by simp [hi])
      obtain ⟨s, hc, rfl, _⟩ := DataW.trod_string he hf
      have h1 : cs[i]? = some (.string s) := by
        have := congrArg (·[0]?) hc
        simpa [List.getElem?_take, List.getElem?_drop] using this
      have h2 : (xs.map (·.1))[i]? = some (DataW.lit (.string s.data.toList)) := by simp [hb]
      rw [hxs] at h2
      simp only [List.getElem?_map, Option.map_eq_some_iff, DataW.lit.injEq, Lit.string.injEq] at h2
      obtain ⟨z', hz', rfl⟩ := h2
      rw [hz0] at hz'
      obtain rfl := Option.some.inj hz'
      rw [h1]
    · cases h
end Go.Proofs.YtkfdhmeipnfhpaaGreatDoor
