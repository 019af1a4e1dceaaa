/- Maps with whole numbers as keys. -/
import Derived.Test.YtdppkdjgadiinaaGreatUnion
import Derived.Maps.OwnSet
import Derived.MapKept
set_option linter.unusedVariables false
set_option linter.unusedSimpArgs false
namespace Go.Proofs.YtdppkdjgadiinaaGreat
open Go.RowKit

section
variable {α : Type}
def midx : List (Int × α) → Int → Option (Nat × α)
  | [], _ => none
  | p :: r, k => if p.1 = k then some (0, p.2) else (midx r k).map fun x => (x.1 + 1, x.2)
def mget (l : List (Int × α)) (k : Int) : Option α := (midx l k).map (·.2)
def mput : List (Int × α) → Int → α → List (Int × α)
  | [], k, v => [(k, v)]
  | p :: r, k, v => if p.1 = k then (k, v) :: r else p :: mput r k v
theorem mget_nil (k : Int) : mget ([] : List (Int × α)) k = none := rfl
theorem mget_cons (p : Int × α) (r : List (Int × α)) (k : Int) : mget (p :: r) k = if p.1 = k then some p.2 else mget r k := by
  unfold mget
  rw [midx]
  split
  · rfl
  · rw [Option.map_map]; rfl
theorem mget_mput (k j : Int) (v : α) : ∀ l : List (Int × α), mget (mput l k v) j = if k = j then some v else mget l j
  | [] => by rw [mput, mget_cons, mget_nil]
  | p :: r => by
    rw [mput]
    split
    · rename_i h
      rw [mget_cons, mget_cons]
      simp only
      split
      · rfl
      · rename_i h2
        rw [if_neg (by rw [h]; exact h2)]
    · rename_i h
      rw [mget_cons, mget_mput k j v r, mget_cons]
      by_cases h1 : p.1 = j
      · rw [if_pos h1, if_pos h1, if_neg (by rw [← h1]; exact fun e => h e.symm)]
      · rw [if_neg h1, if_neg h1]
theorem mput_keys (k : Int) (v : α) : ∀ l : List (Int × α), (mput l k v).map (·.1) = if k ∈ l.map (·.1) then l.map (·.1) else l.map (·.1) ++ [k]
  | [] => by simp [mput]
  | p :: r => by
    rw [mput]
    split
    · rename_i h
      simp [h]
    · rename_i h
      rw [List.map_cons, mput_keys k v r, List.map_cons]
      by_cases h2 : k ∈ r.map (·.1)
      · rw [if_pos h2, if_pos (List.mem_cons_of_mem _ h2)]
      · rw [if_neg h2, if_neg (by simp only [List.mem_cons, not_or]; exact ⟨fun e => h e.symm, h2⟩)]
        rfl
theorem mget_none (k : Int) : ∀ l : List (Int × α), mget l k = none ↔ k ∉ l.map (·.1)
  | [] => by simp [mget_nil]
  | p :: r => by
    rw [mget_cons, List.map_cons, List.mem_cons, not_or]
    split
    · rename_i h
      simp [h]
    · rename_i h
      rw [mget_none k r]
      exact ⟨fun h2 => ⟨fun e => h e.symm, h2⟩, fun h2 => h2.2⟩

end

/-- Block m is a map from whole numbers: these entries, in the order in which they came. -/
def MapAt {α : Type} (enc : α → Value) (w : World) (m : Nat) (l : List (Int × α)) : Prop := ∃ es clock, w.heap[m]? = some (.map es clock) ∧ es.toList.map (fun e => (e.key, e.val)) = (l.map fun p => (Value.int .i64 p.1, enc p.2)) ∧ Go.MapKept.Stamped es clock
theorem MapAt.lt {α : Type} {enc : α → Value} {w : World} {m : Nat} {l : List (Int × α)} (h : MapAt enc w m l) : m < w.heap.size := by
  obtain ⟨es, c, h, _⟩ := h
  exact heap_lt h
theorem MapAt.step {α : Type} {enc : α → Value} {w w' : World} {m : Nat} {l : List (Int × α)} (h : MapAt enc w m l) (e : w'.heap[m]? = w.heap[m]?) : MapAt enc w' m l := by
  obtain ⟨es, c, h, h2⟩ := h
  exact ⟨es, c, e.trans h, h2⟩
theorem MapAt.new {α : Type} (enc : α → Value) (w : World) : MapAt enc (w.alloc (.map #[] 0)) w.heap.size [] := ⟨#[], 0, heap_alloc_new w _, rfl, Go.MapKept.stamped_empty 0⟩
/-- A map is no row of cells. -/
theorem MapAt.ne_blk {α : Type} {enc : α → Value} {w : World} {m g : Nat} {l : List (Int × α)} {t : TypeId} {cs : List Value} (h : MapAt enc w m l) (hb : Blk w g t cs) : m ≠ g := by
  rintro rfl
  obtain ⟨es, c, h, _⟩ := h
  unfold Blk at hb
  rw [h] at hb
  cases hb
theorem MapAt.ne_own {α : Type} {enc : α → Value} {w : World} {m base e sz n : Nat} {l : List (Int × α)} {v : Value} {xs : List Value} (h : MapAt enc w m l) (ho : w.ownsRow base e sz v n xs) : v.ownBlock ≠ some m := by
  obtain ⟨es, c, h, _⟩ := h
  rcases ho.2 with ⟨rfl, _⟩ | ⟨g, cap, cur, rfl, _, hh, _⟩
  · simp [Value.ownBlock]
  · intro e
    have : g = m := by simpa [Value.ownBlock] using e
    subst this
    rw [h] at hh
    cases hh
theorem findNow_is {α : Type} (enc : α → Value) (k : Int) : ∀ (es : List MapEntry) (l : List (Int × α)) (i : Nat), es.map (fun e => (e.key, e.val)) = l.map (fun p => (Value.int .i64 p.1, enc p.2)) →
    Instr.findNow (.int .i64) (.int .i64 k) es i = some ((midx l k).map fun x => (i + x.1, enc x.2))
  | [], [], i, _ => rfl
  | [], p :: r, i, h => by simp at h
  | e :: es, [], i, h => by simp at h
  | e :: es, p :: r, i, h => by
    simp only [List.map_cons, List.cons.injEq, Prod.mk.injEq] at h
    obtain ⟨⟨h1, h2⟩, h3⟩ := h
    rw [Instr.findNow, h1]
    simp only [Instr.sameNow, if_true]
    rw [midx]
    by_cases hk : k = p.1
    · have : (k == p.1) = true := by simp [hk]
      rw [this, if_pos hk.symm, h2]
      rfl
    · have : (k == p.1) = false := by simp [hk]
      rw [this, if_neg (fun e => hk e.symm)]
      simp only
      rw [findNow_is enc k es r (i + 1) h3]
      congr 1
      rw [Option.map_map]
      congr 1
      funext x
      simp only [Function.comp]
      rw [show i + 1 + x.1 = i + (x.1 + 1) from by omega]
section
variable {α : Type} {enc : α → Value} {P : Program} {w : World} {m : Nat} {l : List (Int × α)} {t kt et : TypeId} {z : Value}
theorem isKey_int (k : Int) : Go.MapKept.IsKey (.int .i64) (.int .i64 k) := by trivial
theorem lookup_run (h : MapAt enc w m l) (ht : P.underlying t = some (.map kt et)) (hk : P.underlying kt = some (.int .i64)) (hz : ∀ w, (zeroValue et).run P w = .ok z w) (k : Int) (ok : Bool) :
    (Instr.lookup t (.map (some m)) (.int .i64 k) ok).run P w = .ok (if ok then .tuple #[((mget l k).map enc).getD z, .bool (mget l k).isSome] else ((mget l k).map enc).getD z) w := by
  obtain ⟨es, c, hb, hl, hst⟩ := h
  have h1 : (Instr.checkKey es.isEmpty 10000 kt (.int .i64 k)).run P w = .ok () w := Go.MapKept.run_checkKey (n := 9999) hk (isKey_int k) _
  have h2 := Go.MapKept.run_findKey (w := w) hk (findNow_is enc k es.toList l 0 hl)
  unfold Instr.lookup
  simp only [Sem.run_bind, run_underlying ht, Result.andThen_ok, Go.MapKept.run_getObj_map hb, Sem.run_pure, h1, h2]
  unfold mget
  cases hm : midx l k with
  | none => cases ok <;> simp [hz]
  | some x => cases ok <;> simp
end
theorem mput_some {α : Type} (k : Int) (v x : α) : ∀ (l : List (Int × α)) (i : Nat), midx l k = some (i, x) → mput l k v = l.set i (k, v) ∧ (l[i]?).map (·.1) = some k
  | [], i, h => by simp [midx] at h
  | p :: r, i, h => by
    rw [midx] at h
    rw [mput]
    split at h
    · rename_i hp
      simp only [Option.some.injEq, Prod.mk.injEq] at h
      obtain ⟨rfl, rfl⟩ := h
      rw [if_pos hp]
      exact ⟨rfl, by simp [hp]⟩
    · rename_i hp
      rw [if_neg hp]
      obtain ⟨y, hy, he⟩ := Option.map_eq_some_iff.1 h
      simp only [Prod.mk.injEq] at he
      obtain ⟨rfl, rfl⟩ := he
      obtain ⟨h1, h2⟩ := mput_some k v y.2 r y.1 hy
      exact ⟨by rw [h1]; rfl, by simpa using h2⟩
theorem mput_none {α : Type} (k : Int) (v : α) : ∀ (l : List (Int × α)), midx l k = none → mput l k v = l ++ [(k, v)]
  | [], h => rfl
  | p :: r, h => by
    rw [midx] at h
    rw [mput]
    split at h
    · cases h
    · rename_i hp
      rw [if_neg hp, mput_none k v r (by simpa using h)]
      rfl
section
variable {α : Type} {enc : α → Value} {P : Program} {w : World} {m : Nat} {l : List (Int × α)} {t kt et : TypeId} {z : Value}
theorem chg_setObj {es : Array MapEntry} {c : Nat} (o : Obj) (hb : w.heap[m]? = some (.map es c)) : Chg (fun k => k = m) w { w with heap := w.heap.setIfInBounds m o } :=
  ⟨rfl, rfl, rfl, by simp, fun k _ hn => by simp [Ne.symm hn]⟩
theorem mapUpdate_run (h : MapAt enc w m l) (ht : P.underlying t = some (.map kt et)) (hk : P.underlying kt = some (.int .i64)) (k : Int) (v : α) :
    ∃ w', (Instr.mapUpdate t (.map (some m)) (.int .i64 k) (enc v)).run P w = .ok () w' ∧ MapAt enc w' m (mput l k v) ∧ Chg (fun k => k = m) w w' ∧ w'.heap.size = w.heap.size := by
  obtain ⟨es, c, hb, hl, hst⟩ := h
  have hm := heap_lt hb
  have h1 : (Instr.checkKey false 10000 kt (.int .i64 k)).run P w = .ok () w := Go.MapKept.run_checkKey (n := 9999) hk (isKey_int k) _
  have h2 := Go.MapKept.run_findKey (w := w) hk (findNow_is enc k es.toList l 0 hl)
  unfold Instr.mapUpdate
  simp only [Sem.run_bind, run_underlying ht, Result.andThen_ok, Go.MapKept.run_getObj_map hb, Sem.run_pure, h1, h2]
  cases hx : midx l k with
  | none =>
    refine ⟨_, by simp only [Option.map_none]; exact Go.MapKept.run_setObj_map _ hb, ⟨_, _, (Go.MapKept.heap_set hb).1, ?_, Go.MapKept.stamped_push hst ?_⟩, chg_setObj _ hb, by simp⟩
    · rw [mput_none k v l hx]
      simp [hl]
    · intro x hxm e
      have h4 : (x.key, x.val) ∈ es.toList.map (fun e => (e.key, e.val)) := List.mem_map.2 ⟨x, hxm, rfl⟩
      rw [hl, List.mem_map] at h4
      obtain ⟨p, hp, he⟩ := h4
      simp only [Prod.mk.injEq] at he
      have h5 : p.1 = k := by have := he.1.trans e; simpa using this
      have h6 : mget l k = none := by unfold mget; rw [hx]; rfl
      exact (mget_none k l).1 h6 (List.mem_map.2 ⟨p, hp, h5⟩)
  | some x =>
    obtain ⟨i, x⟩ := x
    obtain ⟨e1, e2⟩ := mput_some k v x l i hx
    have hil : i < l.length := by
      rcases Nat.lt_or_ge i l.length with h | h
      · exact h
      · rw [List.getElem?_eq_none h] at e2; cases e2
    have hle : es.toList.length = l.length := by have := congrArg List.length hl; simpa using this
    have hkey : ((es[0 + i]?).map (·.key)).getD (.int .i64 k) = .int .i64 k := by
      rw [Nat.zero_add]
      have h3 : (es.toList.map (fun e => (e.key, e.val)))[i]? = (l.map fun p => (Value.int .i64 p.1, enc p.2))[i]? := by rw [hl]
      rw [List.getElem?_map, List.getElem?_map] at h3
      have h4 : es.toList[i]? = es[i]? := by simp
      rw [h4] at h3
      rw [List.getElem?_eq_getElem hil] at h3 e2
      cases hes : es[i]? with
      | none => rfl
      | some e =>
        rw [hes] at h3
        simp only [Option.map_some, Option.some.injEq, Prod.mk.injEq] at h3 e2
        simp [h3.1, e2]
    have hstay : (Instr.keyThatStays (.int .i64 k) (.int .i64 k)).run P w = .ok (.int .i64 k) w := by
      simp [Instr.keyThatStays, Instr.sameBits]
    refine ⟨_, by simp only [Option.map_some, Sem.run_bind, hkey, hstay, Result.andThen_ok]; exact Go.MapKept.run_setObj_map _ hb, ⟨_, _, (Go.MapKept.heap_set hb).1, ?_, ?_⟩, chg_setObj _ hb, by simp⟩
    rotate_left
    · refine Go.MapKept.stamped_modify hst _ _ (fun _ _ => rfl) (fun e he hei => ?_)
      rw [hei] at hkey
      simp only [Option.map_some, Option.getD_some] at hkey
      exact hkey.symm
    rw [e1, Nat.zero_add]
    apply List.ext_getElem?
    intro j
    have h3 : (es.toList.map (fun e => (e.key, e.val)))[j]? = (l.map fun p => (Value.int .i64 p.1, enc p.2))[j]? := by rw [hl]
    rw [List.getElem?_map, List.getElem?_map] at h3
    rw [List.getElem?_map, List.getElem?_map, Array.getElem?_toList, Array.getElem?_modify]
    by_cases hj : i = j
    · subst hj
      rw [if_pos rfl, List.getElem?_set_self hil]
      have h5 : i < es.size := by simpa using (by omega : i < es.toList.length)
      simp [h5]
    · rw [if_neg hj, List.getElem?_set_ne hj]
      simpa using h3
variable {ops : Array Oper} {rest : List Oper} {o : Oper} {a : Act} {Q : Exit → Act → World → Prop}
/-- m[k] = v: behind 'at_mapUpdate'. -/
theorem wpList_put (hgd : o.guard = none) (hd : o.dst = none) (x y v : Operand) (ho : o.op = .mapUpdate t x y v) (ht : P.underlying t = some (.map kt et)) (hk : P.underlying kt = some (.int .i64))
    {k : Int} {u : α} (hx : a.eval x = .map (some m)) (hy : a.eval y = .int .i64 k) (hv : a.eval v = enc u) (h : MapAt enc w m l)
    (h' : ∀ w', MapAt enc w' m (mput l k u) → Chg (fun k => k = m) w w' → w'.heap.size = w.heap.size → wpList P ops Q rest a w') : wpList P ops Q (o :: rest) a w := by
  refine wpList_plain hgd fun K hK => ?_
  obtain ⟨w', hr, h1, h2, h3⟩ := mapUpdate_run (P := P) h ht hk k u
  unfold Oper.wp execOp
  simp only [ho, hx, hy, hv, Sem.run_bind, hr, Result.andThen_ok, Sem.run_pure]
  have := hK _ _ (h' w' h1 h2 h3)
  rw [Oper.upon_skip, hd]
  exact this
/-- m[k], with ok or without: behind 'at_lookup'. -/
theorem wpList_get (hgd : o.guard = none) (x y : Operand) (ok : Bool) (ho : o.op = .lookup t x y ok) (ht : P.underlying t = some (.map kt et)) (hk : P.underlying kt = some (.int .i64)) (hz : ∀ w, (zeroValue et).run P w = .ok z w)
    {k : Int} (hx : a.eval x = .map (some m)) (hy : a.eval y = .int .i64 k) (h : MapAt enc w m l) {u : Value} (hu : (if ok then .tuple #[((mget l k).map enc).getD z, .bool (mget l k).isSome] else ((mget l k).map enc).getD z) = u)
    (h' : wpList P ops Q rest (a.put o.dst u) w) : wpList P ops Q (o :: rest) a w := by
  refine wpList_plain hgd fun K hK => ?_
  have hr := lookup_run (P := P) h ht hk hz k ok
  unfold Oper.wp execOp
  simp only [ho, hx, hy, Sem.run_bind, hr, Result.andThen_ok, Sem.run_pure, hu]
  exact hK _ _ h'
variable {K : Act → World → Prop} {E : Prop}
/-- m[k] = v in a region that draws its order. -/
theorem step_put (hgd : o.guard = none) (hd : o.dst = none) (x y v : Operand) (ho : o.op = .mapUpdate t x y v) (ht : P.underlying t = some (.map kt et)) (hk : P.underlying kt = some (.int .i64))
    {k : Int} {u : α} (hx : a.eval x = .map (some m)) (hy : a.eval y = .int .i64 k) (hv : a.eval v = enc u) (h : MapAt enc w m l)
    (h' : ∀ w', MapAt enc w' m (mput l k u) → Chg (fun k => k = m) w w' → w'.heap.size = w.heap.size → K a w') : if Region.wanted o (yielded ops a.tmps) = true then Oper.wp P o a w K Q else E := by
  have hw : Region.wanted o (yielded ops a.tmps) = true := by simp [Region.wanted, hgd]
  rw [if_pos hw]
  obtain ⟨w', hr, h1, h2, h3⟩ := mapUpdate_run (P := P) h ht hk k u
  unfold Oper.wp execOp
  simp only [ho, hx, hy, hv, Sem.run_bind, hr, Result.andThen_ok, Sem.run_pure]
  rw [Oper.upon_skip, hd]
  exact h' w' h1 h2 h3
end
end Go.Proofs.YtdppkdjgadiinaaGreat
