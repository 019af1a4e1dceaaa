/- Maps: an entry, then a store into it. -/
import Derived.Test.YtdppkdjgadiinaaGreatLoop
set_option linter.unusedVariables false
set_option linter.unusedSimpArgs false
namespace Go.Proofs.YtdppkdjgadiinaaGreat
open Go.RowKit

theorem findIdx_stamp : ∀ {l : List MapEntry} (hn : (l.map (·.born)).Nodup) {j : Nat} {e0 : MapEntry} (h : l[j]? = some e0), l.findIdx? (fun e => (e.born : Int) == (e0.born : Int)) = some j
  | [], _, j, e0, h => by simp at h
  | a :: r, hn, 0, e0, h => by
    simp only [List.getElem?_cons_zero, Option.some.injEq] at h
    subst h
    simp [List.findIdx?_cons]
  | a :: r, hn, j + 1, e0, h => by
    simp only [List.getElem?_cons_succ] at h
    simp only [List.map_cons, List.nodup_cons] at hn
    have hne : a.born ≠ e0.born := fun e1 => hn.1 (List.mem_map.2 ⟨e0, List.mem_of_getElem? h, e1.symm⟩)
    have hb : ((a.born : Int) == (e0.born : Int)) = false := by
      simp only [beq_eq_false_iff_ne, ne_eq]
      omega
    rw [List.findIdx?_cons, hb, findIdx_stamp hn.2 h]
    rfl
theorem arr_findIdx (xs : Array MapEntry) (p : MapEntry → Bool) : xs.findIdx? p = xs.toList.findIdx? p := by
  cases xs
  simp
section
variable {α : Type} {enc : α → Value} {P : Program} {w : World} {m : Nat} {l : List (Int × α)} {t kt et : TypeId} {z : Value}
/-- Any world's block m, given another content. -/
theorem put_block {w2 w3 : World} {es es' : Array MapEntry} {c c' : Nat} (hb : w2.heap[m]? = some (.map es c)) (hw : w3 = { w2 with heap := w2.heap.setIfInBounds m (.map es' c') }) (hs : ∃ wx, wx.heap[m]? = some (.map es' c') ∧ MapAt enc wx m l) :
    Chg (fun k => k = m) w2 w3 ∧ w3.heap.size = w2.heap.size ∧ MapAt enc w3 m l := by
  subst hw
  obtain ⟨wx, hx, es2, c2, h2, h3, h4⟩ := hs
  rw [hx] at h2
  simp only [Option.some.injEq, Obj.map.injEq] at h2
  obtain ⟨rfl, rfl⟩ := h2
  exact ⟨chg_setObj _ hb, by simp, ⟨es', c', (Go.MapKept.heap_set hb).1, h3, h4⟩⟩
theorem entry_run (h : MapAt enc w m l) (ht : P.underlying t = some (.map kt et)) (hk : P.underlying kt = some (.int .i64)) (hz : ∀ w, (zeroValue et).run P w = .ok z w) (k : Int) :
    ∃ (v0 : Value) (st : Nat) (w1 : World), (Instr.mapEntry t (.map (some m)) (.int .i64 k)).run P w = .ok (.tuple #[v0, .int .i64 st]) w1 ∧ Chg (fun k => k = m) w w1 ∧ w1.heap.size = w.heap.size ∧
      ∀ (v : α) (w2 : World), w2.heap[m]? = w1.heap[m]? → ∃ w3, (Instr.entryStore t (.map (some m)) (.int .i64 st) (enc v)).run P w2 = .ok () w3 ∧ Chg (fun k => k = m) w2 w3 ∧ w3.heap.size = w2.heap.size ∧ MapAt enc w3 m (mput l k v) := by
  have hall := fun v : α => mapUpdate_run (P := P) h ht hk k v
  obtain ⟨es, c, hb, hl, hst⟩ := h
  have hm := heap_lt hb
  have h1 : (Instr.checkKey false 10000 kt (.int .i64 k)).run P w = .ok () w := Go.MapKept.run_checkKey (n := 9999) hk (isKey_int k) _
  have h2 := Go.MapKept.run_findKey (w := w) hk (findNow_is enc k es.toList l 0 hl)
  unfold Instr.mapEntry
  simp only [Sem.run_bind, run_underlying ht, Result.andThen_ok, Go.MapKept.run_getObj_map hb, Sem.run_pure, h1, h2]
  cases hx : midx l k with
  | none =>
    refine ⟨z, c, _, by simp only [Option.map_none, Sem.run_bind, hz, Result.andThen_ok, Go.MapKept.run_setObj_map _ hb, Sem.run_pure]; rfl, chg_setObj _ hb, by simp, fun v w2 hw2 => ?_⟩
    obtain ⟨wu, hu, hmu, _, _⟩ := hall v
    unfold Instr.mapUpdate at hu
    simp only [Sem.run_bind, run_underlying ht, Result.andThen_ok, Go.MapKept.run_getObj_map hb, Sem.run_pure, h1, h2] at hu
    rw [hx] at hu
    simp only [Option.map_none] at hu
    rw [Go.MapKept.run_setObj_map _ hb] at hu
    simp only [Result.ok.injEq, true_and] at hu
    have hb2 : w2.heap[m]? = some (.map (es.push ⟨.int .i64 k, z, c⟩) (c + 1)) := hw2.trans (Go.MapKept.heap_set hb).1
    obtain ⟨s1, s2, _⟩ := (Go.MapKept.stamped_iff _ _).1 hst
    have hidx : (es.push ⟨.int .i64 k, z, c⟩).findIdx? (fun e => (e.born : Int) == (c : Int)) = some es.size := by
      have := findIdx_stamp (l := (es.push ⟨.int .i64 k, z, c⟩).toList) (j := es.size) (e0 := ⟨.int .i64 k, z, c⟩) (by
        simp only [Array.toList_push, List.map_append, List.map_cons, List.map_nil]
        refine List.nodup_append.2 ⟨s2, by simp, fun a ha b hb e1 => ?_⟩
        simp only [List.mem_singleton] at hb
        obtain ⟨x, hx, rfl⟩ := List.mem_map.1 ha
        have := s1 x hx
        omega) (by simp)
      rw [arr_findIdx]
      exact this
    have hmod : (es.push ⟨.int .i64 k, z, c⟩).modify es.size (fun e => { e with val := enc v }) = es.push ⟨.int .i64 k, enc v, c⟩ := by
      apply Array.ext'
      rw [Array.toList_modify, Array.toList_push, Array.toList_push, ← Array.length_toList]
      generalize es.toList = q
      induction q with
      | nil => rfl
      | cons a r ih => simp [List.modify_succ_cons, ih]
    refine ⟨_, by simp [Instr.entryStore, Go.MapKept.run_getObj_map hb2, asInt, asIntOf, hidx, hmod, Go.MapKept.run_setObj_map _ hb2, Result.andThen]; rfl, ?_⟩
    exact put_block hb2 rfl ⟨wu, by rw [← hu]; exact (Go.MapKept.heap_set hb).1, hmu⟩
  | some x =>
    obtain ⟨i, x⟩ := x
    have e2 : (l[i]?).map (·.1) = some k := (mput_some k x x l i hx).2
    have hil : i < l.length := by
      rcases Nat.lt_or_ge i l.length with h | h
      · exact h
      · rw [List.getElem?_eq_none h] at e2; cases e2
    have hle : es.toList.length = l.length := by have := congrArg List.length hl; simpa using this
    have hie : i < es.size := by simpa using (by omega : i < es.toList.length)
    obtain ⟨e0, he0⟩ : ∃ e0, es[i]? = some e0 := ⟨_, Array.getElem?_eq_getElem hie⟩
    have hk0 : e0.key = .int .i64 k := by
      have h3 : (es.toList.map (fun e => (e.key, e.val)))[i]? = (l.map fun p => (Value.int .i64 p.1, enc p.2))[i]? := by rw [hl]
      rw [List.getElem?_map, List.getElem?_map] at h3
      have h4 : es.toList[i]? = es[i]? := by simp
      rw [h4, he0] at h3
      rw [List.getElem?_eq_getElem hil] at h3 e2
      simp only [Option.map_some, Option.some.injEq, Prod.mk.injEq] at h3 e2
      rw [h3.1, e2]
    have hstay : (Instr.keyThatStays (.int .i64 k) (.int .i64 k)).run P w = .ok (.int .i64 k) w := by
      simp [Instr.keyThatStays, Instr.sameBits]
    have hsame : es.modify i (fun e => { e with key := .int .i64 k }) = es := by
      apply Array.ext'
      rw [Array.toList_modify]
      apply List.ext_getElem?
      intro j
      rw [List.getElem?_modify]
      by_cases hj : i = j
      · subst hj
        have h4 : es.toList[i]? = some e0 := by simpa using he0
        rw [h4]
        simp only [if_true, Option.map_some]
        rw [← hk0]
        rfl
      · simp [hj]
    refine ⟨enc x, e0.born, _, by simp only [Option.map_some, Sem.run_bind, Nat.zero_add, he0, hk0, Option.getD_some, hstay, Result.andThen_ok, hsame, Go.MapKept.run_setObj_map _ hb, Sem.run_pure]; rfl, chg_setObj _ hb, by simp, fun v w2 hw2 => ?_⟩
    obtain ⟨wu, hu, hmu, _, _⟩ := hall v
    unfold Instr.mapUpdate at hu
    simp only [Sem.run_bind, run_underlying ht, Result.andThen_ok, Go.MapKept.run_getObj_map hb, Sem.run_pure, h1, h2] at hu
    rw [hx] at hu
    simp only [Option.map_some, Sem.run_bind, Nat.zero_add, he0, hk0, Option.getD_some, hstay, Result.andThen_ok] at hu
    rw [Go.MapKept.run_setObj_map _ hb] at hu
    simp only [Result.ok.injEq, true_and] at hu
    have hb2 : w2.heap[m]? = some (.map es c) := hw2.trans (Go.MapKept.heap_set hb).1
    obtain ⟨s1, s2, _⟩ := (Go.MapKept.stamped_iff _ _).1 hst
    have hidx : es.findIdx? (fun e => (e.born : Int) == (e0.born : Int)) = some i := by
      rw [arr_findIdx]
      exact findIdx_stamp s2 (by simpa using he0)
    have hmod : es.modify i (fun e => { e with val := enc v }) = es.modify i (fun e => { e with key := .int .i64 k, val := enc v }) := by
      apply Array.ext'
      rw [Array.toList_modify, Array.toList_modify]
      apply List.ext_getElem?
      intro j
      rw [List.getElem?_modify, List.getElem?_modify]
      by_cases hj : i = j
      · subst hj
        have h4 : es.toList[i]? = some e0 := by simpa using he0
        rw [h4]
        simp only [if_true, Option.map_some]
        rw [← hk0]
        rfl
      · simp [hj]
    refine ⟨_, by simp [Instr.entryStore, Go.MapKept.run_getObj_map hb2, asInt, asIntOf, hidx, hmod, Go.MapKept.run_setObj_map _ hb2, Result.andThen]; rfl, ?_⟩
    exact put_block hb2 rfl ⟨wu, by rw [← hu]; exact (Go.MapKept.heap_set hb).1, hmu⟩
end
end Go.Proofs.YtdppkdjgadiinaaGreat
