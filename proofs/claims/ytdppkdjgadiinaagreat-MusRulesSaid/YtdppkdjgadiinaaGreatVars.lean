/- Package graph: all variables, sorted. -/
import Derived.Test.YtdppkdjgadiinaaGreatParts
import Derived.Test.YtdppkdjgadiinaaGreatLayz
import Derived.Shelf.SlIterI.Nil
import Derived.Shelf.SortM.Plain
import Derived.Shelf.SortM.SortNone
import Derived.Ground.GgzProg
import Derived.Ground.SlgmProg
set_option linter.unusedVariables false
set_option linter.unusedSimpArgs false
namespace Go.Proofs
open Go.RowKit Go.Maps Go.Sort Go.Shelf
open Go.WideElems (Fit rd rg)
theorem Tryz.sortsA (m : Nat) : AnyZI.SortsIn Tryz.prog Tryz.sortedA_ren Fence.wide m :=
  ⟨fun blk off cap ss W hH hblk hsz => callsIn_wide.2 (AnyM.slices_Sort_int Tryz.sortA blk off cap ss W hH hblk hsz),
   fun p cap W => callsIn_wide.2 (AnyM.slices_Sort_int_none Tryz.sortA p cap W)⟩
namespace YtdppkdjgadiinaaGreat
def anyR : Value → Option (DataW Empty × List MemPlace) := fun _ => some (.nil, [])
theorem insert_perm (x : Lit × DataW Empty) : ∀ l : List (Lit × DataW Empty), (DataW.insert x l).Perm (x :: l)
  | [] => List.Perm.refl _
  | y :: r => by
    unfold DataW.insert
    split
    · exact List.Perm.refl _
    · exact ((insert_perm x r).cons y).trans (List.Perm.swap x y r)
theorem foldr_insert_perm : ∀ l : List (Lit × DataW Empty), (l.foldr DataW.insert []).Perm l
  | [] => List.Perm.refl _
  | x :: r => (insert_perm x _).trans ((foldr_insert_perm r).cons x)
theorem rg_kv (P : Program) (k : TypeId) (x : MapEntry) : rg P k anyR x = rg P k anyR ⟨x.key, x.val, 0⟩ := rfl
theorem rg_at {P : Program} {k : TypeId} {key v : Value} {kl : Lit} (h : keyOf P k key = some kl) : rg P k anyR ⟨key, v, 0⟩ = (kl, .nil) := by
  unfold Go.WideElems.rg Go.WideElems.rd
  rw [h]
  rfl
theorem rd_at {P : Program} {k : TypeId} {x : MapEntry} {kl : Lit} (h : keyOf P k x.key = some kl) : ∃ y, rd P k anyR x = some y := by
  unfold Go.WideElems.rd
  rw [h]
  exact ⟨_, rfl⟩
theorem map_rg {α : Type} (enc : α → Value) (P : Program) (k : TypeId) (es : List MapEntry) (l : List (Int × α)) (he : es.map (fun e => (e.key, e.val)) = l.map fun p => (Value.int .i64 p.1, enc p.2)) (hkey : ∀ p : Int × α, p ∈ l → keyOf P k (.int .i64 p.1) = some (.int .i64 p.1)) :
    es.map (rg P k anyR) = l.map fun p => (Lit.int .i64 p.1, (DataW.nil : DataW Empty)) := by
  have e2 : es.map (rg P k anyR) = (es.map (fun e => (e.key, e.val))).map (fun kv : Value × Value => rg P k anyR ⟨kv.1, kv.2, 0⟩) := by
    rw [List.map_map]; rfl
  rw [e2, he, List.map_map]
  exact List.map_congr_left fun p hp => rg_at (hkey p hp)
theorem MapAt.owns {α : Type} {enc : α → Value} {w : World} {m : Nat} {l : List (Int × α)} (h : MapAt enc w m l) (hk : ∀ p, p ∈ l → 0 ≤ p.1 ∧ p.1 < 1073741824) (hl : l.length ≤ 1000000) :
    ∃ D0 : DataW Empty, w.ownsMap Tryz.prog 3 anyR m l.length D0 ∧ (intKeys D0).Perm (l.map (·.1)) ∧ Maps.size D0 = l.length := by
  obtain ⟨es, c, hb, he, hst⟩ := h
  have hsz : es.toList.length = l.length := by have := congrArg List.length he; simpa using this
  have hkey : ∀ p : Int × α, p ∈ l → keyOf Tryz.prog 3 (.int .i64 p.1) = some (.int .i64 p.1) := fun p hp => by
    obtain ⟨h1, h2⟩ := hk p hp
    exact Go.Maps.keyOf_int_mk Tryz.underlying3 (by simp [Lit.wf, IntKind.min, IntKind.max, IntKind.bits, IntKind.signed]; omega)
  have e1 : es.toList.map (rg Tryz.prog 3 anyR) = l.map fun p => (Lit.int .i64 p.1, (DataW.nil : DataW Empty)) := map_rg enc _ _ _ _ he hkey
  have hez : es.size = l.length := by simpa using hsz
  have hrd : ∀ x ∈ es.toList, ∃ y, rd Tryz.prog 3 anyR x = some y := fun x hx => by
    have h4 : (x.key, x.val) ∈ es.toList.map (fun e => (e.key, e.val)) := List.mem_map.2 ⟨x, hx, rfl⟩
    rw [he, List.mem_map] at h4
    obtain ⟨p, hp, h5⟩ := h4
    simp only [Prod.mk.injEq] at h5
    exact rd_at (by rw [← h5.1]; exact hkey p hp)
  refine ⟨_, ⟨es, c, hb, ⟨by simp only [maxLen]; omega, hst, hrd⟩, by omega, rfl⟩, ?_, ?_⟩
  · rw [e1]
    have := ((foldr_insert_perm (l.map fun p => (Lit.int .i64 p.1, (DataW.nil : DataW Empty)))).map fun p => Go.intOf p.1)
    rw [List.map_map] at this
    exact this
  · rw [Go.Maps.size_eq, e1, (foldr_insert_perm _).length_eq, List.length_map]
set_option maxRecDepth 100000 in
set_option maxHeartbeats 1000000 in
theorem Graph_Vars (w : World) (F : Nat → Prop) (g m : Nat) (nodes : List Nd) (vars : List (Int × Nat)) (h : GraphAt w F g m nodes vars) (hk : ∀ p, p ∈ vars → 0 ≤ p.1 ∧ p.1 < 1073741824) (hl : vars.length ≤ 1000000) :
    Calls Tryz.prog 111 #[.pointer (some ⟨g, 0, none⟩)] w fun e w' => ∃ v, e = .returned v ∧ IRow w' v ((vars.map (·.1)).mergeSort leI) ∧ (∀ k, v.ownBlock = some k → w.heap.size ≤ k) ∧ Below w.heap.size w w' := by
  obtain ⟨v, es, h1, h2, h3, h4, h5, h6, h7, h8, h9, h10⟩ := h.is
  have c1 := h1.cell 1
  simp only [List.getElem?_cons_zero, List.getElem?_cons_succ] at c1
  obtain ⟨D0, hown, hperm, hsize⟩ := h3.owns hk hl
  have hbl := hown.lt
  refine (callsIn_wide (n := 6)).1 ?_
  have hmax : Maps.size D0 ≤ maxLen := by rw [hsize]; simp only [maxLen]; omega
  have hbytes : Maps.size D0 * 8 ≤ 140737488355328 := by rw [hsize]; omega
  have hseq : SeqGives Fence.wide 2 Tryz.prog 117 #[.pointer (some ⟨w.heap.size, 0, none⟩)] encZ (fun ss => ss.Perm (intKeys D0)) (Maps.size D0) (w.alloc (.cells #[.map (some m)] 107)) :=
    AnyZI.keys_gives (ρ := Tryz.keysA_ren) { Tryz.keysA with } Fence.wide _ trivial rfl (by omega) w.heap.size m vars.length D0 _ (by simp) (by simp) (by
      obtain ⟨es, clock, hb, Ft, hs, hD⟩ := hown
      exact ⟨es, clock, (Below.heap_alloc _ _ m hbl).trans hb, Ft, hs, hD⟩)
  have cK : ∀ mb W, CallsIn Fence.wide 5 Tryz.prog 114 #[.map mb] W fun e w' => e = .returned (.func (.func 117) #[] #[.pointer (some ⟨W.heap.size, 0, none⟩)]) ∧ w' = W.alloc (.cells #[.map mb] 107) := fun mb W => AnyZI.keys_in Tryz.keysA Fence.wide 5 trivial rfl mb W
  have cS := AnyZI.sorted_in Tryz.sortedA Fence.wide 5 trivial trivial trivial trivial rfl (by omega) (Tryz.sortsA _) (enters_of Tryz.func40 (by kernel_rfl) rfl) 117 #[.pointer (some ⟨w.heap.size, 0, none⟩)] trivial (enters_of Tryz.func117 (by kernel_rfl) rfl) _ _ hmax hbytes _ hseq
  change CallsIn _ _ Tryz.prog 24 _ _ _ at cS
  have hfK : Fence.wide.fn 114 := trivial
  have hfS : Fence.wide.fn 24 := trivial
  have HP := Sh.mk hperm
  clear h hk hl h1 h2 h3 h4 h5 h6 h7 h8 h9 h10 hown hperm hsize hbl hmax hbytes hseq
  refine callsIn_of_wp Tryz.func111 rfl trivial ?_ rfl
  simp only [Tryz.ntmps111, List.size_toArray, List.length_cons, List.length_nil, Nat.reduceAdd, Nat.reduceSub, Array.replicate_succ, Array.replicate_zero, List.push_toArray, List.append_toArray, List.nil_append, List.cons_append]
  gi_wp2_with (first
    | (gi_at_call 114; refine (cK _ _).mono ?_; rintro e w' ⟨rfl, rfl⟩)
    | (gi_at_call 24; refine cS.mono ?_; rintro e w' ⟨v, ss, rfl, hS, hrow, hnil, hb⟩))
  go_ret
  refine ⟨v, rfl, ?_, fun k hk => ?_, ((Below.refl _ w).alloc (Nat.le_refl _) _).trans (hb.mono (by simp))⟩
  · have e1 : (vars.map (·.1)).mergeSort leI = ss.mergeSort leI := mergeSort_of_perm_i (HP.out.symm.trans hS.symm)
    rw [e1]
    unfold IRow
    have e2 : (ss.mergeSort leI).length = ss.length := (List.mergeSort_perm ss leI).length_eq
    rw [e2]
    exact ownsRow_base_a hrow (Nat.zero_le _)
  · have := (ownsRow_lt hrow k hk).2
    exact Nat.le_trans (by simp) this
end YtdppkdjgadiinaaGreat
end Go.Proofs
