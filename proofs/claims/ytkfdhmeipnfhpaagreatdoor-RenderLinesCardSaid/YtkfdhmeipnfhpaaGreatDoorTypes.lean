/- Package types: types as trees; Var, Right, Copy. -/
import Derived.Test.YtkfdhmeipnfhpaaGreatDoorContains
set_option linter.unusedVariables false
set_option linter.unusedSimpArgs false
namespace Go.Proofs.YtkfdhmeipnfhpaaGreatDoor
open Go.RowKit

inductive Ty where
  | mk (kind n : Int) (parts : List Ty)
def Ty.kind : Ty → Int | .mk k _ _ => k
def Ty.n : Ty → Int | .mk _ n _ => n
def Ty.parts : Ty → List Ty | .mk _ _ ps => ps
mutual
theorem Ty.ind_ {motive : Ty → Prop} (h : ∀ k n ps, (∀ p, p ∈ ps → motive p) → motive (.mk k n ps)) : ∀ t, motive t
  | .mk k n ps => h k n ps (Ty.inds_ h ps)
theorem Ty.inds_ {motive : Ty → Prop} (h : ∀ k n ps, (∀ p, p ∈ ps → motive p) → motive (.mk k n ps)) : ∀ ps : List Ty, ∀ p, p ∈ ps → motive p
  | [], p, hp => by simp at hp
  | q :: qs, p, hp => by
    rcases List.mem_cons.1 hp with hp | hp
    · rw [hp]
      exact Ty.ind_ h q
    · exact Ty.inds_ h qs p hp
end
mutual
def Ty.enc : Ty → List Dat
  | .mk k n ps => [.raw (.int .i64 k), .raw (.int .i64 n), .row 3 (Ty.encs ps)]
def Ty.encs : List Ty → List (List Dat)
  | [] => []
  | p :: ps => p.enc :: Ty.encs ps
end
theorem Ty.encs_eq : ∀ ps : List Ty, Ty.encs ps = ps.map Ty.enc
  | [] => by rw [Ty.encs]; rfl
  | p :: ps => by rw [Ty.encs, Ty.encs_eq ps]; rfl
theorem Ty.enc_eq (t : Ty) : t.enc = [.raw (.int .i64 t.kind), .raw (.int .i64 t.n), .row 3 (t.parts.map Ty.enc)] := by
  cases t with
  | mk k n ps => rw [Ty.enc, Ty.encs_eq]; rfl
/-- The row of a type's parts. -/
def PartsAt (w : World) (S : Nat → Prop) (t : Ty) (s : Value) : Prop := (Dat.row 3 (t.parts.map Ty.enc)).at w S s
theorem Ty.cells {w : World} {S : Nat → Prop} {t : Ty} {us : List Value} : CellsAt w S t.enc us ↔ ∃ s, us = [.int .i64 t.kind, .int .i64 t.n, s] ∧ PartsAt w S t s := by
  rw [Ty.enc_eq]
  simp only [CellsAt_cons, CellsAt_nil, Dat.raw_at, PartsAt]
  constructor
  · rintro ⟨_, _, rfl, rfl, _, _, rfl, rfl, s, _, rfl, h, rfl⟩
    exact ⟨s, rfl, h⟩
  · rintro ⟨s, rfl, h⟩
    exact ⟨_, _, rfl, rfl, _, _, rfl, rfl, s, _, rfl, h, rfl⟩
theorem PartsAt.below {w w' : World} {S : Nat → Prop} {t : Ty} {s : Value} (h : PartsAt w S t s) (hb : Below w.heap.size w w') : PartsAt w' S t s := Dat.at_below h hb
theorem PartsAt.shape {w : World} {S : Nat → Prop} {t : Ty} {s : Value} (h : PartsAt w S t s) : ∃ A c, s = .slice A t.parts.length c ∧ t.parts.length ≤ 9223372036854775807 := by
  obtain ⟨A, c, rfl, h1, h2, _⟩ := Dat.row_at.1 h
  rw [List.length_map] at h1
  rw [List.length_map]
  exact ⟨A, c, rfl, by simp only [maxLen] at h2; omega⟩

/-- A type in a row of types: its cells. -/
theorem tyRow_elem {w : World} {S : Nat → Prop} {l : List Ty} {A : Option Addr} {n c k : Nat} {x : Ty} (h : (Dat.row 3 (l.map Ty.enc)).at w S (.slice A n c)) (hx : l[k]? = some x) :
    ∃ ad As cs, A = some ad ∧ S ad.block ∧ ad.block < w.heap.size ∧ w.cell? (ad.add (k * 3)) = some (.int .i64 x.kind) ∧ w.cell? ⟨(ad.add (k * 3)).block, (ad.add (k * 3)).off + 1, none⟩ = some (.int .i64 x.n) ∧
      w.cell? ⟨(ad.add (k * 3)).block, (ad.add (k * 3)).off + 2, none⟩ = some (.slice As x.parts.length cs) ∧ PartsAt w S x (.slice As x.parts.length cs) := by
  obtain ⟨A', c', he, _, _, hel⟩ := Dat.row_at.1 h
  injection he with he _ _
  subst he
  obtain ⟨ad, us, rfl, hS, hbl, hus, hc, hk1⟩ := hel k x.enc (by rw [List.getElem?_map]; exact congrArg (Option.map Ty.enc) hx)
  obtain ⟨s3, rfl, h4⟩ := Ty.cells.1 hk1
  have h0 := hc 0 _ rfl
  have h1 := hc 1 _ rfl
  have h2 := hc 2 _ rfl
  rw [Nat.add_zero] at h0
  rw [add_field _ _ 1 (by omega)] at h1
  rw [add_field _ _ 2 (by omega)] at h2
  obtain ⟨As, cs, rfl, _⟩ := h4.shape
  exact ⟨ad, As, cs, rfl, hS, hbl, h0, h1, h2, h4⟩

/-! ### the specification -/
def Ty.knownB (n : Int) : Bool := decide (n ≥ 0) && decide (n < 1073741824)
def Ty.plainB (k n m : Int) : Bool :=
  if k = 1 then knownB n && m == 0 else if k = 2 ∨ k = 3 then n == 0 && m == 0 else if k = 4 then n == 0 && m == 2 else if k = 5 then n == 0 && (decide (m ≥ 2) && decide (m ≤ 8)) else false
mutual
def Ty.right : Ty → Bool
  | .mk k n ps => plainB k n ps.length && Ty.rights ps
def Ty.rights : List Ty → Bool
  | [] => true
  | p :: ps => p.right && Ty.rights ps
end
theorem Ty.rights_eq : ∀ ps : List Ty, Ty.rights ps = !ps.any (fun p => !p.right)
  | [] => by rw [Ty.rights]; rfl
  | p :: ps => by rw [Ty.rights, Ty.rights_eq ps]; simp
theorem Ty.right_eq (t : Ty) : t.right = (plainB t.kind t.n t.parts.length && !t.parts.any (fun p => !p.right)) := by
  cases t with
  | mk k n ps => rw [Ty.right, Ty.rights_eq]; rfl

/-! ### types.Var -/
theorem Var_calls (n : Int) (w : World) : Calls Tryz.prog 164 #[.int .i64 n] w fun e w' => e = .returned (.agg #[.int .i64 1, .int .i64 n, .slice none 0 0]) ∧ Below w.heap.size w w' := by
  have HB := Sh.mk (Below.refl w.heap.size w)
  go_enter Tryz.func164, Tryz.ntmps164
  go_wp2
  exact bodyPost_ret (v := .agg #[.int .i64 1, .int .i64 n, .slice none 0 0]) (by simp [results, Tryz.results164, go_sem]) rfl ⟨rfl, HB.out.alloc (Nat.le_refl _) _⟩
theorem known_calls (n : Int) (w : World) : Calls Tryz.prog 214 #[.int .i64 n] w fun e w' => e = .returned (.bool (Ty.knownB n)) ∧ w' = w := by
  go_enter Tryz.func214, Tryz.ntmps214
  go_wp2
  all_goals (go_ret; refine ⟨?_, rfl⟩; simp only [Ty.knownB]; congr 2; simp [*]; try omega)
theorem plain_calls (k n : Int) (m : Nat) (A : Option Addr) (c : Nat) (hm : m ≤ 9223372036854775807) (w : World) : Calls Tryz.prog 170 #[.agg #[.int .i64 k, .int .i64 n, .slice A m c]] w fun e w' => e = .returned (.bool (Ty.plainB k n m)) ∧ Below w.heap.size w w' := by
  go_enter Tryz.func170, Tryz.ntmps170
  go_wp2_with (go_at_call 214; refine (known_calls _ _).mono ?_; rintro e w1 ⟨rfl, rfl⟩)
  all_goals (go_ret; refine ⟨?_, (Below.refl _ _).alloc (Nat.le_refl _) _⟩; (try simp only [beq_iff_eq, beq_eq_false_iff_ne, bne_iff_ne] at *); simp_all [Ty.plainB] <;> try omega)
/-! ### types.Right -/
theorem there_Right1 : There Tryz.prog 172 := ⟨_, Tryz.func172, by kernel_rfl, rfl⟩
theorem fnv_Right1 : Fnv Tryz.prog (.func (.func 172) #[] #[]) 172 #[] := ⟨rfl, there_Right1⟩
def RightSaid (p : Ty) : Prop := ∀ (S : Nat → Prop) (s : Value) (w : World), PartsAt w S p s → Calls Tryz.prog 124 #[.agg #[.int .i64 p.kind, .int .i64 p.n, s]] w fun e w' => e = .returned (.bool p.right) ∧ Below w.heap.size w w'
theorem Right1_calls (p : Ty) (hp : RightSaid p) (S : Nat → Prop) (s : Value) (w : World) (h : PartsAt w S p s) : Calls Tryz.prog 172 #[.agg #[.int .i64 p.kind, .int .i64 p.n, s]] w fun e w' => e = .returned (.bool (!p.right)) ∧ Below w.heap.size w w' := by
  have HA := Sh.mk ((Below.refl w.heap.size w).alloc (Nat.le_refl _) (.cells #[.int .i64 p.kind, .int .i64 p.n, s] 65))
  have H := Sh.mk (h.below ((Below.refl w.heap.size w).alloc (Nat.le_refl _) (.cells #[.int .i64 p.kind, .int .i64 p.n, s] 65)))
  clear h
  go_enter Tryz.func172, Tryz.ntmps172
  go_wp2_with (go_at_call 124; refine (hp S _ _ H.out).mono ?_; rintro e w1 ⟨rfl, hb⟩)
  have HB := Sh.mk (below_then HA.out hb)
  clear hb
  go_wp2
  go_ret
  exact ⟨rfl, HB.out⟩
theorem Right_calls : ∀ (t : Ty), RightSaid t := by
  apply Ty.ind_
  intro k n ps ih S s w h
  have IH := Sh.mk ih
  have H := Sh.mk h
  obtain ⟨A, c, rfl, hl⟩ := h.shape
  have ER := Sh.mk (Ty.right_eq (Ty.mk k n ps))
  generalize ht : Ty.mk k n ps = t at *
  have HT := Sh.mk ht
  clear ih h ht
  go_enter Tryz.func124, Tryz.ntmps124
  go_wp2_with (go_at_call 170; refine (plain_calls _ _ _ A c hl _).mono ?_; rintro e w1 ⟨rfl, hb⟩; have HB := Sh.mk (below_then ((Below.refl _ _).alloc (Nat.le_refl _) _) hb); have HK := ((Blk.new w 65 [.int .i64 t.kind, .int .i64 t.n, .slice A t.parts.length c]).keep hb).cell 2; have BK := Sh.mk HK; simp only [List.getElem?_cons_succ, List.getElem?_cons_zero] at HK; clear hb BK; cases hp : Ty.plainB t.kind t.n t.parts.length)
  · have HP := Sh.mk hp
    clear hp
    go_wp2
    go_ret
    exact ⟨by rw [ER.out, HP.out]; rfl, HB.out⟩
  · have HP := Sh.mk hp
    clear hp
    have HH := Sh.mk (H.out.below HB.out)
    go_wp2_with (go_at_call 171; refine (ContainsFunc_Ty Ty.enc t.parts (fun p => !p.right) S _ _ _ fnv_Right1 _ _ HH.out ?_).mono ?_)
    · intro x u0 u1 u2 w3 hx hb3 hk3
      obtain ⟨s3, h3, h4⟩ := Ty.cells.1 hk3
      obtain ⟨rfl, rfl, rfl⟩ : u0 = .int .i64 x.kind ∧ u1 = .int .i64 x.n ∧ u2 = s3 := by simpa using h3
      exact Right1_calls x (IH.out x (by rw [← HT.out] at hx; exact hx)) S _ _ h4
    rintro e w2 ⟨rfl, hb⟩
    have HB2 := Sh.mk (below_then HB.out hb)
    clear hb
    go_wp2
    go_ret
    exact ⟨by rw [ER.out, HP.out]; rfl, HB2.out⟩
/-! ### types.change, types.Copy -/
mutual
def Ty.thin : Ty → Prop
  | .mk k n ps => ps.length ≤ 1000000 ∧ Ty.thins ps
def Ty.thins : List Ty → Prop
  | [] => True
  | p :: ps => p.thin ∧ Ty.thins ps
end
theorem Ty.thins_iff : ∀ ps : List Ty, Ty.thins ps ↔ ∀ p, p ∈ ps → p.thin
  | [] => by rw [Ty.thins]; simp
  | p :: ps => by rw [Ty.thins, Ty.thins_iff ps]; simp
mutual
def Ty.change (φ : Int → Int) : Ty → Ty
  | .mk k n ps => .mk k (if k = 1 then φ n else n) (Ty.changes φ ps)
def Ty.changes (φ : Int → Int) : List Ty → List Ty
  | [] => []
  | p :: ps => p.change φ :: Ty.changes φ ps
end
theorem Ty.changes_eq (φ : Int → Int) : ∀ ps : List Ty, Ty.changes φ ps = ps.map (Ty.change φ)
  | [] => by rw [Ty.changes]; rfl
  | p :: ps => by rw [Ty.changes, Ty.changes_eq φ ps]; rfl
theorem Ty.change_id : ∀ t : Ty, t.change (fun n => n) = t := by
  apply Ty.ind_
  intro k n ps ih
  rw [Ty.change, Ty.changes_eq]
  congr 1
  · split <;> rfl
  · conv => rhs; rw [← List.map_id ps]
    exact List.map_congr_left (fun p hp => ih p hp)
/-- What a function on numbers that is handed in does, from a world on. -/
def DoInt (φ : Int → Int) (g : Nat) (cap : Array Value) (W : World) : Prop := ∀ (n : Int) (w1 : World), Below W.heap.size W w1 → Calls Tryz.prog g ([.int .i64 n].toArray ++ cap) w1 fun e w2 => e = .returned (.int .i64 (φ n)) ∧ Below w1.heap.size w1 w2
theorem DoInt.later {φ : Int → Int} {g : Nat} {cap : Array Value} {W W' : World} (h : DoInt φ g cap W) (hb : Below W.heap.size W W') : DoInt φ g cap W' := fun n w1 h1 => h n w1 (below_then hb h1)
theorem info_Type : (Tryz.prog.info? 65).map (fun i => (i.zero, i.size, i.bytes)) = some (some (.agg #[.int .i64 0, .int .i64 0, .slice none 0 0]), 3, 40) := by kernel_rfl
def ChangeSaid (φ : Int → Int) (t : Ty) : Prop := ∀ (S : Nat → Prop) (s : Value) (g : Nat) (cap : Array Value) (fv : Value) (w : World), Fnv Tryz.prog fv g cap → DoInt φ g cap w → t.thin → PartsAt w S t s →
  Calls Tryz.prog 168 #[.agg #[.int .i64 t.kind, .int .i64 t.n, s], fv] w fun e w' => ∃ s', (e = .returned (.agg #[.int .i64 t.kind, .int .i64 (t.change φ).n, s']) ∧ PartsAt w' (fun k => w.heap.size ≤ k) (t.change φ) s' ∧ Below w.heap.size w w')
theorem change_calls (φ : Int → Int) : ∀ t : Ty, ChangeSaid φ t := by
  apply Ty.ind_
  intro k0 n ps ih S s g cap fv w hfv hdo hthin h
  have IH := Sh.mk ih
  have H := Sh.mk h
  have HDO := Sh.mk hdo
  obtain ⟨A, c, rfl, hl⟩ := h.shape
  have HT := Sh.mk hthin
  obtain ⟨n', hn'⟩ : ∃ n', n' = (Ty.change φ (Ty.mk k0 n ps)).n := ⟨_, rfl⟩
  have HN := Sh.mk hn'
  clear ih h hdo hthin
  rw [← hn']
  clear hn'
  have eL : (Ty.mk k0 n ps).parts = ps := rfl
  have eK : (Ty.mk k0 n ps).kind = k0 := rfl
  have eN : (Ty.mk k0 n ps).n = n := rfl
  rw [eL, eK, eN] at *
  clear eL eK eN
  go_enter Tryz.func168, Tryz.ntmps168
  go_upto_if 10 with (fail)
  go_cut [] (fun wx => Sh (Blk wx w.heap.size 65 [.int .i64 k0, .int .i64 n', .slice A ps.length c]) ∧ Sh (Blk wx (w.heap.size + 1) 65 [.int .i64 0, .int .i64 0, .slice none 0 0]) ∧ Sh (Below w.heap.size w wx) ∧ Sh (w.heap.size + 1 < wx.heap.size))
  case first =>
    by_cases hk : k0 = 1
    · subst hk
      go_wp2_with (refine callV (some 14) rfl rfl rfl rfl hfv [_] rfl ?_)
      refine (HDO.out n _ (((Below.refl _ _).alloc (Nat.le_refl _) _).alloc (by simp) _)).mono ?_
      rintro e w1 ⟨rfl, hb⟩
      refine ⟨_, rfl, ?_⟩
      have b0 := ((Blk.new w 65 [.int .i64 1, .int .i64 n, .slice A ps.length c]).alloc (.cells #[.int .i64 0, .int .i64 0, .slice none 0 0] 65)).keep hb
      have b1 := (Blk.new (w.alloc (.cells #[.int .i64 1, .int .i64 n, .slice A ps.length c] 65)) 65 [.int .i64 0, .int .i64 0, .slice none 0 0]).keep hb
      have HB := Sh.mk (below_then (((Below.refl _ _).alloc (Nat.le_refl _) _).alloc (by simp) _) hb)
      have c1 := b0.cell 1
      have f1 := b0.frozen 1
      simp only [List.getElem?_cons_succ, List.getElem?_cons_zero] at c1
      have hsz := Sh.mk hb.size
      have B0 := Sh.mk b0
      have B1 := Sh.mk b1
      clear b0 b1 hb
      go_wp2
      go_meet
      refine ⟨⟨?_⟩, ⟨?_⟩, ⟨?_⟩, ⟨?_⟩⟩
      · have := B0.out.set_ 1 (.int .i64 (φ n))
        rw [HN.out]
        simpa [Ty.change, Ty.n] using this
      · have := B1.out.far (p := ⟨w.heap.size, 1, none⟩) (by simp) (.int .i64 (φ n))
        simpa using this
      · exact HB.out.setCell (by simp) _
      · have := hsz.out
        simp at this
        simp [World.setCell]
        omega
    · have hk1 : (k0 == 1) = false := by simpa using hk
      have HK := Sh.mk hk
      clear hk
      go_wp2
      go_meet
      refine ⟨⟨?_⟩, ⟨?_⟩, ⟨?_⟩, ⟨?_⟩⟩
      · have := (Blk.new w 65 [.int .i64 k0, .int .i64 n, .slice A ps.length c]).alloc (.cells #[.int .i64 0, .int .i64 0, .slice none 0 0] 65)
        rw [HN.out]
        simpa [Ty.change, Ty.n, HK.out] using this
      · exact Blk.new' (w.alloc (.cells #[.int .i64 k0, .int .i64 n, .slice A ps.length c] 65)) 65 [.int .i64 0, .int .i64 0, .slice none 0 0] (by simp)
      · exact ((Below.refl _ _).alloc (Nat.le_refl _) _).alloc (by simp) _
      · simp
  case rest =>
    obtain ⟨HB0, HB1, HB, HSZ⟩ := hcut
    have c2 := HB0.out.cell 2
    simp only [List.getElem?_cons_succ, List.getElem?_cons_zero] at c2
    go_wp2
    have hl1 : ps.length ≤ 9223372036854775807 := hl
    go_loopw [5, 19] (fun v5 v19 wr => ∃ k : Nat, k ≤ ps.length ∧ v19 = .int .i64 k ∧ Sh (Owns wr (fun b => w.heap.size + 2 ≤ b) (w.heap.size + 2) 65 3 v5 ((ps.take k).map fun p => (p.change φ).enc)) ∧ Sh (Blk wr w.heap.size 65 [.int .i64 k0, .int .i64 n', .slice A ps.length c]) ∧ Sh (Blk wr (w.heap.size + 1) 65 [.int .i64 0, .int .i64 0, .slice none 0 0]) ∧ Sh (Below w.heap.size w wr) ∧ Sh (w.heap.size + 1 < wr.heap.size)) (fun _ v19 _ => ps.length - (intOf v19).toNat)
    case atStart => exact ⟨0, Nat.zero_le _, rfl, ⟨Owns.nil _ _ _ _ _⟩, HB0, HB1, HB, HSZ⟩
    case round =>
      clear c2 HB0 HB1 HB HSZ
      obtain ⟨k, hk, rfl, HO, HB0, HB1, HB, HSZ⟩ := hrel
      by_cases hlt : k < ps.length
      · have hx : ps[k]? = some ps[k] := List.getElem?_eq_getElem hlt
        generalize ps[k] = x at hx
        have HX := Sh.mk hx
        obtain ⟨ad, A3, c3, rfl, hS, hbl, h0, h1, h2, h4⟩ := tyRow_elem (H.out.below HB.out) hx
        have H4 := Sh.mk h4
        clear hx h4
        have hv5 := Sh.mk HO.out.base_le
        have HAL := Sh.mk ((Below.refl wr.heap.size wr).alloc (Nat.le_refl _) (.cells #[.int .i64 x.kind, .int .i64 x.n, .slice A3 x.parts.length c3] 65))
        have HTX := Sh.mk ((Ty.thins_iff ps).1 HT.out.2 x (List.mem_of_getElem? HX.out))
        have HPL : ps.length ≤ 1000000 := HT.out.1
        go_wp2_with fail
        refine (IH.out x (List.mem_of_getElem? HX.out) S _ g cap fv _ hfv (HDO.out.later (below_then HB.out HAL.out)) HTX.out (H4.out.below HAL.out)).mono ?_
        rintro e w1 ⟨s', rfl, hP, hb⟩
        have hO1 := Sh.mk (HO.out.below (below_then HAL.out hb))
        have HB1' := Sh.mk ((HB1.out.keep HAL.out).keep hb)
        have HB0' := Sh.mk ((HB0.out.keep HAL.out).keep hb)
        have HB' := Sh.mk (below_then HB.out (below_then HAL.out hb))
        have HSZ1 := Sh.mk (Nat.lt_of_lt_of_le HSZ.out (Nat.le_trans HAL.out.size hb.size))
        obtain ⟨As', cs', hs', _⟩ := hP.shape
        have HP := Sh.mk hP
        have HBC := Sh.mk (Nat.le_trans HAL.out.size hb.size)
        clear hb hP HO HB0 HB1 HB h0 h1 h2
        subst hs'
        have hlen : ((ps.take k).map fun p => (p.change φ).enc).length = k := by rw [List.length_map, List.length_take]; omega
        have hD : CellsAt w1 (fun b => w.heap.size + 2 ≤ b ∧ u5.ownBlock ≠ some b) (x.change φ).enc [.int .i64 x.kind, .int .i64 (x.change φ).n, .slice As' (x.change φ).parts.length cs'] :=
          Ty.cells.2 ⟨_, by cases x; rfl, Dat.at_mono HP.out (fun b hb1 _ => ⟨by have := HSZ.out; simp at hb1; omega, fun e => by have := (hv5.out b e).2; simp at hb1; omega⟩)⟩
        have HD := Sh.mk hD
        have hl40 : (((ps.take k).map fun p => (p.change φ).enc).length + 1) * 40 ≤ 140737488355328 := by rw [hlen]; omega
        have HL40 := Sh.mk hl40
        have HBASE := Sh.mk (show w.heap.size + 2 ≤ w1.heap.size by have := HSZ1.out; omega)
        clear hD hl40 hv5
        go_wp2_with (at_builtin; refine append_one (w0 := w1) (W := w1) rfl (w.heap.size + 2) rfl (.tmp 23) (.tmp 27) 63 65 _ 3 40 rfl Tryz.underlying63 info_Type rfl (by omega) (by omega) u5 _ (x.change φ).enc [.int .i64 x.kind, .int .i64 (x.change φ).n, .slice As' (x.change φ).parts.length cs'] rfl rfl (by simp [Value.oneCell']) hO1.out HD.out rfl (Below.refl _ _) HBASE.out HL40.out ?_; intro v1 w2 hO2 hB2 hg2 hv2; have HO2 := Sh.mk hO2; have HB2 := Sh.mk hB2; clear hO2 hB2 hg2 hv2)
        have HTK : (ps.take (k + 1)).map (fun p => (p.change φ).enc) = (ps.take k).map (fun p => (p.change φ).enc) ++ [(x.change φ).enc] := by
          rw [List.take_add_one, HX.out, List.map_append]; rfl
        have HTK := Sh.mk HTK
        go_roundw
        case rel => exact ⟨k + 1, by omega, by go_num, ⟨by rw [HTK.out]; exact HO2.out⟩, ⟨HB0'.out.below HB2.out (by omega)⟩, ⟨HB1'.out.below HB2.out (by omega)⟩, ⟨HB'.out.trans (HB2.out.mono (by omega))⟩, ⟨by have := HB2.out.size; have := HSZ1.out; omega⟩⟩
        case measure => simp [intOf]; omega
      · have hk2 : k = ps.length := by omega
        have HK2 := Sh.mk hk2
        have hlen : ((ps.take k).map fun p => (p.change φ).enc).length = k := by rw [List.length_map, List.length_take]; omega
        have c00 := HB0.out.cell 0
        have c01 := HB0.out.cell 1
        have c02 := HB0.out.cell 2
        have c10 := HB1.out.cell 0
        have c11 := HB1.out.cell 1
        have c12 := HB1.out.cell 2
        have f02 := HB0.out.frozen 2
        have f10 := HB1.out.frozen 0
        have f11 := HB1.out.frozen 1
        have f12 := HB1.out.frozen 2
        simp only [List.getElem?_cons_succ, List.getElem?_cons_zero] at c00 c01 c02 c10 c11 c12
        obtain ⟨A5, c5, h5⟩ := HO.out.shape
        rw [hlen] at h5
        subst h5
        clear hlen hk2
        go_wp2
        refine bodyPost_ret (v := .agg #[.int .i64 k0, .int .i64 n', .slice A5 k c5]) (by simp [results, Tryz.results168, go_sem, *]) rfl ⟨_, rfl, ?_, ?_⟩
        · have h1 := (((HO.out.far (p := ⟨w.heap.size, 2, none⟩) (.slice A5 k c5) (fun b hb => by simp; omega) (by simp)).far (p := ⟨w.heap.size + 1, 0, none⟩) (.int .i64 k0) (fun b hb => by simp; omega) (by simp)).far (p := ⟨w.heap.size + 1, 1, none⟩) (.int .i64 n') (fun b hb => by simp; omega) (by simp)).far (p := ⟨w.heap.size + 1, 2, none⟩) (.slice A5 k c5) (fun b hb => by simp; omega) (by simp)
          have h2 := Owns.at (Owns.mono (S' := fun b => w.heap.size ≤ b) h1 (fun b hb _ => by omega)) (fun b hb => by have := (h1.base_le b hb).1; omega)
          rw [HK2.out, List.take_length] at h2
          unfold PartsAt
          rw [Ty.change, Ty.changes_eq]
          simp only [Ty.parts, List.map_map]
          rw [HK2.out]
          exact h2
        · exact ((((HB.out.setCell (by simp) _).setCell (by simp) _).setCell (by simp) _).setCell (by simp) _)
theorem Copy1_calls (n : Int) (w : World) : Calls Tryz.prog 169 #[.int .i64 n] w fun e w' => e = .returned (.int .i64 n) ∧ Below w.heap.size w w' := by
  go_enter Tryz.func169, Tryz.ntmps169
  go_wp2
  go_ret
  exact ⟨rfl, Below.refl _ _⟩
theorem fnv_Copy1 : Fnv Tryz.prog (.func (.func 169) #[] #[]) 169 #[] := ⟨rfl, _, Tryz.func169, by kernel_rfl, rfl⟩
theorem Copy_calls (t : Ty) (S : Nat → Prop) (s : Value) (w : World) (ht : t.thin) (h : PartsAt w S t s) :
    Calls Tryz.prog 123 #[.agg #[.int .i64 t.kind, .int .i64 t.n, s]] w fun e w' => ∃ s', (e = .returned (.agg #[.int .i64 t.kind, .int .i64 t.n, s']) ∧ PartsAt w' (fun k => w.heap.size ≤ k) t s' ∧ Below w.heap.size w w') := by
  have HT := Sh.mk ht
  obtain ⟨A, c, rfl, hl⟩ := h.shape
  have HA := Sh.mk (((Below.refl w.heap.size w).alloc (Nat.le_refl _) (.cells #[.int .i64 t.kind, .int .i64 t.n, .slice A t.parts.length c] 65)).alloc (by simp) (.cells #[.int .i64 0, .int .i64 0, .slice none 0 0] 65))
  have H := Sh.mk (h.below HA.out)
  clear h ht
  go_enter Tryz.func123, Tryz.ntmps123
  go_wp2_with fail
  refine (change_calls (fun n => n) t S _ _ _ _ _ fnv_Copy1 (fun n w1 _ => Copy1_calls n w1) HT.out H.out).mono ?_
  rintro e w1 ⟨s', rfl, hP, hb⟩
  rw [Ty.change_id] at *
  obtain ⟨A', c', rfl, _⟩ := hP.shape
  have b1 := (Blk.new' (w.alloc (.cells #[.int .i64 t.kind, .int .i64 t.n, .slice A t.parts.length c] 65)) 65 [.int .i64 0, .int .i64 0, .slice none 0 0] (by simp : _ = w.heap.size + 1)).keep hb
  have c10 := b1.cell 0
  have c11 := b1.cell 1
  have c12 := b1.cell 2
  have f10 := b1.frozen 0
  have f11 := b1.frozen 1
  have f12 := b1.frozen 2
  simp only [List.getElem?_cons_succ, List.getElem?_cons_zero] at c10 c11 c12
  have HB := Sh.mk (below_then HA.out hb)
  have HP := Sh.mk hP
  clear b1 hb hP
  go_wp2
  refine bodyPost_ret (v := .agg #[.int .i64 t.kind, .int .i64 t.n, .slice A' t.parts.length c']) (by simp [results, Tryz.results123, go_sem, *]) rfl ⟨_, rfl, ?_, ?_⟩
  · have h0 : ∀ j u (w2 : World), PartsAt w2 (fun k => w.heap.size + 2 ≤ k) t (.slice A' t.parts.length c') → PartsAt (w2.setCell ⟨w.heap.size + 1, j, none⟩ u) (fun k => w.heap.size + 2 ≤ k) t (.slice A' t.parts.length c') :=
      fun j u w2 h => Dat.at_step (fun k hk hl => ⟨hk, Below.heap_setCell _ _ _ _ (by simp; omega)⟩) _ _ h
    have h1 : PartsAt w1 (fun k => w.heap.size + 2 ≤ k) t (.slice A' t.parts.length c') := Dat.at_mono HP.out (fun k hk _ => by simp at hk; omega)
    exact Dat.at_mono (h0 _ _ _ (h0 _ _ _ (h0 _ _ _ h1))) (fun k hk _ => by omega)
  · exact (((HB.out.setCell (by simp) _).setCell (by simp) _).setCell (by simp) _)
end Go.Proofs.YtkfdhmeipnfhpaaGreatDoor
