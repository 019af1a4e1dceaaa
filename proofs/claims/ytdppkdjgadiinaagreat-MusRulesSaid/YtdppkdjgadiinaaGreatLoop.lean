/- Package cycle: a loop's classes are noted. -/
import Derived.Test.YtdppkdjgadiinaaGreatBeg
set_option linter.unusedVariables false
set_option linter.unusedSimpArgs false
namespace Go.Proofs.YtdppkdjgadiinaaGreat
open Go.RowKit

/-- A frame: a class, its parts' row, the next one's place. -/
structure Fr where
  id : Nat
  A : Option Addr
  n : Nat
  c : Nat
  next : Nat
def FrameK : RK Fr := ⟨155, 157, 3, 40, .agg #[.int .i64 0, .slice none 0 0, .int .i64 0], fun f => [.int .i64 f.id, .slice f.A f.n f.c, .int .i64 f.next]⟩
theorem FrameK_ok : RKok FrameK := ⟨fun _ => rfl, fun r u hu => by
  simp only [FrameK, List.mem_cons, List.not_mem_nil, or_false] at hu
  rcases hu with rfl | rfl | rfl <;> simp [Value.oneCell'], Tryz.underlying157, by kernel_rfl, rfl, Nat.succ_pos _⟩
theorem FrameK.cells {w : World} {v : Value} {fs : List Fr} (h : GRow FrameK w v fs) {i : Nat} {f : Fr} (hf : fs[i]? = some f) : ∃ g c, v = .slice (some ⟨g, 0, none⟩) fs.length c ∧
    w.cell? ⟨g, i * 3, none⟩ = some (.int .i64 f.id) ∧ w.cell? ⟨g, i * 3 + 1, none⟩ = some (.slice f.A f.n f.c) ∧ w.cell? ⟨g, i * 3 + 2, none⟩ = some (.int .i64 f.next) := by
  obtain ⟨g, c, e, hc⟩ := h.at FrameK_ok hf
  have h0 := hc 0 (by simp [FrameK])
  have h1 := hc 1 (by simp [FrameK])
  have h2 := hc 2 (by simp [FrameK])
  simp only [FrameK, List.getElem?_cons_zero, List.getElem?_cons_succ, Nat.add_zero] at h0 h1 h2
  exact ⟨g, c, e, h0, h1, h2⟩
set_option maxRecDepth 100000 in
set_option maxHeartbeats 1000000 in
theorem Wk_loop (w : World) (wk m0 m1 m2 m3 : Nat) (st : List (Int × Int)) (steps : Int) (bad : Bool) (v : Value) (fs : List Fr) (id : Nat)
    (hw : WkP w wk m0 m1 m2 m3 st steps bad) (hf : GRow FrameK w v fs) :
    Calls Tryz.prog 107 #[.pointer (some ⟨wk, 0, none⟩), v, .int .i64 id] w fun e w' => e = .returned (.tuple #[]) ∧ WkP w' wk m0 m1 m2 m3 st steps bad ∧ Chg (fun k => k = m1) w w' := by
  obtain ⟨A, c, rfl⟩ := hf.shape
  have hlen := hf.len
  have hown : ∀ x wx, WkP wx wk m0 m1 m2 m3 st steps bad → GRow FrameK wx x fs → x.ownBlock ≠ some m1 := fun x wx h1 h2 => by obtain ⟨l, h⟩ := h1.a1; exact h.ne_own h2
  have HW := Sh.mk hw
  have HF := Sh.mk hf
  have HO := Sh.mk hown
  clear hw hf hown
  obtain ⟨n, hn⟩ : ∃ n, n = fs.length := ⟨_, rfl⟩
  rw [← hn] at hlen HF ⊢
  have HN := Sh.mk hn
  clear hn
  go_enter Tryz.func107, Tryz.ntmps107
  go_wp2
  go_loopw [6] (fun v6 wr => ∃ j : Int, v6 = .int .i64 j ∧ -1 ≤ j ∧ j < n ∧ Sh (WkP wr wk m0 m1 m2 m3 st steps bad ∧ GRow FrameK wr (.slice A n c) fs ∧ Chg (fun k => k = m1) w wr)) (fun v6 _ => (intOf v6 + 1).toNat)
  case atStart =>
    refine ⟨n - 1, ?_, by omega, by omega, ⟨HW.out, HF.out, Chg.refl _ _⟩⟩
    rfl
  case round =>
    obtain ⟨j, rfl, h1, h2, HR⟩ := hrel
    by_cases hj : 0 ≤ j
    · obtain ⟨k, rfl⟩ : ∃ k : Nat, j = k := ⟨j.toNat, by omega⟩
      obtain ⟨fr, hfr⟩ : ∃ fr, fs[k]? = some fr := ⟨_, List.getElem?_eq_getElem (by have := HN.out; omega)⟩
      obtain ⟨g, c', e, x0, _, _⟩ := FrameK.cells HR.out.2.1 hfr
      simp only [Value.slice.injEq] at e
      have e1 := e.1
      clear e
      subst e1
      obtain ⟨l1, hm⟩ := HR.out.1.a1
      have q1 := HR.out.1.blk.cell 1
      simp only [List.getElem?_cons_zero, List.getElem?_cons_succ] at q1
      obtain ⟨w3, hr3, hM3, hC3, hs3⟩ := mapUpdate_run (P := Tryz.prog) (w := wr.drew) (hm.step rfl) Tryz.underlying106 Tryz.underlying3 fr.id true
      have hG3 : GRow FrameK w3 (.slice (some ⟨g, 0, none⟩) n c) fs := HR.out.2.1.step (fun b hb => hC3.block b (HR.out.2.1.lt b hb) (fun e => HO.out _ _ HR.out.1 HR.out.2.1 (e ▸ hb)))
      have hK3 : WkP w3 wk m0 m1 m2 m3 st steps bad := (HR.out.1.step (w' := wr.drew) (fun _ _ => rfl)).put1 hC3 hM3
      obtain ⟨g', c'', e, y0, _, _⟩ := FrameK.cells hG3 hfr
      simp only [Value.slice.injEq, Option.some.injEq, Addr.mk.injEq, and_true] at e
      have e1 := e.1
      clear e
      subst e1
      have HG3 := Sh.mk hG3
      have HK3 := Sh.mk hK3
      have HC3 := Sh.mk hC3
      have HFR := Sh.mk hfr
      clear hm hM3 hC3 hs3 hG3 hK3 hfr
      have HC : Sh (Chg (fun k => k = m1) w w3) := ⟨HR.out.2.2.drew.trans HC3.out (fun k hk _ => .inl hk)⟩
      go_wp2
      go_region
      go_wp2
      case roundEnd => exact ⟨⟨k - 1, rfl, by omega, by omega, ⟨HK3.out, HG3.out, HC.out⟩⟩, by simp [intOf]⟩
      refine bodyPost_ret (v := .tuple #[]) (results_none rfl _ _ _) rfl ?_
      exact ⟨rfl, HK3.out, HC.out⟩
    · go_wp2
      refine bodyPost_end (results_none rfl _ _ _) rfl ?_
      exact ⟨rfl, HR.out.1, HR.out.2.2⟩
end Go.Proofs.YtdppkdjgadiinaaGreat
