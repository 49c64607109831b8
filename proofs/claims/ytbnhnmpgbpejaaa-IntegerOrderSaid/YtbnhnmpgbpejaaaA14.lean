/- The abstract run of a statement in the text's order. No program in sight. -/
import Derived.Test.YtbnhnmpgbpejaaaA13
namespace Go.Proofs.Ytbnhnmpgbpejaaa
set_option linter.unusedSimpArgs false
set_option linter.unusedVariables false
open Go.RowKit

def vcOp (P : Program) (Γ : Tab) (Δ : Gab) (ops : Array Oper) (o : Oper) (σ : St) (k : Kt) : Prop :=
  match o.guard with
  | none => aop P Γ Δ o.op σ.ev σ.H σ.n k
  | some (j, want) => match (ops[j]?).bind (·.dst) with
    | none => k (.raw undef) [] []
    | some d => d < σ.N ∧ (match σ.s d with
      | .raw (.bool b) => (b = want → aop P Γ Δ o.op σ.ev σ.H σ.n k) ∧ (b = !want → k (.raw undef) [] [])
      | .raw (.tuple _) => k (.raw undef) [] []
      | _ => False)
def dstOk (o : Oper) (N : Nat) : Prop := match o.dst with
  | some d => d < N
  | none => True
def vcOps (P : Program) (Γ : Tab) (Δ : Gab) (ops : Array Oper) : List Oper → St → (St → Prop) → Prop
  | [], σ, K => K σ
  | o :: os, σ, K => dstOk o σ.N ∧ vcOp P Γ Δ ops o σ fun v ws _ => vcOps P Γ Δ ops os (σ.put o.dst v ws) K

/-- What is foreign is old, and is not to be written. -/
structure Stat (B A : Nat → Prop) (W : World) : Prop where
  old : ∀ b, B b → b < W.heap.size
  apart : ∀ b, A b → ¬ B b
section
variable {P : Program} {Γ : Tab} {Δ : Gab} {B A : Nat → Prop} {W : World} {ops : Array Oper} {Q : Exit → Act → World → Prop}
theorem Sim.hB {σ a w ρ} (hs : Sim B A W σ a w ρ) (st : Stat B A W) : ∀ b, B b → b < w.heap.size := fun b hb => Nat.lt_of_lt_of_le (st.old b hb) hs.grow
theorem Sim.hfar {σ a w ρ} (hs : Sim B A W σ a w ρ) (st : Stat B A W) : ∀ k x b, σ.H k = some x → ρ k = some b → ¬ B b := fun k x b h1 h2 hb => by
  rcases hs.mine k x b h1 h2 with h | h
  · exact st.apart b h hb
  · have := st.old b hb; omega
theorem dstOk_lt {o : Oper} {N : Nat} (h : dstOk o N) : ∀ d, o.dst = some d → d < N := fun d hd => by
  unfold dstOk at h; rw [hd] at h; exact h
theorem slot_val {σ a w ρ} (hs : Sim B A W σ a w ρ) {d : Nat} (hd : d < σ.N) {u : Value} (h : σ.s d = .raw u) : a.tmps[d]? = some u := by
  have h1 := hs.slots d
  rw [h] at h1
  have h2 := RepW.raw_inv h1
  have hlt : d < a.tmps.size := by rw [hs.size]; exact hd
  rw [Array.getElem?_eq_getElem hlt, ← h2]
  simp [hlt]
/-- One operation; the new row's name may be any that is free. -/
theorem vcOp_run (hΓ : TabOk P Γ) (hΔ : GabOk P Δ) (st : Stat B A W) {σ a w ρ} (hs : Sim B A W σ a w ρ) {n : Nat} (hn : ρ n = none) {o : Oper} {k : Kt} (h : vcOp P Γ Δ ops o { σ with n := n } k) :
    ∃ z ws rs, k z ws rs ∧ ∀ (next : Act → World → Prop), (∀ v w' ρ', Step σ.H w ρ (σ.H.puts ws) w' ρ' → HRep w' (own B ρ' (σ.H.puts ws)) ρ' (σ.H.puts ws) → (∀ j, j ≠ n → ρ j = none → ρ' j = none) → RepV w' (own B ρ' (σ.H.puts ws)) ρ' z v → next (a.put o.dst v) w') →
      (if Region.wanted o (yielded ops a.tmps) then o.wp P a w next Q ∨ (o.asks P a w ∧ LetsOut Q) else next (a.put o.dst undef) w) := by
  have skip : ∀ (next : Act → World → Prop), (∀ v w' ρ', Step σ.H w ρ (σ.H.puts []) w' ρ' → HRep w' (own B ρ' (σ.H.puts [])) ρ' (σ.H.puts []) → (∀ j, j ≠ n → ρ j = none → ρ' j = none) → RepV w' (own B ρ' (σ.H.puts [])) ρ' (.raw undef) v → next (a.put o.dst v) w') → next (a.put o.dst undef) w := fun next hn =>
    hn undef w ρ (Step.refl _ _ _) hs.heap (fun _ _ h => h) (RepW.raw rfl)
  have run : aop P Γ Δ o.op σ.ev σ.H n k → ∃ z ws rs, k z ws rs ∧ ∀ (next : Act → World → Prop), (∀ v w' ρ', Step σ.H w ρ (σ.H.puts ws) w' ρ' → HRep w' (own B ρ' (σ.H.puts ws)) ρ' (σ.H.puts ws) → (∀ j, j ≠ n → ρ j = none → ρ' j = none) → RepV w' (own B ρ' (σ.H.puts ws)) ρ' z v → next (a.put o.dst v) w') → o.wp P a w next Q := fun h => by
    obtain ⟨z, ws, rs, hk, hok⟩ := aop_ok (P := P) (a := a) (o := o) hΓ hΔ hs.heap hn (hs.hB st) (hs.hfar st) hs.ev h
    exact ⟨z, ws, rs, hk, fun next hn => hok next Q hn⟩
  have hev : ({ σ with n := n } : St).ev = σ.ev := by funext x; cases x <;> rfl
  unfold vcOp at h
  rw [hev] at h
  split at h
  · rename_i hg
    obtain ⟨z, ws, rs, hk, hok⟩ := run h
    refine ⟨z, ws, rs, hk, fun next hn => ?_⟩
    rw [if_pos (by simp [Region.wanted, hg])]
    exact .inl (hok next hn)
  · rename_i j want hg
    split at h
    · rename_i hj
      refine ⟨_, _, _, h, fun next hn => ?_⟩
      rw [if_neg]
      · exact skip next hn
      · simp [Region.wanted, hg, yielded, hj]
    · rename_i d hj
      obtain ⟨hdl, h⟩ := h
      split at h
      · rename_i b hb
        have hv := slot_val hs hdl hb
        have hw : Region.wanted o (yielded ops a.tmps) = (b == want) := by
          simp [Region.wanted, hg, yielded, hj, hv]
        by_cases hbw : b = want
        · obtain ⟨z, ws, rs, hk, hok⟩ := run (h.1 hbw)
          refine ⟨z, ws, rs, hk, fun next hn => ?_⟩
          rw [if_pos (by rw [hw]; simp [hbw])]
          exact .inl (hok next hn)
        · have h2 := h.2 (by cases b <;> cases want <;> simp_all)
          refine ⟨_, _, _, h2, fun next hn => ?_⟩
          rw [if_neg (by rw [hw]; simp [hbw])]
          exact skip next hn
      · rename_i vs hb
        have hv := slot_val hs hdl hb
        refine ⟨_, _, _, h, fun next hn => ?_⟩
        rw [if_neg]
        · exact skip next hn
        · simp [Region.wanted, hg, yielded, hj, hv]
      · exact h.elim
/-- One operation. -/
theorem vcOp_ok (hΓ : TabOk P Γ) (hΔ : GabOk P Δ) (st : Stat B A W) {σ a w ρ} (hs : Sim B A W σ a w ρ) {o : Oper} {k : Kt} (h : vcOp P Γ Δ ops o σ k) (hd : dstOk o σ.N) :
    ∃ z ws rs, k z ws rs ∧ ∀ (next : Act → World → Prop), (∀ v w' ρ', Sim B A W (σ.put o.dst z ws) (a.put o.dst v) w' ρ' → next (a.put o.dst v) w') →
      (if Region.wanted o (yielded ops a.tmps) then o.wp P a w next Q ∨ (o.asks P a w ∧ LetsOut Q) else next (a.put o.dst undef) w) := by
  obtain ⟨z, ws, rs, hk, hok⟩ := vcOp_run (Q := Q) (n := σ.n) hΓ hΔ st hs (hs.fresh _ (Nat.le_refl _)) h
  exact ⟨z, ws, rs, hk, fun next hn => hok next fun v w' ρ' h1 h2 h3 h4 => hn v w' ρ' (hs.put (dstOk_lt hd) h1 h2 h3 h4)⟩
theorem vcOps_ok (hΓ : TabOk P Γ) (hΔ : GabOk P Δ) (st : Stat B A W) {K : St → Prop} (hK : ∀ σ a w ρ, K σ → Sim B A W σ a w ρ → Q .normal a w) : ∀ (os : List Oper) (i : Nat) (σ : St) (a : Act) (w : World) (ρ : Nat → Option Nat), ops.toList.drop i = os → Sim B A W σ a w ρ → vcOps P Γ Δ ops os σ K →
    wpOps P ops Q (List.range' i os.length) a w
  | [], i, σ, a, w, ρ, _, hs, h => hK σ a w ρ h hs
  | o :: os, i, σ, a, w, ρ, hi, hs, h => by
    have hoi : ops[i]? = some o := by
      have h1 : (ops.toList.drop i)[0]? = some o := by rw [hi]; rfl
      rw [List.getElem?_drop] at h1
      simpa using h1
    have hos : ops.toList.drop (i + 1) = os := by
      rw [← List.drop_drop, hi]; rfl
    obtain ⟨hd, h⟩ := h
    obtain ⟨z, ws, rs, hk, hok⟩ := vcOp_ok (Q := Q) (P := P) (ops := ops) hΓ hΔ st hs h hd
    simp only [List.length_cons, List.range'_succ, wpOps, hoi]
    have h2 := hok (wpOps P ops Q (List.range' (i + 1) os.length)) fun v w' ρ' hs' => vcOps_ok hΓ hΔ st hK os (i + 1) _ _ w' ρ' hos hs' hk
    exact h2
end
end Go.Proofs.Ytbnhnmpgbpejaaa
