/- Arithmetic of the abstract run is that of the program. No program in sight. -/
import Derived.Test.YtbnhnmpgbpejaaaA5
import Derived.Lib.SliceRun
namespace Go.Proofs.Ytbnhnmpgbpejaaa
set_option linter.unusedSimpArgs false
set_option linter.unusedVariables false
open Go.RowKit

section
variable {P : Program} {w : World}
theorem quo_in {k : IntKind} {a b : Int} (h0 : 0 ≤ a) (h1 : a ≤ k.max) (h2 : 1 ≤ b) : k.wrap (a.tdiv b) = a / b := by
  have e1 : a.tdiv b = a / b := Int.tdiv_eq_ediv_of_nonneg h0
  have e2 : 0 ≤ a / b := Int.ediv_nonneg h0 (by omega)
  have e3 : a / b ≤ a := Int.ediv_le_self _ h0
  rw [e1]
  have hk : a / b ≤ k.max := by omega
  generalize a / b = c at *
  cases k <;> simp [IntKind.max, IntKind.signed, IntKind.bits] at hk <;> simp [IntKind.wrap, IntKind.bits, IntKind.signed] <;> omega
/-- What an operator gives on two integers. -/
theorem aArith_ok {op : BinOp} {k : IntKind} {a b : Int} {K : V → Prop} (t : TypeId) (h : aArith op k a b K) : ∃ z, K (.raw z) ∧ (binOp op t (.int k a) (.int k b)).run P w = .ok z w ∧ z.cells = #[z] := by
  unfold aArith at h
  split at h
  case h_1 => exact ⟨_, h.2, by simp [binOp, Op.intArith, IntWalk.i64_in _ h.1], rfl⟩
  case h_2 => exact ⟨_, h.2, by simp [binOp, Op.intArith, IntWalk.i64_in _ h.1], rfl⟩
  case h_3 => exact ⟨_, h.2, by simp [binOp, Op.intArith, IntWalk.i64_in _ h.1], rfl⟩
  case h_4 => exact ⟨_, h.2, by simp [binOp, Op.intArith, IntWalk.u64_in _ h.1], rfl⟩
  case h_5 => exact ⟨_, h.2, by simp [binOp, Op.intArith, IntWalk.u64_in _ h.1], rfl⟩
  case h_6 => exact ⟨_, h, by simp [binOp, Op.intArith, IntKind.wrap, IntKind.bits, IntKind.signed], rfl⟩
  case h_7 => exact ⟨_, h, by simp [binOp, Op.intArith, IntKind.wrap, IntKind.bits, IntKind.signed], rfl⟩
  case h_8 => exact ⟨_, h, by simp [binOp, Op.intArith, IntKind.wrap, IntKind.bits, IntKind.signed], rfl⟩
  case h_9 => exact ⟨_, h, by simp [binOp, Op.intArith, IntKind.wrap, IntKind.bits, IntKind.signed], rfl⟩
  case h_10 => exact ⟨_, h, by simp [binOp, Op.intArith, IntKind.wrap, IntKind.bits, IntKind.signed], rfl⟩
  case h_11 => exact ⟨_, h, by simp [binOp, Op.intArith, IntKind.wrap, IntKind.bits, IntKind.signed], rfl⟩
  case h_12 =>
    obtain ⟨⟨h0, h1, h2⟩, h⟩ := h
    have hb : b ≠ 0 := by omega
    exact ⟨_, h, by simp [binOp, Op.intDiv, hb, quo_in h0 h1 h2], rfl⟩
  case h_13 =>
    obtain ⟨⟨h0, h2⟩, h⟩ := h
    have hb : b ≠ 0 := by omega
    have e1 : a.tmod b = a % b := Int.tmod_eq_emod_of_nonneg h0
    exact ⟨_, h, by simp [binOp, Op.intDiv, hb, e1], rfl⟩
  case h_14 => exact ⟨_, h, by simp [binOp, intBits_and], rfl⟩
  case h_15 => exact ⟨_, h, by simp [binOp, intBits_or], rfl⟩
  case h_16 => exact ⟨_, h, by simp [binOp, intBits_xor], rfl⟩
  case h_17 => exact ⟨_, h, by simp [binOp, Op.intCmp], rfl⟩
  case h_18 => exact ⟨_, h, by simp [binOp, Op.intCmp], rfl⟩
  case h_19 => exact ⟨_, h, by simp [binOp, Op.intCmp], rfl⟩
  case h_20 => exact ⟨_, h, by simp [binOp, Op.intCmp], rfl⟩
  case h_21 => exact ⟨_, h, by simp [binOp, Op.intCmp], rfl⟩
  case h_22 => exact ⟨_, h, by simp [binOp, Op.intCmp], rfl⟩
  case h_23 => exact h.elim
theorem aStr_ok {op : BinOp} {a b : ByteArray} {K : V → Prop} (t : TypeId) (h : aStr op a b K) : ∃ z, K (.raw z) ∧ (binOp op t (.string a) (.string b)).run P w = .ok z w ∧ z.cells = #[z] := by
  unfold aStr at h
  split at h
  · obtain ⟨h1, h⟩ := h
    refine ⟨_, h, ?_, rfl⟩
    have h2 : ¬ IntKind.i64.max < (a.size : Int) + b.size := by simp [IntKind.max, IntKind.signed, IntKind.bits]; omega
    simp [binOp, Op.stringOp]
    omega
  · exact ⟨_, h, by simp [binOp, Op.stringOp], rfl⟩
  · exact ⟨_, h, by simp [binOp, Op.stringOp], rfl⟩
  · exact h.elim
theorem RepW.notNone {O ρ x u} (h : RepW w O ρ x u) : RepW w O ρ x u := h
theorem nil_ok {K : V → Prop} (op : BinOp) (t : TypeId) (a b : Operand) (A : Option Addr) (n c : Nat) (h : nilB P op t A.isNone K) :
    ∃ z, K (.raw z) ∧ (do eqGuard op t a b (.slice A n c) (.slice none 0 0); binOp op t (.slice A n c) (.slice none 0 0) : Sem Value).run P w = .ok z w ∧ z.cells = #[z] := by
  have hg : (eqGuard op t a b (.slice A n c) (.slice none 0 0)).run P w = .ok () w := by
    unfold eqGuard; cases op <;> rfl
  simp only [Sem.run_bind, hg, Result.andThen_ok]
  unfold nilB at h
  split at h
  · obtain ⟨⟨e, he⟩, h⟩ := h
    exact ⟨_, h, Lib.run_eql_slice_nil w t e A n c 0 0 he, rfl⟩
  · obtain ⟨⟨e, he⟩, h⟩ := h
    refine ⟨_, h, ?_, rfl⟩
    simp only [binOp]
    simp [Op.equal, Op.maxDepth, Lib.run_equalIn_slice_nil w 9999 t e A n c 0 0 he]
  · exact h.elim
theorem aBin_ok {O ρ} {op : BinOp} {t : TypeId} {x y : V} {u v : Value} {K : V → Prop} (a b : Operand) (hx : RepV w O ρ x u) (hy : RepV w O ρ y v) (h : aBin P op t x y K) :
    ∃ z, K z ∧ ∃ r, (do eqGuard op t a b u v; binOp op t u v : Sem Value).run P w = .ok r w ∧ RepV w O ρ z r := by
  have key : (∃ z, K (.raw z) ∧ (do eqGuard op t a b u v; binOp op t u v : Sem Value).run P w = .ok z w ∧ z.cells = #[z]) → ∃ z, K z ∧ ∃ r, (do eqGuard op t a b u v; binOp op t u v : Sem Value).run P w = .ok r w ∧ RepV w O ρ z r := by
    rintro ⟨z, h1, h2, h3⟩
    exact ⟨_, h1, z, h2, RepW.raw h3⟩
  apply key
  unfold aBin at h
  split at h
  · rename_i k p k' q
    have e1 := RepW.raw_inv hx
    have e2 := RepW.raw_inv hy
    subst e1 e2
    have hg : (eqGuard op t a b (.int k p) (.int k' q)).run P w = .ok () w := by
      unfold eqGuard; cases op <;> rfl
    simp only [Sem.run_bind, hg, Result.andThen_ok]
    split at h
    · obtain ⟨h0, h1, h⟩ := h
      refine ⟨_, h, ?_, rfl⟩
      simp [binOp, shift_shl k k' p q h0 (by omega)]
    · obtain ⟨h0, h1, h⟩ := h
      refine ⟨_, h, ?_, rfl⟩
      simp [binOp, shift_shr k k' p q h0 (by omega)]
    · obtain ⟨rfl, h⟩ := h
      exact aArith_ok t h
  · have e1 := RepW.raw_inv hx
    have e2 := RepW.raw_inv hy
    subst e1 e2
    rename_i p q
    have hg : (eqGuard op t a b (.string p) (.string q)).run P w = .ok () w := by
      unfold eqGuard; cases op <;> rfl
    simp only [Sem.run_bind, hg, Result.andThen_ok]
    exact aStr_ok t h
  · have e1 := RepW.raw_inv hx
    have e2 := RepW.raw_inv hy
    subst e1 e2
    rename_i p q
    have hg : (eqGuard op t a b (.bool p) (.bool q)).run P w = .ok () w := by
      unfold eqGuard; cases op <;> rfl
    simp only [Sem.run_bind, hg, Result.andThen_ok]
    split at h
    · obtain ⟨ht, h⟩ := h
      exact ⟨_, h, run_eql_bool w t p q ht, rfl⟩
    · obtain ⟨ht, h⟩ := h
      exact ⟨_, h, run_neq_bool w t p q ht, rfl⟩
    · exact h.elim
  · have e2 := RepW.raw_inv hy
    subst e2
    have hx' := RepW.atom (RepW.notNone hx) rfl
    cases hx'
    exact nil_ok op t a b (some _) _ _ h
  · have e2 := RepW.raw_inv hy
    subst e2
    have hx' := RepW.atom (RepW.notNone hx) rfl
    cases hx'
    exact nil_ok op t a b (some _) _ _ h
  · have e1 := RepW.raw_inv hx
    have e2 := RepW.raw_inv hy
    subst e1 e2
    exact nil_ok op t a b none _ _ h
  · exact h.elim
theorem aUn_ok {O ρ} {op : UnOp} {x : V} {u : Value} {K : V → Prop} (hx : RepV w O ρ x u) (h : aUn op x K) : ∃ z, K z ∧ ∃ r, (Op.unary op u).run P w = .ok r w ∧ RepV w O ρ z r := by
  unfold aUn at h
  split at h
  · have e1 := RepW.raw_inv hx
    subst e1
    exact ⟨_, h, _, by simp [Op.unary], RepW.raw rfl⟩
  · have e1 := RepW.raw_inv hx
    subst e1
    have hw : ∀ b : Int, -9223372036854775808 ≤ b ∧ b ≤ 9223372036854775807 → IntKind.i64.wrap (0 - b) = if b = -9223372036854775808 then b else -b := fun b hb => by
      split
      · rename_i e; subst e; decide
      · rw [IntWalk.i64_in _ (by omega)]; omega
    exact ⟨_, h.2, _, by have := hw _ h.1; simp only [Int.zero_sub] at this; simp [Op.unary, Op.intArith, this], RepW.raw rfl⟩
  · have e1 := RepW.raw_inv hx
    subst e1
    exact ⟨_, h, _, by simp [Op.unary, Op.intArith], RepW.raw rfl⟩
  · have e1 := RepW.raw_inv hx
    subst e1
    exact ⟨_, h, _, by simp [Op.unary, intBits_xor], RepW.raw rfl⟩
  · exact h.elim
end
end Go.Proofs.Ytbnhnmpgbpejaaa
