/- Texts F4 in one. -/
import Derived.Test.YtilkleibnciloaaP45
import Derived.Test.YtilkleibnciloaaP43
/- Contracts: powers and validity of rational numbers. -/
namespace Go.Proofs.Ytilkleibnciloaa
set_option linter.unusedSimpArgs false
set_option linter.unusedVariables false
open Go.RowKit

theorem dl_powI (x : Int) (n : Nat) : dl (x ^ n).natAbs ≤ n * dl x.natAbs + 1 := dl_pw1 x n
theorem qs_inv (a : Rat) : qs a⁻¹ ≤ qs a := by
  have h := qs_div 1 a
  rw [Rat.inv_def]
  refine Nat.le_trans (qs_divInt _ _) ?_
  rw [Int.natAbs_natCast]
  have := qs_num a; have := qs_den a; have := qs_pos a
  omega
theorem bits_and1 (m : Nat) (h : m ≤ 256) : bits BinOp.and IntKind.i64 (m : Int) 1 = ((m % 2 : Nat) : Int) := by
  have := and_one m 0 h
  rw [Nat.pow_zero, Nat.div_one, Int.pow_zero, Int.ediv_one] at this
  exact this
theorem qs_pow (a : Rat) (n : Nat) : qs (a ^ n) ≤ n * qs a + 1 := by
  unfold qs
  rw [Rat.num_pow, Rat.den_pow]
  have h1 := dl_pw1 a.num n
  have h2 := dl_pw1 (a.den : Int) n
  unfold pw at h1 h2
  rw [← Int.natCast_pow, Int.natAbs_natCast, Int.natAbs_natCast] at h2
  have h3 : n * dl a.num.natAbs ≤ n * max (dl a.num.natAbs) (dl a.den) := Nat.mul_le_mul_left _ (Nat.le_max_left _ _)
  have h4 : n * dl a.den ≤ n * max (dl a.num.natAbs) (dl a.den) := Nat.mul_le_mul_left _ (Nat.le_max_right _ _)
  omega
theorem pow_oneQ (a : Rat) : a ^ 1 = a := by rw [Rat.pow_succ, Rat.pow_zero, Rat.one_mul]
theorem one_castQ : ((1 : Int) : Rat) = 1 := rfl
theorem pow_addQ (a : Rat) (m : Nat) : ∀ n, a ^ (m + n) = a ^ m * a ^ n
  | 0 => by rw [Nat.add_zero, Rat.pow_zero, Rat.mul_one]
  | n + 1 => by rw [← Nat.add_assoc, Rat.pow_succ, Rat.pow_succ, pow_addQ a m n, Rat.mul_assoc]
/-- The square of what the caller holds. -/
def kSqF : List V → Prop × List V × V
  | [.Q a] => (qs a ≤ 100000000, [.Q (a * a)], .tup [])
  | _ => (False, [], .any)
attribute [go_sem] kSqF.eq_1
set_option maxRecDepth 2000 in
theorem sq_C : MCtr Try.prog 60 (conM1 29 4 kSqF) := MCtr.one rfl fun l h => by
  unfold kSqF at h ⊢
  split at h
  · rename_i a
    refine ⟨fun y hy => by simp at hy; subst hy; rfl, ?_⟩
    refine MCall.of_vc (tabs mixed (tbl_cons qMul_C tbl_nil)) Try.func60 rfl Try.ntmps60 Try.results60 (by simp) rfl (fun x hx y hy => by simp at hx; subst hx; simp at hy; subst hy; rfl) ?_
    simp only [go_sem, List.reduceReplicate, ↓reduceIte, Nat.reduceEqDiff, Nat.reduceLT, Nat.reduceLeDiff, Nat.reduceAdd, Nat.reduceSub, Nat.reduceMul, Int.reduceToNat, Int.reduceNeg, Int.reduceAdd, Int.reduceSub, Int.reduceMul, Int.reduceLT, Int.reduceLE, Int.reduceMod, Int.reducePow, Nat.reducePow, Int.reduceDiv, Nat.reduceBEq, Nat.reduceBNe, Int.reduceBEq, Int.reduceBNe, reduceCtorEq]
    exact ⟨h, fun i hi => by simp at hi⟩
  · exact h.elim
/-- A power; a negative exponent inverts. -/
def powq (a : Rat) (n : Int) : Rat := if n < 0 then a⁻¹ ^ n.natAbs else a ^ n.natAbs
def powQ (a : Rat) (n : Int) : V := if n < -256 ∨ 256 < n then qErr 1 else if n < 0 ∧ a = 0 then qErr 3 else qOk (powq a n)
set_option maxRecDepth 4000 in
theorem qPow_V (a : Rat) (n : Int) (ha : qs a ≤ 100000) : PCall Try.prog 20 [.Q a, .raw (.int .i64 n)] (powQ a n) := by
  refine PCall.of_vc (tabsM mixed (tbl_cons qSign_C (tbl_cons lowest_C (tbl_cons whole_C (tbl_cons qMul_C tbl_nil)))) (mtb_cons sq_C mtb_nil)) Try.func20 rfl Try.ntmps20 Try.results20 (by simp) ?_
  unfold powQ
  by_cases h1 : n < -256 ∨ 256 < n
  · rw [if_pos h1]
    unfold qErr
    by_cases h2 : n < -256
    · simp only [go_sem, List.reduceReplicate, ↓reduceIte, Nat.reduceEqDiff, Nat.reduceLT, Nat.reduceLeDiff, Nat.reduceAdd, Nat.reduceSub, Nat.reduceMul, Int.reduceToNat, Int.reduceNeg, Int.reduceAdd, Int.reduceSub, Int.reduceMul, Int.reduceLT, Int.reduceLE, Int.reduceMod, Int.reducePow, Nat.reducePow, Int.reduceDiv, Nat.reduceBEq, Nat.reduceBNe, Int.reduceBEq, Int.reduceBNe, reduceCtorEq, h2]
      exact out_P (out_In rfl) (out_In rfl)
    · have h3 : 256 < n := by omega
      simp only [go_sem, List.reduceReplicate, ↓reduceIte, Nat.reduceEqDiff, Nat.reduceLT, Nat.reduceLeDiff, Nat.reduceAdd, Nat.reduceSub, Nat.reduceMul, Int.reduceToNat, Int.reduceNeg, Int.reduceAdd, Int.reduceSub, Int.reduceMul, Int.reduceLT, Int.reduceLE, Int.reduceMod, Int.reducePow, Nat.reducePow, Int.reduceDiv, Nat.reduceBEq, Nat.reduceBNe, Int.reduceBEq, Int.reduceBNe, reduceCtorEq, h2, h3]
      exact out_P (out_In rfl) (out_In rfl)
  · rw [if_neg h1]
    have h2 : ¬ n < -256 := by omega
    have h3 : ¬ 256 < n := by omega
    by_cases h4 : n < 0
    · by_cases h5 : a = 0
      · have c0 : (sgI a.num == 0) = true := by rw [h5]; rfl
        rw [if_pos ⟨h4, h5⟩]
        unfold qErr
        simp only [go_sem, List.reduceReplicate, ↓reduceIte, Nat.reduceEqDiff, Nat.reduceLT, Nat.reduceLeDiff, Nat.reduceAdd, Nat.reduceSub, Nat.reduceMul, Int.reduceToNat, Int.reduceNeg, Int.reduceAdd, Int.reduceSub, Int.reduceMul, Int.reduceLT, Int.reduceLE, Int.reduceMod, Int.reducePow, Nat.reducePow, Int.reduceDiv, Nat.reduceBEq, Nat.reduceBNe, Int.reduceBEq, Int.reduceBNe, reduceCtorEq, h2, h3, h4, c0]
        exact out_P (out_In rfl) (out_In rfl)
      · have c0 : (sgI a.num == 0) = false := beqF fun h => h5 (Rat.num_eq_zero.1 (sgI_zero.1 h))
        rw [if_neg fun h => h5 h.2]
        unfold qOk
        obtain ⟨N, hN⟩ : ∃ N : Nat, N = n.natAbs := ⟨_, rfl⟩
        have c2 : -n = ((N : Nat) : Int) := by omega
        have c1 : (if n = -9223372036854775808 then n else ((N : Nat) : Int)) = ((N : Nat) : Int) := if_neg (by omega)
        have c3 : Rat.divInt (a.den : Int) a.num = a⁻¹ := (Rat.inv_def a).symm
        have hqA : qs (a⁻¹) ≤ 100000 := Nat.le_trans (qs_inv a) ha
        simp only [go_sem, List.reduceReplicate, ↓reduceIte, Nat.reduceEqDiff, Nat.reduceLT, Nat.reduceLeDiff, Nat.reduceAdd, Nat.reduceSub, Nat.reduceMul, Int.reduceToNat, Int.reduceNeg, Int.reduceAdd, Int.reduceSub, Int.reduceMul, Int.reduceLT, Int.reduceLE, Int.reduceMod, Int.reducePow, Nat.reducePow, Int.reduceDiv, Nat.reduceBEq, Nat.reduceBNe, Int.reduceBEq, Int.reduceBNe, reduceCtorEq, h2, h3, h4, c0, c2, c1, c3]
        refine ⟨⟨fun h => h5 (Rat.num_eq_zero.1 h), by have := qs_den a; rw [Int.natAbs_natCast]; omega, by have := qs_num a; omega⟩, by omega, ?_⟩
        refine AWp.loops (X := { p : Nat × Nat × Nat // p.2.1 + p.2.2 * p.1 = N ∧ 1 ≤ p.2.2 ∧ p.2.2 ≤ 256 })
          (fun p => mkSt [(1, .raw (.int .i64 (p.1.1 : Nat))), (2, .ptr 0 4 0 0), (4, .ptr 1 4 0 0), (5, .raw (.int .i64 0)), (6, .ptr 2 4 0 0), (7, .clo (.func 60) [] [.ptr 0 4 0 0])]
            [(0, true, ⟨29, 4, [.Q ((a⁻¹) ^ p.1.2.2)]⟩), (1, true, ⟨29, 4, [.agg [.raw (.bool false), .raw (.slice none 0 0), .raw (.bool false), .raw (.slice none 0 0)]]⟩), (2, true, ⟨29, 4, [.Q ((a⁻¹) ^ p.1.2.1)]⟩)] 3 52)
          (fun p => p.1.1) ⟨(N, 0, 1), by simp only; omega, Nat.le_refl 1, by simp only; decide⟩ (Wk.of [0, 1, 31] (by decide) ?_) ?_
        · simp only [go_sem, List.reduceReplicate, ↓reduceIte, Nat.reduceEqDiff, Nat.reduceLT, Nat.reduceLeDiff, Nat.reduceAdd, Nat.reduceSub, Nat.reduceMul, Int.reduceToNat, Int.reduceNeg, Int.reduceAdd, Int.reduceSub, Int.reduceMul, Int.reduceLT, Int.reduceLE, Int.reduceMod, Int.reducePow, Nat.reducePow, Int.reduceDiv, Nat.reduceBEq, Nat.reduceBNe, Int.reduceBEq, Int.reduceBNe, reduceCtorEq, Rat.pow_zero, pow_oneQ, one_castQ]
        · rintro ⟨⟨m, s, t⟩, hinv, ht1, ht2⟩
          simp only at hinv ht1 ht2
          refine vc_at (tabsM mixed (tbl_cons qSign_C (tbl_cons lowest_C (tbl_cons whole_C (tbl_cons qMul_C tbl_nil)))) (mtb_cons sq_C mtb_nil)) ?_
          by_cases hm : m = 0
          · subst hm
            simp only [go_sem, List.reduceReplicate, ↓reduceIte, Nat.reduceEqDiff, Nat.reduceLT, Nat.reduceLeDiff, Nat.reduceAdd, Nat.reduceSub, Nat.reduceMul, Int.reduceToNat, Int.reduceNeg, Int.reduceAdd, Int.reduceSub, Int.reduceMul, Int.reduceLT, Int.reduceLE, Int.reduceMod, Int.reducePow, Nat.reducePow, Int.reduceDiv, Nat.reduceBEq, Nat.reduceBNe, Int.reduceBEq, Int.reduceBNe, reduceCtorEq]
            exact out_QQ (by unfold powq; rw [if_pos h4, ← hN, show s = N from by omega])
          · have c4 : 0 < (m : Int) := by omega
            have p1 := pow_addQ (a⁻¹) s t
            have p2 := pow_addQ (a⁻¹) t t
            have hmN : t * m ≤ N := by omega
            have mt1 : m ≤ t * m := Nat.le_mul_of_pos_left _ ht1
            have tm1 : t ≤ t * m := Nat.le_mul_of_pos_right _ (by omega)
            have qt := qs_pow (a⁻¹) t
            have qs1 := qs_pow (a⁻¹) s
            have k1 : t * qs (a⁻¹) ≤ 256 * 100000 := Nat.mul_le_mul ht2 hqA
            have k2 : s * qs (a⁻¹) ≤ 256 * 100000 := Nat.mul_le_mul (by omega) hqA
            have b1 : qs ((a⁻¹) ^ t) ≤ 100000000 := by omega
            have b2 : qs ((a⁻¹) ^ s) ≤ 100000000 := by omega
            have c7 : (m : Int) / 2 = ((m / 2 : Nat) : Int) := by omega
            have t2 : (t + t) * (m / 2) = 2 * (t * (m / 2)) := by rw [← Nat.two_mul, Nat.mul_assoc]
            have t3 : t * m = 2 * (t * (m / 2)) + t * (m % 2) := by
              conv => lhs; rw [← Nat.div_add_mod m 2]
              rw [Nat.mul_add, Nat.mul_left_comm]
            by_cases ho : m % 2 = 1
            · have c5 : (bits BinOp.and IntKind.i64 (m : Int) 1 == 1) = true := by rw [bits_and1 m (by omega)]; exact beqT (by omega)
              rw [ho, Nat.mul_one] at t3
              by_cases h1m : m = 1
              · have c6 : ¬ 1 < (m : Int) := by omega
                simp only [go_sem, List.reduceReplicate, ↓reduceIte, Nat.reduceEqDiff, Nat.reduceLT, Nat.reduceLeDiff, Nat.reduceAdd, Nat.reduceSub, Nat.reduceMul, Int.reduceToNat, Int.reduceNeg, Int.reduceAdd, Int.reduceSub, Int.reduceMul, Int.reduceLT, Int.reduceLE, Int.reduceMod, Int.reducePow, Nat.reducePow, Int.reduceDiv, Nat.reduceBEq, Nat.reduceBNe, Int.reduceBEq, Int.reduceBNe, reduceCtorEq, c4, c5, c6, c7, ← p1, ← p2]
                refine ⟨⟨b2, b1⟩, ⟨(m / 2, s + t, t), ?_, ht1, ht2⟩, Wk.of [0, 1, 2] (by decide) ?_, by simp only; omega⟩
                · rw [h1m] at hinv ⊢; simp only; omega
                · simp only [go_sem, List.reduceReplicate, ↓reduceIte, Nat.reduceEqDiff, Nat.reduceLT, Nat.reduceLeDiff, Nat.reduceAdd, Nat.reduceSub, Nat.reduceMul, Int.reduceToNat, Int.reduceNeg, Int.reduceAdd, Int.reduceSub, Int.reduceMul, Int.reduceLT, Int.reduceLE, Int.reduceMod, Int.reducePow, Nat.reducePow, Int.reduceDiv, Nat.reduceBEq, Nat.reduceBNe, Int.reduceBEq, Int.reduceBNe, reduceCtorEq]
              · have c6 : 1 < (m : Int) := by omega
                have tm2 : t ≤ t * (m / 2) := Nat.le_mul_of_pos_right _ (by omega)
                simp only [go_sem, List.reduceReplicate, ↓reduceIte, Nat.reduceEqDiff, Nat.reduceLT, Nat.reduceLeDiff, Nat.reduceAdd, Nat.reduceSub, Nat.reduceMul, Int.reduceToNat, Int.reduceNeg, Int.reduceAdd, Int.reduceSub, Int.reduceMul, Int.reduceLT, Int.reduceLE, Int.reduceMod, Int.reducePow, Nat.reducePow, Int.reduceDiv, Nat.reduceBEq, Nat.reduceBNe, Int.reduceBEq, Int.reduceBNe, reduceCtorEq, c4, c5, c6, c7, ← p1, ← p2]
                refine ⟨⟨b2, b1⟩, b1, ⟨(m / 2, s + t, t + t), by simp only; omega, by simp only; omega, by simp only; omega⟩, Wk.of [0, 1, 2] (by decide) ?_, by simp only; omega⟩
                simp only [go_sem, List.reduceReplicate, ↓reduceIte, Nat.reduceEqDiff, Nat.reduceLT, Nat.reduceLeDiff, Nat.reduceAdd, Nat.reduceSub, Nat.reduceMul, Int.reduceToNat, Int.reduceNeg, Int.reduceAdd, Int.reduceSub, Int.reduceMul, Int.reduceLT, Int.reduceLE, Int.reduceMod, Int.reducePow, Nat.reducePow, Int.reduceDiv, Nat.reduceBEq, Nat.reduceBNe, Int.reduceBEq, Int.reduceBNe, reduceCtorEq]
            · have c5 : (bits BinOp.and IntKind.i64 (m : Int) 1 == 1) = false := by rw [bits_and1 m (by omega)]; exact beqF (by omega)
              have c6 : 1 < (m : Int) := by omega
              have tm2 : t ≤ t * (m / 2) := Nat.le_mul_of_pos_right _ (by omega)
              rw [show m % 2 = 0 from by omega, Nat.mul_zero] at t3
              simp only [go_sem, List.reduceReplicate, ↓reduceIte, Nat.reduceEqDiff, Nat.reduceLT, Nat.reduceLeDiff, Nat.reduceAdd, Nat.reduceSub, Nat.reduceMul, Int.reduceToNat, Int.reduceNeg, Int.reduceAdd, Int.reduceSub, Int.reduceMul, Int.reduceLT, Int.reduceLE, Int.reduceMod, Int.reducePow, Nat.reducePow, Int.reduceDiv, Nat.reduceBEq, Nat.reduceBNe, Int.reduceBEq, Int.reduceBNe, reduceCtorEq, c4, c5, c6, c7, ← p1, ← p2]
              refine ⟨b1, ⟨(m / 2, s, t + t), by simp only; omega, by simp only; omega, by simp only; omega⟩, Wk.of [0, 1, 2] (by decide) ?_, by simp only; omega⟩
              simp only [go_sem, List.reduceReplicate, ↓reduceIte, Nat.reduceEqDiff, Nat.reduceLT, Nat.reduceLeDiff, Nat.reduceAdd, Nat.reduceSub, Nat.reduceMul, Int.reduceToNat, Int.reduceNeg, Int.reduceAdd, Int.reduceSub, Int.reduceMul, Int.reduceLT, Int.reduceLE, Int.reduceMod, Int.reducePow, Nat.reducePow, Int.reduceDiv, Nat.reduceBEq, Nat.reduceBNe, Int.reduceBEq, Int.reduceBNe, reduceCtorEq]
    · rw [if_neg fun h => h4 h.1]
      unfold qOk
      obtain ⟨N, hN⟩ : ∃ N : Nat, N = n.natAbs := ⟨_, rfl⟩
      have c2 : n = ((N : Nat) : Int) := by omega
      have hqA := ha
      rw [c2] at h2 h3 h4
      rw [c2]
      simp only [go_sem, List.reduceReplicate, ↓reduceIte, Nat.reduceEqDiff, Nat.reduceLT, Nat.reduceLeDiff, Nat.reduceAdd, Nat.reduceSub, Nat.reduceMul, Int.reduceToNat, Int.reduceNeg, Int.reduceAdd, Int.reduceSub, Int.reduceMul, Int.reduceLT, Int.reduceLE, Int.reduceMod, Int.reducePow, Nat.reducePow, Int.reduceDiv, Nat.reduceBEq, Nat.reduceBNe, Int.reduceBEq, Int.reduceBNe, reduceCtorEq, h2, h3, h4]
      refine AWp.loops (X := { p : Nat × Nat × Nat // p.2.1 + p.2.2 * p.1 = N ∧ 1 ≤ p.2.2 ∧ p.2.2 ≤ 256 })
        (fun p => mkSt [(1, .raw (.int .i64 (p.1.1 : Nat))), (2, .ptr 0 4 0 0), (4, .ptr 1 4 0 0), (5, .raw (.int .i64 0)), (6, .ptr 2 4 0 0), (7, .clo (.func 60) [] [.ptr 0 4 0 0])]
          [(0, true, ⟨29, 4, [.Q (a ^ p.1.2.2)]⟩), (1, true, ⟨29, 4, [.agg [.raw (.bool false), .raw (.slice none 0 0), .raw (.bool false), .raw (.slice none 0 0)]]⟩), (2, true, ⟨29, 4, [.Q (a ^ p.1.2.1)]⟩)] 3 52)
        (fun p => p.1.1) ⟨(N, 0, 1), by simp only; omega, Nat.le_refl 1, by simp only; decide⟩ (Wk.of [0, 1, 22] (by decide) ?_) ?_
      · simp only [go_sem, List.reduceReplicate, ↓reduceIte, Nat.reduceEqDiff, Nat.reduceLT, Nat.reduceLeDiff, Nat.reduceAdd, Nat.reduceSub, Nat.reduceMul, Int.reduceToNat, Int.reduceNeg, Int.reduceAdd, Int.reduceSub, Int.reduceMul, Int.reduceLT, Int.reduceLE, Int.reduceMod, Int.reducePow, Nat.reducePow, Int.reduceDiv, Nat.reduceBEq, Nat.reduceBNe, Int.reduceBEq, Int.reduceBNe, reduceCtorEq, Rat.pow_zero, pow_oneQ, one_castQ]
      · rintro ⟨⟨m, s, t⟩, hinv, ht1, ht2⟩
        simp only at hinv ht1 ht2
        refine vc_at (tabsM mixed (tbl_cons qSign_C (tbl_cons lowest_C (tbl_cons whole_C (tbl_cons qMul_C tbl_nil)))) (mtb_cons sq_C mtb_nil)) ?_
        by_cases hm : m = 0
        · subst hm
          simp only [go_sem, List.reduceReplicate, ↓reduceIte, Nat.reduceEqDiff, Nat.reduceLT, Nat.reduceLeDiff, Nat.reduceAdd, Nat.reduceSub, Nat.reduceMul, Int.reduceToNat, Int.reduceNeg, Int.reduceAdd, Int.reduceSub, Int.reduceMul, Int.reduceLT, Int.reduceLE, Int.reduceMod, Int.reducePow, Nat.reducePow, Int.reduceDiv, Nat.reduceBEq, Nat.reduceBNe, Int.reduceBEq, Int.reduceBNe, reduceCtorEq]
          exact out_QQ (by unfold powq; rw [if_neg h4, Int.natAbs_natCast, show s = N from by omega])
        · have c4 : 0 < (m : Int) := by omega
          have p1 := pow_addQ a s t
          have p2 := pow_addQ a t t
          have hmN : t * m ≤ N := by omega
          have mt1 : m ≤ t * m := Nat.le_mul_of_pos_left _ ht1
          have tm1 : t ≤ t * m := Nat.le_mul_of_pos_right _ (by omega)
          have qt := qs_pow a t
          have qs1 := qs_pow a s
          have k1 : t * qs a ≤ 256 * 100000 := Nat.mul_le_mul ht2 hqA
          have k2 : s * qs a ≤ 256 * 100000 := Nat.mul_le_mul (by omega) hqA
          have b1 : qs (a ^ t) ≤ 100000000 := by omega
          have b2 : qs (a ^ s) ≤ 100000000 := by omega
          have c7 : (m : Int) / 2 = ((m / 2 : Nat) : Int) := by omega
          have t2 : (t + t) * (m / 2) = 2 * (t * (m / 2)) := by rw [← Nat.two_mul, Nat.mul_assoc]
          have t3 : t * m = 2 * (t * (m / 2)) + t * (m % 2) := by
            conv => lhs; rw [← Nat.div_add_mod m 2]
            rw [Nat.mul_add, Nat.mul_left_comm]
          by_cases ho : m % 2 = 1
          · have c5 : (bits BinOp.and IntKind.i64 (m : Int) 1 == 1) = true := by rw [bits_and1 m (by omega)]; exact beqT (by omega)
            rw [ho, Nat.mul_one] at t3
            by_cases h1m : m = 1
            · have c6 : ¬ 1 < (m : Int) := by omega
              simp only [go_sem, List.reduceReplicate, ↓reduceIte, Nat.reduceEqDiff, Nat.reduceLT, Nat.reduceLeDiff, Nat.reduceAdd, Nat.reduceSub, Nat.reduceMul, Int.reduceToNat, Int.reduceNeg, Int.reduceAdd, Int.reduceSub, Int.reduceMul, Int.reduceLT, Int.reduceLE, Int.reduceMod, Int.reducePow, Nat.reducePow, Int.reduceDiv, Nat.reduceBEq, Nat.reduceBNe, Int.reduceBEq, Int.reduceBNe, reduceCtorEq, c4, c5, c6, c7, ← p1, ← p2]
              refine ⟨⟨b2, b1⟩, ⟨(m / 2, s + t, t), ?_, ht1, ht2⟩, Wk.of [0, 1, 2] (by decide) ?_, by simp only; omega⟩
              · rw [h1m] at hinv ⊢; simp only; omega
              · simp only [go_sem, List.reduceReplicate, ↓reduceIte, Nat.reduceEqDiff, Nat.reduceLT, Nat.reduceLeDiff, Nat.reduceAdd, Nat.reduceSub, Nat.reduceMul, Int.reduceToNat, Int.reduceNeg, Int.reduceAdd, Int.reduceSub, Int.reduceMul, Int.reduceLT, Int.reduceLE, Int.reduceMod, Int.reducePow, Nat.reducePow, Int.reduceDiv, Nat.reduceBEq, Nat.reduceBNe, Int.reduceBEq, Int.reduceBNe, reduceCtorEq]
            · have c6 : 1 < (m : Int) := by omega
              have tm2 : t ≤ t * (m / 2) := Nat.le_mul_of_pos_right _ (by omega)
              simp only [go_sem, List.reduceReplicate, ↓reduceIte, Nat.reduceEqDiff, Nat.reduceLT, Nat.reduceLeDiff, Nat.reduceAdd, Nat.reduceSub, Nat.reduceMul, Int.reduceToNat, Int.reduceNeg, Int.reduceAdd, Int.reduceSub, Int.reduceMul, Int.reduceLT, Int.reduceLE, Int.reduceMod, Int.reducePow, Nat.reducePow, Int.reduceDiv, Nat.reduceBEq, Nat.reduceBNe, Int.reduceBEq, Int.reduceBNe, reduceCtorEq, c4, c5, c6, c7, ← p1, ← p2]
              refine ⟨⟨b2, b1⟩, b1, ⟨(m / 2, s + t, t + t), by simp only; omega, by simp only; omega, by simp only; omega⟩, Wk.of [0, 1, 2] (by decide) ?_, by simp only; omega⟩
              simp only [go_sem, List.reduceReplicate, ↓reduceIte, Nat.reduceEqDiff, Nat.reduceLT, Nat.reduceLeDiff, Nat.reduceAdd, Nat.reduceSub, Nat.reduceMul, Int.reduceToNat, Int.reduceNeg, Int.reduceAdd, Int.reduceSub, Int.reduceMul, Int.reduceLT, Int.reduceLE, Int.reduceMod, Int.reducePow, Nat.reducePow, Int.reduceDiv, Nat.reduceBEq, Nat.reduceBNe, Int.reduceBEq, Int.reduceBNe, reduceCtorEq]
          · have c5 : (bits BinOp.and IntKind.i64 (m : Int) 1 == 1) = false := by rw [bits_and1 m (by omega)]; exact beqF (by omega)
            have c6 : 1 < (m : Int) := by omega
            have tm2 : t ≤ t * (m / 2) := Nat.le_mul_of_pos_right _ (by omega)
            rw [show m % 2 = 0 from by omega, Nat.mul_zero] at t3
            simp only [go_sem, List.reduceReplicate, ↓reduceIte, Nat.reduceEqDiff, Nat.reduceLT, Nat.reduceLeDiff, Nat.reduceAdd, Nat.reduceSub, Nat.reduceMul, Int.reduceToNat, Int.reduceNeg, Int.reduceAdd, Int.reduceSub, Int.reduceMul, Int.reduceLT, Int.reduceLE, Int.reduceMod, Int.reducePow, Nat.reducePow, Int.reduceDiv, Nat.reduceBEq, Nat.reduceBNe, Int.reduceBEq, Int.reduceBNe, reduceCtorEq, c4, c5, c6, c7, ← p1, ← p2]
            refine ⟨b1, ⟨(m / 2, s, t + t), by simp only; omega, by simp only; omega, by simp only; omega⟩, Wk.of [0, 1, 2] (by decide) ?_, by simp only; omega⟩
            simp only [go_sem, List.reduceReplicate, ↓reduceIte, Nat.reduceEqDiff, Nat.reduceLT, Nat.reduceLeDiff, Nat.reduceAdd, Nat.reduceSub, Nat.reduceMul, Int.reduceToNat, Int.reduceNeg, Int.reduceAdd, Int.reduceSub, Int.reduceMul, Int.reduceLT, Int.reduceLE, Int.reduceMod, Int.reducePow, Nat.reducePow, Int.reduceDiv, Nat.reduceBEq, Nat.reduceBNe, Int.reduceBEq, Int.reduceBNe, reduceCtorEq]
def kQPow : Con := con2 pQ (pN .i64) fun a n => (qs a ≤ 100000, powQ a n)
attribute [go_sem ↓, go_sem] kQPow
theorem qPow_C : Ctr Try.prog 20 kQPow := Ctr.c2 rfl fun a n h => qPow_V a n h
/- Validity. -/
/-- A pair of integers as they come. -/
def pRR : Pat ((Bool × List Nat) × (Bool × List Nat)) where
  p
    | .Q q => some (True, (decide (q.num < 0), dg q.num.natAbs), (decide ((q.den : Int) < 0), dg (q.den : Int).natAbs))
    | .agg [x, y] => (pRaw.p x).bind fun a => (pRaw.p y).map fun b => (a.1 ∧ b.1, (a.2, b.2))
    | _ => none
  val a := .agg [pRaw.val a.1, pRaw.val a.2]
  ok x c a h hc := by
    split at h
    · injection h with h; injection h with h1 h2; subst h2
      exact .atoms rfl rfl (by simp [V.atoms, V.atomsL, V.atomsI, pRaw])
    · rename_i x y
      rcases ha : pRaw.p x with _ | ⟨c1, a1⟩ <;> rw [ha] at h
      · cases h
      · rcases hb : pRaw.p y with _ | ⟨c2, a2⟩ <;> simp only [hb, bind_some] at h
        · cases h
        · injection h with h; injection h with h1 h2; subst h1 h2
          have g1 := pRaw.ok _ _ _ ha hc.1
          have g2 := pRaw.ok _ _ _ hb hc.2
          have at2 : ∀ {x : V} {s : Bool × List Nat}, OutEq x (pRaw.val s) → atsLe x.atoms (pRaw.val s).atoms := fun {x s} h => by
            rcases h with h | ⟨_, _, h⟩ | ⟨_, h, _⟩
            · subst h; exact atsLe.refl _
            · exact h
            · cases h
          refine .inr (.inl ⟨rfl, rfl, ?_⟩)
          show atsLe (x.atoms ++ (y.atoms ++ [])) ((pRaw.val a1).atoms ++ ((pRaw.val a2).atoms ++ []))
          exact atsLe_append (at2 g1) (atsLe_append (at2 g2) trivial)
    · cases h
@[go_sem ↓, go_sem] theorem ev_pRR {q : Rat} : pRR.p (.Q q) = some (True, (decide (q.num < 0), dg q.num.natAbs), (decide ((q.den : Int) < 0), dg (q.den : Int).natAbs)) := rfl
@[go_sem ↓, go_sem] theorem ev_pRR_agg {x y : V} : pRR.p (.agg [x, y]) = (pRaw.p x).bind fun a => (pRaw.p y).map fun b => (a.1 ∧ b.1, (a.2, b.2)) := rfl
@[go_sem ↓, go_sem] theorem ev_pRR_val {a : (Bool × List Nat) × (Bool × List Nat)} : pRR.val a = .agg [pRaw.val a.1, pRaw.val a.2] := rfl
/-- A fraction is in lowest terms, its denominator is positive. -/
def validQ (a : (Bool × List Nat) × (Bool × List Nat)) : Bool := validB a.1.1 a.1.2 && validB a.2.1 a.2.2 && decide (0 < sv a.2.1 a.2.2) && decide (Nat.gcd (lv a.1.2) (lv a.2.2) = 1)
theorem validQ_Q (q : Rat) : validQ ((decide (q.num < 0), dg q.num.natAbs), (decide ((q.den : Int) < 0), dg (q.den : Int).natAbs)) = true := by
  unfold validQ
  have h1 := validB_I q.num
  have h2 := validB_I q.den
  have h3 : sv (decide ((q.den : Int) < 0)) (dg (q.den : Int).natAbs) = q.den := by
    rw [show decide ((q.den : Int) < 0) = false from decide_eq_false (by omega), sv_false, lv_dg, Int.natAbs_natCast]
  have h4 := q.den_pos
  have h5 : Nat.gcd (lv (dg q.num.natAbs)) (lv (dg (q.den : Int).natAbs)) = 1 := by
    rw [lv_dg, lv_dg, Int.natAbs_natCast]; exact q.reduced
  simp only [h1, h2, h3, h5, Bool.true_and, decide_true, Bool.and_true]
  exact decide_eq_true (by omega)
theorem validB_canon {s : Bool} {l : List Nat} (hl : Lim l) (h : validB s l = true) : Canon l ∧ (s = true → l ≠ []) := by
  unfold validB at h
  split at h
  · rename_i e
    subst e
    exact ⟨Canon.nil, fun hs => by subst hs; simp at h⟩
  · rename_i e
    exact ⟨⟨hl, fun _ => by simpa using h⟩, fun _ => e⟩
theorem cmp_one (G : Nat) : (cmpI ((G : Nat) : Int) 1 == 0) = decide (G = 1) := by
  by_cases h : G = 1
  · rw [h]; rfl
  · rw [decide_eq_false h]
    exact beqF fun e => h (by have := cmpI_zero.1 e; omega)
theorem one_nat (G : Nat) : decide (((G : Nat) : Int) = 1) = decide (G = 1) := by
  by_cases h : G = 1
  · rw [h]; rfl
  · rw [decide_eq_false h]; exact decide_eq_false (by omega)
set_option maxRecDepth 2000 in
theorem qValid_V (s t : Bool) (l m : List Nat) (hl : Lim l) (hm : Lim m) (h1 : l.length ≤ 1000000000) (h2 : m.length ≤ 1000000000) : PCall Try.prog 18 [.agg [.agg [.raw (.bool s), .lst (V.limbs l)], .agg [.raw (.bool t), .lst (V.limbs m)]]] (.raw (.bool (validQ ((s, l), (t, m))))) := by
  refine PCall.of_vc (tabs mixed (tbl_cons valid_C (tbl_cons sign_C (tbl_cons gcdA_C (tbl_cons of_C (tbl_cons cmpZ_C tbl_nil)))))) Try.func18 rfl Try.ntmps18 Try.results18 (by simp) ?_
  unfold validQ
  have l1 : dl (Int.natAbs 1) ≤ 1 := (dl_le (k := 1)).2 (by decide)
  have g1 : l.length ≤ 9223372036854775807 := by omega
  have g2 : m.length ≤ 9223372036854775807 := by omega
  rcases c1 : validB s l with _ | _
  · simp only [go_sem, List.reduceReplicate, ↓reduceIte, Nat.reduceEqDiff, Nat.reduceLT, Nat.reduceLeDiff, Nat.reduceAdd, Nat.reduceSub, Nat.reduceMul, Int.reduceToNat, Int.reduceNeg, Int.reduceAdd, Int.reduceSub, Int.reduceMul, Int.reduceLT, Int.reduceLE, Int.reduceMod, Int.reducePow, Nat.reducePow, Int.reduceDiv, Nat.reduceBEq, Nat.reduceBNe, Int.reduceBEq, Int.reduceBNe, reduceCtorEq, c1]
    exact g1
  · rcases c2 : validB t m with _ | _
    · simp only [go_sem, List.reduceReplicate, ↓reduceIte, Nat.reduceEqDiff, Nat.reduceLT, Nat.reduceLeDiff, Nat.reduceAdd, Nat.reduceSub, Nat.reduceMul, Int.reduceToNat, Int.reduceNeg, Int.reduceAdd, Int.reduceSub, Int.reduceMul, Int.reduceLT, Int.reduceLE, Int.reduceMod, Int.reducePow, Nat.reducePow, Int.reduceDiv, Nat.reduceBEq, Nat.reduceBNe, Int.reduceBEq, Int.reduceBNe, reduceCtorEq, c1, c2]
      exact ⟨g1, g2⟩
    · obtain ⟨a1, a2⟩ := validB_canon hl c1
      obtain ⟨b1, b2⟩ := validB_canon hm c2
      have d1 : dl (lv l) ≤ 1000000000 := Nat.le_trans (dl_le_of_lim hl) h1
      have d2 : dl (lv m) ≤ 1000000000 := Nat.le_trans (dl_le_of_lim hm) h2
      by_cases hp : 0 < sv t m
      · have c3 : ¬ sgI (sv t m) ≤ 0 := by rw [show sgI (sv t m) = 1 from cmpI_gt hp]; decide
        have c4 : decide (0 < sv t m) = true := decide_eq_true hp
        have hm0 : lv m ≠ 0 := by have := sv_natAbs t m; omega
        have d3 : dl (Nat.gcd (lv l) (lv m)) ≤ 1000000000 := Nat.le_trans (dl_mono (Nat.gcd_le_right _ (by omega))) d2
        simp only [go_sem, List.reduceReplicate, ↓reduceIte, Nat.reduceEqDiff, Nat.reduceLT, Nat.reduceLeDiff, Nat.reduceAdd, Nat.reduceSub, Nat.reduceMul, Int.reduceToNat, Int.reduceNeg, Int.reduceAdd, Int.reduceSub, Int.reduceMul, Int.reduceLT, Int.reduceLE, Int.reduceMod, Int.reducePow, Nat.reducePow, Int.reduceDiv, Nat.reduceBEq, Nat.reduceBNe, Int.reduceBEq, Int.reduceBNe, reduceCtorEq, c1, c2, c3, c4, sv_natAbs, cmp_one, Int.natAbs_natCast, Bool.true_and]
        and_intros <;> first | rfl | assumption | exact a1.2 | exact b1.2 | exact a2 | exact b2 | omega
      · have c3 : sgI (sv t m) ≤ 0 := by rcases sg_cases (sv t m) with ⟨_, e⟩ | ⟨_, e⟩ | ⟨h, _⟩ <;> first | omega | (rw [e]; decide)
        have c4 : decide (0 < sv t m) = false := decide_eq_false hp
        simp only [go_sem, List.reduceReplicate, ↓reduceIte, Nat.reduceEqDiff, Nat.reduceLT, Nat.reduceLeDiff, Nat.reduceAdd, Nat.reduceSub, Nat.reduceMul, Int.reduceToNat, Int.reduceNeg, Int.reduceAdd, Int.reduceSub, Int.reduceMul, Int.reduceLT, Int.reduceLE, Int.reduceMod, Int.reducePow, Nat.reducePow, Int.reduceDiv, Nat.reduceBEq, Nat.reduceBNe, Int.reduceBEq, Int.reduceBNe, reduceCtorEq, c1, c2, c3, c4, Bool.false_and, Bool.and_false]
        and_intros <;> first | rfl | assumption | exact a1.2 | exact b1.2 | exact a2 | exact b2 | omega
set_option maxRecDepth 2000 in
theorem r2Valid_V (s t : Bool) (l m : List Nat) (hl : Lim l) (hm : Lim m) (h1 : l.length ≤ 1000000000) (h2 : m.length ≤ 1000000000) : PCall Try.prog 19 [.agg [.agg [.raw (.bool s), .lst (V.limbs l)], .agg [.raw (.bool t), .lst (V.limbs m)]]] (.raw (.bool (validQ ((s, l), (t, m))))) := by
  refine PCall.of_vc (tabs mixed (tbl_cons rvalid_C (tbl_cons rsign_C (tbl_cons rgcd_C (tbl_cons rof_C (tbl_cons same_C tbl_nil)))))) Try.func19 rfl Try.ntmps19 Try.results19 (by simp) ?_
  unfold validQ
  have l1 : dl (Int.natAbs 1) ≤ 1 := (dl_le (k := 1)).2 (by decide)
  have g1 : l.length ≤ 9223372036854775807 := by omega
  have g2 : m.length ≤ 9223372036854775807 := by omega
  rcases c1 : validB s l with _ | _
  · simp only [go_sem, List.reduceReplicate, ↓reduceIte, Nat.reduceEqDiff, Nat.reduceLT, Nat.reduceLeDiff, Nat.reduceAdd, Nat.reduceSub, Nat.reduceMul, Int.reduceToNat, Int.reduceNeg, Int.reduceAdd, Int.reduceSub, Int.reduceMul, Int.reduceLT, Int.reduceLE, Int.reduceMod, Int.reducePow, Nat.reducePow, Int.reduceDiv, Nat.reduceBEq, Nat.reduceBNe, Int.reduceBEq, Int.reduceBNe, reduceCtorEq, c1]
    exact g1
  · rcases c2 : validB t m with _ | _
    · simp only [go_sem, List.reduceReplicate, ↓reduceIte, Nat.reduceEqDiff, Nat.reduceLT, Nat.reduceLeDiff, Nat.reduceAdd, Nat.reduceSub, Nat.reduceMul, Int.reduceToNat, Int.reduceNeg, Int.reduceAdd, Int.reduceSub, Int.reduceMul, Int.reduceLT, Int.reduceLE, Int.reduceMod, Int.reducePow, Nat.reducePow, Int.reduceDiv, Nat.reduceBEq, Nat.reduceBNe, Int.reduceBEq, Int.reduceBNe, reduceCtorEq, c1, c2]
      exact ⟨g1, g2⟩
    · obtain ⟨a1, a2⟩ := validB_canon hl c1
      obtain ⟨b1, b2⟩ := validB_canon hm c2
      have d1 : dl (lv l) ≤ 1000000000 := Nat.le_trans (dl_le_of_lim hl) h1
      have d2 : dl (lv m) ≤ 1000000000 := Nat.le_trans (dl_le_of_lim hm) h2
      by_cases hp : 0 < sv t m
      · have c3 : ¬ sgI (sv t m) ≤ 0 := by rw [show sgI (sv t m) = 1 from cmpI_gt hp]; decide
        have c4 : decide (0 < sv t m) = true := decide_eq_true hp
        have hm0 : lv m ≠ 0 := by have := sv_natAbs t m; omega
        have d3 : dl (Nat.gcd (lv l) (lv m)) ≤ 1000000000 := Nat.le_trans (dl_mono (Nat.gcd_le_right _ (by omega))) d2
        simp only [go_sem, List.reduceReplicate, ↓reduceIte, Nat.reduceEqDiff, Nat.reduceLT, Nat.reduceLeDiff, Nat.reduceAdd, Nat.reduceSub, Nat.reduceMul, Int.reduceToNat, Int.reduceNeg, Int.reduceAdd, Int.reduceSub, Int.reduceMul, Int.reduceLT, Int.reduceLE, Int.reduceMod, Int.reducePow, Nat.reducePow, Int.reduceDiv, Nat.reduceBEq, Nat.reduceBNe, Int.reduceBEq, Int.reduceBNe, reduceCtorEq, c1, c2, c3, c4, sv_natAbs, one_nat, Int.natAbs_natCast, Bool.true_and]
        and_intros <;> first | rfl | assumption | exact a1.2 | exact b1.2 | exact a2 | exact b2 | omega
      · have c3 : sgI (sv t m) ≤ 0 := by rcases sg_cases (sv t m) with ⟨_, e⟩ | ⟨_, e⟩ | ⟨h, _⟩ <;> first | omega | (rw [e]; decide)
        have c4 : decide (0 < sv t m) = false := decide_eq_false hp
        simp only [go_sem, List.reduceReplicate, ↓reduceIte, Nat.reduceEqDiff, Nat.reduceLT, Nat.reduceLeDiff, Nat.reduceAdd, Nat.reduceSub, Nat.reduceMul, Int.reduceToNat, Int.reduceNeg, Int.reduceAdd, Int.reduceSub, Int.reduceMul, Int.reduceLT, Int.reduceLE, Int.reduceMod, Int.reducePow, Nat.reducePow, Int.reduceDiv, Nat.reduceBEq, Nat.reduceBNe, Int.reduceBEq, Int.reduceBNe, reduceCtorEq, c1, c2, c3, c4, Bool.false_and, Bool.and_false]
        and_intros <;> first | rfl | assumption | exact a1.2 | exact b1.2 | exact a2 | exact b2 | omega
def kQValid : Con := con1 pRR fun a => ((Lim a.1.2 ∧ Lim a.2.2) ∧ a.1.2.length ≤ 1000000000 ∧ a.2.2.length ≤ 1000000000, .raw (.bool (validQ a)))
attribute [go_sem ↓, go_sem] kQValid
theorem qValid_C : Ctr Try.prog 18 kQValid := Ctr.c1 rfl fun a h => qValid_V a.1.1 a.2.1 a.1.2 a.2.2 h.1.1 h.1.2 h.2.1 h.2.2
theorem r2Valid_C : Ctr Try.prog 19 kQValid := Ctr.c1 rfl fun a h => r2Valid_V a.1.1 a.2.1 a.1.2 a.2.2 h.1.1 h.1.2 h.2.1 h.2.2
end Go.Proofs.Ytilkleibnciloaa
