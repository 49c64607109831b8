/- Texts LB3 in one. -/
import Derived.Test.YtilkleibnciloaaP49
/- RationalField: the law returns true. -/
namespace Go.Proofs.Ytilkleibnciloaa
set_option linter.unusedSimpArgs false
set_option linter.unusedVariables false
open Go.RowKit

theorem zeroQ : ((0 : Int) : Rat) = 0 := rfl
theorem sgn_num (b : Rat) : (sgI b.num == 0) = decide (b = 0) := by
  by_cases h : b = 0
  · rw [decide_eq_true h, h]; rfl
  · rw [decide_eq_false h]; exact beqF fun e => h (Rat.num_eq_zero.1 (sgI_zero.1 e))
set_option maxRecDepth 8000 in
set_option maxHeartbeats 1000000 in
theorem lawField_F (X Y Z : V) (h : Fits Try.prog 6 24 X) (h' : Fits Try.prog 6 24 Y) (h'' : Fits Try.prog 6 24 Z) : PCall Try.prog 8 [X, Y, Z] (.raw (.bool true)) := by
  obtain ⟨n1, d1, s1, rfl, ⟨n11, n12⟩, d11, d12⟩ := fits_raw2 h
  obtain ⟨n2, d2, s2, rfl, ⟨n21, n22⟩, d21, d22⟩ := fits_raw2 h'
  obtain ⟨n3, d3, s3, rfl, ⟨n31, n32⟩, d31, d32⟩ := fits_raw2 h''
  refine PCall.of_vc (tabs mixed (tbl_cons sanity2_C (tbl_cons made2_C (tbl_cons whole_C (tbl_cons r2Same_C (tbl_cons qAdd_C (tbl_cons qSub_C (tbl_cons qMul_C (tbl_cons qNeg_C (tbl_cons qDiv_C (tbl_cons qSign_C tbl_nil))))))))))) Try.func8 rfl Try.ntmps8 Try.results8 (by simp) ?_
  have qa := mdR_qs n1 d1 s1 n11 d11
  have qb := mdR_qs n2 d2 s2 n21 d21
  have qc := mdR_qs n3 d3 s3 n31 d31
  obtain ⟨a, hA⟩ : ∃ a, mdR n1 d1 s1 = a := ⟨_, rfl⟩
  obtain ⟨b, hB⟩ : ∃ a, mdR n2 d2 s2 = a := ⟨_, rfl⟩
  obtain ⟨c, hC⟩ : ∃ a, mdR n3 d3 s3 = a := ⟨_, rfl⟩
  rw [hA] at qa
  rw [hB] at qb
  rw [hC] at qc
  have q0 : qs 0 ≤ 1 := qs_small (by decide) (by decide)
  have q1 : qs 1 ≤ 1 := qs_small (by decide) (by decide)
  have k1 : decide (a + (b + c) = a + b + c) = true := decide_eq_true (Rat.add_assoc a b c).symm
  have k2 : decide (a + b = b + a) = true := decide_eq_true (Rat.add_comm a b)
  have k3 : decide (a + 0 = a) = true := decide_eq_true (Rat.add_zero a)
  have k4 : decide (a + -a = 0) = true := decide_eq_true (Rat.add_neg_cancel a)
  have k5 : decide (a - b = a + -b) = true := decide_eq_true (Rat.sub_eq_add_neg a b)
  have k6 : decide (a * (b * c) = a * b * c) = true := decide_eq_true (Rat.mul_assoc a b c).symm
  have k7 : decide (a * b = b * a) = true := decide_eq_true (Rat.mul_comm a b)
  have k8 : decide (a * 1 = a) = true := decide_eq_true (Rat.mul_one a)
  have k9 : decide (a * (b + c) = a * b + a * c) = true := decide_eq_true (Rat.mul_add a b c)
  have z1 : ((0 : Int) : Rat) = 0 := rfl
  have z2 : ((1 : Int) : Rat) = 1 := rfl
  by_cases h0 : b = 0
  · have r2 : divR a b = .tup [.agg [.I 0, .I 0], .raw (.int .i64 3)] := if_pos h0
    have c0 : (sgI b.num == 0) = true := by rw [sgn_num]; exact decide_eq_true h0
    simp only [go_sem, List.reduceReplicate, ↓reduceIte, Nat.reduceEqDiff, Nat.reduceLT, Nat.reduceLeDiff, Nat.reduceAdd, Nat.reduceSub, Nat.reduceMul, Int.reduceToNat, Int.reduceNeg, Int.reduceAdd, Int.reduceSub, Int.reduceMul, Int.reduceLT, Int.reduceLE, Int.reduceMod, Int.reducePow, Nat.reducePow, Int.reduceDiv, Nat.reduceBEq, Nat.reduceBNe, Int.reduceBEq, Int.reduceBNe, reduceCtorEq, hA, hB, hC, r2, z1, z2, k1, k2, k3, k4, k5, k6, k7, k8, k9, c0]
    and_intros
    all_goals first | assumption | exact dg_lim _ | ((first | with_reducible apply szQ | with_reducible apply szNum | with_reducible apply szDen | with_reducible apply szLN | with_reducible apply szLD | with_reducible apply dlT); (repeat' first | assumption | with_reducible apply qsD | with_reducible apply qsS | with_reducible apply qsA | with_reducible apply qsM | with_reducible apply qsN | with_reducible apply qsZ | with_reducible apply qsNumDen | with_reducible apply dlM | with_reducible apply dlA | with_reducible apply dlNum | with_reducible apply dlDen | with_reducible apply dlFl | (with_reducible apply dlS; decide)); all_goals decide) | omega | rfl
  · have r2 : divR a b = .tup [.Q (a / b), .raw (.int .i64 0)] := if_neg h0
    have c0 : (sgI b.num == 0) = false := by rw [sgn_num]; exact decide_eq_false h0
    have k10 : decide (a / b * b = a) = true := decide_eq_true (Rat.div_mul_cancel h0)
    simp only [go_sem, List.reduceReplicate, ↓reduceIte, Nat.reduceEqDiff, Nat.reduceLT, Nat.reduceLeDiff, Nat.reduceAdd, Nat.reduceSub, Nat.reduceMul, Int.reduceToNat, Int.reduceNeg, Int.reduceAdd, Int.reduceSub, Int.reduceMul, Int.reduceLT, Int.reduceLE, Int.reduceMod, Int.reducePow, Nat.reducePow, Int.reduceDiv, Nat.reduceBEq, Nat.reduceBNe, Int.reduceBEq, Int.reduceBNe, reduceCtorEq, hA, hB, hC, r2, z1, z2, k1, k2, k3, k4, k5, k6, k7, k8, k9, k10, c0]
    and_intros
    all_goals first | assumption | exact dg_lim _ | ((first | with_reducible apply szQ | with_reducible apply szNum | with_reducible apply szDen | with_reducible apply szLN | with_reducible apply szLD | with_reducible apply dlT); (repeat' first | assumption | with_reducible apply qsD | with_reducible apply qsS | with_reducible apply qsA | with_reducible apply qsM | with_reducible apply qsN | with_reducible apply qsZ | with_reducible apply qsNumDen | with_reducible apply dlM | with_reducible apply dlA | with_reducible apply dlNum | with_reducible apply dlDen | with_reducible apply dlFl | (with_reducible apply dlS; decide)); all_goals decide) | omega | rfl
end Go.Proofs.Ytilkleibnciloaa
