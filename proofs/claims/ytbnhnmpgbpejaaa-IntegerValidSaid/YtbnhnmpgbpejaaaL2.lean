/- IntegerValid: the law returns true. -/
import Derived.Test.YtbnhnmpgbpejaaaL1
namespace Go.Proofs.Ytbnhnmpgbpejaaa
set_option linter.unusedSimpArgs false
set_option linter.unusedVariables false
open Go.RowKit

set_option maxRecDepth 4000 in
theorem lawValid_V (l : List Nat) (n : Int) (s : Bool) (hl : Lim l) (h : l.length ≤ 9223372036854775807) (h1 : -9223372036854775808 ≤ n) (h2 : n ≤ 9223372036854775807) :
    PCall Try.prog 3 [.agg [.lst (V.limbs l), .raw (.bool s)], .raw (.int .i64 n)] (.raw (.bool true)) := by
  refine PCall.of_vc (tabs mixed (tbl_cons sanity_C (tbl_cons of_C (tbl_cons small_C (tbl_cons valid_C tbl_nil))))) Try.func3 rfl Try.ntmps3 Try.results3 (by simp) ?_
  have hs1 : smallV n = n := by unfold smallV; rw [if_pos ⟨h1, h2⟩]
  have hs2 : smallB n = true := by unfold smallB; simp; omega
  have hv := validB_I n
  have hdl : (dg n.natAbs).length ≤ 9223372036854775807 := Nat.le_trans ((dl_le (k := 2)).2 (by omega) : dl n.natAbs ≤ 2) (by decide)
  have hbn : (decide (n < 0) == decide (n < 0)) = true := by simp
  have hnn : (n == n) = true := by simp
  by_cases h0 : l = []
  · subst h0
    have e0 : (((([] : List Nat).length : Nat) : Int) == 0) = true := rfl
    have e1 : validB s [] = !s := by simp [validB]
    cases s <;> simp only [go_sem, List.reduceReplicate, false_implies, true_implies, true_and, and_true, implies_true, Nat.sub_zero, Int.cast_ofNat_Int, ↓reduceIte, Nat.reduceEqDiff, Nat.reduceLT, Nat.reduceLeDiff, Nat.reduceAdd, Nat.reduceSub, Nat.reduceMul, Int.reduceToNat, Int.reduceNeg, Int.reduceAdd, Int.reduceSub, Int.reduceMul, Int.reduceLT, Int.reduceLE, Int.reduceMod, Int.reducePow, Nat.reducePow, Int.reduceDiv, Nat.reduceBEq, Nat.reduceBNe, Int.reduceBEq, Int.reduceBNe, decide_true, decide_false, reduceCtorEq, Nat.add_zero, Nat.zero_add, Nat.zero_mul, Nat.one_mul, Nat.mul_one, Nat.lt_add_one, Nat.le_refl, Nat.zero_le, Nat.one_ne_zero, Nat.succ_ne_zero, Nat.zero_ne_one, Nat.add_one_ne_zero, Nat.ne_add_one, hs1, hs2, hv, hbn, hnn, e0, e1]
    all_goals exact ⟨⟨h1, h2⟩, hdl⟩
  · have e0 : ((l.length : Int) == 0) = false := by have := List.length_pos_iff.2 h0; simp; omega
    have e1 : 0 < (l.length : Int) := by have := List.length_pos_iff.2 h0; omega
    have e2 : ((l.length : Int) - 1).toNat = l.length - 1 := by omega
    have e3 : validB s l = decide (at0 l (l.length - 1) ≠ 0) := by simp [validB, h0]
    by_cases hz : at0 l (l.length - 1) = 0
    · simp only [go_sem, List.reduceReplicate, false_implies, true_implies, true_and, and_true, implies_true, Nat.sub_zero, Int.cast_ofNat_Int, ↓reduceIte, Nat.reduceEqDiff, Nat.reduceLT, Nat.reduceLeDiff, Nat.reduceAdd, Nat.reduceSub, Nat.reduceMul, Int.reduceToNat, Int.reduceNeg, Int.reduceAdd, Int.reduceSub, Int.reduceMul, Int.reduceLT, Int.reduceLE, Int.reduceMod, Int.reducePow, Nat.reducePow, Int.reduceDiv, Nat.reduceBEq, Nat.reduceBNe, Int.reduceBEq, Int.reduceBNe, decide_true, decide_false, reduceCtorEq, Nat.add_zero, Nat.zero_add, Nat.zero_mul, Nat.one_mul, Nat.mul_one, Nat.lt_add_one, Nat.le_refl, Nat.zero_le, Nat.one_ne_zero, Nat.succ_ne_zero, Nat.zero_ne_one, Nat.add_one_ne_zero, Nat.ne_add_one, hs1, hs2, hv, hbn, hnn, e0, e1, e2, e3, hz]
      exact ⟨by omega, by omega, by omega, ⟨h1, h2⟩, h, hdl⟩
    · have e4 : (((at0 l (l.length - 1) : Nat) : Int) != 0) = true := by simp; omega
      have e5 : decide (at0 l (l.length - 1) ≠ 0) = true := by simp [hz]
      simp only [go_sem, List.reduceReplicate, false_implies, true_implies, true_and, and_true, implies_true, Nat.sub_zero, Int.cast_ofNat_Int, ↓reduceIte, Nat.reduceEqDiff, Nat.reduceLT, Nat.reduceLeDiff, Nat.reduceAdd, Nat.reduceSub, Nat.reduceMul, Int.reduceToNat, Int.reduceNeg, Int.reduceAdd, Int.reduceSub, Int.reduceMul, Int.reduceLT, Int.reduceLE, Int.reduceMod, Int.reducePow, Nat.reducePow, Int.reduceDiv, Nat.reduceBEq, Nat.reduceBNe, Int.reduceBEq, Int.reduceBNe, decide_true, decide_false, reduceCtorEq, Nat.add_zero, Nat.zero_add, Nat.zero_mul, Nat.one_mul, Nat.mul_one, Nat.lt_add_one, Nat.le_refl, Nat.zero_le, Nat.one_ne_zero, Nat.succ_ne_zero, Nat.zero_ne_one, Nat.add_one_ne_zero, Nat.ne_add_one, hs1, hs2, hv, hbn, hnn, e0, e1, e2, e3, e4, e5]
      exact ⟨by omega, by omega, by omega, ⟨h1, h2⟩, h, hdl⟩
end Go.Proofs.Ytbnhnmpgbpejaaa
