/- Contracts: integer.norm, Sign, Neg. -/
import Derived.Test.YtbnhnmpgbpejaaaB2
namespace Go.Proofs.Ytbnhnmpgbpejaaa
set_option linter.unusedSimpArgs false
set_option linter.unusedVariables false
open Go.RowKit

theorem norm_V (l : List Nat) (neg : Bool) (hl : Lim l) (hm : l.length ≤ 1000000000000) : PCall Try.prog 43 [.lst (V.limbs l), .raw (.bool neg)] (.I (sv neg l)) := by
  refine PCall.of_vc (tabs mixed tbl_nil) Try.func43 rfl Try.ntmps43 Try.results43 (by simp) ?_
  simp only [go_sem, List.reduceReplicate, false_implies, true_implies, true_and, and_true, implies_true, Nat.sub_zero, Int.cast_ofNat_Int, ↓reduceIte, Nat.reduceEqDiff, Nat.reduceLT, Nat.reduceLeDiff, Nat.reduceAdd, Nat.reduceSub, Nat.reduceMul, Int.reduceToNat, Int.reduceNeg, Int.reduceAdd, Int.reduceSub, Int.reduceMul, Int.reduceLT, Int.reduceLE, Int.reduceMod, Int.reducePow, Nat.reducePow, Int.reduceDiv, Nat.reduceBEq, Nat.reduceBNe, Int.reduceBEq, Int.reduceBNe, decide_true, decide_false, reduceCtorEq, Nat.add_zero, Nat.zero_add, Nat.zero_mul, Nat.one_mul, Nat.mul_one, Nat.lt_add_one, Nat.le_refl, Nat.zero_le, Nat.one_ne_zero, Nat.succ_ne_zero, Nat.zero_ne_one, Nat.add_one_ne_zero, Nat.ne_add_one]
  refine AWp.loops (X := { k : Nat // k ≤ l.length ∧ nlen l k = nlen l l.length }) (fun k => mkSt [(0, .lst (V.limbs l)), (1, .raw (.bool neg)), (4, .ptr 0 2 0 0), (5, .raw (.int .i64 (k.1 : Nat)))] [(0, true, ⟨28, 2, [.agg [.raw (.bool false), .raw (.slice none 0 0)]]⟩)] 1 28) (fun k => k.1) ⟨l.length, Nat.le_refl _, rfl⟩ (Wk.of [0] (by decide) ?_) ?_
  · simp only [go_sem, List.reduceReplicate, false_implies, true_implies, true_and, and_true, implies_true, Nat.sub_zero, Int.cast_ofNat_Int, ↓reduceIte, Nat.reduceEqDiff, Nat.reduceLT, Nat.reduceLeDiff, Nat.reduceAdd, Nat.reduceSub, Nat.reduceMul, Int.reduceToNat, Int.reduceNeg, Int.reduceAdd, Int.reduceSub, Int.reduceMul, Int.reduceLT, Int.reduceLE, Int.reduceMod, Int.reducePow, Nat.reducePow, Int.reduceDiv, Nat.reduceBEq, Nat.reduceBNe, Int.reduceBEq, Int.reduceBNe, decide_true, decide_false, reduceCtorEq, Nat.add_zero, Nat.zero_add, Nat.zero_mul, Nat.one_mul, Nat.mul_one, Nat.lt_add_one, Nat.le_refl, Nat.zero_le, Nat.one_ne_zero, Nat.succ_ne_zero, Nat.zero_ne_one, Nat.add_one_ne_zero, Nat.ne_add_one]
  · rintro ⟨k, hk, hv⟩
    refine vc_at (tabs mixed tbl_nil) ?_
    have hcan := nlen_take_canon hl l.length (Nat.le_refl _)
    rw [List.take_length] at hcan
    rcases k with _ | k
    · have hz : lv l = 0 := by rw [← hcan.2, ← hv]; rfl
      have e : sv neg l = 0 := by cases neg <;> simp [sv, hz]
      cases neg <;> simp only [go_sem, List.reduceReplicate, false_implies, true_implies, true_and, and_true, implies_true, Nat.sub_zero, Int.cast_ofNat_Int, ↓reduceIte, Nat.reduceEqDiff, Nat.reduceLT, Nat.reduceLeDiff, Nat.reduceAdd, Nat.reduceSub, Nat.reduceMul, Int.reduceToNat, Int.reduceNeg, Int.reduceAdd, Int.reduceSub, Int.reduceMul, Int.reduceLT, Int.reduceLE, Int.reduceMod, Int.reducePow, Nat.reducePow, Int.reduceDiv, Nat.reduceBEq, Nat.reduceBNe, Int.reduceBEq, Int.reduceBNe, decide_true, decide_false, reduceCtorEq, Nat.add_zero, Nat.zero_add, Nat.zero_mul, Nat.one_mul, Nat.mul_one, Nat.lt_add_one, Nat.le_refl, Nat.zero_le, Nat.one_ne_zero, Nat.succ_ne_zero, Nat.zero_ne_one, Nat.add_one_ne_zero, Nat.ne_add_one, e] <;> and_intros <;> first | omega | exact out_I0 rfl
    · have e1 : ((k + 1 : Nat) : Int) - 1 = k := by omega
      have e2 : decide ((0 : Int) < ((k + 1 : Nat) : Int)) = true := by simp <;> omega
      have e4 : decide (((k + 1 : Nat) : Int) = 0) = false := by simp <;> omega
      by_cases hz : at0 l k = 0
      · simp only [go_sem, List.reduceReplicate, false_implies, true_implies, true_and, and_true, implies_true, Nat.sub_zero, Int.cast_ofNat_Int, ↓reduceIte, Nat.reduceEqDiff, Nat.reduceLT, Nat.reduceLeDiff, Nat.reduceAdd, Nat.reduceSub, Nat.reduceMul, Int.reduceToNat, Int.reduceNeg, Int.reduceAdd, Int.reduceSub, Int.reduceMul, Int.reduceLT, Int.reduceLE, Int.reduceMod, Int.reducePow, Nat.reducePow, Int.reduceDiv, Nat.reduceBEq, Nat.reduceBNe, Int.reduceBEq, Int.reduceBNe, decide_true, decide_false, reduceCtorEq, Nat.add_zero, Nat.zero_add, Nat.zero_mul, Nat.one_mul, Nat.mul_one, Nat.lt_add_one, Nat.le_refl, Nat.zero_le, Nat.one_ne_zero, Nat.succ_ne_zero, Nat.zero_ne_one, Nat.add_one_ne_zero, Nat.ne_add_one, e1, e2, hz]
        and_intros
        any_goals omega
        refine ⟨⟨k, by omega, by rw [← hv, nlen_succ_zero hz]⟩, Wk.of [0] (by decide) ?_, Nat.lt_succ_self k⟩
        simp only [go_sem, List.reduceReplicate, false_implies, true_implies, true_and, and_true, implies_true, Nat.sub_zero, Int.cast_ofNat_Int, ↓reduceIte, Nat.reduceEqDiff, Nat.reduceLT, Nat.reduceLeDiff, Nat.reduceAdd, Nat.reduceSub, Nat.reduceMul, Int.reduceToNat, Int.reduceNeg, Int.reduceAdd, Int.reduceSub, Int.reduceMul, Int.reduceLT, Int.reduceLE, Int.reduceMod, Int.reducePow, Nat.reducePow, Int.reduceDiv, Nat.reduceBEq, Nat.reduceBNe, Int.reduceBEq, Int.reduceBNe, decide_true, decide_false, reduceCtorEq, Nat.add_zero, Nat.zero_add, Nat.zero_mul, Nat.one_mul, Nat.mul_one, Nat.lt_add_one, Nat.le_refl, Nat.zero_le, Nat.one_ne_zero, Nat.succ_ne_zero, Nat.zero_ne_one, Nat.add_one_ne_zero, Nat.ne_add_one]
      · have e3 : (((at0 l k : Nat) : Int) != 0) = true := by simp <;> omega
        have hn : nlen l l.length = k + 1 := by rw [← hv, nlen_succ_pos hz]
        rw [hn] at hcan
        have hn0 : l.take (k + 1) ≠ [] := by intro h; have := congrArg List.length h; simp only [List.length_take, List.length_nil] at this; omega
        cases neg <;> simp only [go_sem, List.reduceReplicate, false_implies, true_implies, true_and, and_true, implies_true, Nat.sub_zero, Int.cast_ofNat_Int, ↓reduceIte, Nat.reduceEqDiff, Nat.reduceLT, Nat.reduceLeDiff, Nat.reduceAdd, Nat.reduceSub, Nat.reduceMul, Int.reduceToNat, Int.reduceNeg, Int.reduceAdd, Int.reduceSub, Int.reduceMul, Int.reduceLT, Int.reduceLE, Int.reduceMod, Int.reducePow, Nat.reducePow, Int.reduceDiv, Nat.reduceBEq, Nat.reduceBNe, Int.reduceBEq, Int.reduceBNe, decide_true, decide_false, reduceCtorEq, Nat.add_zero, Nat.zero_add, Nat.zero_mul, Nat.one_mul, Nat.mul_one, Nat.lt_add_one, Nat.le_refl, Nat.zero_le, Nat.one_ne_zero, Nat.succ_ne_zero, Nat.zero_ne_one, Nat.add_one_ne_zero, Nat.ne_add_one, e1, e2, e3, e4] <;> and_intros
        any_goals omega
        all_goals exact out_I hcan.1 (fun _ => hn0) (by simp [sv, hcan.2])
/-- A bound of sizes. -/
abbrev Mx : Nat := 1000000000000
def kNorm : Con := con2 pL pB fun l neg => (Lim l ∧ l.length ≤ 1000000000000, .I (sv neg l))
attribute [go_sem ↓, go_sem] kNorm
theorem norm_C : Ctr Try.prog 43 kNorm := Ctr.c2 rfl fun l neg h => norm_V l neg h.1 h.2
end Go.Proofs.Ytbnhnmpgbpejaaa
