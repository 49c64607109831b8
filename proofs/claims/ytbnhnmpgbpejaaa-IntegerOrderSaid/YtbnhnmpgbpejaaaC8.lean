/- Contracts: Pow. -/
import Derived.Test.YtbnhnmpgbpejaaaC7
namespace Go.Proofs.Ytbnhnmpgbpejaaa
set_option linter.unusedSimpArgs false
set_option linter.unusedVariables false
open Go.RowKit

/-- Pow answers these. -/
def powR (x n : Int) : V := if 0 ≤ n ∧ n ≤ 256 then .tup [.I (pw x n.toNat), .raw (.int .i64 0)] else .tup [.I 0, .raw (.int .i64 1)]
theorem pow_V (x : Int) (n : Nat) (h : dl x.natAbs ≤ 100000) (hn : n ≤ 256) :
    PCall Try.prog 27 [.I x, .raw (.int .i64 (n : Nat))] (.tup [.I (pw x n), .raw (.int .i64 0)]) := by
  refine PCall.of_vc (tabs mixed (tbl_cons mul_C (tbl_cons of_C (tbl_cons len_C tbl_nil)))) Try.func27 rfl Try.ntmps27 Try.results27 (by simp) ?_
  have e1 : ¬ (n : Int) < 0 := by omega
  have e2 : ¬ 256 < (n : Int) := by omega
  have e3 : (n : Int) % 18446744073709551616 = n := by omega
  simp only [go_sem, List.reduceReplicate, false_implies, true_implies, true_and, and_true, implies_true, Nat.sub_zero, Int.cast_ofNat_Int, ↓reduceIte, Nat.reduceEqDiff, Nat.reduceLT, Nat.reduceLeDiff, Nat.reduceAdd, Nat.reduceSub, Nat.reduceMul, Int.reduceToNat, Int.reduceNeg, Int.reduceAdd, Int.reduceSub, Int.reduceMul, Int.reduceLT, Int.reduceLE, Int.reduceMod, Int.reducePow, Nat.reducePow, Int.reduceDiv, Nat.reduceBEq, Nat.reduceBNe, Int.reduceBEq, Int.reduceBNe, decide_true, decide_false, reduceCtorEq, Nat.add_zero, Nat.zero_add, Nat.zero_mul, Nat.one_mul, Nat.mul_one, Nat.lt_add_one, Nat.le_refl, Nat.zero_le, Nat.one_ne_zero, Nat.succ_ne_zero, Nat.zero_ne_one, Nat.add_one_ne_zero, Nat.ne_add_one, e1, e2, e3]
  and_intros
  any_goals omega
  obtain ⟨hb1, hb2⟩ := bitLen_lt n hn
  refine AWp.loops (X := { i : Nat // i ≤ Lib.bitLen n })
    (fun a => mkSt [(1, .raw (.int .i64 (n : Nat))), (2, .ptr 0 2 0 0), (4, .ptr 1 2 0 0), (5, .raw (.int .i64 0)), (6, .ptr 2 2 0 0), (18, .raw (.int .i64 (Lib.bitLen n : Nat))), (19, .raw (.int .i64 (a.1 : Nat)))]
      [(0, true, ⟨28, 2, [.I (pw x (2 ^ a.1))]⟩), (1, true, ⟨28, 2, [.agg [.raw (.bool false), .raw (.slice none 0 0)]]⟩), (2, true, ⟨28, 2, [.I (pw x (n % 2 ^ a.1))]⟩)] 3 35)
    (fun a => Lib.bitLen n - a.1) ⟨0, Nat.zero_le _⟩ (Wk.of [0, 1, 10] (by decide) ?_) ?_
  · have e4 : pw x (2 ^ 0) = x := by unfold pw; show x ^ (0 + 1) = x; rw [Int.pow_succ, Int.pow_zero, Int.one_mul]
    have e5 : pw x (n % 2 ^ 0) = 1 := by unfold pw; simp [Nat.mod_one]
    rw [e4, e5]
    simp only [go_sem, List.reduceReplicate, false_implies, true_implies, true_and, and_true, implies_true, Nat.sub_zero, Int.cast_ofNat_Int, ↓reduceIte, Nat.reduceEqDiff, Nat.reduceLT, Nat.reduceLeDiff, Nat.reduceAdd, Nat.reduceSub, Nat.reduceMul, Int.reduceToNat, Int.reduceNeg, Int.reduceAdd, Int.reduceSub, Int.reduceMul, Int.reduceLT, Int.reduceLE, Int.reduceMod, Int.reducePow, Nat.reducePow, Int.reduceDiv, Nat.reduceBEq, Nat.reduceBNe, Int.reduceBEq, Int.reduceBNe, decide_true, decide_false, reduceCtorEq, Nat.add_zero, Nat.zero_add, Nat.zero_mul, Nat.one_mul, Nat.mul_one, Nat.lt_add_one, Nat.le_refl, Nat.zero_le, Nat.one_ne_zero, Nat.succ_ne_zero, Nat.zero_ne_one, Nat.add_one_ne_zero, Nat.ne_add_one]
  · rintro ⟨i, hi⟩
    refine vc_at (tabs mixed (tbl_cons mul_C (tbl_cons of_C (tbl_cons len_C tbl_nil)))) ?_
    have hpi : (2 : Nat) ^ i ≤ 512 := by
      have : (2 : Nat) ^ i ≤ 2 ^ 9 := Nat.pow_le_pow_right (by decide) (by omega)
      have e9 : (2 : Nat) ^ 9 = 512 := by decide
      omega
    have d1 : dl (pw x (2 ^ i)).natAbs ≤ 100000000 := by
      have h3 := dl_pw1 x (2 ^ i)
      have h4 : 2 ^ i * dl x.natAbs ≤ 512 * 100000 := Nat.mul_le_mul hpi h
      omega
    have d2 : dl (pw x (n % 2 ^ i)).natAbs ≤ 100000000 := by
      have h3 := dl_pw1 x (n % 2 ^ i)
      have h5 : n % 2 ^ i ≤ 512 := Nat.le_trans (Nat.mod_le _ _) (by omega)
      have h4 : n % 2 ^ i * dl x.natAbs ≤ 512 * 100000 := Nat.mul_le_mul h5 h
      omega
    have hand := and_one n i hn
    have a4 : (i : Int) + 1 = ((i + 1 : Nat) : Int) := by omega
    by_cases hlt : i < Lib.bitLen n
    · have e4 : (i : Int) < (Lib.bitLen n : Nat) := by omega
      rcases Nat.mod_two_eq_zero_or_one (n / 2 ^ i) with hbit | hbit
      · rw [hbit] at hand
        simp only [go_sem, List.reduceReplicate, false_implies, true_implies, true_and, and_true, implies_true, Nat.sub_zero, Int.cast_ofNat_Int, ↓reduceIte, Nat.reduceEqDiff, Nat.reduceLT, Nat.reduceLeDiff, Nat.reduceAdd, Nat.reduceSub, Nat.reduceMul, Int.reduceToNat, Int.reduceNeg, Int.reduceAdd, Int.reduceSub, Int.reduceMul, Int.reduceLT, Int.reduceLE, Int.reduceMod, Int.reducePow, Nat.reducePow, Int.reduceDiv, Nat.reduceBEq, Nat.reduceBNe, Int.reduceBEq, Int.reduceBNe, decide_true, decide_false, reduceCtorEq, Nat.add_zero, Nat.zero_add, Nat.zero_mul, Nat.one_mul, Nat.mul_one, Nat.lt_add_one, Nat.le_refl, Nat.zero_le, Nat.one_ne_zero, Nat.succ_ne_zero, Nat.zero_ne_one, Nat.add_one_ne_zero, Nat.ne_add_one, e4, hand, a4, pw_sq]
        and_intros
        any_goals omega
        refine ⟨⟨i + 1, hlt⟩, Wk.of [0, 1, 2] (by decide) ?_, by simp only; omega⟩
        simp only [go_sem, List.reduceReplicate, false_implies, true_implies, true_and, and_true, implies_true, Nat.sub_zero, Int.cast_ofNat_Int, ↓reduceIte, Nat.reduceEqDiff, Nat.reduceLT, Nat.reduceLeDiff, Nat.reduceAdd, Nat.reduceSub, Nat.reduceMul, Int.reduceToNat, Int.reduceNeg, Int.reduceAdd, Int.reduceSub, Int.reduceMul, Int.reduceLT, Int.reduceLE, Int.reduceMod, Int.reducePow, Nat.reducePow, Int.reduceDiv, Nat.reduceBEq, Nat.reduceBNe, Int.reduceBEq, Int.reduceBNe, decide_true, decide_false, reduceCtorEq, Nat.add_zero, Nat.zero_add, Nat.zero_mul, Nat.one_mul, Nat.mul_one, Nat.lt_add_one, Nat.le_refl, Nat.zero_le, Nat.one_ne_zero, Nat.succ_ne_zero, Nat.zero_ne_one, Nat.add_one_ne_zero, Nat.ne_add_one, pw_bit0 x n i hbit]
      · rw [hbit] at hand
        simp only [go_sem, List.reduceReplicate, false_implies, true_implies, true_and, and_true, implies_true, Nat.sub_zero, Int.cast_ofNat_Int, ↓reduceIte, Nat.reduceEqDiff, Nat.reduceLT, Nat.reduceLeDiff, Nat.reduceAdd, Nat.reduceSub, Nat.reduceMul, Int.reduceToNat, Int.reduceNeg, Int.reduceAdd, Int.reduceSub, Int.reduceMul, Int.reduceLT, Int.reduceLE, Int.reduceMod, Int.reducePow, Nat.reducePow, Int.reduceDiv, Nat.reduceBEq, Nat.reduceBNe, Int.reduceBEq, Int.reduceBNe, decide_true, decide_false, reduceCtorEq, Nat.add_zero, Nat.zero_add, Nat.zero_mul, Nat.one_mul, Nat.mul_one, Nat.lt_add_one, Nat.le_refl, Nat.zero_le, Nat.one_ne_zero, Nat.succ_ne_zero, Nat.zero_ne_one, Nat.add_one_ne_zero, Nat.ne_add_one, e4, hand, a4, pw_sq]
        and_intros
        any_goals omega
        refine ⟨⟨i + 1, hlt⟩, Wk.of [0, 1, 2] (by decide) ?_, by simp only; omega⟩
        simp only [go_sem, List.reduceReplicate, false_implies, true_implies, true_and, and_true, implies_true, Nat.sub_zero, Int.cast_ofNat_Int, ↓reduceIte, Nat.reduceEqDiff, Nat.reduceLT, Nat.reduceLeDiff, Nat.reduceAdd, Nat.reduceSub, Nat.reduceMul, Int.reduceToNat, Int.reduceNeg, Int.reduceAdd, Int.reduceSub, Int.reduceMul, Int.reduceLT, Int.reduceLE, Int.reduceMod, Int.reducePow, Nat.reducePow, Int.reduceDiv, Nat.reduceBEq, Nat.reduceBNe, Int.reduceBEq, Int.reduceBNe, decide_true, decide_false, reduceCtorEq, Nat.add_zero, Nat.zero_add, Nat.zero_mul, Nat.one_mul, Nat.mul_one, Nat.lt_add_one, Nat.le_refl, Nat.zero_le, Nat.one_ne_zero, Nat.succ_ne_zero, Nat.zero_ne_one, Nat.add_one_ne_zero, Nat.ne_add_one, pw_bit1 x n i hbit]
    · have e4 : ¬ (i : Int) < (Lib.bitLen n : Nat) := by omega
      have hil : i = Lib.bitLen n := by omega
      have en : n % 2 ^ i = n := by rw [hil]; exact Nat.mod_eq_of_lt hb1
      simp only [go_sem, List.reduceReplicate, false_implies, true_implies, true_and, and_true, implies_true, Nat.sub_zero, Int.cast_ofNat_Int, ↓reduceIte, Nat.reduceEqDiff, Nat.reduceLT, Nat.reduceLeDiff, Nat.reduceAdd, Nat.reduceSub, Nat.reduceMul, Int.reduceToNat, Int.reduceNeg, Int.reduceAdd, Int.reduceSub, Int.reduceMul, Int.reduceLT, Int.reduceLE, Int.reduceMod, Int.reducePow, Nat.reducePow, Int.reduceDiv, Nat.reduceBEq, Nat.reduceBNe, Int.reduceBEq, Int.reduceBNe, decide_true, decide_false, reduceCtorEq, Nat.add_zero, Nat.zero_add, Nat.zero_mul, Nat.one_mul, Nat.mul_one, Nat.lt_add_one, Nat.le_refl, Nat.zero_le, Nat.one_ne_zero, Nat.succ_ne_zero, Nat.zero_ne_one, Nat.add_one_ne_zero, Nat.ne_add_one, e4, en]
theorem pow_E (x : Int) (n : Int) (hn : n < 0 ∨ 256 < n) :
    PCall Try.prog 27 [.I x, .raw (.int .i64 n)] (.tup [.I 0, .raw (.int .i64 1)]) := by
  refine PCall.of_vc (tabs mixed (tbl_cons mul_C (tbl_cons of_C (tbl_cons len_C tbl_nil)))) Try.func27 rfl Try.ntmps27 Try.results27 (by simp) ?_
  by_cases e1 : n < 0
  · simp only [go_sem, List.reduceReplicate, false_implies, true_implies, true_and, and_true, implies_true, Nat.sub_zero, Int.cast_ofNat_Int, ↓reduceIte, Nat.reduceEqDiff, Nat.reduceLT, Nat.reduceLeDiff, Nat.reduceAdd, Nat.reduceSub, Nat.reduceMul, Int.reduceToNat, Int.reduceNeg, Int.reduceAdd, Int.reduceSub, Int.reduceMul, Int.reduceLT, Int.reduceLE, Int.reduceMod, Int.reducePow, Nat.reducePow, Int.reduceDiv, Nat.reduceBEq, Nat.reduceBNe, Int.reduceBEq, Int.reduceBNe, decide_true, decide_false, reduceCtorEq, Nat.add_zero, Nat.zero_add, Nat.zero_mul, Nat.one_mul, Nat.mul_one, Nat.lt_add_one, Nat.le_refl, Nat.zero_le, Nat.one_ne_zero, Nat.succ_ne_zero, Nat.zero_ne_one, Nat.add_one_ne_zero, Nat.ne_add_one, e1]
    exact out_In rfl
  · have e2 : 256 < n := by omega
    simp only [go_sem, List.reduceReplicate, false_implies, true_implies, true_and, and_true, implies_true, Nat.sub_zero, Int.cast_ofNat_Int, ↓reduceIte, Nat.reduceEqDiff, Nat.reduceLT, Nat.reduceLeDiff, Nat.reduceAdd, Nat.reduceSub, Nat.reduceMul, Int.reduceToNat, Int.reduceNeg, Int.reduceAdd, Int.reduceSub, Int.reduceMul, Int.reduceLT, Int.reduceLE, Int.reduceMod, Int.reducePow, Nat.reducePow, Int.reduceDiv, Nat.reduceBEq, Nat.reduceBNe, Int.reduceBEq, Int.reduceBNe, decide_true, decide_false, reduceCtorEq, Nat.add_zero, Nat.zero_add, Nat.zero_mul, Nat.one_mul, Nat.mul_one, Nat.lt_add_one, Nat.le_refl, Nat.zero_le, Nat.one_ne_zero, Nat.succ_ne_zero, Nat.zero_ne_one, Nat.add_one_ne_zero, Nat.ne_add_one, e1, e2]
    exact out_In rfl
def kPow : Con := con2 pI (pN .i64) fun x n => (dl x.natAbs ≤ 100000, powR x n)
attribute [go_sem ↓, go_sem] kPow
theorem pow_C : Ctr Try.prog 27 kPow := Ctr.c2 rfl fun x n h => by
  show PCall _ _ _ (powR x n)
  unfold powR
  by_cases hn : 0 ≤ n ∧ n ≤ 256
  · rw [if_pos hn]
    have := pow_V x n.toNat h (by omega)
    rw [show ((n.toNat : Nat) : Int) = n from by omega] at this
    exact this
  · rw [if_neg hn]
    exact pow_E x n (by omega)
end Go.Proofs.Ytbnhnmpgbpejaaa
