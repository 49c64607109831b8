/- Texts L2 L3 in one. -/
import Derived.Test.YtbnhnmpgbpejaaaP21
import Derived.Test.YtbnhnmpgbpejaaaP18
/- IntegerValid: the law returns true. -/
namespace Go.Proofs.Ytbnhnmpgbpejaaa
set_option linter.unusedSimpArgs false
set_option linter.unusedVariables false
open Go.RowKit

set_option maxRecDepth 4000 in
theorem lawValid_V (l : List Nat) (n : Int) (s : Bool) (hl : Lim l) (h : l.length ≤ 9223372036854775807) (h1 : -9223372036854775808 ≤ n) (h2 : n ≤ 9223372036854775807) :
    PCall Try.prog 3 [.agg [.lst (V.limbs l), .raw (.bool s)], .raw (.int .i64 n)] (.raw (.bool true)) := by
  refine PCall.of_vc (tabs mixed (tbl_cons sanity_C (tbl_cons of_C (tbl_cons small_C (tbl_cons valid_C tbl_nil))))) Try.func3 rfl Try.ntmps3 Try.results3 (by simp) ?_
  have hs1 : smallV n = n := by unfold smallV; rw [if_pos ⟨h1, h2⟩]
  have hs2 : smallB n = true := by unfold smallB; simp; omega
  have hv := validB_I n
  have hdl : (dg n.natAbs).length ≤ 9223372036854775807 := Nat.le_trans ((dl_le (k := 2)).2 (by omega) : dl n.natAbs ≤ 2) (by decide)
  have hbn : (decide (n < 0) == decide (n < 0)) = true := by simp
  have hnn : (n == n) = true := by simp
  by_cases h0 : l = []
  · subst h0
    have e0 : (((([] : List Nat).length : Nat) : Int) == 0) = true := rfl
    have e1 : validB s [] = !s := by simp [validB]
    cases s <;> simp only [go_sem, List.reduceReplicate, false_implies, true_implies, true_and, and_true, implies_true, Nat.sub_zero, Int.cast_ofNat_Int, ↓reduceIte, Nat.reduceEqDiff, Nat.reduceLT, Nat.reduceLeDiff, Nat.reduceAdd, Nat.reduceSub, Nat.reduceMul, Int.reduceToNat, Int.reduceNeg, Int.reduceAdd, Int.reduceSub, Int.reduceMul, Int.reduceLT, Int.reduceLE, Int.reduceMod, Int.reducePow, Nat.reducePow, Int.reduceDiv, Nat.reduceBEq, Nat.reduceBNe, Int.reduceBEq, Int.reduceBNe, decide_true, decide_false, reduceCtorEq, Nat.add_zero, Nat.zero_add, Nat.zero_mul, Nat.one_mul, Nat.mul_one, Nat.lt_add_one, Nat.le_refl, Nat.zero_le, Nat.one_ne_zero, Nat.succ_ne_zero, Nat.zero_ne_one, Nat.add_one_ne_zero, Nat.ne_add_one, hs1, hs2, hv, hbn, hnn, e0, e1]
    all_goals exact ⟨⟨h1, h2⟩, hdl⟩
  · have e0 : ((l.length : Int) == 0) = false := by have := List.length_pos_iff.2 h0; simp; omega
    have e1 : 0 < (l.length : Int) := by have := List.length_pos_iff.2 h0; omega
    have e2 : ((l.length : Int) - 1).toNat = l.length - 1 := by omega
    have e3 : validB s l = decide (at0 l (l.length - 1) ≠ 0) := by simp [validB, h0]
    by_cases hz : at0 l (l.length - 1) = 0
    · simp only [go_sem, List.reduceReplicate, false_implies, true_implies, true_and, and_true, implies_true, Nat.sub_zero, Int.cast_ofNat_Int, ↓reduceIte, Nat.reduceEqDiff, Nat.reduceLT, Nat.reduceLeDiff, Nat.reduceAdd, Nat.reduceSub, Nat.reduceMul, Int.reduceToNat, Int.reduceNeg, Int.reduceAdd, Int.reduceSub, Int.reduceMul, Int.reduceLT, Int.reduceLE, Int.reduceMod, Int.reducePow, Nat.reducePow, Int.reduceDiv, Nat.reduceBEq, Nat.reduceBNe, Int.reduceBEq, Int.reduceBNe, decide_true, decide_false, reduceCtorEq, Nat.add_zero, Nat.zero_add, Nat.zero_mul, Nat.one_mul, Nat.mul_one, Nat.lt_add_one, Nat.le_refl, Nat.zero_le, Nat.one_ne_zero, Nat.succ_ne_zero, Nat.zero_ne_one, Nat.add_one_ne_zero, Nat.ne_add_one, hs1, hs2, hv, hbn, hnn, e0, e1, e2, e3, hz]
      exact ⟨by omega, by omega, by omega, ⟨h1, h2⟩, h, hdl⟩
    · have e4 : (((at0 l (l.length - 1) : Nat) : Int) != 0) = true := by simp; omega
      have e5 : decide (at0 l (l.length - 1) ≠ 0) = true := by simp [hz]
      simp only [go_sem, List.reduceReplicate, false_implies, true_implies, true_and, and_true, implies_true, Nat.sub_zero, Int.cast_ofNat_Int, ↓reduceIte, Nat.reduceEqDiff, Nat.reduceLT, Nat.reduceLeDiff, Nat.reduceAdd, Nat.reduceSub, Nat.reduceMul, Int.reduceToNat, Int.reduceNeg, Int.reduceAdd, Int.reduceSub, Int.reduceMul, Int.reduceLT, Int.reduceLE, Int.reduceMod, Int.reducePow, Nat.reducePow, Int.reduceDiv, Nat.reduceBEq, Nat.reduceBNe, Int.reduceBEq, Int.reduceBNe, decide_true, decide_false, reduceCtorEq, Nat.add_zero, Nat.zero_add, Nat.zero_mul, Nat.one_mul, Nat.mul_one, Nat.lt_add_one, Nat.le_refl, Nat.zero_le, Nat.one_ne_zero, Nat.succ_ne_zero, Nat.zero_ne_one, Nat.add_one_ne_zero, Nat.ne_add_one, hs1, hs2, hv, hbn, hnn, e0, e1, e2, e3, e4, e5]
      exact ⟨by omega, by omega, by omega, ⟨h1, h2⟩, h, hdl⟩
end Go.Proofs.Ytbnhnmpgbpejaaa

/- IntegerRing: the law returns true. -/
namespace Go.Proofs.Ytbnhnmpgbpejaaa
set_option linter.unusedSimpArgs false
set_option linter.unusedVariables false
open Go.RowKit

theorem beq_true {a b : Int} (h : a = b) : (a == b) = true := by simp [h]
theorem beq_false {a b : Int} (h : a ≠ b) : (a == b) = false := by simp [h]
set_option maxRecDepth 4000 in
set_option maxHeartbeats 1000000 in
theorem lawRing_V (l m n : List Nat) (s t u : Bool) (hl : Lim l) (h1 : l.length ≤ 9223372036854775807) (hm : Lim m) (h2 : m.length ≤ 9223372036854775807) (hn : Lim n) (h3 : n.length ≤ 9223372036854775807) :
    PCall Try.prog 8 [.agg [.lst (V.limbs l), .raw (.bool s)], .agg [.lst (V.limbs m), .raw (.bool t)], .agg [.lst (V.limbs n), .raw (.bool u)]] (.raw (.bool true)) := by
  refine PCall.of_vc (tabs mixed (tbl_cons sanity_C (tbl_cons made_C (tbl_cons mul_C (tbl_cons same_C (tbl_cons add_C (tbl_cons of_C (tbl_cons sign_C (tbl_cons neg_C (tbl_cons sub_C tbl_nil)))))))))) Try.func8 rfl Try.ntmps8 Try.results8 (by simp) ?_
  have dX := mdZ_dl l s hl
  have dY := mdZ_dl m t hm
  have dZ := mdZ_dl n u hn
  obtain ⟨X, hX⟩ : ∃ X, mdZ l s = X := ⟨_, rfl⟩
  obtain ⟨Y, hY⟩ : ∃ X, mdZ m t = X := ⟨_, rfl⟩
  obtain ⟨Z, hZ⟩ : ∃ X, mdZ n u = X := ⟨_, rfl⟩
  rw [hX] at dX
  rw [hY] at dY
  rw [hZ] at dZ
  have d0 : dl (Int.natAbs 0) ≤ 1 := by decide
  have d1 : dl (Int.natAbs 1) ≤ 1 := (dl_le (k := 1)).2 (by decide)
  have k1 : decide (X + Y = Y + X) = true := decide_eq_true (Int.add_comm _ _)
  have k2 : decide (X + Y + Z = X + (Y + Z)) = true := decide_eq_true (Int.add_assoc _ _ _)
  have k3 : decide (X + 0 = X) = true := decide_eq_true (Int.add_zero _)
  have k4 : (sgI (X + -X) == 0) = true := beq_true (sgI_zero.2 (by omega))
  have k5 : decide (X + Y - Y = X) = true := decide_eq_true (by omega)
  have k6 : decide (X * Y = Y * X) = true := decide_eq_true (Int.mul_comm _ _)
  have k7 : decide (X * Y * Z = X * (Y * Z)) = true := decide_eq_true (Int.mul_assoc _ _ _)
  have k8 : decide (X * 1 = X) = true := decide_eq_true (Int.mul_one _)
  have k9 : decide (X * (Y + Z) = X * Y + X * Z) = true := decide_eq_true (Int.mul_add _ _ _)
  have q0 := dl_addI X Y
  have q1 := dl_addI Y X
  have q2 := dl_addI (X + Y) Z
  have q3 := dl_addI Y Z
  have q4 := dl_addI X (Y + Z)
  have q5 := dl_addI X 0
  have q6 := dl_addI X (-X)
  have q7 := dl_subI (X + Y) Y
  have q8 := dl_mulI X Y
  have q9 := dl_mulI Y X
  have q10 := dl_mulI (X * Y) Z
  have q11 := dl_mulI Y Z
  have q12 := dl_mulI X (Y * Z)
  have q13 := dl_mulI X 1
  have q14 := dl_mulI X (Y + Z)
  have q15 := dl_mulI X Z
  have q16 := dl_addI (X * Y) (X * Z)
  have qn := dl_negI X
  by_cases hx0 : X = 0
  · have s1 : (sgI X == 0) = true := beq_true (sgI_zero.2 hx0)
    have s3 : (sgI (X * Y) == 0) = true := beq_true (sgI_zero.2 (by rw [hx0, Int.zero_mul]))
    simp only [go_sem, List.reduceReplicate, false_implies, true_implies, true_and, and_true, implies_true, Nat.sub_zero, Int.cast_ofNat_Int, ↓reduceIte, Nat.reduceEqDiff, Nat.reduceLT, Nat.reduceLeDiff, Nat.reduceAdd, Nat.reduceSub, Nat.reduceMul, Int.reduceToNat, Int.reduceNeg, Int.reduceAdd, Int.reduceSub, Int.reduceMul, Int.reduceLT, Int.reduceLE, Int.reduceMod, Int.reducePow, Nat.reducePow, Int.reduceDiv, Nat.reduceBEq, Nat.reduceBNe, Int.reduceBEq, Int.reduceBNe, decide_true, decide_false, reduceCtorEq, Nat.add_zero, Nat.zero_add, Nat.zero_mul, Nat.one_mul, Nat.mul_one, Nat.lt_add_one, Nat.le_refl, Nat.zero_le, Nat.one_ne_zero, Nat.succ_ne_zero, Nat.zero_ne_one, Nat.add_one_ne_zero, Nat.ne_add_one, hX, hY, hZ, k1, k2, k3, k4, k5, k6, k7, k8, k9, s1, s3]
    and_intros
    all_goals first | assumption | omega | rfl
  · have s1 : (sgI X == 0) = false := beq_false (fun h => hx0 (sgI_zero.1 h))
    by_cases hy0 : Y = 0
    · have s2 : (sgI Y == 0) = true := beq_true (sgI_zero.2 hy0)
      have s3 : (sgI (X * Y) == 0) = true := beq_true (sgI_zero.2 (by rw [hy0, Int.mul_zero]))
      simp only [go_sem, List.reduceReplicate, false_implies, true_implies, true_and, and_true, implies_true, Nat.sub_zero, Int.cast_ofNat_Int, ↓reduceIte, Nat.reduceEqDiff, Nat.reduceLT, Nat.reduceLeDiff, Nat.reduceAdd, Nat.reduceSub, Nat.reduceMul, Int.reduceToNat, Int.reduceNeg, Int.reduceAdd, Int.reduceSub, Int.reduceMul, Int.reduceLT, Int.reduceLE, Int.reduceMod, Int.reducePow, Nat.reducePow, Int.reduceDiv, Nat.reduceBEq, Nat.reduceBNe, Int.reduceBEq, Int.reduceBNe, decide_true, decide_false, reduceCtorEq, Nat.add_zero, Nat.zero_add, Nat.zero_mul, Nat.one_mul, Nat.mul_one, Nat.lt_add_one, Nat.le_refl, Nat.zero_le, Nat.one_ne_zero, Nat.succ_ne_zero, Nat.zero_ne_one, Nat.add_one_ne_zero, Nat.ne_add_one, hX, hY, hZ, k1, k2, k3, k4, k5, k6, k7, k8, k9, s1, s2, s3]
      and_intros
      all_goals first | assumption | omega | rfl
    · have s2 : (sgI Y == 0) = false := beq_false (fun h => hy0 (sgI_zero.1 h))
      have s3 : (sgI (X * Y) == 0) = false := beq_false (fun h => (Int.mul_ne_zero hx0 hy0) (sgI_zero.1 h))
      simp only [go_sem, List.reduceReplicate, false_implies, true_implies, true_and, and_true, implies_true, Nat.sub_zero, Int.cast_ofNat_Int, ↓reduceIte, Nat.reduceEqDiff, Nat.reduceLT, Nat.reduceLeDiff, Nat.reduceAdd, Nat.reduceSub, Nat.reduceMul, Int.reduceToNat, Int.reduceNeg, Int.reduceAdd, Int.reduceSub, Int.reduceMul, Int.reduceLT, Int.reduceLE, Int.reduceMod, Int.reducePow, Nat.reducePow, Int.reduceDiv, Nat.reduceBEq, Nat.reduceBNe, Int.reduceBEq, Int.reduceBNe, decide_true, decide_false, reduceCtorEq, Nat.add_zero, Nat.zero_add, Nat.zero_mul, Nat.one_mul, Nat.mul_one, Nat.lt_add_one, Nat.le_refl, Nat.zero_le, Nat.one_ne_zero, Nat.succ_ne_zero, Nat.zero_ne_one, Nat.add_one_ne_zero, Nat.ne_add_one, hX, hY, hZ, k1, k2, k3, k4, k5, k6, k7, k8, k9, s1, s2, s3]
      and_intros
      all_goals first | assumption | omega | rfl
end Go.Proofs.Ytbnhnmpgbpejaaa
