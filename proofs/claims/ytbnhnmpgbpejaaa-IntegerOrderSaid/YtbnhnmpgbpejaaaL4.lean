/- IntegerOrder: the law returns true. -/
import Derived.Test.YtbnhnmpgbpejaaaL3
namespace Go.Proofs.Ytbnhnmpgbpejaaa
set_option linter.unusedSimpArgs false
set_option linter.unusedVariables false
open Go.RowKit

set_option maxRecDepth 4000 in
set_option maxHeartbeats 1000000 in
theorem lawOrder_V (l m n : List Nat) (s t u : Bool) (hl : Lim l) (h1 : l.length ≤ 9223372036854775807) (hm : Lim m) (h2 : m.length ≤ 9223372036854775807) (hn : Lim n) (h3 : n.length ≤ 9223372036854775807) :
    PCall Try.prog 10 [.agg [.lst (V.limbs l), .raw (.bool s)], .agg [.lst (V.limbs m), .raw (.bool t)], .agg [.lst (V.limbs n), .raw (.bool u)]] (.raw (.bool true)) := by
  refine PCall.of_vc (tabs mixed (tbl_cons sanity_C (tbl_cons made_C (tbl_cons cmpZ_C (tbl_cons same_C (tbl_cons sign_C (tbl_cons sub_C (tbl_cons add_C (tbl_cons mul_C tbl_nil))))))))) Try.func10 rfl Try.ntmps10 Try.results10 (by simp) ?_
  have dX := mdZ_dl l s hl
  have dY := mdZ_dl m t hm
  have dZ := mdZ_dl n u hn
  obtain ⟨X, hX⟩ : ∃ X, mdZ l s = X := ⟨_, rfl⟩
  obtain ⟨Y, hY⟩ : ∃ X, mdZ m t = X := ⟨_, rfl⟩
  obtain ⟨Z, hZ⟩ : ∃ X, mdZ n u = X := ⟨_, rfl⟩
  rw [hX] at dX
  rw [hY] at dY
  rw [hZ] at dZ
  have a1 := dl_addI X Z
  have a2 := dl_addI Y Z
  have a3 := dl_mulI X Z
  have a4 := dl_mulI Y Z
  have a5 := dl_subI X Y
  obtain ⟨b1, b2⟩ := cmpI_range X Y
  obtain ⟨b3, b4⟩ := cmpI_range Y X
  have hne : cmpI Y X ≠ -9223372036854775808 := by omega
  have k1 : (cmpI X Y == -cmpI Y X) = true := beq_true (cmpI_anti X Y)
  have k2 : ((cmpI X Y == 0) == decide (X = Y)) = true := by
    by_cases h : X = Y
    · rw [decide_eq_true h, beq_true (cmpI_zero.2 h)]; rfl
    · rw [decide_eq_false h, beq_false (fun h' => h (cmpI_zero.1 h'))]; rfl
  have k3 : (cmpI X Y == sgI (X - Y)) = true := beq_true (cmpI_sub X Y)
  have k4 : (cmpI (X + Z) (Y + Z) == cmpI X Y) = true := beq_true (cmpI_addr X Y Z)
  have k5 : (cmpI (X * Z) (Y * Z) == cmpI X Y * sgI Z) = true := beq_true (cmpI_mulr X Y Z)
  have hr : -9223372036854775808 ≤ cmpI X Y * sgI Z ∧ cmpI X Y * sgI Z ≤ 9223372036854775807 := by
    have := cmpI_range (X * Z) (Y * Z)
    rw [cmpI_mulr] at this
    omega
  by_cases p1 : 0 < cmpI X Y
  · simp only [go_sem, List.reduceReplicate, false_implies, true_implies, true_and, and_true, implies_true, Nat.sub_zero, Int.cast_ofNat_Int, ↓reduceIte, Nat.reduceEqDiff, Nat.reduceLT, Nat.reduceLeDiff, Nat.reduceAdd, Nat.reduceSub, Nat.reduceMul, Int.reduceToNat, Int.reduceNeg, Int.reduceAdd, Int.reduceSub, Int.reduceMul, Int.reduceLT, Int.reduceLE, Int.reduceMod, Int.reducePow, Nat.reducePow, Int.reduceDiv, Nat.reduceBEq, Nat.reduceBNe, Int.reduceBEq, Int.reduceBNe, decide_true, decide_false, reduceCtorEq, Nat.add_zero, Nat.zero_add, Nat.zero_mul, Nat.one_mul, Nat.mul_one, Nat.lt_add_one, Nat.le_refl, Nat.zero_le, Nat.one_ne_zero, Nat.succ_ne_zero, Nat.zero_ne_one, Nat.add_one_ne_zero, Nat.ne_add_one, hX, hY, hZ, hne, b1, b2, k1, k2, k3, k4, k5, p1]
    and_intros
    all_goals first | assumption | omega | rfl
  · by_cases p2 : 0 < cmpI Y Z
    · simp only [go_sem, List.reduceReplicate, false_implies, true_implies, true_and, and_true, implies_true, Nat.sub_zero, Int.cast_ofNat_Int, ↓reduceIte, Nat.reduceEqDiff, Nat.reduceLT, Nat.reduceLeDiff, Nat.reduceAdd, Nat.reduceSub, Nat.reduceMul, Int.reduceToNat, Int.reduceNeg, Int.reduceAdd, Int.reduceSub, Int.reduceMul, Int.reduceLT, Int.reduceLE, Int.reduceMod, Int.reducePow, Nat.reducePow, Int.reduceDiv, Nat.reduceBEq, Nat.reduceBNe, Int.reduceBEq, Int.reduceBNe, decide_true, decide_false, reduceCtorEq, Nat.add_zero, Nat.zero_add, Nat.zero_mul, Nat.one_mul, Nat.mul_one, Nat.lt_add_one, Nat.le_refl, Nat.zero_le, Nat.one_ne_zero, Nat.succ_ne_zero, Nat.zero_ne_one, Nat.add_one_ne_zero, Nat.ne_add_one, hX, hY, hZ, hne, b1, b2, k1, k2, k3, k4, k5, p1, p2]
      and_intros
      all_goals first | assumption | omega | rfl
    · have p3 : cmpI X Z ≤ 0 := by
        rw [cmpI_pos] at p1 p2
        have : ¬ 0 < cmpI X Z := by rw [cmpI_pos]; omega
        omega
      simp only [go_sem, List.reduceReplicate, false_implies, true_implies, true_and, and_true, implies_true, Nat.sub_zero, Int.cast_ofNat_Int, ↓reduceIte, Nat.reduceEqDiff, Nat.reduceLT, Nat.reduceLeDiff, Nat.reduceAdd, Nat.reduceSub, Nat.reduceMul, Int.reduceToNat, Int.reduceNeg, Int.reduceAdd, Int.reduceSub, Int.reduceMul, Int.reduceLT, Int.reduceLE, Int.reduceMod, Int.reducePow, Nat.reducePow, Int.reduceDiv, Nat.reduceBEq, Nat.reduceBNe, Int.reduceBEq, Int.reduceBNe, decide_true, decide_false, reduceCtorEq, Nat.add_zero, Nat.zero_add, Nat.zero_mul, Nat.one_mul, Nat.mul_one, Nat.lt_add_one, Nat.le_refl, Nat.zero_le, Nat.one_ne_zero, Nat.succ_ne_zero, Nat.zero_ne_one, Nat.add_one_ne_zero, Nat.ne_add_one, hX, hY, hZ, hne, b1, b2, k1, k2, k3, k4, k5, p1, p2, p3]
      and_intros
      all_goals first | assumption | omega | rfl
end Go.Proofs.Ytbnhnmpgbpejaaa
