/- Texts L4 L5 L6 in one. -/
import Derived.Test.YtbnhnmpgbpejaaaP22
import Derived.Test.YtbnhnmpgbpejaaaP20
/- IntegerOrder: the law returns true. -/
namespace Go.Proofs.Ytbnhnmpgbpejaaa
set_option linter.unusedSimpArgs false
set_option linter.unusedVariables false
open Go.RowKit

set_option maxRecDepth 4000 in
set_option maxHeartbeats 1000000 in
theorem lawOrder_V (l m n : List Nat) (s t u : Bool) (hl : Lim l) (h1 : l.length ≤ 9223372036854775807) (hm : Lim m) (h2 : m.length ≤ 9223372036854775807) (hn : Lim n) (h3 : n.length ≤ 9223372036854775807) :
    PCall Try.prog 10 [.agg [.lst (V.limbs l), .raw (.bool s)], .agg [.lst (V.limbs m), .raw (.bool t)], .agg [.lst (V.limbs n), .raw (.bool u)]] (.raw (.bool true)) := by
  refine PCall.of_vc (tabs mixed (tbl_cons sanity_C (tbl_cons made_C (tbl_cons cmpZ_C (tbl_cons same_C (tbl_cons sign_C (tbl_cons sub_C (tbl_cons add_C (tbl_cons mul_C tbl_nil))))))))) Try.func10 rfl Try.ntmps10 Try.results10 (by simp) ?_
  have dX := mdZ_dl l s hl
  have dY := mdZ_dl m t hm
  have dZ := mdZ_dl n u hn
  obtain ⟨X, hX⟩ : ∃ X, mdZ l s = X := ⟨_, rfl⟩
  obtain ⟨Y, hY⟩ : ∃ X, mdZ m t = X := ⟨_, rfl⟩
  obtain ⟨Z, hZ⟩ : ∃ X, mdZ n u = X := ⟨_, rfl⟩
  rw [hX] at dX
  rw [hY] at dY
  rw [hZ] at dZ
  have a1 := dl_addI X Z
  have a2 := dl_addI Y Z
  have a3 := dl_mulI X Z
  have a4 := dl_mulI Y Z
  have a5 := dl_subI X Y
  obtain ⟨b1, b2⟩ := cmpI_range X Y
  obtain ⟨b3, b4⟩ := cmpI_range Y X
  have hne : cmpI Y X ≠ -9223372036854775808 := by omega
  have k1 : (cmpI X Y == -cmpI Y X) = true := beq_true (cmpI_anti X Y)
  have k2 : ((cmpI X Y == 0) == decide (X = Y)) = true := by
    by_cases h : X = Y
    · rw [decide_eq_true h, beq_true (cmpI_zero.2 h)]; rfl
    · rw [decide_eq_false h, beq_false (fun h' => h (cmpI_zero.1 h'))]; rfl
  have k3 : (cmpI X Y == sgI (X - Y)) = true := beq_true (cmpI_sub X Y)
  have k4 : (cmpI (X + Z) (Y + Z) == cmpI X Y) = true := beq_true (cmpI_addr X Y Z)
  have k5 : (cmpI (X * Z) (Y * Z) == cmpI X Y * sgI Z) = true := beq_true (cmpI_mulr X Y Z)
  have hr : -9223372036854775808 ≤ cmpI X Y * sgI Z ∧ cmpI X Y * sgI Z ≤ 9223372036854775807 := by
    have := cmpI_range (X * Z) (Y * Z)
    rw [cmpI_mulr] at this
    omega
  by_cases p1 : 0 < cmpI X Y
  · simp only [go_sem, List.reduceReplicate, false_implies, true_implies, true_and, and_true, implies_true, Nat.sub_zero, Int.cast_ofNat_Int, ↓reduceIte, Nat.reduceEqDiff, Nat.reduceLT, Nat.reduceLeDiff, Nat.reduceAdd, Nat.reduceSub, Nat.reduceMul, Int.reduceToNat, Int.reduceNeg, Int.reduceAdd, Int.reduceSub, Int.reduceMul, Int.reduceLT, Int.reduceLE, Int.reduceMod, Int.reducePow, Nat.reducePow, Int.reduceDiv, Nat.reduceBEq, Nat.reduceBNe, Int.reduceBEq, Int.reduceBNe, decide_true, decide_false, reduceCtorEq, Nat.add_zero, Nat.zero_add, Nat.zero_mul, Nat.one_mul, Nat.mul_one, Nat.lt_add_one, Nat.le_refl, Nat.zero_le, Nat.one_ne_zero, Nat.succ_ne_zero, Nat.zero_ne_one, Nat.add_one_ne_zero, Nat.ne_add_one, hX, hY, hZ, hne, b1, b2, k1, k2, k3, k4, k5, p1]
    and_intros
    all_goals first | assumption | omega | rfl
  · by_cases p2 : 0 < cmpI Y Z
    · simp only [go_sem, List.reduceReplicate, false_implies, true_implies, true_and, and_true, implies_true, Nat.sub_zero, Int.cast_ofNat_Int, ↓reduceIte, Nat.reduceEqDiff, Nat.reduceLT, Nat.reduceLeDiff, Nat.reduceAdd, Nat.reduceSub, Nat.reduceMul, Int.reduceToNat, Int.reduceNeg, Int.reduceAdd, Int.reduceSub, Int.reduceMul, Int.reduceLT, Int.reduceLE, Int.reduceMod, Int.reducePow, Nat.reducePow, Int.reduceDiv, Nat.reduceBEq, Nat.reduceBNe, Int.reduceBEq, Int.reduceBNe, decide_true, decide_false, reduceCtorEq, Nat.add_zero, Nat.zero_add, Nat.zero_mul, Nat.one_mul, Nat.mul_one, Nat.lt_add_one, Nat.le_refl, Nat.zero_le, Nat.one_ne_zero, Nat.succ_ne_zero, Nat.zero_ne_one, Nat.add_one_ne_zero, Nat.ne_add_one, hX, hY, hZ, hne, b1, b2, k1, k2, k3, k4, k5, p1, p2]
      and_intros
      all_goals first | assumption | omega | rfl
    · have p3 : cmpI X Z ≤ 0 := by
        rw [cmpI_pos] at p1 p2
        have : ¬ 0 < cmpI X Z := by rw [cmpI_pos]; omega
        omega
      simp only [go_sem, List.reduceReplicate, false_implies, true_implies, true_and, and_true, implies_true, Nat.sub_zero, Int.cast_ofNat_Int, ↓reduceIte, Nat.reduceEqDiff, Nat.reduceLT, Nat.reduceLeDiff, Nat.reduceAdd, Nat.reduceSub, Nat.reduceMul, Int.reduceToNat, Int.reduceNeg, Int.reduceAdd, Int.reduceSub, Int.reduceMul, Int.reduceLT, Int.reduceLE, Int.reduceMod, Int.reducePow, Nat.reducePow, Int.reduceDiv, Nat.reduceBEq, Nat.reduceBNe, Int.reduceBEq, Int.reduceBNe, decide_true, decide_false, reduceCtorEq, Nat.add_zero, Nat.zero_add, Nat.zero_mul, Nat.one_mul, Nat.mul_one, Nat.lt_add_one, Nat.le_refl, Nat.zero_le, Nat.one_ne_zero, Nat.succ_ne_zero, Nat.zero_ne_one, Nat.add_one_ne_zero, Nat.ne_add_one, hX, hY, hZ, hne, b1, b2, k1, k2, k3, k4, k5, p1, p2, p3]
      and_intros
      all_goals first | assumption | omega | rfl
end Go.Proofs.Ytbnhnmpgbpejaaa

/- IntegerMatchesReference: the law returns true. -/
namespace Go.Proofs.Ytbnhnmpgbpejaaa
set_option linter.unusedSimpArgs false
set_option linter.unusedVariables false
open Go.RowKit

set_option maxRecDepth 4000 in
set_option maxHeartbeats 1000000 in
theorem lawMatches_V (l m : List Nat) (s t : Bool) (hl : Lim l) (h1 : l.length ≤ 9223372036854775807) (hm : Lim m) (h2 : m.length ≤ 9223372036854775807) :
    PCall Try.prog 9 [.agg [.lst (V.limbs l), .raw (.bool s)], .agg [.lst (V.limbs m), .raw (.bool t)]] (.raw (.bool true)) := by
  refine PCall.of_vc (tabs mixed (tbl_cons sanity_C (tbl_cons made_C (tbl_cons small_C (tbl_cons rsmall_C (tbl_cons add_C (tbl_cons sub_C (tbl_cons mul_C (tbl_cons neg_C (tbl_cons valid_C (tbl_cons rvalid_C (tbl_cons same_C (tbl_cons radd_C (tbl_cons rsub_C (tbl_cons rmul_C (tbl_cons (C := kRNeg) rneg_C (tbl_cons cmpZ_C (tbl_cons rcmp_C (tbl_cons sign_C (tbl_cons rsign_C tbl_nil)))))))))))))))))))) Try.func9 rfl Try.ntmps9 Try.results9 (by simp) ?_
  have dX := mdZ_dl l s hl
  have dY := mdZ_dl m t hm
  obtain ⟨X, hX⟩ : ∃ X, mdZ l s = X := ⟨_, rfl⟩
  obtain ⟨Y, hY⟩ : ∃ X, mdZ m t = X := ⟨_, rfl⟩
  rw [hX] at dX
  rw [hY] at dY
  have a1 := dl_addI X Y
  have a2 := dl_subI X Y
  have a3 := dl_mulI X Y
  have a4 := dl_negI X
  have v1 := validB_I (X + Y)
  have v2 := validB_I (X - Y)
  have v3 := validB_I (X * Y)
  have v4 := validB_I (-X)
  have k1 : (cmpI X Y == sgI (X - Y)) = true := beq_true (cmpI_sub X Y)
  have k2 : (sgI X == sgI X) = true := by simp
  have k3 : (smallB X != smallB X) = false := by simp
  have l1 : (dg (X + Y).natAbs).length = dl (X + Y).natAbs := rfl
  have l2 : (dg (X - Y).natAbs).length = dl (X - Y).natAbs := rfl
  have l3 : (dg (X * Y).natAbs).length = dl (X * Y).natAbs := rfl
  have l4 : (dg (-X).natAbs).length = dl (-X).natAbs := rfl
  cases hb : smallB X with
  | true =>
    rw [hb] at k3
    have k4 : smallV X = rsmV X := by
      rw [rsmV_ok hb]
      unfold smallB at hb
      simp at hb
      unfold smallV
      rw [if_pos hb]
    have k5 : (rsmV X != rsmV X) = false := by simp
    simp only [go_sem, List.reduceReplicate, false_implies, true_implies, true_and, and_true, implies_true, Nat.sub_zero, Int.cast_ofNat_Int, ↓reduceIte, Nat.reduceEqDiff, Nat.reduceLT, Nat.reduceLeDiff, Nat.reduceAdd, Nat.reduceSub, Nat.reduceMul, Int.reduceToNat, Int.reduceNeg, Int.reduceAdd, Int.reduceSub, Int.reduceMul, Int.reduceLT, Int.reduceLE, Int.reduceMod, Int.reducePow, Nat.reducePow, Int.reduceDiv, Nat.reduceBEq, Nat.reduceBNe, Int.reduceBEq, Int.reduceBNe, decide_true, decide_false, reduceCtorEq, Nat.add_zero, Nat.zero_add, Nat.zero_mul, Nat.one_mul, Nat.mul_one, Nat.lt_add_one, Nat.le_refl, Nat.zero_le, Nat.one_ne_zero, Nat.succ_ne_zero, Nat.zero_ne_one, Nat.add_one_ne_zero, Nat.ne_add_one, hX, hY, hb, v1, v2, v3, v4, k1, k2, k3, k4, k5]
    and_intros
    all_goals first | assumption | omega | rfl
  | false =>
    rw [hb] at k3
    have k4 : smallV X = 0 := by
      unfold smallB at hb
      unfold smallV
      rw [if_neg (by simpa using hb)]
    have k5 : ((0 : Int) != 0) = false := rfl
    simp only [go_sem, List.reduceReplicate, false_implies, true_implies, true_and, and_true, implies_true, Nat.sub_zero, Int.cast_ofNat_Int, ↓reduceIte, Nat.reduceEqDiff, Nat.reduceLT, Nat.reduceLeDiff, Nat.reduceAdd, Nat.reduceSub, Nat.reduceMul, Int.reduceToNat, Int.reduceNeg, Int.reduceAdd, Int.reduceSub, Int.reduceMul, Int.reduceLT, Int.reduceLE, Int.reduceMod, Int.reducePow, Nat.reducePow, Int.reduceDiv, Nat.reduceBEq, Nat.reduceBNe, Int.reduceBEq, Int.reduceBNe, decide_true, decide_false, reduceCtorEq, Nat.add_zero, Nat.zero_add, Nat.zero_mul, Nat.one_mul, Nat.mul_one, Nat.lt_add_one, Nat.le_refl, Nat.zero_le, Nat.one_ne_zero, Nat.succ_ne_zero, Nat.zero_ne_one, Nat.add_one_ne_zero, Nat.ne_add_one, hX, hY, hb, v1, v2, v3, v4, k1, k2, k3, k4, k5]
    and_intros
    all_goals first | assumption | omega | rfl
end Go.Proofs.Ytbnhnmpgbpejaaa

/- IntegerPowers: the law returns true. -/
namespace Go.Proofs.Ytbnhnmpgbpejaaa
set_option linter.unusedSimpArgs false
set_option linter.unusedVariables false
open Go.RowKit

theorem pw_addI (x : Int) (m n : Nat) : pw x m * pw x n = pw x (m + n) := by unfold pw; rw [Int.pow_add]
theorem pw_mulI (x y : Int) (m : Nat) : pw x m * pw y m = pw (x * y) m := by unfold pw; rw [Int.mul_pow]
set_option maxRecDepth 4000 in
set_option maxHeartbeats 1000000 in
theorem lawPowers_V (l m : List Nat) (a b : Int) (s t : Bool) (hl : Lim l) (h1 : l.length ≤ 9223372036854775807) (hm : Lim m) (h2 : m.length ≤ 9223372036854775807) (ha : -9223372036854775808 ≤ a ∧ a ≤ 9223372036854775807) (hb : -9223372036854775808 ≤ b ∧ b ≤ 9223372036854775807) :
    PCall Try.prog 6 [.agg [.lst (V.limbs l), .raw (.bool s)], .agg [.lst (V.limbs m), .raw (.bool t)], .agg [.raw (.int .i64 a), .raw (.int .i64 b)]] (.raw (.bool true)) := by
  refine PCall.of_vc (tabs mixed (tbl_cons sanity_C (tbl_cons made_C (tbl_cons pow_C (tbl_cons rmul_C (tbl_cons rpow_C (tbl_cons same_C tbl_nil))))))) Try.func6 rfl Try.ntmps6 Try.results6 (by simp) ?_
  have q1 : (if 2 < (l.length : Int) then (2 : Int) else (l.length : Nat)).toNat = min l.length 2 := by split <;> omega
  have q2 : (if 1 < (m.length : Int) then (1 : Int) else (m.length : Nat)).toNat = min m.length 1 := by split <;> omega
  have dX := mdZ_dl (l.take (min l.length 2)) s (hl.take _)
  have dY := mdZ_dl (m.take (min m.length 1)) t (hm.take _)
  obtain ⟨X, hX⟩ : ∃ X, mdZ (l.take (min l.length 2)) s = X := ⟨_, rfl⟩
  obtain ⟨Y, hY⟩ : ∃ X, mdZ (m.take (min m.length 1)) t = X := ⟨_, rfl⟩
  rw [hX] at dX
  rw [hY] at dY
  by_cases hin : 0 ≤ a ∧ a ≤ 256
  · have r1 : powR X a = .tup [.I (pw X a.toNat), .raw (.int .i64 0)] := if_pos hin
    have c1 : ¬ a < 0 := by omega
    have c2 : ¬ 256 < a := by omega
    obtain ⟨M, hM⟩ : ∃ M : Nat, M = (a % 20).toNat := ⟨_, rfl⟩
    obtain ⟨N, hN⟩ : ∃ N : Nat, N = (b % 18446744073709551616 % 20).toNat := ⟨_, rfl⟩
    have m1 : a % 20 = (M : Nat) := by omega
    have n1 : IntKind.i64.wrap (b % 18446744073709551616 % 20) = (N : Nat) := by rw [IntWalk.i64_in _ (by omega)]; omega
    have hM20 : M < 20 := by omega
    have hN20 : N < 20 := by omega
    have mn : (M : Int) + (N : Nat) = ((M + N : Nat) : Int) := by omega
    have pr : ∀ (Z : Int) (k : Nat), k < 40 → powR Z (k : Nat) = .tup [.I (pw Z k), .raw (.int .i64 0)] := fun Z k hk => by
      unfold powR
      rw [if_pos (by omega), show ((k : Nat) : Int).toNat = k from by omega]
    have r2 := pr X M (by omega)
    have r3 := pr X N (by omega)
    have r4 := pr X (M + N) (by omega)
    have r5 := pr Y M (by omega)
    have r6 := pr (X * Y) M (by omega)
    have pb : ∀ (Z : Int) (k : Nat), k < 40 → dl Z.natAbs ≤ 24 → dl (pw Z k).natAbs ≤ 100000 := fun Z k hk hz => by
      have h3 := dl_pw1 Z k
      have h4 : k * dl Z.natAbs ≤ 40 * 24 := Nat.mul_le_mul (by omega) hz
      omega
    have a3 := dl_mulI X Y
    have b1 := pb X M (by omega) (by omega)
    have b2 := pb X N (by omega) (by omega)
    have b3 := pb X (M + N) (by omega) (by omega)
    have b4 := pb Y M (by omega) (by omega)
    have b5 := pb (X * Y) M (by omega) (by omega)
    have s1 := hl.take (min l.length 2)
    have s2 := hm.take (min m.length 1)
    have k1 := pw_addI X M N
    have k2 := pw_mulI X Y M
    simp only [go_sem, List.reduceReplicate, false_implies, true_implies, true_and, and_true, implies_true, Nat.sub_zero, Int.cast_ofNat_Int, ↓reduceIte, Nat.reduceEqDiff, Nat.reduceLT, Nat.reduceLeDiff, Nat.reduceAdd, Nat.reduceSub, Nat.reduceMul, Int.reduceToNat, Int.reduceNeg, Int.reduceAdd, Int.reduceSub, Int.reduceMul, Int.reduceLT, Int.reduceLE, Int.reduceMod, Int.reducePow, Nat.reducePow, Int.reduceDiv, Nat.reduceBEq, Nat.reduceBNe, Int.reduceBEq, Int.reduceBNe, decide_true, decide_false, reduceCtorEq, Nat.add_zero, Nat.zero_add, Nat.zero_mul, Nat.one_mul, Nat.mul_one, Nat.lt_add_one, Nat.le_refl, Nat.zero_le, Nat.one_ne_zero, Nat.succ_ne_zero, Nat.zero_ne_one, Nat.add_one_ne_zero, Nat.ne_add_one, q1, q2, hX, hY, r1, c1, c2, m1, n1, mn, r2, r3, r4, r5, r6, k1, k2]
    refine ⟨by split <;> omega, by split <;> omega, ?_⟩
    and_intros
    all_goals first | assumption | omega | rfl
  · have r1 : powR X a = .tup [.I 0, .raw (.int .i64 1)] := if_neg hin
    by_cases c1 : a < 0
    · simp only [go_sem, List.reduceReplicate, false_implies, true_implies, true_and, and_true, implies_true, Nat.sub_zero, Int.cast_ofNat_Int, ↓reduceIte, Nat.reduceEqDiff, Nat.reduceLT, Nat.reduceLeDiff, Nat.reduceAdd, Nat.reduceSub, Nat.reduceMul, Int.reduceToNat, Int.reduceNeg, Int.reduceAdd, Int.reduceSub, Int.reduceMul, Int.reduceLT, Int.reduceLE, Int.reduceMod, Int.reducePow, Nat.reducePow, Int.reduceDiv, Nat.reduceBEq, Nat.reduceBNe, Int.reduceBEq, Int.reduceBNe, decide_true, decide_false, reduceCtorEq, Nat.add_zero, Nat.zero_add, Nat.zero_mul, Nat.one_mul, Nat.mul_one, Nat.lt_add_one, Nat.le_refl, Nat.zero_le, Nat.one_ne_zero, Nat.succ_ne_zero, Nat.zero_ne_one, Nat.add_one_ne_zero, Nat.ne_add_one, q1, q2, hX, hY, r1, c1]
      refine ⟨by split <;> omega, by split <;> omega, ?_⟩
      and_intros
      all_goals first | exact hl.take _ | exact hm.take _ | omega | rfl
    · have c2 : 256 < a := by omega
      simp only [go_sem, List.reduceReplicate, false_implies, true_implies, true_and, and_true, implies_true, Nat.sub_zero, Int.cast_ofNat_Int, ↓reduceIte, Nat.reduceEqDiff, Nat.reduceLT, Nat.reduceLeDiff, Nat.reduceAdd, Nat.reduceSub, Nat.reduceMul, Int.reduceToNat, Int.reduceNeg, Int.reduceAdd, Int.reduceSub, Int.reduceMul, Int.reduceLT, Int.reduceLE, Int.reduceMod, Int.reducePow, Nat.reducePow, Int.reduceDiv, Nat.reduceBEq, Nat.reduceBNe, Int.reduceBEq, Int.reduceBNe, decide_true, decide_false, reduceCtorEq, Nat.add_zero, Nat.zero_add, Nat.zero_mul, Nat.one_mul, Nat.mul_one, Nat.lt_add_one, Nat.le_refl, Nat.zero_le, Nat.one_ne_zero, Nat.succ_ne_zero, Nat.zero_ne_one, Nat.add_one_ne_zero, Nat.ne_add_one, q1, q2, hX, hY, r1, c1, c2]
      refine ⟨by split <;> omega, by split <;> omega, ?_⟩
      and_intros
      all_goals first | exact hl.take _ | exact hm.take _ | omega | rfl
end Go.Proofs.Ytbnhnmpgbpejaaa
