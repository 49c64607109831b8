/- Texts L8 in one. -/
import Derived.Test.YtbnhnmpgbpejaaaP27
import Derived.Test.YtbnhnmpgbpejaaaP28
/- IntegerDivides: the law returns true. -/
namespace Go.Proofs.Ytbnhnmpgbpejaaa
set_option linter.unusedSimpArgs false
set_option linter.unusedVariables false
open Go.RowKit

theorem longTo (N : Nat) : LongTo N := fun l m hl hm h1 h2 h3 _ => long_V l m hl hm h1 h2 h3
def kDivModA : Con := con2 pI pI fun x y => (dl x.natAbs ≤ 1000000000 ∧ dl y.natAbs ≤ 1000000000, dmR x y)
attribute [go_sem ↓, go_sem] kDivModA
theorem divModA_C : Ctr Try.prog 16 kDivModA := Ctr.c2 rfl fun x y h => divMod_V (longTo (dl y.natAbs)) x y h.1 h.2 (Nat.le_refl _)
set_option maxRecDepth 4000 in
set_option maxHeartbeats 1000000 in
theorem lawDivides_V (l m : List Nat) (s t : Bool) (hl : Lim l) (h1 : l.length ≤ 9223372036854775807) (hm : Lim m) (h2 : m.length ≤ 9223372036854775807) :
    PCall Try.prog 4 [.agg [.lst (V.limbs l), .raw (.bool s)], .agg [.lst (V.limbs m), .raw (.bool t)]] (.raw (.bool true)) := by
  refine PCall.of_vc (tabs mixed (tbl_cons sanity_C (tbl_cons made_C (tbl_cons divModA_C (tbl_cons rsign_C (tbl_cons same_C (tbl_cons rmul_C (tbl_cons rcmp_C (tbl_cons rmade_C (tbl_cons rvalid_C (tbl_cons radd_C tbl_nil))))))))))) Try.func4 rfl Try.ntmps4 Try.results4 (by simp) ?_
  have dX := mdZ_dl l s hl
  have dY := mdZ_dl m t hm
  obtain ⟨X, hX⟩ : ∃ X, mdZ l s = X := ⟨_, rfl⟩
  obtain ⟨Y, hY⟩ : ∃ X, mdZ m t = X := ⟨_, rfl⟩
  rw [hX] at dX
  rw [hY] at dY
  have a1 := dl_mulI X Y
  by_cases hy0 : Y = 0
  · have r1 : dmR X 0 = .tup [.I 0, .I 0, .raw (.int .i64 3)] := if_pos rfl
    have b0 : (sgI 0 == 0) = true := rfl
    subst hy0
    simp only [go_sem, List.reduceReplicate, false_implies, true_implies, true_and, and_true, implies_true, Nat.sub_zero, Int.cast_ofNat_Int, ↓reduceIte, Nat.reduceEqDiff, Nat.reduceLT, Nat.reduceLeDiff, Nat.reduceAdd, Nat.reduceSub, Nat.reduceMul, Int.reduceToNat, Int.reduceNeg, Int.reduceAdd, Int.reduceSub, Int.reduceMul, Int.reduceLT, Int.reduceLE, Int.reduceMod, Int.reducePow, Nat.reducePow, Int.reduceDiv, Nat.reduceBEq, Nat.reduceBNe, Int.reduceBEq, Int.reduceBNe, decide_true, decide_false, reduceCtorEq, Nat.add_zero, Nat.zero_add, Nat.zero_mul, Nat.one_mul, Nat.mul_one, Nat.lt_add_one, Nat.le_refl, Nat.zero_le, Nat.one_ne_zero, Nat.succ_ne_zero, Nat.zero_ne_one, Nat.add_one_ne_zero, Nat.ne_add_one, hX, hY, r1, b0]
    and_intros
    all_goals first | assumption | omega | rfl | exact Nat.zero_le _
  · have r1 : dmR X Y = .tup [.I (X / Y), .I (X % Y), .raw (.int .i64 0)] := if_neg hy0
    have r2 : dmR (X * Y) Y = .tup [.I X, .I 0, .raw (.int .i64 0)] := by
      unfold dmR
      rw [if_neg hy0, Int.mul_ediv_cancel _ hy0, Int.mul_emod_left]
    have b0 : (sgI Y == 0) = false := beq_false (fun h => hy0 (sgI_zero.1 h))
    have hr0 := Int.emod_nonneg X hy0
    have hr1 := Int.emod_lt X hy0
    have e1 : sv false (dg Y.natAbs) = (Y.natAbs : Int) := by rw [sv_dg]; rfl
    have c1 : 0 ≤ sgI (X % Y) := by
      unfold sgI cmpI
      split
      · omega
      · split <;> decide
    have c2 : sgI (X % Y - (Y.natAbs : Int)) < 0 := by
      rw [show sgI (X % Y - (Y.natAbs : Int)) = -1 from cmpI_lt (by omega)]
      decide
    have v1 := validB_I (X / Y)
    have v2 := validB_I (X % Y)
    have k1 : decide (X / Y * Y + X % Y = X) = true := decide_eq_true (Int.mul_comm Y (X / Y) ▸ Int.mul_ediv_add_emod X Y)
    have k2 : (sgI 0 == 0) = true := rfl
    have hq : dl (X / Y).natAbs ≤ 12 := by
      have : (X / Y).natAbs ≤ X.natAbs + 1 := by
        have h9 := Int.natAbs_ediv_le_natAbs X Y
        omega
      have h8 : (X / Y).natAbs ≤ X.natAbs := Int.natAbs_ediv_le_natAbs X Y
      exact Nat.le_trans (dl_mono h8) dX
    have hrr : dl (X % Y).natAbs ≤ 12 := Nat.le_trans (dl_mono (by omega)) dY
    have a2 := dl_mulI (X / Y) Y
    have a3 := dl_addI (X / Y * Y) (X % Y)
    have l1 : (dg (X / Y).natAbs).length = dl (X / Y).natAbs := rfl
    have l2 : (dg (X % Y).natAbs).length = dl (X % Y).natAbs := rfl
    have l3 : (dg Y.natAbs).length = dl Y.natAbs := rfl
    have s1 := dg_lim Y.natAbs
    have s2 : dl ((Y.natAbs : Int)).natAbs = dl Y.natAbs := by rw [Int.natAbs_natCast]
    have s3 : dl (Int.natAbs 0) = 0 := rfl
    simp only [go_sem, List.reduceReplicate, false_implies, true_implies, true_and, and_true, implies_true, Nat.sub_zero, Int.cast_ofNat_Int, ↓reduceIte, Nat.reduceEqDiff, Nat.reduceLT, Nat.reduceLeDiff, Nat.reduceAdd, Nat.reduceSub, Nat.reduceMul, Int.reduceToNat, Int.reduceNeg, Int.reduceAdd, Int.reduceSub, Int.reduceMul, Int.reduceLT, Int.reduceLE, Int.reduceMod, Int.reducePow, Nat.reducePow, Int.reduceDiv, Nat.reduceBEq, Nat.reduceBNe, Int.reduceBEq, Int.reduceBNe, decide_true, decide_false, reduceCtorEq, Nat.add_zero, Nat.zero_add, Nat.zero_mul, Nat.one_mul, Nat.mul_one, Nat.lt_add_one, Nat.le_refl, Nat.zero_le, Nat.one_ne_zero, Nat.succ_ne_zero, Nat.zero_ne_one, Nat.add_one_ne_zero, Nat.ne_add_one, hX, hY, r1, r2, b0, e1, c1, c2, v1, v2, k1, k2]
    and_intros
    all_goals first | assumption | omega | rfl
end Go.Proofs.Ytbnhnmpgbpejaaa
