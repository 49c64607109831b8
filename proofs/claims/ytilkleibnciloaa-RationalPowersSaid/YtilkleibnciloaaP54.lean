/- Texts LB6 in one. -/
import Derived.Test.YtilkleibnciloaaP53
/- RationalPowers: the law returns true. -/
namespace Go.Proofs.Ytilkleibnciloaa
set_option linter.unusedSimpArgs false
set_option linter.unusedVariables false
open Go.RowKit

theorem wraps_i64' {n : Int} (h0 : -9223372036854775808 ≤ n) (h1 : n ≤ 9223372036854775807) : IntKind.i64.wrap n = n := by rw [IntKind.wrap_i64]; omega
theorem and_bound (x : Int) (m : Nat) (hm : m < 9223372036854775808) : 0 ≤ bits .and .i64 x m ∧ bits .and .i64 x m ≤ m := by
  have h : (BitVec.ofInt IntKind.i64.bits x &&& BitVec.ofInt IntKind.i64.bits (m : Int)).toNat ≤ m := by
    rw [BitVec.toNat_and, BitVec.ofInt_natCast, BitVec.toNat_ofNat]
    refine Nat.le_trans Nat.and_le_right ?_
    exact Nat.mod_le _ _
  show 0 ≤ IntKind.i64.wrap ((BitVec.ofInt IntKind.i64.bits x &&& BitVec.ofInt IntKind.i64.bits (m : Int)).toNat : Int) ∧ IntKind.i64.wrap ((BitVec.ofInt IntKind.i64.bits x &&& BitVec.ofInt IntKind.i64.bits (m : Int)).toNat : Int) ≤ m
  generalize (BitVec.ofInt IntKind.i64.bits x &&& BitVec.ofInt IntKind.i64.bits (m : Int)).toNat = y at h ⊢
  rw [wraps_i64' (by omega) (by omega)]
  omega
theorem tmod_in (z : Int) (b : Nat) (hb : 0 < b) : -(b : Int) < z.tmod b ∧ z.tmod b < b := by
  have hb' : (0 : Int) < b := by omega
  rcases Int.le_total 0 z with h | h
  · rw [Int.tmod_eq_emod_of_nonneg h]
    have := Int.emod_nonneg z (show (b : Int) ≠ 0 by omega)
    have := Int.emod_lt_of_pos z hb'
    omega
  · have e : z.tmod b = -((-z) % b) := by
      rw [← Int.tmod_eq_emod_of_nonneg (show 0 ≤ -z by omega), Int.neg_tmod, Int.neg_neg]
    rw [e]
    have := Int.emod_nonneg (-z) (show (b : Int) ≠ 0 by omega)
    have := Int.emod_lt_of_pos (-z) hb'
    omega
theorem powQ_far {a : Rat} {n : Int} (h : n < -256 ∨ 256 < n) : powQ a n = .tup [.agg [.I 0, .I 0], .raw (.int .i64 1)] := by unfold powQ; rw [if_pos h]; rfl
theorem powQ_zero {a : Rat} {n : Int} (h : ¬ (n < -256 ∨ 256 < n)) (h' : n < 0 ∧ a = 0) : powQ a n = .tup [.agg [.I 0, .I 0], .raw (.int .i64 3)] := by unfold powQ; rw [if_neg h, if_pos h']; rfl
theorem powQ_ok {a : Rat} {n : Int} (h : ¬ (n < -256 ∨ 256 < n)) (h' : ¬ (n < 0 ∧ a = 0)) : powQ a n = .tup [.Q (powq a n), .raw (.int .i64 0)] := by unfold powQ; rw [if_neg h, if_neg h']; rfl
theorem inv_powQ (a : Rat) : ∀ m : Nat, a⁻¹ ^ m = (a ^ m)⁻¹
  | 0 => by rw [Rat.pow_zero, Rat.pow_zero]; decide +kernel
  | m + 1 => by rw [Rat.pow_succ, Rat.pow_succ, Rat.inv_mul_rev, inv_powQ a m, Rat.mul_comm]
theorem powq_z {a : Rat} {n : Int} : powq a n = a ^ n := by
  unfold powq
  split
  · rename_i h
    obtain ⟨m, rfl⟩ : ∃ m : Nat, n = -(m : Int) := ⟨n.natAbs, by omega⟩
    rw [Rat.zpow_neg, Rat.zpow_natCast, Int.natAbs_neg, Int.natAbs_natCast]
    exact (inv_powQ a m)
  · rename_i h
    obtain ⟨m, rfl⟩ : ∃ m : Nat, n = (m : Int) := ⟨n.natAbs, by omega⟩
    rw [Rat.zpow_natCast, Int.natAbs_natCast]
theorem powq_addZ {a : Rat} {m n : Int} (h : a ≠ 0) : powq a (m + n) = powq a m * powq a n := by
  rw [powq_z, powq_z, powq_z, Rat.zpow_add h]
theorem powq_addN {a : Rat} {m n : Int} (h1 : ¬ m < 0) (h2 : ¬ n < 0) : powq a (m + n) = powq a m * powq a n := by
  unfold powq
  rw [if_neg h1, if_neg h2, if_neg (by omega), show (m + n).natAbs = m.natAbs + n.natAbs from by omega, pow_addQ]
theorem mul_powQ (a b : Rat) : ∀ n : Nat, (a * b) ^ n = a ^ n * b ^ n
  | 0 => by rw [Rat.pow_zero, Rat.pow_zero, Rat.pow_zero, Rat.mul_one]
  | n + 1 => by
    rw [Rat.pow_succ, Rat.pow_succ, Rat.pow_succ, mul_powQ a b n]
    generalize a ^ n = x
    generalize b ^ n = y
    grind
theorem powq_mul (a b : Rat) (n : Int) : powq (a * b) n = powq a n * powq b n := by
  unfold powq
  split
  · rw [Rat.inv_mul_rev, mul_powQ, Rat.mul_comm]
  · exact mul_powQ a b _
theorem qs_powq {a : Rat} {n : Int} {j : Nat} (h : qs a ≤ j) (hn : n.natAbs ≤ 256) : qs (powq a n) ≤ 256 * j + 1 := by
  unfold powq
  have key : ∀ b : Rat, qs b ≤ j → qs (b ^ n.natAbs) ≤ 256 * j + 1 := fun b hb => Nat.le_trans (qs_pow b _) (by
    have := Nat.mul_le_mul hn hb
    omega)
  split
  · exact key _ (Nat.le_trans (qs_inv a) h)
  · exact key _ h
set_option maxRecDepth 8000 in
set_option maxHeartbeats 4000000 in
theorem lawPowers2_F (X Y Z : V) (h : Fits Try.prog 6 24 X) (h' : Fits Try.prog 6 24 Y) (h'' : Fits Try.prog 6 39 Z) : PCall Try.prog 4 [X, Y, Z] (.raw (.bool true)) := by
  obtain ⟨n1, d1, s1, rfl, ⟨n11, n12⟩, d11, d12⟩ := fits_raw2 h
  obtain ⟨n2, d2, s2, rfl, ⟨n21, n22⟩, d21, d22⟩ := fits_raw2 h'
  obtain ⟨l, rfl, hl⟩ := fits_arr Try.underlying39 h''
  obtain ⟨x, l, rfl, hx, hl⟩ := fitL_cons hl
  obtain ⟨y, l, rfl, hy, hl⟩ := fitL_cons hl
  obtain rfl := fitL_nil hl
  obtain ⟨z0, hz0, rfl⟩ := fits_int Try.underlying3 hx
  obtain ⟨z1, hz1, rfl⟩ := fits_int Try.underlying3 hy
  refine PCall.of_vc (tabs mixed (tbl_cons sanity2_C (tbl_cons made2_C (tbl_cons qPow_C (tbl_cons qMul_C (tbl_cons r2Same_C (tbl_cons qSign_C tbl_nil))))))) Try.func4 rfl Try.ntmps4 Try.results4 (by simp) ?_
  have p11 := n11.take 2
  have p12 := d11.take 2
  have p21 := n21.take 2
  have p22 := d21.take 2
  have qa := mdR_qs _ _ s1 p11 p12
  have qb := mdR_qs _ _ s2 p21 p22
  obtain ⟨a, hA⟩ : ∃ a, mdR (n1.take 2) (d1.take 2) s1 = a := ⟨_, rfl⟩
  obtain ⟨b, hB⟩ : ∃ a, mdR (n2.take 2) (d2.take 2) s2 = a := ⟨_, rfl⟩
  rw [hA] at qa
  rw [hB] at qb
  obtain ⟨w1, w2⟩ := and_bound z0 1023 (by decide)
  rw [show ((1023 : Nat) : Int) = 1023 from rfl] at w1 w2
  obtain ⟨w, hw⟩ : ∃ w, bits .and .i64 z0 1023 = w := ⟨_, rfl⟩
  rw [hw] at w1 w2
  obtain ⟨i, hi⟩ : ∃ i, z0.tmod 10 = i := ⟨_, rfl⟩
  obtain ⟨k, hk⟩ : ∃ i, z1.tmod 10 = i := ⟨_, rfl⟩
  have bi : -9 ≤ i ∧ i ≤ 9 := by have h := tmod_in z0 10 (by decide); rw [show ((10 : Nat) : Int) = 10 from rfl, hi] at h; omega
  have bk : -9 ≤ k ∧ k ≤ 9 := by have h := tmod_in z1 10 (by decide); rw [show ((10 : Nat) : Int) = 10 from rfl, hk] at h; omega
  have f1 : powQ a (257 + w) = .tup [.agg [.I 0, .I 0], .raw (.int .i64 1)] := powQ_far (by omega)
  have f2 : powQ a (-257 - w) = .tup [.agg [.I 0, .I 0], .raw (.int .i64 1)] := powQ_far (by omega)
  have l1 : (n1.take 2).length ≤ 9223372036854775807 := by rw [List.length_take]; omega
  have l2 : (d1.take 2).length ≤ 9223372036854775807 := by rw [List.length_take]; omega
  have l3 : (n2.take 2).length ≤ 9223372036854775807 := by rw [List.length_take]; omega
  have l4 : (d2.take 2).length ≤ 9223372036854775807 := by rw [List.length_take]; omega
  have s1 := qs_powq (n := i) qa (by omega)
  have s2 := qs_powq (n := k) qa (by omega)
  have s3 := qs_powq (n := i + k) qa (by omega)
  have s4 := qs_powq (n := i) qb (by omega)
  have s5 := qs_powq (a := a * b) (n := i) (qsM qa qb) (by omega)
  have kk : decide (powq (a * b) i = powq a i * powq b i) = true := decide_eq_true (powq_mul a b i)
  by_cases ha : a = 0
  · have c0 : (sgI a.num == 0) = true := by rw [sgn_num]; exact decide_eq_true ha
    by_cases ci : i < 0
    · have ci' : ¬ 0 ≤ i := by omega
      by_cases hb : b = 0
      · by_cases hk0 : k < 0
        · have re : powQ a i = .tup [.agg [.I 0, .I 0], .raw (.int .i64 3)] := powQ_zero (by omega) ⟨by omega, ha⟩
          have rf : powQ a k = .tup [.agg [.I 0, .I 0], .raw (.int .i64 3)] := powQ_zero (by omega) ⟨by omega, ha⟩
          have rg : powQ a (i + k) = .tup [.agg [.I 0, .I 0], .raw (.int .i64 3)] := powQ_zero (by omega) ⟨by omega, ha⟩
          have rh : powQ (a * b) i = .tup [.agg [.I 0, .I 0], .raw (.int .i64 3)] := powQ_zero (by omega) ⟨by omega, (by rw [ha, Rat.zero_mul])⟩
          have rj : powQ b i = .tup [.agg [.I 0, .I 0], .raw (.int .i64 3)] := powQ_zero (by omega) ⟨by omega, hb⟩
          have k1 : True := trivial
          simp only [go_sem, List.reduceReplicate, ↓reduceIte, Nat.reduceEqDiff, Nat.reduceLT, Nat.reduceLeDiff, Nat.reduceAdd, Nat.reduceSub, Nat.reduceMul, Int.reduceToNat, Int.reduceNeg, Int.reduceAdd, Int.reduceSub, Int.reduceMul, Int.reduceLT, Int.reduceLE, Int.reduceMod, Int.reducePow, Nat.reducePow, Int.reduceDiv, Nat.reduceBEq, Nat.reduceBNe, Int.reduceBEq, Int.reduceBNe, reduceCtorEq, take2, hA, hB, hi, hk, hw, f1, f2, re, rf, rg, rh, rj, k1, kk, c0, ci, ci']
          and_intros
          all_goals first | (split <;> omega) | first | assumption | exact dg_lim _ | ((first | with_reducible apply szQ | with_reducible apply szNum | with_reducible apply szDen | with_reducible apply szLN | with_reducible apply szLD | with_reducible apply dlT); (repeat' first | assumption | with_reducible apply qsD | with_reducible apply qsS | with_reducible apply qsA | with_reducible apply qsM | with_reducible apply qsN | with_reducible apply qsZ | with_reducible apply qsNumDen | with_reducible apply dlM | with_reducible apply dlA | with_reducible apply dlNum | with_reducible apply dlDen | with_reducible apply dlFl | (with_reducible apply dlS; decide)); all_goals decide) | omega | rfl
        · by_cases hik : i + k < 0
          · have re : powQ a i = .tup [.agg [.I 0, .I 0], .raw (.int .i64 3)] := powQ_zero (by omega) ⟨by omega, ha⟩
            have rf := powQ_ok (a := a) (n := k) (by omega) (by rintro ⟨g, g'⟩; first | omega | exact absurd g' ha)
            have rg : powQ a (i + k) = .tup [.agg [.I 0, .I 0], .raw (.int .i64 3)] := powQ_zero (by omega) ⟨by omega, ha⟩
            have rh : powQ (a * b) i = .tup [.agg [.I 0, .I 0], .raw (.int .i64 3)] := powQ_zero (by omega) ⟨by omega, (by rw [ha, Rat.zero_mul])⟩
            have rj : powQ b i = .tup [.agg [.I 0, .I 0], .raw (.int .i64 3)] := powQ_zero (by omega) ⟨by omega, hb⟩
            have k1 : True := trivial
            simp only [go_sem, List.reduceReplicate, ↓reduceIte, Nat.reduceEqDiff, Nat.reduceLT, Nat.reduceLeDiff, Nat.reduceAdd, Nat.reduceSub, Nat.reduceMul, Int.reduceToNat, Int.reduceNeg, Int.reduceAdd, Int.reduceSub, Int.reduceMul, Int.reduceLT, Int.reduceLE, Int.reduceMod, Int.reducePow, Nat.reducePow, Int.reduceDiv, Nat.reduceBEq, Nat.reduceBNe, Int.reduceBEq, Int.reduceBNe, reduceCtorEq, take2, hA, hB, hi, hk, hw, f1, f2, re, rf, rg, rh, rj, k1, kk, c0, ci, ci']
            and_intros
            all_goals first | (split <;> omega) | first | assumption | exact dg_lim _ | ((first | with_reducible apply szQ | with_reducible apply szNum | with_reducible apply szDen | with_reducible apply szLN | with_reducible apply szLD | with_reducible apply dlT); (repeat' first | assumption | with_reducible apply qsD | with_reducible apply qsS | with_reducible apply qsA | with_reducible apply qsM | with_reducible apply qsN | with_reducible apply qsZ | with_reducible apply qsNumDen | with_reducible apply dlM | with_reducible apply dlA | with_reducible apply dlNum | with_reducible apply dlDen | with_reducible apply dlFl | (with_reducible apply dlS; decide)); all_goals decide) | omega | rfl
          · have re : powQ a i = .tup [.agg [.I 0, .I 0], .raw (.int .i64 3)] := powQ_zero (by omega) ⟨by omega, ha⟩
            have rf := powQ_ok (a := a) (n := k) (by omega) (by rintro ⟨g, g'⟩; first | omega | exact absurd g' ha)
            have rg := powQ_ok (a := a) (n := (i + k)) (by omega) (by rintro ⟨g, g'⟩; first | omega | exact absurd g' ha)
            have rh : powQ (a * b) i = .tup [.agg [.I 0, .I 0], .raw (.int .i64 3)] := powQ_zero (by omega) ⟨by omega, (by rw [ha, Rat.zero_mul])⟩
            have rj : powQ b i = .tup [.agg [.I 0, .I 0], .raw (.int .i64 3)] := powQ_zero (by omega) ⟨by omega, hb⟩
            have k1 : True := trivial
            simp only [go_sem, List.reduceReplicate, ↓reduceIte, Nat.reduceEqDiff, Nat.reduceLT, Nat.reduceLeDiff, Nat.reduceAdd, Nat.reduceSub, Nat.reduceMul, Int.reduceToNat, Int.reduceNeg, Int.reduceAdd, Int.reduceSub, Int.reduceMul, Int.reduceLT, Int.reduceLE, Int.reduceMod, Int.reducePow, Nat.reducePow, Int.reduceDiv, Nat.reduceBEq, Nat.reduceBNe, Int.reduceBEq, Int.reduceBNe, reduceCtorEq, take2, hA, hB, hi, hk, hw, f1, f2, re, rf, rg, rh, rj, k1, kk, c0, ci, ci']
            and_intros
            all_goals first | (split <;> omega) | first | assumption | exact dg_lim _ | ((first | with_reducible apply szQ | with_reducible apply szNum | with_reducible apply szDen | with_reducible apply szLN | with_reducible apply szLD | with_reducible apply dlT); (repeat' first | assumption | with_reducible apply qsD | with_reducible apply qsS | with_reducible apply qsA | with_reducible apply qsM | with_reducible apply qsN | with_reducible apply qsZ | with_reducible apply qsNumDen | with_reducible apply dlM | with_reducible apply dlA | with_reducible apply dlNum | with_reducible apply dlDen | with_reducible apply dlFl | (with_reducible apply dlS; decide)); all_goals decide) | omega | rfl
      · by_cases hk0 : k < 0
        · have re : powQ a i = .tup [.agg [.I 0, .I 0], .raw (.int .i64 3)] := powQ_zero (by omega) ⟨by omega, ha⟩
          have rf : powQ a k = .tup [.agg [.I 0, .I 0], .raw (.int .i64 3)] := powQ_zero (by omega) ⟨by omega, ha⟩
          have rg : powQ a (i + k) = .tup [.agg [.I 0, .I 0], .raw (.int .i64 3)] := powQ_zero (by omega) ⟨by omega, ha⟩
          have rh : powQ (a * b) i = .tup [.agg [.I 0, .I 0], .raw (.int .i64 3)] := powQ_zero (by omega) ⟨by omega, (by rw [ha, Rat.zero_mul])⟩
          have rj := powQ_ok (a := b) (n := i) (by omega) (by rintro ⟨g, g'⟩; first | omega | exact absurd g' hb)
          have k1 : True := trivial
          simp only [go_sem, List.reduceReplicate, ↓reduceIte, Nat.reduceEqDiff, Nat.reduceLT, Nat.reduceLeDiff, Nat.reduceAdd, Nat.reduceSub, Nat.reduceMul, Int.reduceToNat, Int.reduceNeg, Int.reduceAdd, Int.reduceSub, Int.reduceMul, Int.reduceLT, Int.reduceLE, Int.reduceMod, Int.reducePow, Nat.reducePow, Int.reduceDiv, Nat.reduceBEq, Nat.reduceBNe, Int.reduceBEq, Int.reduceBNe, reduceCtorEq, take2, hA, hB, hi, hk, hw, f1, f2, re, rf, rg, rh, rj, k1, kk, c0, ci, ci']
          and_intros
          all_goals first | (split <;> omega) | first | assumption | exact dg_lim _ | ((first | with_reducible apply szQ | with_reducible apply szNum | with_reducible apply szDen | with_reducible apply szLN | with_reducible apply szLD | with_reducible apply dlT); (repeat' first | assumption | with_reducible apply qsD | with_reducible apply qsS | with_reducible apply qsA | with_reducible apply qsM | with_reducible apply qsN | with_reducible apply qsZ | with_reducible apply qsNumDen | with_reducible apply dlM | with_reducible apply dlA | with_reducible apply dlNum | with_reducible apply dlDen | with_reducible apply dlFl | (with_reducible apply dlS; decide)); all_goals decide) | omega | rfl
        · by_cases hik : i + k < 0
          · have re : powQ a i = .tup [.agg [.I 0, .I 0], .raw (.int .i64 3)] := powQ_zero (by omega) ⟨by omega, ha⟩
            have rf := powQ_ok (a := a) (n := k) (by omega) (by rintro ⟨g, g'⟩; first | omega | exact absurd g' ha)
            have rg : powQ a (i + k) = .tup [.agg [.I 0, .I 0], .raw (.int .i64 3)] := powQ_zero (by omega) ⟨by omega, ha⟩
            have rh : powQ (a * b) i = .tup [.agg [.I 0, .I 0], .raw (.int .i64 3)] := powQ_zero (by omega) ⟨by omega, (by rw [ha, Rat.zero_mul])⟩
            have rj := powQ_ok (a := b) (n := i) (by omega) (by rintro ⟨g, g'⟩; first | omega | exact absurd g' hb)
            have k1 : True := trivial
            simp only [go_sem, List.reduceReplicate, ↓reduceIte, Nat.reduceEqDiff, Nat.reduceLT, Nat.reduceLeDiff, Nat.reduceAdd, Nat.reduceSub, Nat.reduceMul, Int.reduceToNat, Int.reduceNeg, Int.reduceAdd, Int.reduceSub, Int.reduceMul, Int.reduceLT, Int.reduceLE, Int.reduceMod, Int.reducePow, Nat.reducePow, Int.reduceDiv, Nat.reduceBEq, Nat.reduceBNe, Int.reduceBEq, Int.reduceBNe, reduceCtorEq, take2, hA, hB, hi, hk, hw, f1, f2, re, rf, rg, rh, rj, k1, kk, c0, ci, ci']
            and_intros
            all_goals first | (split <;> omega) | first | assumption | exact dg_lim _ | ((first | with_reducible apply szQ | with_reducible apply szNum | with_reducible apply szDen | with_reducible apply szLN | with_reducible apply szLD | with_reducible apply dlT); (repeat' first | assumption | with_reducible apply qsD | with_reducible apply qsS | with_reducible apply qsA | with_reducible apply qsM | with_reducible apply qsN | with_reducible apply qsZ | with_reducible apply qsNumDen | with_reducible apply dlM | with_reducible apply dlA | with_reducible apply dlNum | with_reducible apply dlDen | with_reducible apply dlFl | (with_reducible apply dlS; decide)); all_goals decide) | omega | rfl
          · have re : powQ a i = .tup [.agg [.I 0, .I 0], .raw (.int .i64 3)] := powQ_zero (by omega) ⟨by omega, ha⟩
            have rf := powQ_ok (a := a) (n := k) (by omega) (by rintro ⟨g, g'⟩; first | omega | exact absurd g' ha)
            have rg := powQ_ok (a := a) (n := (i + k)) (by omega) (by rintro ⟨g, g'⟩; first | omega | exact absurd g' ha)
            have rh : powQ (a * b) i = .tup [.agg [.I 0, .I 0], .raw (.int .i64 3)] := powQ_zero (by omega) ⟨by omega, (by rw [ha, Rat.zero_mul])⟩
            have rj := powQ_ok (a := b) (n := i) (by omega) (by rintro ⟨g, g'⟩; first | omega | exact absurd g' hb)
            have k1 : True := trivial
            simp only [go_sem, List.reduceReplicate, ↓reduceIte, Nat.reduceEqDiff, Nat.reduceLT, Nat.reduceLeDiff, Nat.reduceAdd, Nat.reduceSub, Nat.reduceMul, Int.reduceToNat, Int.reduceNeg, Int.reduceAdd, Int.reduceSub, Int.reduceMul, Int.reduceLT, Int.reduceLE, Int.reduceMod, Int.reducePow, Nat.reducePow, Int.reduceDiv, Nat.reduceBEq, Nat.reduceBNe, Int.reduceBEq, Int.reduceBNe, reduceCtorEq, take2, hA, hB, hi, hk, hw, f1, f2, re, rf, rg, rh, rj, k1, kk, c0, ci, ci']
            and_intros
            all_goals first | (split <;> omega) | first | assumption | exact dg_lim _ | ((first | with_reducible apply szQ | with_reducible apply szNum | with_reducible apply szDen | with_reducible apply szLN | with_reducible apply szLD | with_reducible apply dlT); (repeat' first | assumption | with_reducible apply qsD | with_reducible apply qsS | with_reducible apply qsA | with_reducible apply qsM | with_reducible apply qsN | with_reducible apply qsZ | with_reducible apply qsNumDen | with_reducible apply dlM | with_reducible apply dlA | with_reducible apply dlNum | with_reducible apply dlDen | with_reducible apply dlFl | (with_reducible apply dlS; decide)); all_goals decide) | omega | rfl
    · have ci' : 0 ≤ i := by omega
      by_cases hk0 : k < 0
      · by_cases hik : i + k < 0
        · have re := powQ_ok (a := a) (n := i) (by omega) (by rintro ⟨g, g'⟩; first | omega | exact absurd g' ha)
          have rf : powQ a k = .tup [.agg [.I 0, .I 0], .raw (.int .i64 3)] := powQ_zero (by omega) ⟨by omega, ha⟩
          have rg : powQ a (i + k) = .tup [.agg [.I 0, .I 0], .raw (.int .i64 3)] := powQ_zero (by omega) ⟨by omega, ha⟩
          have rh := powQ_ok (a := (a * b)) (n := i) (by omega) (by rintro ⟨g, g'⟩; first | omega | exact absurd g' (by omega))
          have rj := powQ_ok (a := b) (n := i) (by omega) (by rintro ⟨g, g'⟩; first | omega | exact absurd g' (by omega))
          have k1 : True := trivial
          simp only [go_sem, List.reduceReplicate, ↓reduceIte, Nat.reduceEqDiff, Nat.reduceLT, Nat.reduceLeDiff, Nat.reduceAdd, Nat.reduceSub, Nat.reduceMul, Int.reduceToNat, Int.reduceNeg, Int.reduceAdd, Int.reduceSub, Int.reduceMul, Int.reduceLT, Int.reduceLE, Int.reduceMod, Int.reducePow, Nat.reducePow, Int.reduceDiv, Nat.reduceBEq, Nat.reduceBNe, Int.reduceBEq, Int.reduceBNe, reduceCtorEq, take2, hA, hB, hi, hk, hw, f1, f2, re, rf, rg, rh, rj, k1, kk, c0, ci, ci']
          and_intros
          all_goals first | (split <;> omega) | first | assumption | exact dg_lim _ | ((first | with_reducible apply szQ | with_reducible apply szNum | with_reducible apply szDen | with_reducible apply szLN | with_reducible apply szLD | with_reducible apply dlT); (repeat' first | assumption | with_reducible apply qsD | with_reducible apply qsS | with_reducible apply qsA | with_reducible apply qsM | with_reducible apply qsN | with_reducible apply qsZ | with_reducible apply qsNumDen | with_reducible apply dlM | with_reducible apply dlA | with_reducible apply dlNum | with_reducible apply dlDen | with_reducible apply dlFl | (with_reducible apply dlS; decide)); all_goals decide) | omega | rfl
        · have re := powQ_ok (a := a) (n := i) (by omega) (by rintro ⟨g, g'⟩; first | omega | exact absurd g' ha)
          have rf : powQ a k = .tup [.agg [.I 0, .I 0], .raw (.int .i64 3)] := powQ_zero (by omega) ⟨by omega, ha⟩
          have rg := powQ_ok (a := a) (n := (i + k)) (by omega) (by rintro ⟨g, g'⟩; first | omega | exact absurd g' ha)
          have rh := powQ_ok (a := (a * b)) (n := i) (by omega) (by rintro ⟨g, g'⟩; first | omega | exact absurd g' (by omega))
          have rj := powQ_ok (a := b) (n := i) (by omega) (by rintro ⟨g, g'⟩; first | omega | exact absurd g' (by omega))
          have k1 : True := trivial
          simp only [go_sem, List.reduceReplicate, ↓reduceIte, Nat.reduceEqDiff, Nat.reduceLT, Nat.reduceLeDiff, Nat.reduceAdd, Nat.reduceSub, Nat.reduceMul, Int.reduceToNat, Int.reduceNeg, Int.reduceAdd, Int.reduceSub, Int.reduceMul, Int.reduceLT, Int.reduceLE, Int.reduceMod, Int.reducePow, Nat.reducePow, Int.reduceDiv, Nat.reduceBEq, Nat.reduceBNe, Int.reduceBEq, Int.reduceBNe, reduceCtorEq, take2, hA, hB, hi, hk, hw, f1, f2, re, rf, rg, rh, rj, k1, kk, c0, ci, ci']
          and_intros
          all_goals first | (split <;> omega) | first | assumption | exact dg_lim _ | ((first | with_reducible apply szQ | with_reducible apply szNum | with_reducible apply szDen | with_reducible apply szLN | with_reducible apply szLD | with_reducible apply dlT); (repeat' first | assumption | with_reducible apply qsD | with_reducible apply qsS | with_reducible apply qsA | with_reducible apply qsM | with_reducible apply qsN | with_reducible apply qsZ | with_reducible apply qsNumDen | with_reducible apply dlM | with_reducible apply dlA | with_reducible apply dlNum | with_reducible apply dlDen | with_reducible apply dlFl | (with_reducible apply dlS; decide)); all_goals decide) | omega | rfl
      · have re := powQ_ok (a := a) (n := i) (by omega) (by rintro ⟨g, g'⟩; first | omega | exact absurd g' ha)
        have rf := powQ_ok (a := a) (n := k) (by omega) (by rintro ⟨g, g'⟩; first | omega | exact absurd g' ha)
        have rg := powQ_ok (a := a) (n := (i + k)) (by omega) (by rintro ⟨g, g'⟩; first | omega | exact absurd g' ha)
        have rh := powQ_ok (a := (a * b)) (n := i) (by omega) (by rintro ⟨g, g'⟩; first | omega | exact absurd g' (by omega))
        have rj := powQ_ok (a := b) (n := i) (by omega) (by rintro ⟨g, g'⟩; first | omega | exact absurd g' (by omega))
        have k1 : decide (powq a (i + k) = powq a i * powq a k) = true := decide_eq_true (powq_addN (by omega) (by omega))
        simp only [go_sem, List.reduceReplicate, ↓reduceIte, Nat.reduceEqDiff, Nat.reduceLT, Nat.reduceLeDiff, Nat.reduceAdd, Nat.reduceSub, Nat.reduceMul, Int.reduceToNat, Int.reduceNeg, Int.reduceAdd, Int.reduceSub, Int.reduceMul, Int.reduceLT, Int.reduceLE, Int.reduceMod, Int.reducePow, Nat.reducePow, Int.reduceDiv, Nat.reduceBEq, Nat.reduceBNe, Int.reduceBEq, Int.reduceBNe, reduceCtorEq, take2, hA, hB, hi, hk, hw, f1, f2, re, rf, rg, rh, rj, k1, kk, c0, ci, ci']
        and_intros
        all_goals first | (split <;> omega) | first | assumption | exact dg_lim _ | ((first | with_reducible apply szQ | with_reducible apply szNum | with_reducible apply szDen | with_reducible apply szLN | with_reducible apply szLD | with_reducible apply dlT); (repeat' first | assumption | with_reducible apply qsD | with_reducible apply qsS | with_reducible apply qsA | with_reducible apply qsM | with_reducible apply qsN | with_reducible apply qsZ | with_reducible apply qsNumDen | with_reducible apply dlM | with_reducible apply dlA | with_reducible apply dlNum | with_reducible apply dlDen | with_reducible apply dlFl | (with_reducible apply dlS; decide)); all_goals decide) | omega | rfl
  · have c0 : (sgI a.num == 0) = false := by rw [sgn_num]; exact decide_eq_false ha
    by_cases ci : i < 0
    · have ci' : ¬ 0 ≤ i := by omega
      by_cases hb : b = 0
      · have re := powQ_ok (a := a) (n := i) (by omega) (by rintro ⟨g, g'⟩; first | omega | exact absurd g' ha)
        have rf := powQ_ok (a := a) (n := k) (by omega) (by rintro ⟨g, g'⟩; first | omega | exact absurd g' ha)
        have rg := powQ_ok (a := a) (n := (i + k)) (by omega) (by rintro ⟨g, g'⟩; first | omega | exact absurd g' ha)
        have rh : powQ (a * b) i = .tup [.agg [.I 0, .I 0], .raw (.int .i64 3)] := powQ_zero (by omega) ⟨by omega, (by rw [hb, Rat.mul_zero])⟩
        have rj : powQ b i = .tup [.agg [.I 0, .I 0], .raw (.int .i64 3)] := powQ_zero (by omega) ⟨by omega, hb⟩
        have k1 : decide (powq a (i + k) = powq a i * powq a k) = true := decide_eq_true (powq_addZ ha)
        simp only [go_sem, List.reduceReplicate, ↓reduceIte, Nat.reduceEqDiff, Nat.reduceLT, Nat.reduceLeDiff, Nat.reduceAdd, Nat.reduceSub, Nat.reduceMul, Int.reduceToNat, Int.reduceNeg, Int.reduceAdd, Int.reduceSub, Int.reduceMul, Int.reduceLT, Int.reduceLE, Int.reduceMod, Int.reducePow, Nat.reducePow, Int.reduceDiv, Nat.reduceBEq, Nat.reduceBNe, Int.reduceBEq, Int.reduceBNe, reduceCtorEq, take2, hA, hB, hi, hk, hw, f1, f2, re, rf, rg, rh, rj, k1, kk, c0, ci, ci']
        and_intros
        all_goals first | (split <;> omega) | first | assumption | exact dg_lim _ | ((first | with_reducible apply szQ | with_reducible apply szNum | with_reducible apply szDen | with_reducible apply szLN | with_reducible apply szLD | with_reducible apply dlT); (repeat' first | assumption | with_reducible apply qsD | with_reducible apply qsS | with_reducible apply qsA | with_reducible apply qsM | with_reducible apply qsN | with_reducible apply qsZ | with_reducible apply qsNumDen | with_reducible apply dlM | with_reducible apply dlA | with_reducible apply dlNum | with_reducible apply dlDen | with_reducible apply dlFl | (with_reducible apply dlS; decide)); all_goals decide) | omega | rfl
      · have re := powQ_ok (a := a) (n := i) (by omega) (by rintro ⟨g, g'⟩; first | omega | exact absurd g' ha)
        have rf := powQ_ok (a := a) (n := k) (by omega) (by rintro ⟨g, g'⟩; first | omega | exact absurd g' ha)
        have rg := powQ_ok (a := a) (n := (i + k)) (by omega) (by rintro ⟨g, g'⟩; first | omega | exact absurd g' ha)
        have rh := powQ_ok (a := (a * b)) (n := i) (by omega) (by rintro ⟨g, g'⟩; first | omega | exact absurd g' (fun e => by rcases Rat.mul_eq_zero.1 e with e | e; exact ha e; exact hb e))
        have rj := powQ_ok (a := b) (n := i) (by omega) (by rintro ⟨g, g'⟩; first | omega | exact absurd g' hb)
        have k1 : decide (powq a (i + k) = powq a i * powq a k) = true := decide_eq_true (powq_addZ ha)
        simp only [go_sem, List.reduceReplicate, ↓reduceIte, Nat.reduceEqDiff, Nat.reduceLT, Nat.reduceLeDiff, Nat.reduceAdd, Nat.reduceSub, Nat.reduceMul, Int.reduceToNat, Int.reduceNeg, Int.reduceAdd, Int.reduceSub, Int.reduceMul, Int.reduceLT, Int.reduceLE, Int.reduceMod, Int.reducePow, Nat.reducePow, Int.reduceDiv, Nat.reduceBEq, Nat.reduceBNe, Int.reduceBEq, Int.reduceBNe, reduceCtorEq, take2, hA, hB, hi, hk, hw, f1, f2, re, rf, rg, rh, rj, k1, kk, c0, ci, ci']
        and_intros
        all_goals first | (split <;> omega) | first | assumption | exact dg_lim _ | ((first | with_reducible apply szQ | with_reducible apply szNum | with_reducible apply szDen | with_reducible apply szLN | with_reducible apply szLD | with_reducible apply dlT); (repeat' first | assumption | with_reducible apply qsD | with_reducible apply qsS | with_reducible apply qsA | with_reducible apply qsM | with_reducible apply qsN | with_reducible apply qsZ | with_reducible apply qsNumDen | with_reducible apply dlM | with_reducible apply dlA | with_reducible apply dlNum | with_reducible apply dlDen | with_reducible apply dlFl | (with_reducible apply dlS; decide)); all_goals decide) | omega | rfl
    · have ci' : 0 ≤ i := by omega
      have re := powQ_ok (a := a) (n := i) (by omega) (by rintro ⟨g, g'⟩; first | omega | exact absurd g' ha)
      have rf := powQ_ok (a := a) (n := k) (by omega) (by rintro ⟨g, g'⟩; first | omega | exact absurd g' ha)
      have rg := powQ_ok (a := a) (n := (i + k)) (by omega) (by rintro ⟨g, g'⟩; first | omega | exact absurd g' ha)
      have rh := powQ_ok (a := (a * b)) (n := i) (by omega) (by rintro ⟨g, g'⟩; first | omega | exact absurd g' (by omega))
      have rj := powQ_ok (a := b) (n := i) (by omega) (by rintro ⟨g, g'⟩; first | omega | exact absurd g' (by omega))
      have k1 : decide (powq a (i + k) = powq a i * powq a k) = true := decide_eq_true (powq_addZ ha)
      simp only [go_sem, List.reduceReplicate, ↓reduceIte, Nat.reduceEqDiff, Nat.reduceLT, Nat.reduceLeDiff, Nat.reduceAdd, Nat.reduceSub, Nat.reduceMul, Int.reduceToNat, Int.reduceNeg, Int.reduceAdd, Int.reduceSub, Int.reduceMul, Int.reduceLT, Int.reduceLE, Int.reduceMod, Int.reducePow, Nat.reducePow, Int.reduceDiv, Nat.reduceBEq, Nat.reduceBNe, Int.reduceBEq, Int.reduceBNe, reduceCtorEq, take2, hA, hB, hi, hk, hw, f1, f2, re, rf, rg, rh, rj, k1, kk, c0, ci, ci']
      and_intros
      all_goals first | (split <;> omega) | first | assumption | exact dg_lim _ | ((first | with_reducible apply szQ | with_reducible apply szNum | with_reducible apply szDen | with_reducible apply szLN | with_reducible apply szLD | with_reducible apply dlT); (repeat' first | assumption | with_reducible apply qsD | with_reducible apply qsS | with_reducible apply qsA | with_reducible apply qsM | with_reducible apply qsN | with_reducible apply qsZ | with_reducible apply qsNumDen | with_reducible apply dlM | with_reducible apply dlA | with_reducible apply dlNum | with_reducible apply dlDen | with_reducible apply dlFl | (with_reducible apply dlS; decide)); all_goals decide) | omega | rfl
end Go.Proofs.Ytilkleibnciloaa
