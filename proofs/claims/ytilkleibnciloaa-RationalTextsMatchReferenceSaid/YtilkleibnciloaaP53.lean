/- Texts LB5 in one. -/
import Derived.Test.YtilkleibnciloaaP52
/- RationalLowest and RationalFloor: the laws return true. -/
namespace Go.Proofs.Ytilkleibnciloaa
set_option linter.unusedSimpArgs false
set_option linter.unusedVariables false
open Go.RowKit

theorem take2 (l : List Nat) : List.take (if 2 < (l.length : Int) then (2 : Int) else (l.length : Nat)).toNat l = l.take 2 := by
  split
  · rfl
  · rw [Int.toNat_natCast, List.take_of_length_le (Nat.le_refl _), List.take_of_length_le (by omega)]
theorem ext_dI (a : Rat) (c : Int) (hc : c ≠ 0) : Rat.divInt (a.num * c) (a.den * c) = a := by
  rw [Rat.divInt_mul_right hc, Rat.num_divInt_den]
set_option maxRecDepth 8000 in
set_option maxHeartbeats 1000000 in
theorem lawLowest_F (X Y Z : V) (h : Fits Try.prog 6 24 X) (h' : Fits Try.prog 6 24 Y) (h'' : Fits Try.prog 6 22 Z) : PCall Try.prog 10 [X, Y, Z] (.raw (.bool true)) := by
  obtain ⟨n1, d1, s1, rfl, ⟨n11, n12⟩, d11, d12⟩ := fits_raw2 h
  obtain ⟨n2, d2, s2, rfl, ⟨n21, n22⟩, d21, d22⟩ := fits_raw2 h'
  obtain ⟨k, rfl, g1, g2⟩ := fits_limbs Try.underlying22 Try.underlying74 h''
  refine PCall.of_vc (tabs mixed (tbl_cons sanity2_C (tbl_cons made2_C (tbl_cons rmade_C (tbl_cons qDiv_C (tbl_cons qAdd_C (tbl_cons qSub_C (tbl_cons qMul_C (tbl_cons qNeg_C (tbl_cons r2Valid_C (tbl_cons rsign_C (tbl_cons rmul_C (tbl_cons qOf_C (tbl_cons r2Same_C tbl_nil)))))))))))))) Try.func10 rfl Try.ntmps10 Try.results10 (by simp) ?_
  have qa := mdR_qs n1 d1 s1 n11 d11
  have qb := mdR_qs n2 d2 s2 n21 d21
  have qc : dl (sv s1 (k.take 2)).natAbs ≤ 2 := by rw [sv_natAbs]; exact Nat.le_trans (dl_le_of_lim (g1.take 2)) (by rw [List.length_take]; omega)
  have gl := g1.take 2
  obtain ⟨a, hA⟩ : ∃ a, mdR n1 d1 s1 = a := ⟨_, rfl⟩
  obtain ⟨b, hB⟩ : ∃ a, mdR n2 d2 s2 = a := ⟨_, rfl⟩
  obtain ⟨c, hC⟩ : ∃ a, sv s1 (k.take 2) = a := ⟨_, rfl⟩
  rw [hA] at qa
  rw [hB] at qb
  rw [hC] at qc
  have qd := (szs qa).2.1
  have qn := (szs qa).1
  by_cases hb0 : b = 0
  · have r2 : divR a b = .tup [.agg [.I 0, .I 0], .raw (.int .i64 3)] := if_pos hb0
    by_cases hc0 : c = 0
    · have c0 : (sgI c == 0) = true := by rw [hc0]; rfl
      simp only [go_sem, List.reduceReplicate, ↓reduceIte, Nat.reduceEqDiff, Nat.reduceLT, Nat.reduceLeDiff, Nat.reduceAdd, Nat.reduceSub, Nat.reduceMul, Int.reduceToNat, Int.reduceNeg, Int.reduceAdd, Int.reduceSub, Int.reduceMul, Int.reduceLT, Int.reduceLE, Int.reduceMod, Int.reducePow, Nat.reducePow, Int.reduceDiv, Nat.reduceBEq, Nat.reduceBNe, Int.reduceBEq, Int.reduceBNe, reduceCtorEq, take2, hA, hB, hC, r2, c0, validQ_Q]
      and_intros
      all_goals first | (split <;> omega) | first | assumption | exact dg_lim _ | ((first | with_reducible apply szQ | with_reducible apply szNum | with_reducible apply szDen | with_reducible apply szLN | with_reducible apply szLD | with_reducible apply dlT); (repeat' first | assumption | with_reducible apply qsD | with_reducible apply qsS | with_reducible apply qsA | with_reducible apply qsM | with_reducible apply qsN | with_reducible apply qsZ | with_reducible apply qsNumDen | with_reducible apply dlM | with_reducible apply dlA | with_reducible apply dlNum | with_reducible apply dlDen | with_reducible apply dlFl | (with_reducible apply dlS; decide)); all_goals decide) | omega | rfl
    · have c0 : (sgI c == 0) = false := beqF fun e => hc0 (sgI_zero.1 e)
      have r3 : ofR (a.num * c) (a.den * c) = .tup [.Q a, .raw (.int .i64 0)] := by
        have h3 := a.den_pos
        unfold ofR
        rw [if_neg (Int.mul_ne_zero (by omega) hc0), ext_dI a c hc0]
        rfl
      simp only [go_sem, List.reduceReplicate, ↓reduceIte, Nat.reduceEqDiff, Nat.reduceLT, Nat.reduceLeDiff, Nat.reduceAdd, Nat.reduceSub, Nat.reduceMul, Int.reduceToNat, Int.reduceNeg, Int.reduceAdd, Int.reduceSub, Int.reduceMul, Int.reduceLT, Int.reduceLE, Int.reduceMod, Int.reducePow, Nat.reducePow, Int.reduceDiv, Nat.reduceBEq, Nat.reduceBNe, Int.reduceBEq, Int.reduceBNe, reduceCtorEq, take2, hA, hB, hC, r2, r3, c0, validQ_Q]
      and_intros
      all_goals first | (split <;> omega) | first | assumption | exact dg_lim _ | ((first | with_reducible apply szQ | with_reducible apply szNum | with_reducible apply szDen | with_reducible apply szLN | with_reducible apply szLD | with_reducible apply dlT); (repeat' first | assumption | with_reducible apply qsD | with_reducible apply qsS | with_reducible apply qsA | with_reducible apply qsM | with_reducible apply qsN | with_reducible apply qsZ | with_reducible apply qsNumDen | with_reducible apply dlM | with_reducible apply dlA | with_reducible apply dlNum | with_reducible apply dlDen | with_reducible apply dlFl | (with_reducible apply dlS; decide)); all_goals decide) | omega | rfl
  · have r2 : divR a b = .tup [.Q (a / b), .raw (.int .i64 0)] := if_neg hb0
    by_cases hc0 : c = 0
    · have c0 : (sgI c == 0) = true := by rw [hc0]; rfl
      simp only [go_sem, List.reduceReplicate, ↓reduceIte, Nat.reduceEqDiff, Nat.reduceLT, Nat.reduceLeDiff, Nat.reduceAdd, Nat.reduceSub, Nat.reduceMul, Int.reduceToNat, Int.reduceNeg, Int.reduceAdd, Int.reduceSub, Int.reduceMul, Int.reduceLT, Int.reduceLE, Int.reduceMod, Int.reducePow, Nat.reducePow, Int.reduceDiv, Nat.reduceBEq, Nat.reduceBNe, Int.reduceBEq, Int.reduceBNe, reduceCtorEq, take2, hA, hB, hC, r2, c0, validQ_Q]
      and_intros
      all_goals first | (split <;> omega) | first | assumption | exact dg_lim _ | ((first | with_reducible apply szQ | with_reducible apply szNum | with_reducible apply szDen | with_reducible apply szLN | with_reducible apply szLD | with_reducible apply dlT); (repeat' first | assumption | with_reducible apply qsD | with_reducible apply qsS | with_reducible apply qsA | with_reducible apply qsM | with_reducible apply qsN | with_reducible apply qsZ | with_reducible apply qsNumDen | with_reducible apply dlM | with_reducible apply dlA | with_reducible apply dlNum | with_reducible apply dlDen | with_reducible apply dlFl | (with_reducible apply dlS; decide)); all_goals decide) | omega | rfl
    · have c0 : (sgI c == 0) = false := beqF fun e => hc0 (sgI_zero.1 e)
      have r3 : ofR (a.num * c) (a.den * c) = .tup [.Q a, .raw (.int .i64 0)] := by
        have h3 := a.den_pos
        unfold ofR
        rw [if_neg (Int.mul_ne_zero (by omega) hc0), ext_dI a c hc0]
        rfl
      simp only [go_sem, List.reduceReplicate, ↓reduceIte, Nat.reduceEqDiff, Nat.reduceLT, Nat.reduceLeDiff, Nat.reduceAdd, Nat.reduceSub, Nat.reduceMul, Int.reduceToNat, Int.reduceNeg, Int.reduceAdd, Int.reduceSub, Int.reduceMul, Int.reduceLT, Int.reduceLE, Int.reduceMod, Int.reducePow, Nat.reducePow, Int.reduceDiv, Nat.reduceBEq, Nat.reduceBNe, Int.reduceBEq, Int.reduceBNe, reduceCtorEq, take2, hA, hB, hC, r2, r3, c0, validQ_Q]
      and_intros
      all_goals first | (split <;> omega) | first | assumption | exact dg_lim _ | ((first | with_reducible apply szQ | with_reducible apply szNum | with_reducible apply szDen | with_reducible apply szLN | with_reducible apply szLD | with_reducible apply dlT); (repeat' first | assumption | with_reducible apply qsD | with_reducible apply qsS | with_reducible apply qsA | with_reducible apply qsM | with_reducible apply qsN | with_reducible apply qsZ | with_reducible apply qsNumDen | with_reducible apply dlM | with_reducible apply dlA | with_reducible apply dlNum | with_reducible apply dlDen | with_reducible apply dlFl | (with_reducible apply dlS; decide)); all_goals decide) | omega | rfl
theorem mk_div {q r : Rat} (h1 : q.num = r.num) (h2 : (q.den : Int) = r.den) : q = r := Rat.ext h1 (by omega)
theorem cmp_le0 {a b : Rat} (h : a ≤ b) : cmpQ a b ≤ 0 := by
  rcases cmpQ_cases a b with ⟨_, e⟩ | ⟨_, e⟩ | ⟨h', _⟩
  · rw [e]; decide
  · rw [e]; decide
  · exact absurd h (Rat.not_le.2 h')
theorem cmp_lt0 {a b : Rat} (h : a < b) : cmpQ a b < 0 := by rw [cmpQ_lt h]; decide
set_option maxRecDepth 8000 in
set_option maxHeartbeats 1000000 in
theorem lawFloor_F (X : V) (h : Fits Try.prog 6 24 X) : PCall Try.prog 6 [X] (.raw (.bool true)) := by
  obtain ⟨n1, d1, s1, rfl, ⟨n11, n12⟩, d11, d12⟩ := fits_raw2 h
  refine PCall.of_vc (tabs mixed (tbl_cons sanity2_C (tbl_cons made2_C (tbl_cons floor_C (tbl_cons rof_C (tbl_cons qOf_C (tbl_cons r2Valid_C (tbl_cons qCmp_C (tbl_cons qAdd_C (tbl_cons whole_C tbl_nil)))))))))) Try.func6 rfl Try.ntmps6 Try.results6 (by simp) ?_
  have qa := mdR_qs n1 d1 s1 n11 d11
  obtain ⟨a, hA⟩ : ∃ a, mdR n1 d1 s1 = a := ⟨_, rfl⟩
  rw [hA] at qa
  have q1 := l1
  have r1 : ofR a.floor 1 = .tup [.Q (a.floor : Rat), .raw (.int .i64 0)] := by
    unfold ofR
    rw [if_neg (by decide)]
    show qOk _ = qOk _
    congr 1
    exact mk_div (low_one a.floor 1 (by decide) (Nat.gcd_one_right _)).1 (low_one a.floor 1 (by decide) (Nat.gcd_one_right _)).2
  have k1 := cmp_le0 (Rat.floor_le a)
  have k2 : cmpQ a ((a.floor : Rat) + ((1 : Int) : Rat)) < 0 := cmp_lt0 (by rw [← Rat.intCast_add]; exact Rat.lt_floor_add_one a)
  simp only [go_sem, List.reduceReplicate, ↓reduceIte, Nat.reduceEqDiff, Nat.reduceLT, Nat.reduceLeDiff, Nat.reduceAdd, Nat.reduceSub, Nat.reduceMul, Int.reduceToNat, Int.reduceNeg, Int.reduceAdd, Int.reduceSub, Int.reduceMul, Int.reduceLT, Int.reduceLE, Int.reduceMod, Int.reducePow, Nat.reducePow, Int.reduceDiv, Nat.reduceBEq, Nat.reduceBNe, Int.reduceBEq, Int.reduceBNe, reduceCtorEq, hA, r1, k1, k2, validQ_Q]
  and_intros
  all_goals first | assumption | exact dg_lim _ | ((first | with_reducible apply szQ | with_reducible apply szNum | with_reducible apply szDen | with_reducible apply szLN | with_reducible apply szLD | with_reducible apply dlT); (repeat' first | assumption | with_reducible apply qsD | with_reducible apply qsS | with_reducible apply qsA | with_reducible apply qsM | with_reducible apply qsN | with_reducible apply qsZ | with_reducible apply qsNumDen | with_reducible apply dlM | with_reducible apply dlA | with_reducible apply dlNum | with_reducible apply dlDen | with_reducible apply dlFl | (with_reducible apply dlS; decide)); all_goals decide) | omega | rfl
end Go.Proofs.Ytilkleibnciloaa
