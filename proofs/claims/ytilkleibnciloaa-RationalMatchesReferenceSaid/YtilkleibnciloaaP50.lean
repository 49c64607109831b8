/- Texts LB2 in one. -/
import Derived.Test.YtilkleibnciloaaP49
/- RationalMatchesReference: the law returns true. -/
namespace Go.Proofs.Ytilkleibnciloaa
set_option linter.unusedSimpArgs false
set_option linter.unusedVariables false
open Go.RowKit

set_option maxRecDepth 8000 in
set_option maxHeartbeats 1000000 in
theorem lawMatches2_V (n d n' d' : List Nat) (z : Int) (s s' : Bool) (hn : Lim n) (n1 : n.length ≤ 9223372036854775807) (hd : Lim d) (d1 : d.length ≤ 9223372036854775807) (hn' : Lim n') (n1' : n'.length ≤ 9223372036854775807) (hd' : Lim d') (d1' : d'.length ≤ 9223372036854775807) (z1 : -9223372036854775808 ≤ z ∧ z ≤ 9223372036854775807) :
    PCall Try.prog 7 [.agg [.lst (V.limbs n), .lst (V.limbs d), .raw (.bool s)], .agg [.lst (V.limbs n'), .lst (V.limbs d'), .raw (.bool s')], .raw (.int .i64 z)] (.raw (.bool true)) := by
  refine PCall.of_vc (tabs mixed (tbl_cons sanity2_C (tbl_cons made2_C (tbl_cons qOf_C (tbl_cons r2Of_C (tbl_cons qDiv_C (tbl_cons r2Div_C (tbl_cons r2Same_C (tbl_cons qAdd_C (tbl_cons r2Add_C (tbl_cons qSub_C (tbl_cons r2Sub_C (tbl_cons qMul_C (tbl_cons r2Mul_C (tbl_cons qNeg_C (tbl_cons r2Neg_C (tbl_cons whole_C (tbl_cons r2Whole_C (tbl_cons qCmp_C (tbl_cons r2Cmp_C (tbl_cons qSign_C (tbl_cons r2Sign_C (tbl_cons same_C (tbl_cons floor_C (tbl_cons r2Floor_C tbl_nil))))))))))))))))))))))))) Try.func7 rfl Try.ntmps7 Try.results7 (by simp) ?_
  have qa := mdR_qs n d s hn hd
  have qb := mdR_qs n' d' s' hn' hd'
  obtain ⟨a, hA⟩ : ∃ a, mdR n d s = a := ⟨_, rfl⟩
  obtain ⟨b, hB⟩ : ∃ a, mdR n' d' s' = a := ⟨_, rfl⟩
  rw [hA] at qa
  rw [hB] at qb
  obtain ⟨a1, a2⟩ := sizesQ qa
  obtain ⟨b1, b2⟩ := sizesQ qb
  by_cases h0 : b = 0
  · have r1 : ofR a.num b.num = .tup [.agg [.I 0, .I 0], .raw (.int .i64 3)] := if_pos (by rw [h0]; rfl)
    have r2 : divR a b = .tup [.agg [.I 0, .I 0], .raw (.int .i64 3)] := if_pos h0
    simp only [go_sem, List.reduceReplicate, ↓reduceIte, Nat.reduceEqDiff, Nat.reduceLT, Nat.reduceLeDiff, Nat.reduceAdd, Nat.reduceSub, Nat.reduceMul, Int.reduceToNat, Int.reduceNeg, Int.reduceAdd, Int.reduceSub, Int.reduceMul, Int.reduceLT, Int.reduceLE, Int.reduceMod, Int.reducePow, Nat.reducePow, Int.reduceDiv, Nat.reduceBEq, Nat.reduceBNe, Int.reduceBEq, Int.reduceBNe, reduceCtorEq, hA, hB, r1, r2, int_self]
    have zz := dl_i64 z1
    and_intros
    all_goals first | assumption | exact dg_lim _ | ((first | with_reducible apply szQ | with_reducible apply szNum | with_reducible apply szDen | with_reducible apply szLN | with_reducible apply szLD | with_reducible apply dlT); (repeat' first | assumption | with_reducible apply qsD | with_reducible apply qsS | with_reducible apply qsA | with_reducible apply qsM | with_reducible apply qsN | with_reducible apply qsZ | with_reducible apply qsNumDen | with_reducible apply dlM | with_reducible apply dlA | with_reducible apply dlNum | with_reducible apply dlDen | with_reducible apply dlFl | (with_reducible apply dlS; decide)); all_goals decide) | omega | rfl
  · have r1 : ofR a.num b.num = .tup [.Q (Rat.divInt a.num b.num), .raw (.int .i64 0)] := if_neg fun h => h0 (Rat.num_eq_zero.1 h)
    have r2 : divR a b = .tup [.Q (a / b), .raw (.int .i64 0)] := if_neg h0
    simp only [go_sem, List.reduceReplicate, ↓reduceIte, Nat.reduceEqDiff, Nat.reduceLT, Nat.reduceLeDiff, Nat.reduceAdd, Nat.reduceSub, Nat.reduceMul, Int.reduceToNat, Int.reduceNeg, Int.reduceAdd, Int.reduceSub, Int.reduceMul, Int.reduceLT, Int.reduceLE, Int.reduceMod, Int.reducePow, Nat.reducePow, Int.reduceDiv, Nat.reduceBEq, Nat.reduceBNe, Int.reduceBEq, Int.reduceBNe, reduceCtorEq, hA, hB, r1, r2, int_self]
    have zz := dl_i64 z1
    and_intros
    all_goals first | assumption | exact dg_lim _ | ((first | with_reducible apply szQ | with_reducible apply szNum | with_reducible apply szDen | with_reducible apply szLN | with_reducible apply szLD | with_reducible apply dlT); (repeat' first | assumption | with_reducible apply qsD | with_reducible apply qsS | with_reducible apply qsA | with_reducible apply qsM | with_reducible apply qsN | with_reducible apply qsZ | with_reducible apply qsNumDen | with_reducible apply dlM | with_reducible apply dlA | with_reducible apply dlNum | with_reducible apply dlDen | with_reducible apply dlFl | (with_reducible apply dlS; decide)); all_goals decide) | omega | rfl
theorem lawMatches2_F (X Y Z : V) (h : Fits Try.prog 6 24 X) (h' : Fits Try.prog 6 24 Y) (h'' : Fits Try.prog 6 2 Z) : PCall Try.prog 7 [X, Y, Z] (.raw (.bool true)) := by
  obtain ⟨n, d, s, rfl, ⟨a1, a2⟩, a3, a4⟩ := fits_raw2 h
  obtain ⟨n', d', s', rfl, ⟨b1, b2⟩, b3, b4⟩ := fits_raw2 h'
  obtain ⟨z, hz, rfl⟩ := fits_int Try.underlying2 h''
  exact lawMatches2_V n d n' d' z s s' a1 a2 a3 a4 b1 b2 b3 b4 (wf_i64 hz)
end Go.Proofs.Ytilkleibnciloaa
