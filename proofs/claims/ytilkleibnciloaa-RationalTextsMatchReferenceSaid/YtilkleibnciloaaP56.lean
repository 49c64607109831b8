/- Texts LB8 in one. -/
import Derived.Test.YtilkleibnciloaaP55
/- RationalTextsMatchReference: the law returns true. -/
namespace Go.Proofs.Ytilkleibnciloaa
set_option linter.unusedSimpArgs false
set_option linter.unusedVariables false
open Go.RowKit

theorem fits_Int {n : Nat} {X : V} (h : Fits Try.prog (n + 3) 27 X) : ∃ (s : Bool) (l : List Nat), X = .agg [.raw (.bool s), .lst (V.limbs l)] ∧ Lim l ∧ l.length ≤ 9223372036854775807 := by
  obtain ⟨l, rfl, hl⟩ := fits_struct Try.underlying27 h
  obtain ⟨x, l, rfl, hx, hl⟩ := fitL_cons hl
  obtain ⟨y, l, rfl, hy, hl⟩ := fitL_cons hl
  obtain rfl := fitL_nil hl
  obtain ⟨s, rfl⟩ := fits_bool Try.underlying4 hx
  obtain ⟨d, rfl, d1, d2⟩ := fits_limbs Try.underlying22 Try.underlying74 hy
  exact ⟨s, d, rfl, d1, d2⟩
set_option maxRecDepth 8000 in
set_option maxHeartbeats 4000000 in
theorem lawTexts_F (X Y Z : V) (h : Fits Try.prog 6 24 X) (h' : Fits Try.prog 6 25 Y) (h'' : Fits Try.prog 6 29 Z) : PCall Try.prog 3 [X, Y, Z] (.raw (.bool true)) := by
  obtain ⟨n1, d1, s1, rfl, ⟨n11, n12⟩, d11, d12⟩ := fits_raw2 h
  obtain ⟨B, rfl, b1, b2⟩ := fits_bytes Try.underlying25 Try.underlying5 h'
  obtain ⟨l, rfl, hl⟩ := fits_struct Try.underlying29 h''
  obtain ⟨x, l, rfl, hx, hl⟩ := fitL_cons hl
  obtain ⟨y, l, rfl, hy, hl⟩ := fitL_cons hl
  obtain rfl := fitL_nil hl
  obtain ⟨s, p, rfl, p1, p2⟩ := fits_Int hx
  obtain ⟨t, q, rfl, q1, q2⟩ := fits_Int hy
  refine PCall.of_vc (tabs mixed (tbl_cons sanity2_C (tbl_cons made2_C (tbl_cons qText_C (tbl_cons r2Text_C (tbl_cons qRead_C (tbl_cons r2Read_C (tbl_cons r2Same_C (tbl_cons qValid_C (tbl_cons r2Valid_C tbl_nil)))))))))) Try.func3 rfl Try.ntmps3 Try.results3 (by simp) ?_
  have qa := mdR_qs n1 d1 s1 n11 d11
  obtain ⟨a, hA⟩ : ∃ a, mdR n1 d1 s1 = a := ⟨_, rfl⟩
  rw [hA] at qa
  have eB : sbL (mkB B) = B := sbL_mkB b1
  have z1 := rdV_dlM (numQ B)
  have z2 := rdV_dlM (denQ B)
  have tt : ((mkB (txQ a)).toList == (mkB (txQ a)).toList) = true := by simp
  have vv : (validQ ((s, p), (t, q)) == validQ ((s, p), (t, q))) = true := by simp
  by_cases c3 : 2002 < (B.length : Int)
  · by_cases c1 : 60 < (B.length : Int)
    · have c2 : ¬ (B.length : Int) < 1999 := by omega
      simp only [go_sem, List.reduceReplicate, ↓reduceIte, Nat.reduceEqDiff, Nat.reduceLT, Nat.reduceLeDiff, Nat.reduceAdd, Nat.reduceSub, Nat.reduceMul, Int.reduceToNat, Int.reduceNeg, Int.reduceAdd, Int.reduceSub, Int.reduceMul, Int.reduceLT, Int.reduceLE, Int.reduceMod, Int.reducePow, Nat.reducePow, Int.reduceDiv, Nat.reduceBEq, Nat.reduceBNe, Int.reduceBEq, Int.reduceBNe, reduceCtorEq, c1, c2, c3]
    · omega
  by_cases c1 : 60 < (B.length : Int)
  · by_cases c2 : (B.length : Int) < 1999
    · simp only [go_sem, List.reduceReplicate, ↓reduceIte, Nat.reduceEqDiff, Nat.reduceLT, Nat.reduceLeDiff, Nat.reduceAdd, Nat.reduceSub, Nat.reduceMul, Int.reduceToNat, Int.reduceNeg, Int.reduceAdd, Int.reduceSub, Int.reduceMul, Int.reduceLT, Int.reduceLE, Int.reduceMod, Int.reducePow, Nat.reducePow, Int.reduceDiv, Nat.reduceBEq, Nat.reduceBNe, Int.reduceBEq, Int.reduceBNe, reduceCtorEq, c1, c2]
    · by_cases c4 : 4 < (p.length : Int)
      · simp only [go_sem, List.reduceReplicate, ↓reduceIte, Nat.reduceEqDiff, Nat.reduceLT, Nat.reduceLeDiff, Nat.reduceAdd, Nat.reduceSub, Nat.reduceMul, Int.reduceToNat, Int.reduceNeg, Int.reduceAdd, Int.reduceSub, Int.reduceMul, Int.reduceLT, Int.reduceLE, Int.reduceMod, Int.reducePow, Nat.reducePow, Int.reduceDiv, Nat.reduceBEq, Nat.reduceBNe, Int.reduceBEq, Int.reduceBNe, reduceCtorEq, c1, c2, c3, c4]
      · by_cases c5 : 4 < (q.length : Int)
        · simp only [go_sem, List.reduceReplicate, ↓reduceIte, Nat.reduceEqDiff, Nat.reduceLT, Nat.reduceLeDiff, Nat.reduceAdd, Nat.reduceSub, Nat.reduceMul, Int.reduceToNat, Int.reduceNeg, Int.reduceAdd, Int.reduceSub, Int.reduceMul, Int.reduceLT, Int.reduceLE, Int.reduceMod, Int.reducePow, Nat.reducePow, Int.reduceDiv, Nat.reduceBEq, Nat.reduceBNe, Int.reduceBEq, Int.reduceBNe, reduceCtorEq, c1, c2, c3, c4, c5]
        · by_cases g1 : 2000 < B.length
          · have rB : rdQ B = .tup [.agg [.I 0, .I 0], .raw (.int .i64 2)] := by unfold rdQ; rw [if_pos g1]; rfl
            simp only [go_sem, List.reduceReplicate, ↓reduceIte, Nat.reduceEqDiff, Nat.reduceLT, Nat.reduceLeDiff, Nat.reduceAdd, Nat.reduceSub, Nat.reduceMul, Int.reduceToNat, Int.reduceNeg, Int.reduceAdd, Int.reduceSub, Int.reduceMul, Int.reduceLT, Int.reduceLE, Int.reduceMod, Int.reducePow, Nat.reducePow, Int.reduceDiv, Nat.reduceBEq, Nat.reduceBNe, Int.reduceBEq, Int.reduceBNe, reduceCtorEq, c1, c2, c3, c4, c5, hA, eB, rB, tt, vv, validQ_Q]
            and_intros
            all_goals first | assumption | exact dg_lim _ | ((first | with_reducible apply szQ | with_reducible apply szNum | with_reducible apply szDen | with_reducible apply szLN | with_reducible apply szLD | with_reducible apply dlT); (repeat' first | assumption | with_reducible apply qsD | with_reducible apply qsS | with_reducible apply qsA | with_reducible apply qsM | with_reducible apply qsN | with_reducible apply qsZ | with_reducible apply qsNumDen | with_reducible apply dlM | with_reducible apply dlA | with_reducible apply dlNum | with_reducible apply dlDen | with_reducible apply dlFl | (with_reducible apply dlS; decide)); all_goals decide) | omega | rfl
          by_cases hr : rdC (numQ B) = 0 ∧ rdC (denQ B) = 0 ∧ 0 < rdV (denQ B)
          · have rB : rdQ B = .tup [.Q (Rat.divInt (rdV (numQ B)) (rdV (denQ B))), .raw (.int .i64 0)] := by unfold rdQ; rw [if_neg g1, if_pos hr]; rfl
            have qf : qs (Rat.divInt (rdV (numQ B)) (rdV (denQ B))) ≤ 2000 := Nat.le_trans (qs_divInt _ _) (by omega)
            simp only [go_sem, List.reduceReplicate, ↓reduceIte, Nat.reduceEqDiff, Nat.reduceLT, Nat.reduceLeDiff, Nat.reduceAdd, Nat.reduceSub, Nat.reduceMul, Int.reduceToNat, Int.reduceNeg, Int.reduceAdd, Int.reduceSub, Int.reduceMul, Int.reduceLT, Int.reduceLE, Int.reduceMod, Int.reducePow, Nat.reducePow, Int.reduceDiv, Nat.reduceBEq, Nat.reduceBNe, Int.reduceBEq, Int.reduceBNe, reduceCtorEq, c1, c2, c3, c4, c5, hA, eB, rB, tt, vv, validQ_Q]
            and_intros
            all_goals first | assumption | exact dg_lim _ | ((first | with_reducible apply szQ | with_reducible apply szNum | with_reducible apply szDen | with_reducible apply szLN | with_reducible apply szLD | with_reducible apply dlT); (repeat' first | assumption | with_reducible apply qsD | with_reducible apply qsS | with_reducible apply qsA | with_reducible apply qsM | with_reducible apply qsN | with_reducible apply qsZ | with_reducible apply qsNumDen | with_reducible apply dlM | with_reducible apply dlA | with_reducible apply dlNum | with_reducible apply dlDen | with_reducible apply dlFl | (with_reducible apply dlS; decide)); all_goals decide) | omega | rfl
          · have rB : rdQ B = .tup [.agg [.I 0, .I 0], .raw (.int .i64 4)] := by unfold rdQ; rw [if_neg g1, if_neg hr]; rfl
            simp only [go_sem, List.reduceReplicate, ↓reduceIte, Nat.reduceEqDiff, Nat.reduceLT, Nat.reduceLeDiff, Nat.reduceAdd, Nat.reduceSub, Nat.reduceMul, Int.reduceToNat, Int.reduceNeg, Int.reduceAdd, Int.reduceSub, Int.reduceMul, Int.reduceLT, Int.reduceLE, Int.reduceMod, Int.reducePow, Nat.reducePow, Int.reduceDiv, Nat.reduceBEq, Nat.reduceBNe, Int.reduceBEq, Int.reduceBNe, reduceCtorEq, c1, c2, c3, c4, c5, hA, eB, rB, tt, vv, validQ_Q]
            and_intros
            all_goals first | assumption | exact dg_lim _ | ((first | with_reducible apply szQ | with_reducible apply szNum | with_reducible apply szDen | with_reducible apply szLN | with_reducible apply szLD | with_reducible apply dlT); (repeat' first | assumption | with_reducible apply qsD | with_reducible apply qsS | with_reducible apply qsA | with_reducible apply qsM | with_reducible apply qsN | with_reducible apply qsZ | with_reducible apply qsNumDen | with_reducible apply dlM | with_reducible apply dlA | with_reducible apply dlNum | with_reducible apply dlDen | with_reducible apply dlFl | (with_reducible apply dlS; decide)); all_goals decide) | omega | rfl
  · by_cases c4 : 4 < (p.length : Int)
    · simp only [go_sem, List.reduceReplicate, ↓reduceIte, Nat.reduceEqDiff, Nat.reduceLT, Nat.reduceLeDiff, Nat.reduceAdd, Nat.reduceSub, Nat.reduceMul, Int.reduceToNat, Int.reduceNeg, Int.reduceAdd, Int.reduceSub, Int.reduceMul, Int.reduceLT, Int.reduceLE, Int.reduceMod, Int.reducePow, Nat.reducePow, Int.reduceDiv, Nat.reduceBEq, Nat.reduceBNe, Int.reduceBEq, Int.reduceBNe, reduceCtorEq, c1, c3, c4]
    · by_cases c5 : 4 < (q.length : Int)
      · simp only [go_sem, List.reduceReplicate, ↓reduceIte, Nat.reduceEqDiff, Nat.reduceLT, Nat.reduceLeDiff, Nat.reduceAdd, Nat.reduceSub, Nat.reduceMul, Int.reduceToNat, Int.reduceNeg, Int.reduceAdd, Int.reduceSub, Int.reduceMul, Int.reduceLT, Int.reduceLE, Int.reduceMod, Int.reducePow, Nat.reducePow, Int.reduceDiv, Nat.reduceBEq, Nat.reduceBNe, Int.reduceBEq, Int.reduceBNe, reduceCtorEq, c1, c3, c4, c5]
      · by_cases g1 : 2000 < B.length
        · have rB : rdQ B = .tup [.agg [.I 0, .I 0], .raw (.int .i64 2)] := by unfold rdQ; rw [if_pos g1]; rfl
          simp only [go_sem, List.reduceReplicate, ↓reduceIte, Nat.reduceEqDiff, Nat.reduceLT, Nat.reduceLeDiff, Nat.reduceAdd, Nat.reduceSub, Nat.reduceMul, Int.reduceToNat, Int.reduceNeg, Int.reduceAdd, Int.reduceSub, Int.reduceMul, Int.reduceLT, Int.reduceLE, Int.reduceMod, Int.reducePow, Nat.reducePow, Int.reduceDiv, Nat.reduceBEq, Nat.reduceBNe, Int.reduceBEq, Int.reduceBNe, reduceCtorEq, c1, c3, c4, c5, hA, eB, rB, tt, vv, validQ_Q]
          and_intros
          all_goals first | assumption | exact dg_lim _ | ((first | with_reducible apply szQ | with_reducible apply szNum | with_reducible apply szDen | with_reducible apply szLN | with_reducible apply szLD | with_reducible apply dlT); (repeat' first | assumption | with_reducible apply qsD | with_reducible apply qsS | with_reducible apply qsA | with_reducible apply qsM | with_reducible apply qsN | with_reducible apply qsZ | with_reducible apply qsNumDen | with_reducible apply dlM | with_reducible apply dlA | with_reducible apply dlNum | with_reducible apply dlDen | with_reducible apply dlFl | (with_reducible apply dlS; decide)); all_goals decide) | omega | rfl
        by_cases hr : rdC (numQ B) = 0 ∧ rdC (denQ B) = 0 ∧ 0 < rdV (denQ B)
        · have rB : rdQ B = .tup [.Q (Rat.divInt (rdV (numQ B)) (rdV (denQ B))), .raw (.int .i64 0)] := by unfold rdQ; rw [if_neg g1, if_pos hr]; rfl
          have qf : qs (Rat.divInt (rdV (numQ B)) (rdV (denQ B))) ≤ 2000 := Nat.le_trans (qs_divInt _ _) (by omega)
          simp only [go_sem, List.reduceReplicate, ↓reduceIte, Nat.reduceEqDiff, Nat.reduceLT, Nat.reduceLeDiff, Nat.reduceAdd, Nat.reduceSub, Nat.reduceMul, Int.reduceToNat, Int.reduceNeg, Int.reduceAdd, Int.reduceSub, Int.reduceMul, Int.reduceLT, Int.reduceLE, Int.reduceMod, Int.reducePow, Nat.reducePow, Int.reduceDiv, Nat.reduceBEq, Nat.reduceBNe, Int.reduceBEq, Int.reduceBNe, reduceCtorEq, c1, c3, c4, c5, hA, eB, rB, tt, vv, validQ_Q]
          and_intros
          all_goals first | assumption | exact dg_lim _ | ((first | with_reducible apply szQ | with_reducible apply szNum | with_reducible apply szDen | with_reducible apply szLN | with_reducible apply szLD | with_reducible apply dlT); (repeat' first | assumption | with_reducible apply qsD | with_reducible apply qsS | with_reducible apply qsA | with_reducible apply qsM | with_reducible apply qsN | with_reducible apply qsZ | with_reducible apply qsNumDen | with_reducible apply dlM | with_reducible apply dlA | with_reducible apply dlNum | with_reducible apply dlDen | with_reducible apply dlFl | (with_reducible apply dlS; decide)); all_goals decide) | omega | rfl
        · have rB : rdQ B = .tup [.agg [.I 0, .I 0], .raw (.int .i64 4)] := by unfold rdQ; rw [if_neg g1, if_neg hr]; rfl
          simp only [go_sem, List.reduceReplicate, ↓reduceIte, Nat.reduceEqDiff, Nat.reduceLT, Nat.reduceLeDiff, Nat.reduceAdd, Nat.reduceSub, Nat.reduceMul, Int.reduceToNat, Int.reduceNeg, Int.reduceAdd, Int.reduceSub, Int.reduceMul, Int.reduceLT, Int.reduceLE, Int.reduceMod, Int.reducePow, Nat.reducePow, Int.reduceDiv, Nat.reduceBEq, Nat.reduceBNe, Int.reduceBEq, Int.reduceBNe, reduceCtorEq, c1, c3, c4, c5, hA, eB, rB, tt, vv, validQ_Q]
          and_intros
          all_goals first | assumption | exact dg_lim _ | ((first | with_reducible apply szQ | with_reducible apply szNum | with_reducible apply szDen | with_reducible apply szLN | with_reducible apply szLD | with_reducible apply dlT); (repeat' first | assumption | with_reducible apply qsD | with_reducible apply qsS | with_reducible apply qsA | with_reducible apply qsM | with_reducible apply qsN | with_reducible apply qsZ | with_reducible apply qsNumDen | with_reducible apply dlM | with_reducible apply dlA | with_reducible apply dlNum | with_reducible apply dlDen | with_reducible apply dlFl | (with_reducible apply dlS; decide)); all_goals decide) | omega | rfl
end Go.Proofs.Ytilkleibnciloaa
