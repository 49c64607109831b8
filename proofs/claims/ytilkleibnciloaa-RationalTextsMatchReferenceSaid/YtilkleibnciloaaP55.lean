/- Texts LB7 in one. -/
import Derived.Test.YtilkleibnciloaaP53
/- RationalReads: the law returns true. -/
namespace Go.Proofs.Ytilkleibnciloaa
set_option linter.unusedSimpArgs false
set_option linter.unusedVariables false
open Go.RowKit

theorem txN_no47 (X : Int) : ∀ c ∈ txN X, c ≠ 47 := by
  intro c hc
  unfold txN at hc
  split at hc
  · simp at hc; omega
  · split at hc
    · rcases List.mem_cons.1 hc with h | h
      · omega
      · have := dcm_lt _ c h; omega
    · have := dcm_lt _ c hc; omega
theorem txQ_lt (a : Rat) : ∀ x ∈ txQ a, x < 256 := by
  intro x hx
  unfold txQ at hx
  split at hx
  · exact txN_lt _ x hx
  · rcases List.mem_append.1 hx with h | h
    · exact txN_lt _ x h
    · rcases List.mem_cons.1 h with h | h
      · omega
      · exact txN_lt _ x h
theorem num_div_one (a : Rat) (h : a.den = 1) : Rat.divInt a.num 1 = a := by
  have := Rat.num_divInt_den a
  rw [h] at this
  exact this
/-- The text of a number is read as it. -/
theorem rd_txQ {a : Rat} (h : qs a ≤ 90) : rdQ (txQ a) = .tup [.Q a, .raw (.int .i64 0)] := by
  obtain ⟨a1, a2⟩ := sizesQ h
  have t1 := txN_len a1 (by decide)
  have t2 := txN_len a2 (by decide)
  obtain ⟨r1, r2⟩ := rd_txN a.num (by omega)
  obtain ⟨r3, r4⟩ := rd_txN (a.den : Int) (by omega)
  have hd := a.den_pos
  unfold rdQ txQ
  by_cases h1 : a.den = 1
  · rw [if_pos h1]
    have f1 : fi (txN a.num) = (txN a.num).length := fi_miss (txN_no47 _)
    have e1 : numQ (txN a.num) = txN a.num := by unfold numQ; rw [f1, List.take_length]
    have e2 : denQ (txN a.num) = [49] := by unfold denQ; rw [f1, if_neg (by omega)]
    have g2 : rdC [49] = 0 := by decide
    have q5 : rdV [49] = 1 := by decide
    rw [if_neg (by omega), e1, e2, r1, r2, g2, q5, if_pos ⟨rfl, rfl, by decide⟩, num_div_one a h1]
    rfl
  · rw [if_neg h1]
    have f1 : fi (txN a.num ++ 47 :: txN a.den) = (txN a.num).length := fi_hit (txN_no47 _)
    have e1 : numQ (txN a.num ++ 47 :: txN a.den) = txN a.num := by
      unfold numQ; rw [f1]; simp
    have e2 : denQ (txN a.num ++ 47 :: txN a.den) = txN a.den := by
      unfold denQ
      rw [f1, if_pos (by simp), List.drop_append]
      rw [List.drop_of_length_le (by omega), List.nil_append, show (txN a.num).length + 1 - (txN a.num).length = 1 from by omega]
      rfl
    have hlen : ¬ 2000 < (txN a.num ++ 47 :: txN a.den).length := by rw [List.length_append, List.length_cons]; omega
    rw [if_neg hlen, e1, e2, r1, r2, r3, r4, if_pos ⟨rfl, rfl, by omega⟩, Rat.num_divInt_den]
    rfl
theorem txQ_inj {a b : Rat} (ha : qs a ≤ 90) (hb : qs b ≤ 90) (h : txQ a = txQ b) : a = b := by
  have e1 := rd_txQ ha
  rw [h, rd_txQ hb] at e1
  injection e1 with e1
  injection e1 with e1 _
  injection e1 with e1
  exact e1.symm
theorem sb_txQ (a : Rat) : sbL (mkB (txQ a)) = txQ a := sbL_mkB (txQ_lt a)
theorem eq_txQ {a b : Rat} (ha : qs a ≤ 90) (hb : qs b ≤ 90) : ((mkB (txQ a)).toList == (mkB (txQ b)).toList) = decide (a = b) := by
  rw [eq_list, sb_txQ, sb_txQ]
  by_cases h : a = b
  · rw [h]; simp
  · rw [decide_eq_false h, decide_eq_false fun e => h (txQ_inj ha hb e)]
theorem len_numQ (S : List Nat) : (numQ S).length ≤ S.length := by unfold numQ; rw [List.length_take]; omega
theorem len_denQ (S : List Nat) : (denQ S).length ≤ max S.length 1 := by
  unfold denQ
  split
  · rw [List.length_drop]; omega
  · simp; omega
theorem bne_self' (b : Bool) : (b != b) = false := by cases b <;> rfl
set_option maxRecDepth 8000 in
set_option maxHeartbeats 2000000 in
theorem lawReads_F (X Y Z : V) (h : Fits Try.prog 6 24 X) (h' : Fits Try.prog 6 24 Y) (h'' : Fits Try.prog 6 25 Z) : PCall Try.prog 5 [X, Y, Z] (.raw (.bool true)) := by
  obtain ⟨n1, d1, s1, rfl, ⟨n11, n12⟩, d11, d12⟩ := fits_raw2 h
  obtain ⟨n2, d2, s2, rfl, ⟨n21, n22⟩, d21, d22⟩ := fits_raw2 h'
  obtain ⟨B, rfl, b1, b2⟩ := fits_bytes Try.underlying25 Try.underlying5 h''
  refine PCall.of_vc (tabs mixed (tbl_cons sanity2_C (tbl_cons made2_C (tbl_cons qText_C (tbl_cons qRead_C (tbl_cons r2Same_C (tbl_cons r2Valid_C tbl_nil))))))) Try.func5 rfl Try.ntmps5 Try.results5 (by simp) ?_
  by_cases hbig : 60 < (B.length : Int)
  · simp only [go_sem, List.reduceReplicate, ↓reduceIte, Nat.reduceEqDiff, Nat.reduceLT, Nat.reduceLeDiff, Nat.reduceAdd, Nat.reduceSub, Nat.reduceMul, Int.reduceToNat, Int.reduceNeg, Int.reduceAdd, Int.reduceSub, Int.reduceMul, Int.reduceLT, Int.reduceLE, Int.reduceMod, Int.reducePow, Nat.reducePow, Int.reduceDiv, Nat.reduceBEq, Nat.reduceBNe, Int.reduceBEq, Int.reduceBNe, reduceCtorEq, hbig]
  have qa := mdR_qs n1 d1 s1 n11 d11
  have qb := mdR_qs n2 d2 s2 n21 d21
  obtain ⟨a, hA⟩ : ∃ a, mdR n1 d1 s1 = a := ⟨_, rfl⟩
  obtain ⟨c, hC⟩ : ∃ a, mdR n2 d2 s2 = a := ⟨_, rfl⟩
  rw [hA] at qa
  rw [hC] at qb
  have ra := rd_txQ (a := a) (by omega)
  have ea := sb_txQ a
  have eac := eq_txQ (a := a) (b := c) (by omega) (by omega)
  have eB : sbL (mkB B) = B := sbL_mkB b1
  by_cases hr : rdC (numQ B) = 0 ∧ rdC (denQ B) = 0 ∧ 0 < rdV (denQ B)
  · have rB : rdQ B = .tup [.Q (Rat.divInt (rdV (numQ B)) (rdV (denQ B))), .raw (.int .i64 0)] := by unfold rdQ; rw [if_neg (by omega), if_pos hr]; rfl
    have z1 := rdV_dl (S := numQ B) 60 (Nat.le_trans (len_numQ B) (by omega)) (by decide)
    have z2 := rdV_dl (S := denQ B) 60 (Nat.le_trans (len_denQ B) (by omega)) (by decide)
    have qf : qs (Rat.divInt (rdV (numQ B)) (rdV (denQ B))) ≤ 60 := Nat.le_trans (qs_divInt _ _) (by omega)
    obtain ⟨f, hF⟩ : ∃ f, Rat.divInt (rdV (numQ B)) (rdV (denQ B)) = f := ⟨_, rfl⟩
    rw [hF] at qf rB
    have rf := rd_txQ (a := f) (by omega)
    have ef := sb_txQ f
    simp only [go_sem, List.reduceReplicate, ↓reduceIte, Nat.reduceEqDiff, Nat.reduceLT, Nat.reduceLeDiff, Nat.reduceAdd, Nat.reduceSub, Nat.reduceMul, Int.reduceToNat, Int.reduceNeg, Int.reduceAdd, Int.reduceSub, Int.reduceMul, Int.reduceLT, Int.reduceLE, Int.reduceMod, Int.reducePow, Nat.reducePow, Int.reduceDiv, Nat.reduceBEq, Nat.reduceBNe, Int.reduceBEq, Int.reduceBNe, reduceCtorEq, hbig, hA, hC, ra, ea, eac, eB, rB, rf, ef, bne_self', validQ_Q]
    and_intros
    all_goals first | assumption | exact dg_lim _ | ((first | with_reducible apply szQ | with_reducible apply szNum | with_reducible apply szDen | with_reducible apply szLN | with_reducible apply szLD | with_reducible apply dlT); (repeat' first | assumption | with_reducible apply qsD | with_reducible apply qsS | with_reducible apply qsA | with_reducible apply qsM | with_reducible apply qsN | with_reducible apply qsZ | with_reducible apply qsNumDen | with_reducible apply dlM | with_reducible apply dlA | with_reducible apply dlNum | with_reducible apply dlDen | with_reducible apply dlFl | (with_reducible apply dlS; decide)); all_goals decide) | omega | rfl
  · have rB : rdQ B = .tup [.agg [.I 0, .I 0], .raw (.int .i64 4)] := by unfold rdQ; rw [if_neg (by omega), if_neg hr]; rfl
    simp only [go_sem, List.reduceReplicate, ↓reduceIte, Nat.reduceEqDiff, Nat.reduceLT, Nat.reduceLeDiff, Nat.reduceAdd, Nat.reduceSub, Nat.reduceMul, Int.reduceToNat, Int.reduceNeg, Int.reduceAdd, Int.reduceSub, Int.reduceMul, Int.reduceLT, Int.reduceLE, Int.reduceMod, Int.reducePow, Nat.reducePow, Int.reduceDiv, Nat.reduceBEq, Nat.reduceBNe, Int.reduceBEq, Int.reduceBNe, reduceCtorEq, hbig, hA, hC, ra, ea, eac, eB, rB, bne_self', validQ_Q]
    and_intros
    all_goals first | assumption | exact dg_lim _ | ((first | with_reducible apply szQ | with_reducible apply szNum | with_reducible apply szDen | with_reducible apply szLN | with_reducible apply szLD | with_reducible apply dlT); (repeat' first | assumption | with_reducible apply qsD | with_reducible apply qsS | with_reducible apply qsA | with_reducible apply qsM | with_reducible apply qsN | with_reducible apply qsZ | with_reducible apply qsNumDen | with_reducible apply dlM | with_reducible apply dlA | with_reducible apply dlNum | with_reducible apply dlDen | with_reducible apply dlFl | (with_reducible apply dlS; decide)); all_goals decide) | omega | rfl
end Go.Proofs.Ytilkleibnciloaa
