/- Texts LB4 in one. -/
import Derived.Test.YtilkleibnciloaaP51
/- RationalOrder: the law returns true. -/
namespace Go.Proofs.Ytilkleibnciloaa
set_option linter.unusedSimpArgs false
set_option linter.unusedVariables false
open Go.RowKit

theorem cmpQ_cases (a b : Rat) : (a < b ∧ cmpQ a b = -1) ∨ (a = b ∧ cmpQ a b = 0) ∨ (b < a ∧ cmpQ a b = 1) := by
  unfold cmpQ
  by_cases h1 : a < b
  · exact .inl ⟨h1, if_pos h1⟩
  · by_cases h2 : a = b
    · exact .inr (.inl ⟨h2, by rw [if_neg h1, if_pos h2]⟩)
    · exact .inr (.inr ⟨Rat.lt_of_le_of_ne (Rat.not_lt.1 h1) fun e => h2 e.symm, by rw [if_neg h1, if_neg h2]⟩)
theorem ltQ_irrefl {a b : Rat} (h : a < b) (h' : a = b) : False := by rw [h'] at h; exact Rat.lt_irrefl h
theorem ltQ_trans {a b c : Rat} (h : a < b) (h' : b < c) : a < c := Rat.not_le.1 fun h2 => Rat.not_le.2 h (Rat.le_trans (Rat.le_of_lt h') h2)
theorem cmpQ_lt {a b : Rat} (h : a < b) : cmpQ a b = -1 := if_pos h
theorem cmpQ_eq {a b : Rat} (h : a = b) : cmpQ a b = 0 := by unfold cmpQ; rw [if_neg fun h' => ltQ_irrefl h' h, if_pos h]
theorem cmpQ_gt {a b : Rat} (h : b < a) : cmpQ a b = 1 := by
  unfold cmpQ
  rw [if_neg fun h' => Rat.lt_irrefl (ltQ_trans h h'), if_neg fun h' => ltQ_irrefl h h'.symm]
theorem cmpQ_iff {a b a' b' : Rat} (h1 : a < b ↔ a' < b') (h2 : b < a ↔ b' < a') : cmpQ a b = cmpQ a' b' := by
  rcases cmpQ_cases a b with ⟨h, e⟩ | ⟨h, e⟩ | ⟨h, e⟩
  · rw [e, cmpQ_lt (h1.1 h)]
  · rw [e]
    rcases cmpQ_cases a' b' with ⟨h', e'⟩ | ⟨h', e'⟩ | ⟨h', e'⟩
    · exact (ltQ_irrefl (h1.2 h') h).elim
    · exact e'.symm
    · exact (ltQ_irrefl (h2.2 h') h.symm).elim
  · rw [e, cmpQ_gt (h2.1 h)]
theorem cmpQ_anti (a b : Rat) : cmpQ a b = -cmpQ b a := by
  rcases cmpQ_cases a b with ⟨h, e⟩ | ⟨h, e⟩ | ⟨h, e⟩
  · rw [e, cmpQ_gt h]
  · rw [e, cmpQ_eq h.symm]; rfl
  · rw [e, cmpQ_lt h]; rfl
theorem ltQ_mul {a b c : Rat} (hc : 0 < c) : a * c < b * c ↔ a < b := by
  refine ⟨fun h => Rat.not_le.1 fun h' => ?_, fun h => Rat.mul_lt_mul_of_pos_right h hc⟩
  have := Rat.mul_le_mul_of_nonneg_right h' (Rat.le_of_lt hc)
  exact Rat.not_le.2 h this
theorem ltQ_neg {a b : Rat} : -b < -a ↔ a < b := Rat.neg_lt_neg_iff
theorem ltQ_add {a b c : Rat} : a + c < b + c ↔ a < b := Rat.add_lt_add_right
theorem sg_pos (c : Rat) : sgI c.num ≤ 0 ↔ ¬ 0 < c := by
  rw [sgI_le]
  have h1 := Rat.num_nonneg (q := c)
  have h2 := Rat.num_eq_zero (q := c)
  refine not_congr ⟨fun h => ?_, fun h => ?_⟩
  · exact Rat.lt_of_le_of_ne (h1.1 (by omega)) fun e => by rw [← e] at h; exact absurd h (by decide)
  · have := h1.2 (Rat.le_of_lt h)
    have : c.num ≠ 0 := fun e => ltQ_irrefl h (h2.1 e).symm
    omega
set_option maxRecDepth 8000 in
set_option maxHeartbeats 1000000 in
theorem lawOrder2_F (X Y Z : V) (h : Fits Try.prog 6 24 X) (h' : Fits Try.prog 6 24 Y) (h'' : Fits Try.prog 6 24 Z) : PCall Try.prog 9 [X, Y, Z] (.raw (.bool true)) := by
  obtain ⟨n1, d1, s1, rfl, ⟨n11, n12⟩, d11, d12⟩ := fits_raw2 h
  obtain ⟨n2, d2, s2, rfl, ⟨n21, n22⟩, d21, d22⟩ := fits_raw2 h'
  obtain ⟨n3, d3, s3, rfl, ⟨n31, n32⟩, d31, d32⟩ := fits_raw2 h''
  refine PCall.of_vc (tabs mixed (tbl_cons sanity2_C (tbl_cons made2_C (tbl_cons qCmp_C (tbl_cons r2Same_C (tbl_cons qAdd_C (tbl_cons qSub_C (tbl_cons qMul_C (tbl_cons qNeg_C (tbl_cons qSign_C tbl_nil)))))))))) Try.func9 rfl Try.ntmps9 Try.results9 (by simp) ?_
  have qa := mdR_qs n1 d1 s1 n11 d11
  have qb := mdR_qs n2 d2 s2 n21 d21
  have qc := mdR_qs n3 d3 s3 n31 d31
  obtain ⟨a, hA⟩ : ∃ a, mdR n1 d1 s1 = a := ⟨_, rfl⟩
  obtain ⟨b, hB⟩ : ∃ a, mdR n2 d2 s2 = a := ⟨_, rfl⟩
  obtain ⟨c, hC⟩ : ∃ a, mdR n3 d3 s3 = a := ⟨_, rfl⟩
  rw [hA] at qa
  rw [hB] at qb
  rw [hC] at qc
  have k0 := cmpQ_anti b a
  have k00 : -1 ≤ cmpQ a b ∧ cmpQ a b ≤ 1 := by rcases cmpQ_cases a b with ⟨_, e⟩ | ⟨_, e⟩ | ⟨_, e⟩ <;> rw [e] <;> decide
  have k1 : (if cmpQ b a = -9223372036854775808 then cmpQ b a else -cmpQ b a) = cmpQ a b := by rw [if_neg (by omega)]; omega
  have k3 : cmpQ (-b) (-a) = cmpQ a b := cmpQ_iff ltQ_neg ltQ_neg
  have k4 : cmpQ (a + c) (b + c) = cmpQ a b := cmpQ_iff ltQ_add ltQ_add
  have k5 : sgI (a - b).num = cmpQ a b := sg_sub a b
  have k6 : ((cmpQ a b == 0) == decide (a = b)) = true := by
    rcases cmpQ_cases a b with ⟨h, e⟩ | ⟨h, e⟩ | ⟨h, e⟩
    · rw [e, decide_eq_false (ltQ_irrefl h)]; rfl
    · rw [e, decide_eq_true h]; rfl
    · rw [e, decide_eq_false fun h' => ltQ_irrefl h h'.symm]; rfl
  have tri : 0 < cmpQ a b ∨ (¬ 0 < cmpQ a b ∧ 0 < cmpQ b c) ∨ (¬ 0 < cmpQ a b ∧ ¬ 0 < cmpQ b c ∧ cmpQ a c ≤ 0) := by
    by_cases p1 : 0 < cmpQ a b
    · exact .inl p1
    · by_cases p2 : 0 < cmpQ b c
      · exact .inr (.inl ⟨p1, p2⟩)
      · refine .inr (.inr ⟨p1, p2, ?_⟩)
        have ha : a ≤ b := Rat.not_lt.1 fun h => p1 (by rw [cmpQ_gt h]; decide)
        have hb : b ≤ c := Rat.not_lt.1 fun h => p2 (by rw [cmpQ_gt h]; decide)
        have hc := Rat.le_trans ha hb
        rcases cmpQ_cases a c with ⟨_, e⟩ | ⟨_, e⟩ | ⟨h, _⟩
        · rw [e]; decide
        · rw [e]; decide
        · exact absurd hc (Rat.not_le.2 h)
  by_cases hs : sgI c.num ≤ 0
  · rcases tri with p1 | ⟨p1, p2⟩ | ⟨p1, p2, p3⟩
    · simp only [go_sem, List.reduceReplicate, ↓reduceIte, Nat.reduceEqDiff, Nat.reduceLT, Nat.reduceLeDiff, Nat.reduceAdd, Nat.reduceSub, Nat.reduceMul, Int.reduceToNat, Int.reduceNeg, Int.reduceAdd, Int.reduceSub, Int.reduceMul, Int.reduceLT, Int.reduceLE, Int.reduceMod, Int.reducePow, Nat.reducePow, Int.reduceDiv, Nat.reduceBEq, Nat.reduceBNe, Int.reduceBEq, Int.reduceBNe, reduceCtorEq, hA, hB, hC, k1, k3, k4, k5, k6, int_self, p1, hs]
      and_intros
      all_goals first | assumption | exact dg_lim _ | ((first | with_reducible apply szQ | with_reducible apply szNum | with_reducible apply szDen | with_reducible apply szLN | with_reducible apply szLD | with_reducible apply dlT); (repeat' first | assumption | with_reducible apply qsD | with_reducible apply qsS | with_reducible apply qsA | with_reducible apply qsM | with_reducible apply qsN | with_reducible apply qsZ | with_reducible apply qsNumDen | with_reducible apply dlM | with_reducible apply dlA | with_reducible apply dlNum | with_reducible apply dlDen | with_reducible apply dlFl | (with_reducible apply dlS; decide)); all_goals decide) | omega | rfl
    · simp only [go_sem, List.reduceReplicate, ↓reduceIte, Nat.reduceEqDiff, Nat.reduceLT, Nat.reduceLeDiff, Nat.reduceAdd, Nat.reduceSub, Nat.reduceMul, Int.reduceToNat, Int.reduceNeg, Int.reduceAdd, Int.reduceSub, Int.reduceMul, Int.reduceLT, Int.reduceLE, Int.reduceMod, Int.reducePow, Nat.reducePow, Int.reduceDiv, Nat.reduceBEq, Nat.reduceBNe, Int.reduceBEq, Int.reduceBNe, reduceCtorEq, hA, hB, hC, k1, k3, k4, k5, k6, int_self, p1, p2, hs]
      and_intros
      all_goals first | assumption | exact dg_lim _ | ((first | with_reducible apply szQ | with_reducible apply szNum | with_reducible apply szDen | with_reducible apply szLN | with_reducible apply szLD | with_reducible apply dlT); (repeat' first | assumption | with_reducible apply qsD | with_reducible apply qsS | with_reducible apply qsA | with_reducible apply qsM | with_reducible apply qsN | with_reducible apply qsZ | with_reducible apply qsNumDen | with_reducible apply dlM | with_reducible apply dlA | with_reducible apply dlNum | with_reducible apply dlDen | with_reducible apply dlFl | (with_reducible apply dlS; decide)); all_goals decide) | omega | rfl
    · simp only [go_sem, List.reduceReplicate, ↓reduceIte, Nat.reduceEqDiff, Nat.reduceLT, Nat.reduceLeDiff, Nat.reduceAdd, Nat.reduceSub, Nat.reduceMul, Int.reduceToNat, Int.reduceNeg, Int.reduceAdd, Int.reduceSub, Int.reduceMul, Int.reduceLT, Int.reduceLE, Int.reduceMod, Int.reducePow, Nat.reducePow, Int.reduceDiv, Nat.reduceBEq, Nat.reduceBNe, Int.reduceBEq, Int.reduceBNe, reduceCtorEq, hA, hB, hC, k1, k3, k4, k5, k6, int_self, p1, p2, p3, hs]
      and_intros
      all_goals first | assumption | exact dg_lim _ | ((first | with_reducible apply szQ | with_reducible apply szNum | with_reducible apply szDen | with_reducible apply szLN | with_reducible apply szLD | with_reducible apply dlT); (repeat' first | assumption | with_reducible apply qsD | with_reducible apply qsS | with_reducible apply qsA | with_reducible apply qsM | with_reducible apply qsN | with_reducible apply qsZ | with_reducible apply qsNumDen | with_reducible apply dlM | with_reducible apply dlA | with_reducible apply dlNum | with_reducible apply dlDen | with_reducible apply dlFl | (with_reducible apply dlS; decide)); all_goals decide) | omega | rfl
  · have hc : 0 < c := by rw [sg_pos] at hs; exact Decidable.not_not.1 hs
    have k2 : cmpQ (a * c) (b * c) = cmpQ a b := cmpQ_iff (ltQ_mul hc) (ltQ_mul hc)
    rcases tri with p1 | ⟨p1, p2⟩ | ⟨p1, p2, p3⟩
    · simp only [go_sem, List.reduceReplicate, ↓reduceIte, Nat.reduceEqDiff, Nat.reduceLT, Nat.reduceLeDiff, Nat.reduceAdd, Nat.reduceSub, Nat.reduceMul, Int.reduceToNat, Int.reduceNeg, Int.reduceAdd, Int.reduceSub, Int.reduceMul, Int.reduceLT, Int.reduceLE, Int.reduceMod, Int.reducePow, Nat.reducePow, Int.reduceDiv, Nat.reduceBEq, Nat.reduceBNe, Int.reduceBEq, Int.reduceBNe, reduceCtorEq, hA, hB, hC, k1, k2, k3, k4, k5, k6, int_self, p1, hs]
      and_intros
      all_goals first | assumption | exact dg_lim _ | ((first | with_reducible apply szQ | with_reducible apply szNum | with_reducible apply szDen | with_reducible apply szLN | with_reducible apply szLD | with_reducible apply dlT); (repeat' first | assumption | with_reducible apply qsD | with_reducible apply qsS | with_reducible apply qsA | with_reducible apply qsM | with_reducible apply qsN | with_reducible apply qsZ | with_reducible apply qsNumDen | with_reducible apply dlM | with_reducible apply dlA | with_reducible apply dlNum | with_reducible apply dlDen | with_reducible apply dlFl | (with_reducible apply dlS; decide)); all_goals decide) | omega | rfl
    · simp only [go_sem, List.reduceReplicate, ↓reduceIte, Nat.reduceEqDiff, Nat.reduceLT, Nat.reduceLeDiff, Nat.reduceAdd, Nat.reduceSub, Nat.reduceMul, Int.reduceToNat, Int.reduceNeg, Int.reduceAdd, Int.reduceSub, Int.reduceMul, Int.reduceLT, Int.reduceLE, Int.reduceMod, Int.reducePow, Nat.reducePow, Int.reduceDiv, Nat.reduceBEq, Nat.reduceBNe, Int.reduceBEq, Int.reduceBNe, reduceCtorEq, hA, hB, hC, k1, k2, k3, k4, k5, k6, int_self, p1, p2, hs]
      and_intros
      all_goals first | assumption | exact dg_lim _ | ((first | with_reducible apply szQ | with_reducible apply szNum | with_reducible apply szDen | with_reducible apply szLN | with_reducible apply szLD | with_reducible apply dlT); (repeat' first | assumption | with_reducible apply qsD | with_reducible apply qsS | with_reducible apply qsA | with_reducible apply qsM | with_reducible apply qsN | with_reducible apply qsZ | with_reducible apply qsNumDen | with_reducible apply dlM | with_reducible apply dlA | with_reducible apply dlNum | with_reducible apply dlDen | with_reducible apply dlFl | (with_reducible apply dlS; decide)); all_goals decide) | omega | rfl
    · simp only [go_sem, List.reduceReplicate, ↓reduceIte, Nat.reduceEqDiff, Nat.reduceLT, Nat.reduceLeDiff, Nat.reduceAdd, Nat.reduceSub, Nat.reduceMul, Int.reduceToNat, Int.reduceNeg, Int.reduceAdd, Int.reduceSub, Int.reduceMul, Int.reduceLT, Int.reduceLE, Int.reduceMod, Int.reducePow, Nat.reducePow, Int.reduceDiv, Nat.reduceBEq, Nat.reduceBNe, Int.reduceBEq, Int.reduceBNe, reduceCtorEq, hA, hB, hC, k1, k2, k3, k4, k5, k6, int_self, p1, p2, p3, hs]
      and_intros
      all_goals first | assumption | exact dg_lim _ | ((first | with_reducible apply szQ | with_reducible apply szNum | with_reducible apply szDen | with_reducible apply szLN | with_reducible apply szLD | with_reducible apply dlT); (repeat' first | assumption | with_reducible apply qsD | with_reducible apply qsS | with_reducible apply qsA | with_reducible apply qsM | with_reducible apply qsN | with_reducible apply qsZ | with_reducible apply qsNumDen | with_reducible apply dlM | with_reducible apply dlA | with_reducible apply dlNum | with_reducible apply dlDen | with_reducible apply dlFl | (with_reducible apply dlS; decide)); all_goals decide) | omega | rfl
end Go.Proofs.Ytilkleibnciloaa
