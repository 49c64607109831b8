/- Texts F3 in one. -/
import Derived.Test.YtilkleibnciloaaP44
/- Contracts: the reference of package rational; Valid. -/
namespace Go.Proofs.Ytilkleibnciloaa
set_option linter.unusedSimpArgs false
set_option linter.unusedVariables false
open Go.RowKit

set_option maxRecDepth 4000 in
theorem r2Of_V (n d : Int) (h1 : dl n.natAbs ≤ 1000000000) (h2 : dl d.natAbs ≤ 1000000000) : PCall Try.prog 29 [.I n, .I d] (ofR n d) := by
  refine PCall.of_vc (tabs mixed (tbl_cons rsign_C (tbl_cons (C := kRNeg) rneg_C (tbl_cons rgcd_C (tbl_cons rdm_C tbl_nil))))) Try.func29 rfl Try.ntmps29 Try.results29 (by simp) ?_
  unfold ofR
  by_cases hd : d = 0
  · have c0 : (sgI d == 0) = true := by rw [hd]; rfl
    rw [if_pos hd]
    unfold qErr
    simp only [go_sem, List.reduceReplicate, ↓reduceIte, Nat.reduceEqDiff, Nat.reduceLT, Nat.reduceLeDiff, Nat.reduceAdd, Nat.reduceSub, Nat.reduceMul, Int.reduceToNat, Int.reduceNeg, Int.reduceAdd, Int.reduceSub, Int.reduceMul, Int.reduceLT, Int.reduceLE, Int.reduceMod, Int.reducePow, Nat.reducePow, Int.reduceDiv, Nat.reduceBEq, Nat.reduceBNe, Int.reduceBEq, Int.reduceBNe, reduceCtorEq, c0]
    exact out_P (out_In rfl) (out_In rfl)
  · have c0 : (sgI d == 0) = false := beqF (fun h => hd (sgI_zero.1 h))
    rw [if_neg hd]
    unfold qOk
    obtain ⟨G, hG⟩ : ∃ G, G = Nat.gcd n.natAbs d.natAbs := ⟨_, rfl⟩
    have hG0 : 0 < G := by rw [hG]; exact Nat.gcd_pos_of_pos_right _ (by omega)
    have hGd : dl G ≤ 1000000000 := Nat.le_trans (dl_mono (by rw [hG]; exact Nat.gcd_le_right _ (by omega))) h2
    have hdm : ∀ x : Int, dmR x (G : Nat) = .tup [.I (x / (G : Nat)), .I (x % (G : Nat)), .raw (.int .i64 0)] := fun x => if_neg (by omega)
    by_cases hs : d < 0
    · have c1 : sgI d < 0 := by rw [show sgI d = -1 from cmpI_lt hs]; decide
      obtain ⟨p1, p2⟩ := low_pos (-n) (-d) (by omega)
      rw [low_neg, Int.natAbs_neg, Int.natAbs_neg, ← hG] at p1 p2
      simp only [go_sem, List.reduceReplicate, ↓reduceIte, Nat.reduceEqDiff, Nat.reduceLT, Nat.reduceLeDiff, Nat.reduceAdd, Nat.reduceSub, Nat.reduceMul, Int.reduceToNat, Int.reduceNeg, Int.reduceAdd, Int.reduceSub, Int.reduceMul, Int.reduceLT, Int.reduceLE, Int.reduceMod, Int.reducePow, Nat.reducePow, Int.reduceDiv, Nat.reduceBEq, Nat.reduceBNe, Int.reduceBEq, Int.reduceBNe, reduceCtorEq, c0, c1, Int.natAbs_neg, ← hG, hdm, Int.natAbs_natCast]
      and_intros <;> first | rfl | omega | exact out_Q (.refl _) (.refl _) p1.symm p2.symm
    · have c1 : ¬ sgI d < 0 := by rw [show sgI d = 1 from cmpI_gt (by omega)]; decide
      obtain ⟨p1, p2⟩ := low_pos n d (by omega)
      rw [← hG] at p1 p2
      simp only [go_sem, List.reduceReplicate, ↓reduceIte, Nat.reduceEqDiff, Nat.reduceLT, Nat.reduceLeDiff, Nat.reduceAdd, Nat.reduceSub, Nat.reduceMul, Int.reduceToNat, Int.reduceNeg, Int.reduceAdd, Int.reduceSub, Int.reduceMul, Int.reduceLT, Int.reduceLE, Int.reduceMod, Int.reducePow, Nat.reducePow, Int.reduceDiv, Nat.reduceBEq, Nat.reduceBNe, Int.reduceBEq, Int.reduceBNe, reduceCtorEq, c0, c1, ← hG, hdm, Int.natAbs_natCast]
      and_intros <;> first | rfl | omega | exact out_Q (.refl _) (.refl _) p1.symm p2.symm
theorem r2Of_C : Ctr Try.prog 29 kQOf := Ctr.c2 rfl fun n d h => r2Of_V n d h.1 h.2
theorem r2of_C : Ctr Try.prog 67 kLowest := Ctr.c2 rfl fun n d h => by
  refine PCall.of_vc (tabs mixed (tbl_cons r2Of_C tbl_nil)) Try.func67 rfl Try.ntmps67 Try.results67 (by simp) ?_
  obtain ⟨h0, h1, h2⟩ := h
  have r : ofR n d = .tup [.Q (Rat.divInt n d), .raw (.int .i64 0)] := if_neg h0
  simp only [go_sem, List.reduceReplicate, ↓reduceIte, Nat.reduceEqDiff, Nat.reduceLT, Nat.reduceLeDiff, Nat.reduceAdd, Nat.reduceSub, Nat.reduceMul, Int.reduceToNat, Int.reduceNeg, Int.reduceAdd, Int.reduceSub, Int.reduceMul, Int.reduceLT, Int.reduceLE, Int.reduceMod, Int.reducePow, Nat.reducePow, Int.reduceDiv, Nat.reduceBEq, Nat.reduceBNe, Int.reduceBEq, Int.reduceBNe, reduceCtorEq, r]
  exact ⟨h1, h2⟩
/-- What Made makes. -/
def mdQ (n d : Int) : Rat := Rat.divInt n (if d = 0 then 1 else d)
def kR2Made : Con := con2 (pN .i64) (pN .i64) fun n d => ((-9223372036854775808 ≤ n ∧ n ≤ 9223372036854775807) ∧ -9223372036854775808 ≤ d ∧ d ≤ 9223372036854775807, .Q (mdQ n d))
attribute [go_sem ↓, go_sem] kR2Made
theorem dl_i64 {n : Int} (h : -9223372036854775808 ≤ n ∧ n ≤ 9223372036854775807) : dl n.natAbs ≤ 2 := dl_le.2 (by
  have : (4294967296 : Nat) ^ 2 = 18446744073709551616 := by decide
  omega)
theorem r2Made_C : Ctr Try.prog 46 kR2Made := Ctr.c2 rfl fun n d h => by
  refine PCall.of_vc (tabs mixed (tbl_cons r2of_C (tbl_cons rof_C tbl_nil))) Try.func46 rfl Try.ntmps46 Try.results46 (by simp) ?_
  have e1 := dl_i64 h.1
  have e2 := dl_i64 h.2
  have h1 := h.1
  have h2 := h.2
  unfold mdQ
  by_cases hd : d = 0
  · have c0 : (d == 0) = true := beqT hd
    rw [if_pos hd]
    have l1 : dl (Int.natAbs 1) ≤ 1 := (dl_le (k := 1)).2 (by decide)
    simp only [go_sem, List.reduceReplicate, ↓reduceIte, Nat.reduceEqDiff, Nat.reduceLT, Nat.reduceLeDiff, Nat.reduceAdd, Nat.reduceSub, Nat.reduceMul, Int.reduceToNat, Int.reduceNeg, Int.reduceAdd, Int.reduceSub, Int.reduceMul, Int.reduceLT, Int.reduceLE, Int.reduceMod, Int.reducePow, Nat.reducePow, Int.reduceDiv, Nat.reduceBEq, Nat.reduceBNe, Int.reduceBEq, Int.reduceBNe, reduceCtorEq, c0]
    and_intros <;> first | omega | decide
  · have c0 : (d == 0) = false := beqF hd
    rw [if_neg hd]
    simp only [go_sem, List.reduceReplicate, ↓reduceIte, Nat.reduceEqDiff, Nat.reduceLT, Nat.reduceLeDiff, Nat.reduceAdd, Nat.reduceSub, Nat.reduceMul, Int.reduceToNat, Int.reduceNeg, Int.reduceAdd, Int.reduceSub, Int.reduceMul, Int.reduceLT, Int.reduceLE, Int.reduceMod, Int.reducePow, Nat.reducePow, Int.reduceDiv, Nat.reduceBEq, Nat.reduceBNe, Int.reduceBEq, Int.reduceBNe, reduceCtorEq, c0]
    and_intros <;> first | omega | decide
theorem r2Whole_C : Ctr Try.prog 38 kWhole := Ctr.c1 rfl fun n h => by
  refine PCall.of_vc (tabs mixed (tbl_cons rof_C tbl_nil)) Try.func38 rfl Try.ntmps38 Try.results38 (by simp) ?_
  simp only [go_sem, List.reduceReplicate, ↓reduceIte, Nat.reduceEqDiff, Nat.reduceLT, Nat.reduceLeDiff, Nat.reduceAdd, Nat.reduceSub, Nat.reduceMul, Int.reduceToNat, Int.reduceNeg, Int.reduceAdd, Int.reduceSub, Int.reduceMul, Int.reduceLT, Int.reduceLE, Int.reduceMod, Int.reducePow, Nat.reducePow, Int.reduceDiv, Nat.reduceBEq, Nat.reduceBNe, Int.reduceBEq, Int.reduceBNe, reduceCtorEq]
  exact ⟨h, out_Q (.refl _) (.refl _) rfl rfl⟩
theorem r2Sign_C : Ctr Try.prog 40 kQSign := Ctr.c1 rfl fun a h => by
  refine PCall.of_vc (tabs mixed (tbl_cons rsign_C tbl_nil)) Try.func40 rfl Try.ntmps40 Try.results40 (by simp) ?_
  simp only [go_sem, List.reduceReplicate, ↓reduceIte, Nat.reduceEqDiff, Nat.reduceLT, Nat.reduceLeDiff, Nat.reduceAdd, Nat.reduceSub, Nat.reduceMul, Int.reduceToNat, Int.reduceNeg, Int.reduceAdd, Int.reduceSub, Int.reduceMul, Int.reduceLT, Int.reduceLE, Int.reduceMod, Int.reducePow, Nat.reducePow, Int.reduceDiv, Nat.reduceBEq, Nat.reduceBNe, Int.reduceBEq, Int.reduceBNe, reduceCtorEq]
def kR2Neg : Con := con1 pQ fun a => (qs a ≤ 1000000000, .Q (-a))
attribute [go_sem ↓, go_sem] kR2Neg
theorem r2Neg_C : Ctr Try.prog 37 kR2Neg := Ctr.c1 rfl fun a h => by
  refine PCall.of_vc (tabs mixed (tbl_cons (C := kRNeg) rneg_C tbl_nil)) Try.func37 rfl Try.ntmps37 Try.results37 (by simp) ?_
  obtain ⟨a1, a2, a3⟩ := szs h
  simp only [go_sem, List.reduceReplicate, ↓reduceIte, Nat.reduceEqDiff, Nat.reduceLT, Nat.reduceLeDiff, Nat.reduceAdd, Nat.reduceSub, Nat.reduceMul, Int.reduceToNat, Int.reduceNeg, Int.reduceAdd, Int.reduceSub, Int.reduceMul, Int.reduceLT, Int.reduceLE, Int.reduceMod, Int.reducePow, Nat.reducePow, Int.reduceDiv, Nat.reduceBEq, Nat.reduceBNe, Int.reduceBEq, Int.reduceBNe, reduceCtorEq]
  and_intros <;> first | rfl | omega | exact out_Q (.refl _) (.refl _) rfl rfl
theorem r2Floor_C : Ctr Try.prog 42 kFloor := Ctr.c1 rfl fun a h => by
  refine PCall.of_vc (tabs mixed (tbl_cons rdm_C tbl_nil)) Try.func42 rfl Try.ntmps42 Try.results42 (by simp) ?_
  have hd : (a.den : Int) ≠ 0 := by have := a.den_pos; omega
  have r1 : dmR a.num a.den = .tup [.I (a.num / a.den), .I (a.num % a.den), .raw (.int .i64 0)] := if_neg hd
  have q1 := qs_num a
  have q2 := qs_den a
  simp only [go_sem, List.reduceReplicate, ↓reduceIte, Nat.reduceEqDiff, Nat.reduceLT, Nat.reduceLeDiff, Nat.reduceAdd, Nat.reduceSub, Nat.reduceMul, Int.reduceToNat, Int.reduceNeg, Int.reduceAdd, Int.reduceSub, Int.reduceMul, Int.reduceLT, Int.reduceLE, Int.reduceMod, Int.reducePow, Nat.reducePow, Int.reduceDiv, Nat.reduceBEq, Nat.reduceBNe, Int.reduceBEq, Int.reduceBNe, reduceCtorEq, r1, Int.natAbs_natCast]
  exact ⟨⟨Nat.le_trans q1 h, Nat.le_trans q2 h⟩, out_II (Rat.floor_def a).symm⟩
theorem r2Mul_C : Ctr Try.prog 35 kQMul := Ctr.c2 rfl fun a b h => by
  refine PCall.of_vc (tabs mixed (tbl_cons r2of_C (tbl_cons rmul_C tbl_nil))) Try.func35 rfl Try.ntmps35 Try.results35 (by simp) ?_
  obtain ⟨a1, a2, a3⟩ := szs h.1
  obtain ⟨b1, b2, b3⟩ := szs h.2
  have e1 := dl_mulI a.num b.num
  have e2 := dl_mulI a.den b.den
  have z := Int.mul_ne_zero a3 b3
  simp only [go_sem, List.reduceReplicate, ↓reduceIte, Nat.reduceEqDiff, Nat.reduceLT, Nat.reduceLeDiff, Nat.reduceAdd, Nat.reduceSub, Nat.reduceMul, Int.reduceToNat, Int.reduceNeg, Int.reduceAdd, Int.reduceSub, Int.reduceMul, Int.reduceLT, Int.reduceLE, Int.reduceMod, Int.reducePow, Nat.reducePow, Int.reduceDiv, Nat.reduceBEq, Nat.reduceBNe, Int.reduceBEq, Int.reduceBNe, reduceCtorEq, mul_dI]
  and_intros <;> first | rfl | assumption | omega
theorem r2Add_C : Ctr Try.prog 32 kQAdd := Ctr.c2 rfl fun a b h => by
  refine PCall.of_vc (tabs mixed (tbl_cons r2of_C (tbl_cons rmul_C (tbl_cons radd_C tbl_nil)))) Try.func32 rfl Try.ntmps32 Try.results32 (by simp) ?_
  obtain ⟨a1, a2, a3⟩ := szs h.1
  obtain ⟨b1, b2, b3⟩ := szs h.2
  have e1 := dl_mulI a.num b.den
  have e2 := dl_mulI b.num a.den
  have e3 := dl_mulI a.den b.den
  have e4 := dl_addI (a.num * b.den) (b.num * a.den)
  have z := Int.mul_ne_zero a3 b3
  simp only [go_sem, List.reduceReplicate, ↓reduceIte, Nat.reduceEqDiff, Nat.reduceLT, Nat.reduceLeDiff, Nat.reduceAdd, Nat.reduceSub, Nat.reduceMul, Int.reduceToNat, Int.reduceNeg, Int.reduceAdd, Int.reduceSub, Int.reduceMul, Int.reduceLT, Int.reduceLE, Int.reduceMod, Int.reducePow, Nat.reducePow, Int.reduceDiv, Nat.reduceBEq, Nat.reduceBNe, Int.reduceBEq, Int.reduceBNe, reduceCtorEq, add_dI]
  and_intros <;> first | rfl | assumption | omega
theorem r2Sub_C : Ctr Try.prog 34 kQSub := Ctr.c2 rfl fun a b h => by
  refine PCall.of_vc (tabs mixed (tbl_cons r2Add_C (tbl_cons r2Neg_C tbl_nil))) Try.func34 rfl Try.ntmps34 Try.results34 (by simp) ?_
  obtain ⟨h1, h2⟩ := h
  have e := Rat.sub_eq_add_neg a b
  simp only [go_sem, List.reduceReplicate, ↓reduceIte, Nat.reduceEqDiff, Nat.reduceLT, Nat.reduceLeDiff, Nat.reduceAdd, Nat.reduceSub, Nat.reduceMul, Int.reduceToNat, Int.reduceNeg, Int.reduceAdd, Int.reduceSub, Int.reduceMul, Int.reduceLT, Int.reduceLE, Int.reduceMod, Int.reducePow, Nat.reducePow, Int.reduceDiv, Nat.reduceBEq, Nat.reduceBNe, Int.reduceBEq, Int.reduceBNe, reduceCtorEq, ← e, qs_neg]
  and_intros <;> first | rfl | assumption | omega
theorem r2Div_C : Ctr Try.prog 31 kQDiv := Ctr.c2 rfl fun a b h => by
  show PCall _ _ _ (divR a b)
  refine PCall.of_vc (tabs mixed (tbl_cons rmul_C (tbl_cons r2Of_C tbl_nil))) Try.func31 rfl Try.ntmps31 Try.results31 (by simp) ?_
  obtain ⟨a1, a2, a3⟩ := szs h.1
  obtain ⟨b1, b2, b3⟩ := szs h.2
  have e1 := dl_mulI a.num b.den
  have e2 := dl_mulI a.den b.num
  have r := ofR_div a b
  by_cases hb : b = 0
  · have d1 : divR a b = .tup [.agg [.I 0, .I 0], .raw (.int .i64 3)] := if_pos hb
    rw [d1] at r ⊢
    simp only [go_sem, List.reduceReplicate, ↓reduceIte, Nat.reduceEqDiff, Nat.reduceLT, Nat.reduceLeDiff, Nat.reduceAdd, Nat.reduceSub, Nat.reduceMul, Int.reduceToNat, Int.reduceNeg, Int.reduceAdd, Int.reduceSub, Int.reduceMul, Int.reduceLT, Int.reduceLE, Int.reduceMod, Int.reducePow, Nat.reducePow, Int.reduceDiv, Nat.reduceBEq, Nat.reduceBNe, Int.reduceBEq, Int.reduceBNe, reduceCtorEq, r]
    and_intros <;> first | rfl | assumption | omega
  · have d1 : divR a b = .tup [.Q (a / b), .raw (.int .i64 0)] := if_neg hb
    rw [d1] at r ⊢
    simp only [go_sem, List.reduceReplicate, ↓reduceIte, Nat.reduceEqDiff, Nat.reduceLT, Nat.reduceLeDiff, Nat.reduceAdd, Nat.reduceSub, Nat.reduceMul, Int.reduceToNat, Int.reduceNeg, Int.reduceAdd, Int.reduceSub, Int.reduceMul, Int.reduceLT, Int.reduceLE, Int.reduceMod, Int.reducePow, Nat.reducePow, Int.reduceDiv, Nat.reduceBEq, Nat.reduceBNe, Int.reduceBEq, Int.reduceBNe, reduceCtorEq, r]
    and_intros <;> first | rfl | assumption | omega
theorem sg_sub (a b : Rat) : sgI (a - b).num = cmpQ a b := by
  unfold cmpQ
  rcases sg_cases (a - b).num with ⟨h, e⟩ | ⟨h, e⟩ | ⟨h, e⟩
  · rw [e, if_pos]
    have h1 : ¬ 0 ≤ a - b := fun h2 => by have := Rat.num_nonneg.2 h2; omega
    exact Rat.not_le.1 fun h2 => h1 ((Rat.le_iff_sub_nonneg b a).1 h2)
  · have h1 := Rat.num_eq_zero.1 h
    have h2 : a = b := by rw [← Rat.sub_add_cancel (a := a) (b := b), h1, Rat.zero_add]
    rw [e, h2, if_neg Rat.lt_irrefl, if_pos rfl]
  · have h1 : 0 ≤ a - b := Rat.num_nonneg.1 (by omega)
    have h2 : b ≤ a := (Rat.le_iff_sub_nonneg b a).2 h1
    rw [e, if_neg (Rat.not_lt.2 h2), if_neg]
    intro h3
    rw [h3, Rat.sub_self] at h
    exact absurd h (by decide)
theorem r2Cmp_C : Ctr Try.prog 39 kQCmp := Ctr.c2 rfl fun a b h => by
  refine PCall.of_vc (tabs mixed (tbl_cons r2Sub_C (tbl_cons r2Sign_C tbl_nil))) Try.func39 rfl Try.ntmps39 Try.results39 (by simp) ?_
  obtain ⟨h1, h2⟩ := h
  have e := sg_sub a b
  simp only [go_sem, List.reduceReplicate, ↓reduceIte, Nat.reduceEqDiff, Nat.reduceLT, Nat.reduceLeDiff, Nat.reduceAdd, Nat.reduceSub, Nat.reduceMul, Int.reduceToNat, Int.reduceNeg, Int.reduceAdd, Int.reduceSub, Int.reduceMul, Int.reduceLT, Int.reduceLE, Int.reduceMod, Int.reducePow, Nat.reducePow, Int.reduceDiv, Nat.reduceBEq, Nat.reduceBNe, Int.reduceBEq, Int.reduceBNe, reduceCtorEq, e]
  exact ⟨h1, h2⟩
def kR2Same : Con := con2 pP pP fun a b => ((dl a.1.natAbs ≤ 1000000000000 ∧ dl a.2.natAbs ≤ 1000000000000) ∧ dl b.1.natAbs ≤ 1000000000000 ∧ dl b.2.natAbs ≤ 1000000000000, .raw (.bool (decide (a = b))))
attribute [go_sem ↓, go_sem] kR2Same
theorem r2Same_C : Ctr Try.prog 17 kR2Same := Ctr.c2 rfl fun a b h => by
  obtain ⟨a1, a2⟩ := a
  obtain ⟨b1, b2⟩ := b
  obtain ⟨⟨h1, h2⟩, h3, h4⟩ := h
  refine PCall.of_vc (tabs mixed (tbl_cons same_C tbl_nil)) Try.func17 rfl Try.ntmps17 Try.results17 (by simp) ?_
  by_cases e1 : a1 = b1
  · have c1 : decide (a1 = b1) = true := decide_eq_true e1
    have c2 : decide ((a1, a2) = (b1, b2)) = decide (a2 = b2) := by rw [e1]; simp
    simp only [go_sem, List.reduceReplicate, ↓reduceIte, Nat.reduceEqDiff, Nat.reduceLT, Nat.reduceLeDiff, Nat.reduceAdd, Nat.reduceSub, Nat.reduceMul, Int.reduceToNat, Int.reduceNeg, Int.reduceAdd, Int.reduceSub, Int.reduceMul, Int.reduceLT, Int.reduceLE, Int.reduceMod, Int.reducePow, Nat.reducePow, Int.reduceDiv, Nat.reduceBEq, Nat.reduceBNe, Int.reduceBEq, Int.reduceBNe, reduceCtorEq, c1, c2]
    exact ⟨⟨h1, h3⟩, h2, h4⟩
  · have c1 : decide (a1 = b1) = false := decide_eq_false e1
    have c2 : decide ((a1, a2) = (b1, b2)) = false := decide_eq_false fun h => e1 (by injection h)
    simp only [go_sem, List.reduceReplicate, ↓reduceIte, Nat.reduceEqDiff, Nat.reduceLT, Nat.reduceLeDiff, Nat.reduceAdd, Nat.reduceSub, Nat.reduceMul, Int.reduceToNat, Int.reduceNeg, Int.reduceAdd, Int.reduceSub, Int.reduceMul, Int.reduceLT, Int.reduceLE, Int.reduceMod, Int.reducePow, Nat.reducePow, Int.reduceDiv, Nat.reduceBEq, Nat.reduceBNe, Int.reduceBEq, Int.reduceBNe, reduceCtorEq, c1, c2]
    exact ⟨h1, h3⟩
end Go.Proofs.Ytilkleibnciloaa
