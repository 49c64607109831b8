/- Contracts of the reference: Made, Of, Valid, less, Same, Sign. -/
import Derived.Test.YtbnhnmpgbpejaaaD6
namespace Go.Proofs.Ytbnhnmpgbpejaaa
set_option linter.unusedSimpArgs false
set_option linter.unusedVariables false
open Go.RowKit

theorem rmade_V (l : List Nat) (neg : Bool) (hl : Lim l) (hm : l.length ≤ 1000000000000) : PCall Try.prog 21 [.lst (V.limbs l), .raw (.bool neg)] (.I (sv neg l)) := by
  refine PCall.of_vc (tabs mixed tbl_nil) Try.func21 rfl Try.ntmps21 Try.results21 (by simp) ?_
  simp only [go_sem, List.reduceReplicate, false_implies, true_implies, true_and, and_true, implies_true, Nat.sub_zero, Int.cast_ofNat_Int, ↓reduceIte, Nat.reduceEqDiff, Nat.reduceLT, Nat.reduceLeDiff, Nat.reduceAdd, Nat.reduceSub, Nat.reduceMul, Int.reduceToNat, Int.reduceNeg, Int.reduceAdd, Int.reduceSub, Int.reduceMul, Int.reduceLT, Int.reduceLE, Int.reduceMod, Int.reducePow, Nat.reducePow, Int.reduceDiv, Nat.reduceBEq, Nat.reduceBNe, Int.reduceBEq, Int.reduceBNe, decide_true, decide_false, reduceCtorEq, Nat.add_zero, Nat.zero_add, Nat.zero_mul, Nat.one_mul, Nat.mul_one, Nat.lt_add_one, Nat.le_refl, Nat.zero_le, Nat.one_ne_zero, Nat.succ_ne_zero, Nat.zero_ne_one, Nat.add_one_ne_zero, Nat.ne_add_one]
  refine AWp.loops (X := { k : Nat // k ≤ l.length ∧ nlen l k = nlen l l.length }) (fun k => mkSt [(0, .lst (V.limbs l)), (1, .raw (.bool neg)), (4, .ptr 0 2 0 0), (5, .raw (.int .i64 (k.1 : Nat)))] [(0, true, ⟨28, 2, [.agg [.raw (.bool false), .raw (.slice none 0 0)]]⟩)] 1 31) (fun k => k.1) ⟨l.length, Nat.le_refl _, rfl⟩ (Wk.of [0] (by decide) ?_) ?_
  · simp only [go_sem, List.reduceReplicate, false_implies, true_implies, true_and, and_true, implies_true, Nat.sub_zero, Int.cast_ofNat_Int, ↓reduceIte, Nat.reduceEqDiff, Nat.reduceLT, Nat.reduceLeDiff, Nat.reduceAdd, Nat.reduceSub, Nat.reduceMul, Int.reduceToNat, Int.reduceNeg, Int.reduceAdd, Int.reduceSub, Int.reduceMul, Int.reduceLT, Int.reduceLE, Int.reduceMod, Int.reducePow, Nat.reducePow, Int.reduceDiv, Nat.reduceBEq, Nat.reduceBNe, Int.reduceBEq, Int.reduceBNe, decide_true, decide_false, reduceCtorEq, Nat.add_zero, Nat.zero_add, Nat.zero_mul, Nat.one_mul, Nat.mul_one, Nat.lt_add_one, Nat.le_refl, Nat.zero_le, Nat.one_ne_zero, Nat.succ_ne_zero, Nat.zero_ne_one, Nat.add_one_ne_zero, Nat.ne_add_one]
  · rintro ⟨k, hk, hv⟩
    refine vc_at (tabs mixed tbl_nil) ?_
    have hcan := nlen_take_canon hl l.length (Nat.le_refl _)
    rw [List.take_length] at hcan
    have hmx : maxLen = 9223372036854775807 := by decide
    rcases k with _ | k
    · have hz : lv l = 0 := by rw [← hcan.2, ← hv]; rfl
      have e : sv neg l = 0 := by cases neg <;> simp [sv, hz]
      cases neg <;> simp only [go_sem, List.reduceReplicate, false_implies, true_implies, true_and, and_true, implies_true, Nat.sub_zero, Int.cast_ofNat_Int, ↓reduceIte, Nat.reduceEqDiff, Nat.reduceLT, Nat.reduceLeDiff, Nat.reduceAdd, Nat.reduceSub, Nat.reduceMul, Int.reduceToNat, Int.reduceNeg, Int.reduceAdd, Int.reduceSub, Int.reduceMul, Int.reduceLT, Int.reduceLE, Int.reduceMod, Int.reducePow, Nat.reducePow, Int.reduceDiv, Nat.reduceBEq, Nat.reduceBNe, Int.reduceBEq, Int.reduceBNe, decide_true, decide_false, reduceCtorEq, Nat.add_zero, Nat.zero_add, Nat.zero_mul, Nat.one_mul, Nat.mul_one, Nat.lt_add_one, Nat.le_refl, Nat.zero_le, Nat.one_ne_zero, Nat.succ_ne_zero, Nat.zero_ne_one, Nat.add_one_ne_zero, Nat.ne_add_one, e, hmx] <;> exact ⟨by omega, out_I (l := []) Canon.nil (by simp) rfl⟩
    · have e1 : ((k + 1 : Nat) : Int) - 1 = k := by omega
      have e2 : 0 < ((k + 1 : Nat) : Int) := by omega
      by_cases hz : at0 l k = 0
      · have e3 : (((at0 l k : Nat) : Int) == 0) = true := by simp [hz]
        simp only [go_sem, List.reduceReplicate, false_implies, true_implies, true_and, and_true, implies_true, Nat.sub_zero, Int.cast_ofNat_Int, ↓reduceIte, Nat.reduceEqDiff, Nat.reduceLT, Nat.reduceLeDiff, Nat.reduceAdd, Nat.reduceSub, Nat.reduceMul, Int.reduceToNat, Int.reduceNeg, Int.reduceAdd, Int.reduceSub, Int.reduceMul, Int.reduceLT, Int.reduceLE, Int.reduceMod, Int.reducePow, Nat.reducePow, Int.reduceDiv, Nat.reduceBEq, Nat.reduceBNe, Int.reduceBEq, Int.reduceBNe, decide_true, decide_false, reduceCtorEq, Nat.add_zero, Nat.zero_add, Nat.zero_mul, Nat.one_mul, Nat.mul_one, Nat.lt_add_one, Nat.le_refl, Nat.zero_le, Nat.one_ne_zero, Nat.succ_ne_zero, Nat.zero_ne_one, Nat.add_one_ne_zero, Nat.ne_add_one, e1, e2, e3]
        and_intros
        any_goals omega
        refine ⟨⟨k, by omega, by rw [← hv, nlen_succ_zero hz]⟩, Wk.of [0] (by decide) ?_, Nat.lt_succ_self k⟩
        simp only [go_sem, List.reduceReplicate, false_implies, true_implies, true_and, and_true, implies_true, Nat.sub_zero, Int.cast_ofNat_Int, ↓reduceIte, Nat.reduceEqDiff, Nat.reduceLT, Nat.reduceLeDiff, Nat.reduceAdd, Nat.reduceSub, Nat.reduceMul, Int.reduceToNat, Int.reduceNeg, Int.reduceAdd, Int.reduceSub, Int.reduceMul, Int.reduceLT, Int.reduceLE, Int.reduceMod, Int.reducePow, Nat.reducePow, Int.reduceDiv, Nat.reduceBEq, Nat.reduceBNe, Int.reduceBEq, Int.reduceBNe, decide_true, decide_false, reduceCtorEq, Nat.add_zero, Nat.zero_add, Nat.zero_mul, Nat.one_mul, Nat.mul_one, Nat.lt_add_one, Nat.le_refl, Nat.zero_le, Nat.one_ne_zero, Nat.succ_ne_zero, Nat.zero_ne_one, Nat.add_one_ne_zero, Nat.ne_add_one]
      · have e3 : (((at0 l k : Nat) : Int) == 0) = false := by simp; omega
        have hn : nlen l l.length = k + 1 := by rw [← hv, nlen_succ_pos hz]
        rw [hn] at hcan
        have hn0 : l.take (k + 1) ≠ [] := by intro h; have := congrArg List.length h; simp only [List.length_take, List.length_nil] at this; omega
        have e5 : (l.take (k + 1)).take (min (k + 1) l.length) = l.take (k + 1) := List.take_of_length_le (by rw [List.length_take]; omega)
        cases neg <;> simp only [go_sem, List.reduceReplicate, false_implies, true_implies, true_and, and_true, implies_true, Nat.sub_zero, Int.cast_ofNat_Int, ↓reduceIte, Nat.reduceEqDiff, Nat.reduceLT, Nat.reduceLeDiff, Nat.reduceAdd, Nat.reduceSub, Nat.reduceMul, Int.reduceToNat, Int.reduceNeg, Int.reduceAdd, Int.reduceSub, Int.reduceMul, Int.reduceLT, Int.reduceLE, Int.reduceMod, Int.reducePow, Nat.reducePow, Int.reduceDiv, Nat.reduceBEq, Nat.reduceBNe, Int.reduceBEq, Int.reduceBNe, decide_true, decide_false, reduceCtorEq, Nat.add_zero, Nat.zero_add, Nat.zero_mul, Nat.one_mul, Nat.mul_one, Nat.lt_add_one, Nat.le_refl, Nat.zero_le, Nat.one_ne_zero, Nat.succ_ne_zero, Nat.zero_ne_one, Nat.add_one_ne_zero, Nat.ne_add_one, e1, e2, e3, hmx, e5] <;> refine ⟨by omega, by omega, by omega, by omega, by omega, out_I hcan.1 (fun _ => hn0) (by simp [sv, hcan.2])⟩
def kRMade : Con := con2 pL pB fun l neg => (Lim l ∧ l.length ≤ 1000000000000, .I (sv neg l))
attribute [go_sem ↓, go_sem] kRMade
theorem rmade_C : Ctr Try.prog 21 kRMade := Ctr.c2 rfl fun l neg h => rmade_V l neg h.1 h.2
theorem rsign_C : Ctr Try.prog 17 kSign := Ctr.c1 rfl fun z h => by
  obtain ⟨s, l, hz, hl, hs, e1, e2, e3⟩ := sv_open z
  refine PCall.of_vc (tabs mixed tbl_nil) Try.func17 rfl Try.ntmps17 Try.results17 (by simp) ?_
  have hg : sgI z = if l = [] then 0 else if s = true then -1 else 1 := by rw [hz]; exact sgI_sv hl hs
  rcases l with _ | ⟨x, l⟩
  · have e4 : (((List.length ([] : List Nat) : Nat) : Int) == 0) = true := rfl
    rw [if_pos rfl] at hg
    simp only [go_sem, List.reduceReplicate, false_implies, true_implies, true_and, and_true, implies_true, Nat.sub_zero, Int.cast_ofNat_Int, ↓reduceIte, Nat.reduceEqDiff, Nat.reduceLT, Nat.reduceLeDiff, Nat.reduceAdd, Nat.reduceSub, Nat.reduceMul, Int.reduceToNat, Int.reduceNeg, Int.reduceAdd, Int.reduceSub, Int.reduceMul, Int.reduceLT, Int.reduceLE, Int.reduceMod, Int.reducePow, Nat.reducePow, Int.reduceDiv, Nat.reduceBEq, Nat.reduceBNe, Int.reduceBEq, Int.reduceBNe, decide_true, decide_false, reduceCtorEq, Nat.add_zero, Nat.zero_add, Nat.zero_mul, Nat.one_mul, Nat.mul_one, Nat.lt_add_one, Nat.le_refl, Nat.zero_le, Nat.one_ne_zero, Nat.succ_ne_zero, Nat.zero_ne_one, Nat.add_one_ne_zero, Nat.ne_add_one, e1, e2, e4, hg]
  · have e4 : (((List.length (x :: l) : Nat) : Int) == 0) = false := by simp; omega
    rw [if_neg (by simp)] at hg
    cases s
    · rw [if_neg (by simp)] at hg
      simp only [go_sem] at e4
      simp only [go_sem, List.reduceReplicate, false_implies, true_implies, true_and, and_true, implies_true, Nat.sub_zero, Int.cast_ofNat_Int, ↓reduceIte, Nat.reduceEqDiff, Nat.reduceLT, Nat.reduceLeDiff, Nat.reduceAdd, Nat.reduceSub, Nat.reduceMul, Int.reduceToNat, Int.reduceNeg, Int.reduceAdd, Int.reduceSub, Int.reduceMul, Int.reduceLT, Int.reduceLE, Int.reduceMod, Int.reducePow, Nat.reducePow, Int.reduceDiv, Nat.reduceBEq, Nat.reduceBNe, Int.reduceBEq, Int.reduceBNe, decide_true, decide_false, reduceCtorEq, Nat.add_zero, Nat.zero_add, Nat.zero_mul, Nat.one_mul, Nat.mul_one, Nat.lt_add_one, Nat.le_refl, Nat.zero_le, Nat.one_ne_zero, Nat.succ_ne_zero, Nat.zero_ne_one, Nat.add_one_ne_zero, Nat.ne_add_one, e1, e2, e4, hg]
    · rw [if_pos rfl] at hg
      simp only [go_sem] at e4
      simp only [go_sem, List.reduceReplicate, false_implies, true_implies, true_and, and_true, implies_true, Nat.sub_zero, Int.cast_ofNat_Int, ↓reduceIte, Nat.reduceEqDiff, Nat.reduceLT, Nat.reduceLeDiff, Nat.reduceAdd, Nat.reduceSub, Nat.reduceMul, Int.reduceToNat, Int.reduceNeg, Int.reduceAdd, Int.reduceSub, Int.reduceMul, Int.reduceLT, Int.reduceLE, Int.reduceMod, Int.reducePow, Nat.reducePow, Int.reduceDiv, Nat.reduceBEq, Nat.reduceBNe, Int.reduceBEq, Int.reduceBNe, decide_true, decide_false, reduceCtorEq, Nat.add_zero, Nat.zero_add, Nat.zero_mul, Nat.one_mul, Nat.mul_one, Nat.lt_add_one, Nat.le_refl, Nat.zero_le, Nat.one_ne_zero, Nat.succ_ne_zero, Nat.zero_ne_one, Nat.add_one_ne_zero, Nat.ne_add_one, e1, e2, e4, hg]
theorem less_V (l m : List Nat) (hl : Canon l) (hm : Canon m) (h1 : l.length ≤ 1000000000000) (h2 : m.length ≤ 1000000000000) :
    PCall Try.prog 46 [.lst (V.limbs l), .lst (V.limbs m)] (.raw (.bool (decide (lv l < lv m)))) := by
  refine PCall.of_vc (tabs mixed tbl_nil) Try.func46 rfl Try.ntmps46 Try.results46 (by simp) ?_
  by_cases h : l.length = m.length
  · have e0 : ((l.length : Int) != (m.length : Int)) = false := by simp [h]
    simp only [go_sem, List.reduceReplicate, false_implies, true_implies, true_and, and_true, implies_true, Nat.sub_zero, Int.cast_ofNat_Int, ↓reduceIte, Nat.reduceEqDiff, Nat.reduceLT, Nat.reduceLeDiff, Nat.reduceAdd, Nat.reduceSub, Nat.reduceMul, Int.reduceToNat, Int.reduceNeg, Int.reduceAdd, Int.reduceSub, Int.reduceMul, Int.reduceLT, Int.reduceLE, Int.reduceMod, Int.reducePow, Nat.reducePow, Int.reduceDiv, Nat.reduceBEq, Nat.reduceBNe, Int.reduceBEq, Int.reduceBNe, decide_true, decide_false, reduceCtorEq, Nat.add_zero, Nat.zero_add, Nat.zero_mul, Nat.one_mul, Nat.mul_one, Nat.lt_add_one, Nat.le_refl, Nat.zero_le, Nat.one_ne_zero, Nat.succ_ne_zero, Nat.zero_ne_one, Nat.add_one_ne_zero, Nat.ne_add_one, e0]
    refine ⟨by omega, ?_⟩
    refine AWp.loops (X := { k : Nat // k ≤ l.length ∧ ∀ j, k ≤ j → at0 l j = at0 m j }) (fun k => mkSt [(0, .lst (V.limbs l)), (1, .lst (V.limbs m)), (5, .raw (.int .i64 ((k.1 : Nat) - 1)))] [] 0 41) (fun k => k.1) ⟨l.length, Nat.le_refl _, fun j hj => by rw [at0_beyond hj, at0_beyond (by omega)]⟩ (Wk.of [] (by decide) ?_) ?_
    · simp only [go_sem, List.reduceReplicate, false_implies, true_implies, true_and, and_true, implies_true, Nat.sub_zero, Int.cast_ofNat_Int, ↓reduceIte, Nat.reduceEqDiff, Nat.reduceLT, Nat.reduceLeDiff, Nat.reduceAdd, Nat.reduceSub, Nat.reduceMul, Int.reduceToNat, Int.reduceNeg, Int.reduceAdd, Int.reduceSub, Int.reduceMul, Int.reduceLT, Int.reduceLE, Int.reduceMod, Int.reducePow, Nat.reducePow, Int.reduceDiv, Nat.reduceBEq, Nat.reduceBNe, Int.reduceBEq, Int.reduceBNe, decide_true, decide_false, reduceCtorEq, Nat.add_zero, Nat.zero_add, Nat.zero_mul, Nat.one_mul, Nat.mul_one, Nat.lt_add_one, Nat.le_refl, Nat.zero_le, Nat.one_ne_zero, Nat.succ_ne_zero, Nat.zero_ne_one, Nat.add_one_ne_zero, Nat.ne_add_one]
    · rintro ⟨k, hk, hv⟩
      refine vc_at (tabs mixed tbl_nil) ?_
      rcases k with _ | k
      · have e : lv l = lv m := by rw [eq_of_at0 h fun j => hv j (Nat.zero_le j)]
        have e' : decide (lv l < lv m) = false := by simp; omega
        simp only [go_sem, List.reduceReplicate, false_implies, true_implies, true_and, and_true, implies_true, Nat.sub_zero, Int.cast_ofNat_Int, ↓reduceIte, Nat.reduceEqDiff, Nat.reduceLT, Nat.reduceLeDiff, Nat.reduceAdd, Nat.reduceSub, Nat.reduceMul, Int.reduceToNat, Int.reduceNeg, Int.reduceAdd, Int.reduceSub, Int.reduceMul, Int.reduceLT, Int.reduceLE, Int.reduceMod, Int.reducePow, Nat.reducePow, Int.reduceDiv, Nat.reduceBEq, Nat.reduceBNe, Int.reduceBEq, Int.reduceBNe, decide_true, decide_false, reduceCtorEq, Nat.add_zero, Nat.zero_add, Nat.zero_mul, Nat.one_mul, Nat.mul_one, Nat.lt_add_one, Nat.le_refl, Nat.zero_le, Nat.one_ne_zero, Nat.succ_ne_zero, Nat.zero_ne_one, Nat.add_one_ne_zero, Nat.ne_add_one, e']
      · have e1 : ((k + 1 : Nat) : Int) - 1 = k := by omega
        have e2 : (0 : Int) ≤ k := by omega
        rcases Nat.lt_trichotomy (at0 l k) (at0 m k) with g | g | g
        · have := lv_lt_of_top hl.1 hm.1 _ rfl h.symm k (by omega) g fun j hj => hv j hj
          have g1 : (((at0 l k : Nat) : Int) != at0 m k) = true := by simp; omega
          have g2 : ((at0 l k : Nat) : Int) < at0 m k := by omega
          have e' : decide (lv l < lv m) = true := by simp; omega
          simp only [go_sem, List.reduceReplicate, false_implies, true_implies, true_and, and_true, implies_true, Nat.sub_zero, Int.cast_ofNat_Int, ↓reduceIte, Nat.reduceEqDiff, Nat.reduceLT, Nat.reduceLeDiff, Nat.reduceAdd, Nat.reduceSub, Nat.reduceMul, Int.reduceToNat, Int.reduceNeg, Int.reduceAdd, Int.reduceSub, Int.reduceMul, Int.reduceLT, Int.reduceLE, Int.reduceMod, Int.reducePow, Nat.reducePow, Int.reduceDiv, Nat.reduceBEq, Nat.reduceBNe, Int.reduceBEq, Int.reduceBNe, decide_true, decide_false, reduceCtorEq, Nat.add_zero, Nat.zero_add, Nat.zero_mul, Nat.one_mul, Nat.mul_one, Nat.lt_add_one, Nat.le_refl, Nat.zero_le, Nat.one_ne_zero, Nat.succ_ne_zero, Nat.zero_ne_one, Nat.add_one_ne_zero, Nat.ne_add_one, e1, e2, g1, g2, e']
          and_intros
          all_goals first | omega | rfl | exact .refl _
        · have g1 : (((at0 l k : Nat) : Int) != at0 m k) = false := by simp; omega
          simp only [go_sem, List.reduceReplicate, false_implies, true_implies, true_and, and_true, implies_true, Nat.sub_zero, Int.cast_ofNat_Int, ↓reduceIte, Nat.reduceEqDiff, Nat.reduceLT, Nat.reduceLeDiff, Nat.reduceAdd, Nat.reduceSub, Nat.reduceMul, Int.reduceToNat, Int.reduceNeg, Int.reduceAdd, Int.reduceSub, Int.reduceMul, Int.reduceLT, Int.reduceLE, Int.reduceMod, Int.reducePow, Nat.reducePow, Int.reduceDiv, Nat.reduceBEq, Nat.reduceBNe, Int.reduceBEq, Int.reduceBNe, decide_true, decide_false, reduceCtorEq, Nat.add_zero, Nat.zero_add, Nat.zero_mul, Nat.one_mul, Nat.mul_one, Nat.lt_add_one, Nat.le_refl, Nat.zero_le, Nat.one_ne_zero, Nat.succ_ne_zero, Nat.zero_ne_one, Nat.add_one_ne_zero, Nat.ne_add_one, e1, e2, g1]
          and_intros
          any_goals first | omega | rfl
          refine ⟨⟨k, by omega, fun j hj => ?_⟩, Wk.of [] (by decide) ?_, Nat.lt_succ_self k⟩
          · by_cases e : j = k
            · subst e; exact g
            · exact hv j (by omega)
          · simp only [go_sem, List.reduceReplicate, false_implies, true_implies, true_and, and_true, implies_true, Nat.sub_zero, Int.cast_ofNat_Int, ↓reduceIte, Nat.reduceEqDiff, Nat.reduceLT, Nat.reduceLeDiff, Nat.reduceAdd, Nat.reduceSub, Nat.reduceMul, Int.reduceToNat, Int.reduceNeg, Int.reduceAdd, Int.reduceSub, Int.reduceMul, Int.reduceLT, Int.reduceLE, Int.reduceMod, Int.reducePow, Nat.reducePow, Int.reduceDiv, Nat.reduceBEq, Nat.reduceBNe, Int.reduceBEq, Int.reduceBNe, decide_true, decide_false, reduceCtorEq, Nat.add_zero, Nat.zero_add, Nat.zero_mul, Nat.one_mul, Nat.mul_one, Nat.lt_add_one, Nat.le_refl, Nat.zero_le, Nat.one_ne_zero, Nat.succ_ne_zero, Nat.zero_ne_one, Nat.add_one_ne_zero, Nat.ne_add_one]
        · have := lv_lt_of_top hm.1 hl.1 _ rfl h k (by omega) g fun j hj => (hv j hj).symm
          have g1 : (((at0 l k : Nat) : Int) != at0 m k) = true := by simp; omega
          have g2 : ¬ ((at0 l k : Nat) : Int) < at0 m k := by omega
          have e' : decide (lv l < lv m) = false := by simp; omega
          simp only [go_sem, List.reduceReplicate, false_implies, true_implies, true_and, and_true, implies_true, Nat.sub_zero, Int.cast_ofNat_Int, ↓reduceIte, Nat.reduceEqDiff, Nat.reduceLT, Nat.reduceLeDiff, Nat.reduceAdd, Nat.reduceSub, Nat.reduceMul, Int.reduceToNat, Int.reduceNeg, Int.reduceAdd, Int.reduceSub, Int.reduceMul, Int.reduceLT, Int.reduceLE, Int.reduceMod, Int.reducePow, Nat.reducePow, Int.reduceDiv, Nat.reduceBEq, Nat.reduceBNe, Int.reduceBEq, Int.reduceBNe, decide_true, decide_false, reduceCtorEq, Nat.add_zero, Nat.zero_add, Nat.zero_mul, Nat.one_mul, Nat.mul_one, Nat.lt_add_one, Nat.le_refl, Nat.zero_le, Nat.one_ne_zero, Nat.succ_ne_zero, Nat.zero_ne_one, Nat.add_one_ne_zero, Nat.ne_add_one, e1, e2, g1, g2, e']
          and_intros
          all_goals first | omega | rfl | exact .refl _
  · have e0 : ((l.length : Int) != (m.length : Int)) = true := by simp; omega
    rcases Nat.lt_or_ge l.length m.length with g | g
    · have := lv_lt_of_len hl.1 hm g
      have e' : decide (lv l < lv m) = true := by simp; omega
      have g2 : (l.length : Int) < (m.length : Nat) := by omega
      simp only [go_sem, List.reduceReplicate, false_implies, true_implies, true_and, and_true, implies_true, Nat.sub_zero, Int.cast_ofNat_Int, ↓reduceIte, Nat.reduceEqDiff, Nat.reduceLT, Nat.reduceLeDiff, Nat.reduceAdd, Nat.reduceSub, Nat.reduceMul, Int.reduceToNat, Int.reduceNeg, Int.reduceAdd, Int.reduceSub, Int.reduceMul, Int.reduceLT, Int.reduceLE, Int.reduceMod, Int.reducePow, Nat.reducePow, Int.reduceDiv, Nat.reduceBEq, Nat.reduceBNe, Int.reduceBEq, Int.reduceBNe, decide_true, decide_false, reduceCtorEq, Nat.add_zero, Nat.zero_add, Nat.zero_mul, Nat.one_mul, Nat.mul_one, Nat.lt_add_one, Nat.le_refl, Nat.zero_le, Nat.one_ne_zero, Nat.succ_ne_zero, Nat.zero_ne_one, Nat.add_one_ne_zero, Nat.ne_add_one, e0, e', g2]
    · have := lv_lt_of_len hm.1 hl (by omega)
      have e' : decide (lv l < lv m) = false := by simp; omega
      have g2 : ¬ (l.length : Int) < (m.length : Nat) := by omega
      simp only [go_sem, List.reduceReplicate, false_implies, true_implies, true_and, and_true, implies_true, Nat.sub_zero, Int.cast_ofNat_Int, ↓reduceIte, Nat.reduceEqDiff, Nat.reduceLT, Nat.reduceLeDiff, Nat.reduceAdd, Nat.reduceSub, Nat.reduceMul, Int.reduceToNat, Int.reduceNeg, Int.reduceAdd, Int.reduceSub, Int.reduceMul, Int.reduceLT, Int.reduceLE, Int.reduceMod, Int.reducePow, Nat.reducePow, Int.reduceDiv, Nat.reduceBEq, Nat.reduceBNe, Int.reduceBEq, Int.reduceBNe, decide_true, decide_false, reduceCtorEq, Nat.add_zero, Nat.zero_add, Nat.zero_mul, Nat.one_mul, Nat.mul_one, Nat.lt_add_one, Nat.le_refl, Nat.zero_le, Nat.one_ne_zero, Nat.succ_ne_zero, Nat.zero_ne_one, Nat.add_one_ne_zero, Nat.ne_add_one, e0, e', g2]
def kLess : Con := con2 pL pL fun l m => ((Canon l ∧ Canon m) ∧ l.length ≤ 1000000000000 ∧ m.length ≤ 1000000000000, .raw (.bool (decide (lv l < lv m))))
attribute [go_sem ↓, go_sem] kLess
theorem less_C : Ctr Try.prog 46 kLess := Ctr.c2 rfl fun l m h => less_V l m h.1.1 h.1.2 h.2.1 h.2.2
def kSame : Con := con2 pI pI fun x y => (dl x.natAbs ≤ 1000000000000 ∧ dl y.natAbs ≤ 1000000000000, .raw (.bool (decide (x = y))))
attribute [go_sem ↓, go_sem] kSame
theorem same_C : Ctr Try.prog 18 kSame := Ctr.c2 rfl fun x y h => by
  obtain ⟨h1, h2⟩ := h
  obtain ⟨s, l, hz, hl, hs, e1, e2, e3⟩ := sv_open x
  obtain ⟨t, m, hz', hm, ht, f1, f2, f3⟩ := sv_open y
  refine PCall.of_vc (tabs mixed (tbl_cons less_C tbl_nil)) Try.func18 rfl Try.ntmps18 Try.results18 (by simp) ?_
  have hinj := sv_inj hl hm hs ht
  rw [← hz, ← hz'] at hinj
  rcases Nat.lt_trichotomy (lv l) (lv m) with g | g | g
  · have d1 : decide (lv l < lv m) = true := by simp; omega
    have d3 : decide (x = y) = false := by rw [decide_eq_false]; rw [hinj]; omega
    cases s <;> cases t <;> simp only [go_sem, List.reduceReplicate, false_implies, true_implies, true_and, and_true, implies_true, Nat.sub_zero, Int.cast_ofNat_Int, ↓reduceIte, Nat.reduceEqDiff, Nat.reduceLT, Nat.reduceLeDiff, Nat.reduceAdd, Nat.reduceSub, Nat.reduceMul, Int.reduceToNat, Int.reduceNeg, Int.reduceAdd, Int.reduceSub, Int.reduceMul, Int.reduceLT, Int.reduceLE, Int.reduceMod, Int.reducePow, Nat.reducePow, Int.reduceDiv, Nat.reduceBEq, Nat.reduceBNe, Int.reduceBEq, Int.reduceBNe, decide_true, decide_false, reduceCtorEq, Nat.add_zero, Nat.zero_add, Nat.zero_mul, Nat.one_mul, Nat.mul_one, Nat.lt_add_one, Nat.le_refl, Nat.zero_le, Nat.one_ne_zero, Nat.succ_ne_zero, Nat.zero_ne_one, Nat.add_one_ne_zero, Nat.ne_add_one, e1, e2, f1, f2, d1, d3] <;> (and_intros <;> first | rfl | assumption | omega | exact hl.1 | exact hl.2 | exact hm.1 | exact hm.2)
  · have d1 : decide (lv l < lv m) = false := by simp; omega
    have d2 : decide (lv m < lv l) = false := by simp; omega
    have d3 : decide (x = y) = (s == t) := by
      by_cases q : s = t
      · rw [decide_eq_true (hinj.2 ⟨q, g⟩), q]; simp
      · rw [decide_eq_false fun e => q (hinj.1 e).1]; simp [q]
    cases s <;> cases t <;> simp only [go_sem, List.reduceReplicate, false_implies, true_implies, true_and, and_true, implies_true, Nat.sub_zero, Int.cast_ofNat_Int, ↓reduceIte, Nat.reduceEqDiff, Nat.reduceLT, Nat.reduceLeDiff, Nat.reduceAdd, Nat.reduceSub, Nat.reduceMul, Int.reduceToNat, Int.reduceNeg, Int.reduceAdd, Int.reduceSub, Int.reduceMul, Int.reduceLT, Int.reduceLE, Int.reduceMod, Int.reducePow, Nat.reducePow, Int.reduceDiv, Nat.reduceBEq, Nat.reduceBNe, Int.reduceBEq, Int.reduceBNe, decide_true, decide_false, reduceCtorEq, Nat.add_zero, Nat.zero_add, Nat.zero_mul, Nat.one_mul, Nat.mul_one, Nat.lt_add_one, Nat.le_refl, Nat.zero_le, Nat.one_ne_zero, Nat.succ_ne_zero, Nat.zero_ne_one, Nat.add_one_ne_zero, Nat.ne_add_one, e1, e2, f1, f2, d1, d2, d3] <;> (and_intros <;> first | rfl | assumption | omega | exact hl.1 | exact hl.2 | exact hm.1 | exact hm.2)
  · have d1 : decide (lv l < lv m) = false := by simp; omega
    have d2 : decide (lv m < lv l) = true := by simp; omega
    have d3 : decide (x = y) = false := by rw [decide_eq_false]; rw [hinj]; omega
    cases s <;> cases t <;> simp only [go_sem, List.reduceReplicate, false_implies, true_implies, true_and, and_true, implies_true, Nat.sub_zero, Int.cast_ofNat_Int, ↓reduceIte, Nat.reduceEqDiff, Nat.reduceLT, Nat.reduceLeDiff, Nat.reduceAdd, Nat.reduceSub, Nat.reduceMul, Int.reduceToNat, Int.reduceNeg, Int.reduceAdd, Int.reduceSub, Int.reduceMul, Int.reduceLT, Int.reduceLE, Int.reduceMod, Int.reducePow, Nat.reducePow, Int.reduceDiv, Nat.reduceBEq, Nat.reduceBNe, Int.reduceBEq, Int.reduceBNe, decide_true, decide_false, reduceCtorEq, Nat.add_zero, Nat.zero_add, Nat.zero_mul, Nat.one_mul, Nat.mul_one, Nat.lt_add_one, Nat.le_refl, Nat.zero_le, Nat.one_ne_zero, Nat.succ_ne_zero, Nat.zero_ne_one, Nat.add_one_ne_zero, Nat.ne_add_one, e1, e2, f1, f2, d1, d2, d3] <;> (and_intros <;> first | rfl | assumption | omega | exact hl.1 | exact hl.2 | exact hm.1 | exact hm.2)
theorem rof_C : Ctr Try.prog 42 kOf := Ctr.c1 rfl fun n h => by
  obtain ⟨h1, h2⟩ := h
  refine PCall.of_vc (tabs mixed (tbl_cons rmade_C tbl_nil)) Try.func42 rfl Try.ntmps42 Try.results42 (by simp) ?_
  have p1 : ((n.natAbs : Nat) : Int) % 4294967296 = ((n.natAbs % 4294967296 : Nat) : Int) := by omega
  have p2 : ((n.natAbs : Nat) : Int) / 4294967296 % 4294967296 = ((n.natAbs / 4294967296 % 4294967296 : Nat) : Int) := by omega
  have hb : Lim [n.natAbs % 4294967296, n.natAbs / 4294967296 % 4294967296] := lim_two (by omega) (by omega)
  have hv : lv [n.natAbs % 4294967296, n.natAbs / 4294967296 % 4294967296] = n.natAbs := by rw [lv_two]; omega
  by_cases hn : n < 0
  · have w1 : IntKind.u64.wrap (0 - n % 18446744073709551616) = ((n.natAbs : Nat) : Int) := by
      rw [IntKind.wrap_u64]; omega
    simp only [go_sem, List.reduceReplicate, false_implies, true_implies, true_and, and_true, implies_true, Nat.sub_zero, Int.cast_ofNat_Int, ↓reduceIte, Nat.reduceEqDiff, Nat.reduceLT, Nat.reduceLeDiff, Nat.reduceAdd, Nat.reduceSub, Nat.reduceMul, Int.reduceToNat, Int.reduceNeg, Int.reduceAdd, Int.reduceSub, Int.reduceMul, Int.reduceLT, Int.reduceLE, Int.reduceMod, Int.reducePow, Nat.reducePow, Int.reduceDiv, Nat.reduceBEq, Nat.reduceBNe, Int.reduceBEq, Int.reduceBNe, decide_true, decide_false, reduceCtorEq, Nat.add_zero, Nat.zero_add, Nat.zero_mul, Nat.one_mul, Nat.mul_one, Nat.lt_add_one, Nat.le_refl, Nat.zero_le, Nat.one_ne_zero, Nat.succ_ne_zero, Nat.zero_ne_one, Nat.add_one_ne_zero, Nat.ne_add_one, hn, w1, p1, p2]
    exact ⟨hb, out_II (by rw [sv_true, hv]; omega)⟩
  · have w1 : n % 18446744073709551616 = ((n.natAbs : Nat) : Int) := by omega
    simp only [go_sem, List.reduceReplicate, false_implies, true_implies, true_and, and_true, implies_true, Nat.sub_zero, Int.cast_ofNat_Int, ↓reduceIte, Nat.reduceEqDiff, Nat.reduceLT, Nat.reduceLeDiff, Nat.reduceAdd, Nat.reduceSub, Nat.reduceMul, Int.reduceToNat, Int.reduceNeg, Int.reduceAdd, Int.reduceSub, Int.reduceMul, Int.reduceLT, Int.reduceLE, Int.reduceMod, Int.reducePow, Nat.reducePow, Int.reduceDiv, Nat.reduceBEq, Nat.reduceBNe, Int.reduceBEq, Int.reduceBNe, decide_true, decide_false, reduceCtorEq, Nat.add_zero, Nat.zero_add, Nat.zero_mul, Nat.one_mul, Nat.mul_one, Nat.lt_add_one, Nat.le_refl, Nat.zero_le, Nat.one_ne_zero, Nat.succ_ne_zero, Nat.zero_ne_one, Nat.add_one_ne_zero, Nat.ne_add_one, hn, w1, p1, p2]
    exact ⟨hb, out_II (by rw [sv_false, hv]; omega)⟩
end Go.Proofs.Ytbnhnmpgbpejaaa
