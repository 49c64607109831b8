/- Contracts: divide. -/
import Derived.Test.YtbnhnmpgbpejaaaC9
namespace Go.Proofs.Ytbnhnmpgbpejaaa
set_option linter.unusedSimpArgs false
set_option linter.unusedVariables false
open Go.RowKit

attribute [go_sem] Bool.and_self Bool.false_and Bool.and_false Bool.true_and Bool.and_true Bool.false_eq_true Bool.not_true Bool.not_false Bool.cond_true Bool.cond_false
@[go_sem] theorem beq_tt : (true == true) = true := rfl
@[go_sem] theorem beq_ff : (false == false) = true := rfl
@[go_sem] theorem beq_tf : (true == false) = false := rfl
@[go_sem] theorem beq_ft : (false == true) = false := rfl
@[go_sem] theorem bne_tt : (true != true) = false := rfl
@[go_sem] theorem bne_ff : (false != false) = false := rfl
@[go_sem] theorem bne_tf : (true != false) = true := rfl
@[go_sem] theorem bne_ft : (false != true) = true := rfl

/-- The long division works for divisors of at most N limbs. -/
def LongTo (N : Nat) : Prop := ∀ l m : List Nat, Lim l → Canon m → l.length ≤ 100000000000 → m.length ≤ l.length → 2 ≤ m.length → m.length ≤ N →
  PCall Try.prog 55 [.lst (V.limbs l), .lst (V.limbs m)] (.tup [.lst (V.limbs (nl (l.length + 1 - m.length) (lv l / lv m))), .lst (V.limbs (nl m.length (lv l % lv m)))])
theorem longTo_one : LongTo 1 := fun l m _ _ _ _ h1 h2 => by omega
def dq (l m : List Nat) : List Nat := if lv l < lv m then [] else if m.length = 1 then nl l.length (lv l / lv m) else nl (l.length + 1 - m.length) (lv l / lv m)
def dr (l m : List Nat) : List Nat := if lv l < lv m then l else if m.length = 1 then [lv l % lv m] else nl m.length (lv l % lv m)
theorem lv_one (x : Nat) : lv [x] = x := by simp [lv]
theorem div_lt_pow {l m : List Nat} (hl : Lim l) (hm : Canon m) (h0 : m ≠ []) (h : m.length ≤ l.length) : lv l / lv m < 4294967296 ^ (l.length + 1 - m.length) := by
  have h1 := lv_lt hl
  have h2 := pow_dl_le hm h0
  have h3 : 0 < m.length := List.length_pos_iff.2 h0
  rw [Nat.div_lt_iff_lt_mul (lv_pos hm h0)]
  refine Nat.lt_of_lt_of_le h1 ?_
  have h4 : 4294967296 ^ l.length = 4294967296 ^ (l.length + 1 - m.length) * 4294967296 ^ (m.length - 1) := by rw [← Nat.pow_add]; congr 1; omega
  rw [h4]
  exact Nat.mul_le_mul_left _ h2
theorem dq_spec {l m : List Nat} (hl : Canon l) (hm : Canon m) (h0 : m ≠ []) : Lim (dq l m) ∧ lv (dq l m) = lv l / lv m ∧ (dq l m).length ≤ l.length := by
  have h3 : 0 < m.length := List.length_pos_iff.2 h0
  unfold dq
  split
  · exact ⟨Lim.nil, by rw [Nat.div_eq_of_lt ‹_›]; rfl, by simp⟩
  · rename_i h
    have hle := len_of_lt hm hl (by omega)
    split
    · exact ⟨nl_lim _ _, lv_nl _ _ (Nat.lt_of_le_of_lt (Nat.div_le_self _ _) (lv_lt hl.1)), by rw [nl_length]; exact Nat.le_refl _⟩
    · exact ⟨nl_lim _ _, lv_nl _ _ (div_lt_pow hl.1 hm h0 hle), by rw [nl_length]; omega⟩
theorem dr_spec {l m : List Nat} (hl : Canon l) (hm : Canon m) (h0 : m ≠ []) : Lim (dr l m) ∧ lv (dr l m) = lv l % lv m ∧ (dr l m).length ≤ max l.length m.length := by
  have hp := lv_pos hm h0
  have hlt := Nat.mod_lt (lv l) hp
  unfold dr
  split
  · exact ⟨hl.1, by rw [Nat.mod_eq_of_lt ‹_›], by omega⟩
  · split
    · rename_i h h1
      have h2 := lv_lt hm.1
      rw [h1, Nat.pow_one] at h2
      exact ⟨Lim.cons (by omega) Lim.nil, lv_one _, by simp; omega⟩
    · exact ⟨nl_lim _ _, lv_nl _ _ (Nat.lt_trans hlt (lv_lt hm.1)), by rw [nl_length]; omega⟩
set_option maxRecDepth 2000 in
theorem divide_V {N : Nat} (hL : LongTo N) (l m : List Nat) (hl : Canon l) (hm : Canon m) (h0 : m ≠ []) (h1 : l.length ≤ 100000000000) (h2 : m.length ≤ 100000000000) (hN : m.length ≤ N) :
    PCall Try.prog 44 [.lst (V.limbs l), .lst (V.limbs m)] (.tup [.lst (V.limbs (dq l m)), .lst (V.limbs (dr l m))]) := by
  have h3 : 0 < m.length := List.length_pos_iff.2 h0
  have hlong : Ctr Try.prog 55 (con2 pL pL fun l m => (((Lim l ∧ Canon m) ∧ l.length ≤ 100000000000 ∧ m.length ≤ l.length ∧ 2 ≤ m.length ∧ m.length ≤ N), .tup [.lst (V.limbs (nl (l.length + 1 - m.length) (lv l / lv m))), .lst (V.limbs (nl m.length (lv l % lv m)))])) :=
    Ctr.c2 rfl fun l m h => hL l m h.1.1 h.1.2 h.2.1 h.2.2.1 h.2.2.2.1 h.2.2.2.2
  refine PCall.of_vc (tabs mixed (tbl_cons compare_C (tbl_cons clone_C (tbl_cons short_C (tbl_cons hlong tbl_nil))))) Try.func44 rfl Try.ntmps44 Try.results44 (by simp) ?_
  by_cases hlt : lv l < lv m
  · have c1 : cmpI (lv l) (lv m) < 0 := by unfold cmpI; split <;> omega
    simp only [go_sem, List.reduceReplicate, false_implies, true_implies, true_and, and_true, implies_true, Nat.sub_zero, Int.cast_ofNat_Int, ↓reduceIte, Nat.reduceEqDiff, Nat.reduceLT, Nat.reduceLeDiff, Nat.reduceAdd, Nat.reduceSub, Nat.reduceMul, Int.reduceToNat, Int.reduceNeg, Int.reduceAdd, Int.reduceSub, Int.reduceMul, Int.reduceLT, Int.reduceLE, Int.reduceMod, Int.reducePow, Nat.reducePow, Int.reduceDiv, Nat.reduceBEq, Nat.reduceBNe, Int.reduceBEq, Int.reduceBNe, decide_true, decide_false, reduceCtorEq, Nat.add_zero, Nat.zero_add, Nat.zero_mul, Nat.one_mul, Nat.mul_one, Nat.lt_add_one, Nat.le_refl, Nat.zero_le, Nat.one_ne_zero, Nat.succ_ne_zero, Nat.zero_ne_one, Nat.add_one_ne_zero, Nat.ne_add_one, c1]
    unfold dq dr
    rw [if_pos hlt, if_pos hlt]
    exact ⟨⟨⟨hl, hm⟩, by omega, by omega⟩, by omega, .refl _, .refl _⟩
  · have c1 : ¬ cmpI (lv l) (lv m) < 0 := by unfold cmpI; split <;> (try split) <;> omega
    have hle := len_of_lt hm hl (by omega)
    by_cases h4 : m.length = 1
    · obtain ⟨y, rfl⟩ : ∃ y, m = [y] := by
        match m, h4 with
        | [y], _ => exact ⟨y, rfl⟩
      have c2 : ((([y] : List Nat).length : Nat) : Int) = 1 := rfl
      have hy := hm.1.head
      have hy0 : y ≠ 0 := hm.2 (by simp)
      simp only [go_sem, List.reduceReplicate, false_implies, true_implies, true_and, and_true, implies_true, Nat.sub_zero, Int.cast_ofNat_Int, ↓reduceIte, Nat.reduceEqDiff, Nat.reduceLT, Nat.reduceLeDiff, Nat.reduceAdd, Nat.reduceSub, Nat.reduceMul, Int.reduceToNat, Int.reduceNeg, Int.reduceAdd, Int.reduceSub, Int.reduceMul, Int.reduceLT, Int.reduceLE, Int.reduceMod, Int.reducePow, Nat.reducePow, Int.reduceDiv, Nat.reduceBEq, Nat.reduceBNe, Int.reduceBEq, Int.reduceBNe, decide_true, decide_false, reduceCtorEq, Nat.add_zero, Nat.zero_add, Nat.zero_mul, Nat.one_mul, Nat.mul_one, Nat.lt_add_one, Nat.le_refl, Nat.zero_le, Nat.one_ne_zero, Nat.succ_ne_zero, Nat.zero_ne_one, Nat.add_one_ne_zero, Nat.ne_add_one, c1, at0_cons_zero]
      unfold dq dr
      rw [if_neg hlt, if_neg hlt, if_pos h4, if_pos h4, lv_one]
      exact ⟨⟨⟨hl, hm⟩, by omega⟩, ⟨hl.1, by omega, by omega, by omega⟩, .refl _, .refl _⟩
    · have c2 : ((m.length : Int) == 1) = false := by simp; omega
      simp only [go_sem, List.reduceReplicate, false_implies, true_implies, true_and, and_true, implies_true, Nat.sub_zero, Int.cast_ofNat_Int, ↓reduceIte, Nat.reduceEqDiff, Nat.reduceLT, Nat.reduceLeDiff, Nat.reduceAdd, Nat.reduceSub, Nat.reduceMul, Int.reduceToNat, Int.reduceNeg, Int.reduceAdd, Int.reduceSub, Int.reduceMul, Int.reduceLT, Int.reduceLE, Int.reduceMod, Int.reducePow, Nat.reducePow, Int.reduceDiv, Nat.reduceBEq, Nat.reduceBNe, Int.reduceBEq, Int.reduceBNe, decide_true, decide_false, reduceCtorEq, Nat.add_zero, Nat.zero_add, Nat.zero_mul, Nat.one_mul, Nat.mul_one, Nat.lt_add_one, Nat.le_refl, Nat.zero_le, Nat.one_ne_zero, Nat.succ_ne_zero, Nat.zero_ne_one, Nat.add_one_ne_zero, Nat.ne_add_one, c1, c2]
      unfold dq dr
      rw [if_neg hlt, if_neg hlt, if_neg h4, if_neg h4]
      exact ⟨⟨⟨hl, hm⟩, by omega, by omega⟩, ⟨⟨hl.1, hm⟩, h1, hle, by omega, hN⟩, .refl _, .refl _⟩
def kDivide (N : Nat) : Con := con2 pL pL fun l m => ((Canon l ∧ Canon m) ∧ m ≠ [] ∧ l.length ≤ 100000000000 ∧ m.length ≤ 100000000000 ∧ m.length ≤ N, .tup [.lst (V.limbs (dq l m)), .lst (V.limbs (dr l m))])
attribute [go_sem ↓, go_sem] kDivide
theorem divide_C {N : Nat} (hL : LongTo N) : Ctr Try.prog 44 (kDivide N) := Ctr.c2 rfl fun l m h => divide_V hL l m h.1.1 h.1.2 h.2.1 h.2.2.1 h.2.2.2.1 h.2.2.2.2
end Go.Proofs.Ytbnhnmpgbpejaaa
