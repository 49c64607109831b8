/- Contracts: DivMod. -/
import Derived.Test.YtbnhnmpgbpejaaaD1
namespace Go.Proofs.Ytbnhnmpgbpejaaa
set_option linter.unusedSimpArgs false
set_option linter.unusedVariables false
open Go.RowKit

theorem dm_uniq {x y q r : Int} (h : x = q * y + r) (h0 : 0 ≤ r) (h1 : r < y.natAbs) : x / y = q ∧ x % y = r := by
  rcases Int.lt_trichotomy y 0 with hy | hy | hy
  · have e := (Int.ediv_emod_unique (a := x) (b := -y) (r := r) (q := -q) (by omega)).2 ⟨by rw [h, Int.neg_mul_neg, Int.mul_comm]; omega, h0, by omega⟩
    rw [Int.ediv_neg, Int.emod_neg] at e
    omega
  · subst hy; omega
  · exact (Int.ediv_emod_unique hy).2 ⟨by rw [h, Int.mul_comm]; omega, h0, by omega⟩
/-- What the code reckons is the quotient and the remainder. -/
theorem dm_pos {s t : Bool} {l m : List Nat} (hm : 0 < lv m) (h : s = false ∨ lv l % lv m = 0) :
    sv s l / sv t m = (if s = t then ((lv l / lv m : Nat) : Int) else -((lv l / lv m : Nat) : Int)) ∧ sv s l % sv t m = ((lv l % lv m : Nat) : Int) := by
  have e : lv l = lv m * (lv l / lv m) + lv l % lv m := (Nat.div_add_mod _ _).symm
  have hr := Nat.mod_lt (lv l) hm
  generalize lv l / lv m = Q at e ⊢
  generalize lv l % lv m = R at e hr h ⊢
  have e' : (lv l : Int) = lv m * Q + R := by rw [e]; push_cast; rfl
  refine dm_uniq ?_ (by omega) (by rw [sv_natAbs]; omega)
  cases s <;> cases t <;> simp only [sv, e'] <;> simp at h ⊢ <;> grind
theorem dm_neg {t : Bool} {l m : List Nat} (hm : 0 < lv m) (h : lv l % lv m ≠ 0) :
    sv true l / sv t m = (if t = true then ((lv l / lv m : Nat) : Int) + 1 else -(((lv l / lv m : Nat) : Int) + 1)) ∧ sv true l % sv t m = ((lv m - lv l % lv m : Nat) : Int) := by
  have e : lv l = lv m * (lv l / lv m) + lv l % lv m := (Nat.div_add_mod _ _).symm
  have hr := Nat.mod_lt (lv l) hm
  generalize lv l / lv m = Q at e ⊢
  generalize lv l % lv m = R at e hr h ⊢
  have e' : (lv l : Int) = lv m * Q + R := by rw [e]; push_cast; rfl
  have e2 : ((lv m - R : Nat) : Int) = lv m - R := by omega
  rw [e2]
  refine dm_uniq ?_ (by omega) (by rw [sv_natAbs]; omega)
  cases t <;> simp only [sv, e'] <;> simp <;> grind
/-- DivMod answers these. -/
def dmR (x y : Int) : V := if y = 0 then .tup [.I 0, .I 0, .raw (.int .i64 3)] else .tup [.I (x / y), .I (x % y), .raw (.int .i64 0)]
set_option maxRecDepth 2000 in
theorem divMod_V {N : Nat} (hL : LongTo N) (x y : Int) (hx : dl x.natAbs ≤ 1000000000) (hy : dl y.natAbs ≤ 1000000000) (hN : dl y.natAbs ≤ N) :
    PCall Try.prog 16 [.I x, .I y] (dmR x y) := by
  obtain ⟨s, l, hz, hl, hs, e1, e2, e3⟩ := sv_open x
  obtain ⟨t, m, hz', hm, ht, f1, f2, f3⟩ := sv_open y
  refine PCall.of_vc (tabs mixed (tbl_cons (divide_C hL) (tbl_cons norm_C (tbl_cons add_C (tbl_cons of_C (tbl_cons minus_C (tbl_cons neg_C tbl_nil))))))) Try.func16 rfl Try.ntmps16 Try.results16 (by simp) ?_
  unfold dmR
  by_cases hy0 : y = 0
  · have hm0 : m = [] := by rw [← sv_zero (s := t) hm, ← hz', hy0]
    rw [if_pos hy0]
    subst hm0
    simp only [go_sem, List.reduceReplicate, false_implies, true_implies, true_and, and_true, implies_true, Nat.sub_zero, Int.cast_ofNat_Int, ↓reduceIte, Nat.reduceEqDiff, Nat.reduceLT, Nat.reduceLeDiff, Nat.reduceAdd, Nat.reduceSub, Nat.reduceMul, Int.reduceToNat, Int.reduceNeg, Int.reduceAdd, Int.reduceSub, Int.reduceMul, Int.reduceLT, Int.reduceLE, Int.reduceMod, Int.reducePow, Nat.reducePow, Int.reduceDiv, Nat.reduceBEq, Nat.reduceBNe, Int.reduceBEq, Int.reduceBNe, decide_true, decide_false, reduceCtorEq, Nat.add_zero, Nat.zero_add, Nat.zero_mul, Nat.one_mul, Nat.mul_one, Nat.lt_add_one, Nat.le_refl, Nat.zero_le, Nat.one_ne_zero, Nat.succ_ne_zero, Nat.zero_ne_one, Nat.add_one_ne_zero, Nat.ne_add_one, e1, e2, f1, f2]
    exact out_In rfl
  · have hm0 : m ≠ [] := fun h => hy0 (by rw [hz']; exact (sv_zero hm).2 h)
    have c0 : ((m.length : Int) == 0) = false := by have := List.length_pos_iff.2 hm0; simp; omega
    have hp := lv_pos hm hm0
    rw [if_neg hy0]
    obtain ⟨q1, q2, q3⟩ := dq_spec hl hm hm0
    obtain ⟨r1, r2, r3⟩ := dr_spec hl hm hm0
    have sq : sv false (dq l m) = ((lv l / lv m : Nat) : Int) := by rw [sv_false, q2]
    have sr : sv false (dr l m) = ((lv l % lv m : Nat) : Int) := by rw [sv_false, r2]
    have d1 : dl (Int.natAbs 1) ≤ 100000000000 := Nat.le_trans (dl_le (k := 1).2 (by decide)) (by decide)
    have d2 : dl (lv l / lv m) ≤ l.length := dl_le.2 (Nat.lt_of_le_of_lt (Nat.div_le_self _ _) (lv_lt hl.1))
    have hrm := Nat.mod_lt (lv l) hp
    have g1 : sv s l / sv t m = x / y := by rw [hz, hz']
    have g2 : sv s l % sv t m = x % y := by rw [hz, hz']
    have x1 : (true != false) = true := rfl
    have x2 : (true != true) = false := rfl
    have x3 : (false != false) = false := rfl
    have x4 : (false != true) = true := rfl
    by_cases hR : s = false ∨ lv l % lv m = 0
    · obtain ⟨h1, h2⟩ := dm_pos (t := t) (l := l) hp hR
      rw [← g1, ← g2, h1, h2]
      have hR' : (bif s then decide (0 < (((dg (lv l % lv m)).length : Nat) : Int)) else false) = false := by
        rcases hR with rfl | h
        · rfl
        · rw [h]; cases s <;> rfl
      cases s <;> cases t <;> simp only [Bool.cond_true, Bool.cond_false] at hR' <;> simp only [go_sem, List.reduceReplicate, false_implies, true_implies, true_and, and_true, implies_true, Nat.sub_zero, Int.cast_ofNat_Int, ↓reduceIte, Nat.reduceEqDiff, Nat.reduceLT, Nat.reduceLeDiff, Nat.reduceAdd, Nat.reduceSub, Nat.reduceMul, Int.reduceToNat, Int.reduceNeg, Int.reduceAdd, Int.reduceSub, Int.reduceMul, Int.reduceLT, Int.reduceLE, Int.reduceMod, Int.reducePow, Nat.reducePow, Int.reduceDiv, Nat.reduceBEq, Nat.reduceBNe, Int.reduceBEq, Int.reduceBNe, decide_true, decide_false, reduceCtorEq, Nat.add_zero, Nat.zero_add, Nat.zero_mul, Nat.one_mul, Nat.mul_one, Nat.lt_add_one, Nat.le_refl, Nat.zero_le, Nat.one_ne_zero, Nat.succ_ne_zero, Nat.zero_ne_one, Nat.add_one_ne_zero, Nat.ne_add_one, e1, e2, f1, f2, c0, sq, sr, Int.natAbs_natCast, hR', lv_dg, x1, x2, x3, x4]
      all_goals (and_intros <;> first | rfl | assumption | omega | exact hl.1 | exact hl.2 | exact hm.1 | exact hm.2)
    · have hs1 : s = true := by cases s <;> simp_all
      have hR0 : lv l % lv m ≠ 0 := fun h => hR (.inr h)
      subst hs1
      have c1 : 0 < (((dg (lv l % lv m)).length : Nat) : Int) := by
        have := dl_eq_zero (n := lv l % lv m)
        unfold dl at this
        omega
      obtain ⟨h1, h2⟩ := dm_neg (t := t) (l := l) hp hR0
      rw [← g1, ← g2, h1, h2]
      have s3 : sv false (nl m.length (lv m - lv l % lv m)) = ((lv m - lv l % lv m : Nat) : Int) := by
        rw [sv_false, lv_nl _ _ (Nat.lt_of_le_of_lt (Nat.sub_le _ _) (lv_lt hm.1))]
      have s4 : (dg (lv l % lv m)).length ≤ m.length := dl_le.2 (Nat.lt_trans hrm (lv_lt hm.1))
      have s5 := dg_lim (lv l % lv m)
      have s6 := nl_lim m.length (lv m - lv l % lv m)
      have s7 := hm.1
      cases t <;> simp only [go_sem, List.reduceReplicate, false_implies, true_implies, true_and, and_true, implies_true, Nat.sub_zero, Int.cast_ofNat_Int, ↓reduceIte, Nat.reduceEqDiff, Nat.reduceLT, Nat.reduceLeDiff, Nat.reduceAdd, Nat.reduceSub, Nat.reduceMul, Int.reduceToNat, Int.reduceNeg, Int.reduceAdd, Int.reduceSub, Int.reduceMul, Int.reduceLT, Int.reduceLE, Int.reduceMod, Int.reducePow, Nat.reducePow, Int.reduceDiv, Nat.reduceBEq, Nat.reduceBNe, Int.reduceBEq, Int.reduceBNe, decide_true, decide_false, reduceCtorEq, Nat.add_zero, Nat.zero_add, Nat.zero_mul, Nat.one_mul, Nat.mul_one, Nat.lt_add_one, Nat.le_refl, Nat.zero_le, Nat.one_ne_zero, Nat.succ_ne_zero, Nat.zero_ne_one, Nat.add_one_ne_zero, Nat.ne_add_one, e1, e2, f1, f2, c0, c1, sq, sr, Int.natAbs_natCast, lv_dg, x1, x2, x3, x4, s3, nl_length]
      all_goals (and_intros <;> first | rfl | assumption | omega | exact hl.1 | exact hl.2 | exact hm.1 | exact hm.2)
def kDivMod (N : Nat) : Con := con2 pI pI fun x y => (dl x.natAbs ≤ 1000000000 ∧ dl y.natAbs ≤ 1000000000 ∧ dl y.natAbs ≤ N, dmR x y)
attribute [go_sem ↓, go_sem] kDivMod
theorem divMod_C {N : Nat} (hL : LongTo N) : Ctr Try.prog 16 (kDivMod N) := Ctr.c2 rfl fun x y h => divMod_V hL x y h.1 h.2.1 h.2.2
end Go.Proofs.Ytbnhnmpgbpejaaa
