/- Contracts: Gcd. -/
import Derived.Test.YtbnhnmpgbpejaaaD2
namespace Go.Proofs.Ytbnhnmpgbpejaaa
set_option linter.unusedSimpArgs false
set_option linter.unusedVariables false
open Go.RowKit

set_option maxRecDepth 2000 in
theorem gcd_V {N : Nat} (hL : LongTo N) (x y : Int) (hx : dl x.natAbs ≤ 1000000000) (hy : dl y.natAbs ≤ 1000000000) (hN : dl y.natAbs ≤ N) :
    PCall Try.prog 24 [.I x, .I y] (.I (Nat.gcd x.natAbs y.natAbs : Nat)) := by
  refine PCall.of_vc (tabs mixed (tbl_cons (divide_C hL) (tbl_cons norm_C tbl_nil))) Try.func24 rfl Try.ntmps24 Try.results24 (by simp) ?_
  simp only [go_sem, List.reduceReplicate, false_implies, true_implies, true_and, and_true, implies_true, Nat.sub_zero, Int.cast_ofNat_Int, ↓reduceIte, Nat.reduceEqDiff, Nat.reduceLT, Nat.reduceLeDiff, Nat.reduceAdd, Nat.reduceSub, Nat.reduceMul, Int.reduceToNat, Int.reduceNeg, Int.reduceAdd, Int.reduceSub, Int.reduceMul, Int.reduceLT, Int.reduceLE, Int.reduceMod, Int.reducePow, Nat.reducePow, Int.reduceDiv, Nat.reduceBEq, Nat.reduceBNe, Int.reduceBEq, Int.reduceBNe, decide_true, decide_false, reduceCtorEq, Nat.add_zero, Nat.zero_add, Nat.zero_mul, Nat.one_mul, Nat.mul_one, Nat.lt_add_one, Nat.le_refl, Nat.zero_le, Nat.one_ne_zero, Nat.succ_ne_zero, Nat.zero_ne_one, Nat.add_one_ne_zero, Nat.ne_add_one]
  refine ⟨by rfl, ?_⟩
  refine AWp.loops (X := { p : Nat × Nat // Nat.gcd p.1 p.2 = Nat.gcd x.natAbs y.natAbs ∧ dl p.1 ≤ 1000000000 ∧ dl p.2 ≤ dl y.natAbs })
    (fun a => mkSt [(4, .ptr 0 2 0 0), (5, .lst (V.limbs (dg a.1.1))), (6, .lst (V.limbs (dg a.1.2)))]
      [(0, true, ⟨28, 2, [.agg [.raw (.bool false), .raw (.slice none 0 0)]]⟩)] 1 28)
    (fun a => a.1.2) ⟨(x.natAbs, y.natAbs), rfl, hx, Nat.le_refl _⟩ (Wk.of [2] (by decide) ?_) ?_
  · simp only [go_sem, List.reduceReplicate, false_implies, true_implies, true_and, and_true, implies_true, Nat.sub_zero, Int.cast_ofNat_Int, ↓reduceIte, Nat.reduceEqDiff, Nat.reduceLT, Nat.reduceLeDiff, Nat.reduceAdd, Nat.reduceSub, Nat.reduceMul, Int.reduceToNat, Int.reduceNeg, Int.reduceAdd, Int.reduceSub, Int.reduceMul, Int.reduceLT, Int.reduceLE, Int.reduceMod, Int.reducePow, Nat.reducePow, Int.reduceDiv, Nat.reduceBEq, Nat.reduceBNe, Int.reduceBEq, Int.reduceBNe, decide_true, decide_false, reduceCtorEq, Nat.add_zero, Nat.zero_add, Nat.zero_mul, Nat.one_mul, Nat.mul_one, Nat.lt_add_one, Nat.le_refl, Nat.zero_le, Nat.one_ne_zero, Nat.succ_ne_zero, Nat.zero_ne_one, Nat.add_one_ne_zero, Nat.ne_add_one]
  · rintro ⟨⟨p, q⟩, hg, hp, hq⟩
    simp only at hg hp hq
    refine vc_at (tabs mixed (tbl_cons (divide_C hL) (tbl_cons norm_C tbl_nil))) ?_
    by_cases h0 : q = 0
    · subst h0
      simp only [go_sem, List.reduceReplicate, false_implies, true_implies, true_and, and_true, implies_true, Nat.sub_zero, Int.cast_ofNat_Int, ↓reduceIte, Nat.reduceEqDiff, Nat.reduceLT, Nat.reduceLeDiff, Nat.reduceAdd, Nat.reduceSub, Nat.reduceMul, Int.reduceToNat, Int.reduceNeg, Int.reduceAdd, Int.reduceSub, Int.reduceMul, Int.reduceLT, Int.reduceLE, Int.reduceMod, Int.reducePow, Nat.reducePow, Int.reduceDiv, Nat.reduceBEq, Nat.reduceBNe, Int.reduceBEq, Int.reduceBNe, decide_true, decide_false, reduceCtorEq, Nat.add_zero, Nat.zero_add, Nat.zero_mul, Nat.one_mul, Nat.mul_one, Nat.lt_add_one, Nat.le_refl, Nat.zero_le, Nat.one_ne_zero, Nat.succ_ne_zero, Nat.zero_ne_one, Nat.add_one_ne_zero, Nat.ne_add_one, dg_zero]
      refine out_I (dg_canon _) (by simp) ?_
      rw [sv_false, lv_dg, ← hg, Nat.gcd_zero_right]
    · have c1 : 0 < (((dg q).length : Nat) : Int) := by
        have := dl_eq_zero (n := q)
        unfold dl at this
        omega
      have hq0 : dg q ≠ [] := fun h => h0 (dg_eq_nil.1 h)
      obtain ⟨r1, r2, r3⟩ := dr_spec (dg_canon p) (dg_canon q) hq0
      have sr : sv false (dr (dg p) (dg q)) = ((p % q : Nat) : Int) := by rw [sv_false, r2, lv_dg, lv_dg]
      have l1 : (dg p).length = dl p := rfl
      have l2 : (dg q).length = dl q := rfl
      have hlt := Nat.mod_lt p (Nat.pos_of_ne_zero h0)
      have hd := dl_mono (Nat.le_of_lt hlt)
      simp only [go_sem, List.reduceReplicate, false_implies, true_implies, true_and, and_true, implies_true, Nat.sub_zero, Int.cast_ofNat_Int, ↓reduceIte, Nat.reduceEqDiff, Nat.reduceLT, Nat.reduceLeDiff, Nat.reduceAdd, Nat.reduceSub, Nat.reduceMul, Int.reduceToNat, Int.reduceNeg, Int.reduceAdd, Int.reduceSub, Int.reduceMul, Int.reduceLT, Int.reduceLE, Int.reduceMod, Int.reducePow, Nat.reducePow, Int.reduceDiv, Nat.reduceBEq, Nat.reduceBNe, Int.reduceBEq, Int.reduceBNe, decide_true, decide_false, reduceCtorEq, Nat.add_zero, Nat.zero_add, Nat.zero_mul, Nat.one_mul, Nat.mul_one, Nat.lt_add_one, Nat.le_refl, Nat.zero_le, Nat.one_ne_zero, Nat.succ_ne_zero, Nat.zero_ne_one, Nat.add_one_ne_zero, Nat.ne_add_one, c1, sr, Int.natAbs_natCast]
      refine ⟨⟨⟨dg_canon _, dg_canon _⟩, hq0, by omega, by omega, by omega⟩, ⟨r1, by omega⟩, ?_⟩
      refine ⟨⟨(q, p % q), ?_, by simp only; omega, by simp only; omega⟩, Wk.of [0] (by decide) ?_, hlt⟩
      · rw [← hg, Nat.gcd_comm p q, Nat.gcd_rec q p, Nat.gcd_comm]
      · simp only [go_sem, List.reduceReplicate, false_implies, true_implies, true_and, and_true, implies_true, Nat.sub_zero, Int.cast_ofNat_Int, ↓reduceIte, Nat.reduceEqDiff, Nat.reduceLT, Nat.reduceLeDiff, Nat.reduceAdd, Nat.reduceSub, Nat.reduceMul, Int.reduceToNat, Int.reduceNeg, Int.reduceAdd, Int.reduceSub, Int.reduceMul, Int.reduceLT, Int.reduceLE, Int.reduceMod, Int.reducePow, Nat.reducePow, Int.reduceDiv, Nat.reduceBEq, Nat.reduceBNe, Int.reduceBEq, Int.reduceBNe, decide_true, decide_false, reduceCtorEq, Nat.add_zero, Nat.zero_add, Nat.zero_mul, Nat.one_mul, Nat.mul_one, Nat.lt_add_one, Nat.le_refl, Nat.zero_le, Nat.one_ne_zero, Nat.succ_ne_zero, Nat.zero_ne_one, Nat.add_one_ne_zero, Nat.ne_add_one]
def kGcd (N : Nat) : Con := con2 pI pI fun x y => (dl x.natAbs ≤ 1000000000 ∧ dl y.natAbs ≤ 1000000000 ∧ dl y.natAbs ≤ N, .I (Nat.gcd x.natAbs y.natAbs : Nat))
attribute [go_sem ↓, go_sem] kGcd
theorem gcd_C {N : Nat} (hL : LongTo N) : Ctr Try.prog 24 (kGcd N) := Ctr.c2 rfl fun x y h => gcd_V hL x y h.1 h.2.1 h.2.2
end Go.Proofs.Ytbnhnmpgbpejaaa
