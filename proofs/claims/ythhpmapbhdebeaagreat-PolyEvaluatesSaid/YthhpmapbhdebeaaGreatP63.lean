/- Texts LC4 in one. -/
import Derived.Test.YthhpmapbhdebeaaGreatP61
/- The laws of derivatives and of values of polynomials. -/
namespace Go.Proofs.YthhpmapbhdebeaaGreat
set_option linter.unusedSimpArgs false
set_option linter.unusedVariables false
open Go.RowKit

set_option maxRecDepth 20000 in
set_option maxHeartbeats 2000000 in
theorem derives_V (x : Th) (hx : x.Ok) : PCall Tryz.prog 7 [x.v] (.raw (.bool true)) := by
  obtain ⟨⟨pa, pb, pc⟩, hz⟩ := hx
  refine PCall.of_vc (tabs mixed (tbl_cons sanity3_C (tbl_cons made3_C (tbl_cons number_C (tbl_cons pMul_C (tbl_cons pAdd_C (tbl_cons pDiff_C (tbl_cons pSc_C (tbl_cons rPEq_C tbl_nil))))))))) Tryz.func7 rfl Tryz.ntmps7 Tryz.results7 (by simp [Th.v]) ?_
  have ha : Sz (psL x.A 5) 5 1 := psL_sz pa 5
  have hb : Sz (psL x.B 5) 5 1 := psL_sz pb 5
  have hq : qs (mdQ x.X.1 x.X.2) ≤ 1 := qs_mdQ hz.1 hz.2
  unfold Th.v
  obtain ⟨a, ea⟩ : ∃ a, psL x.A 5 = a := ⟨_, rfl⟩
  obtain ⟨b, eb⟩ : ∃ a, psL x.B 5 = a := ⟨_, rfl⟩
  obtain ⟨q, eq⟩ : ∃ a, mdQ x.X.1 x.X.2 = a := ⟨_, rfl⟩
  rw [ea] at ha
  rw [eb] at hb
  rw [eq] at hq
  have hda := ha.diff (by decide)
  have hdb := hb.diff (by decide)
  have hs := ha.add hb
  have hds := hs.diff (by decide)
  have hsd := hda.add hdb
  have hsa := ha.sc hq
  have hdsa := hsa.diff (by decide)
  have hsda := hda.sc hq
  have hm := ha.mul hb
  have hdm := hm.diff (by decide)
  have h1 := hda.mul hb
  have h2 := ha.mul hdb
  have h3 := h1.add h2
  have k1 : decide (pDiff (pAdd a b) = pAdd (pDiff a) (pDiff b)) = true := decide_eq_true (ev_inj hds.can hsd.can fun x => by simp only [ev_pDiff_add, ev_pAdd])
  have k2 : decide (pDiff (pSc q a) = pSc q (pDiff a)) = true := decide_eq_true (ev_inj hdsa.can hsda.can fun x => by simp only [ev_pDiff_sc, ev_pSc])
  have k3 : decide (pDiff (pMul a b) = pAdd (pMul (pDiff a) b) (pMul a (pDiff b))) = true := decide_eq_true (ev_inj hdm.can h3.can fun x => by simp only [ev_pDiff_mul, ev_pAdd, ev_pMul])
  have m1 := Sz.cm ha hb
  have m2 := Sz.cm hda hb
  have m3 := Sz.cm ha hdb
  have c1 := ha.c1
  have c2 := hb.c1
  have c3 := hda.c1
  have c4 := hdb.c1
  have c5 := hs.c1
  have c6 := hds.c1
  have c7 := hsd.c1
  have c8 := hsa.c1
  have c9 := hdsa.c1
  have c10 := hsda.c1
  have c11 := hm.c1
  have c12 := hdm.c1
  have c13 := h1.c1
  have c14 := h2.c1
  have c15 := h3.c1
  have q1 : qs q ≤ 100000000 := by omega
  simp only [app_cons, app_nil]
  simp (maxSteps := 2000000) only [go_sem, List.reduceReplicate, ↓reduceIte, Nat.reduceEqDiff, Nat.reduceLT, Nat.reduceLeDiff, Nat.reduceAdd, Nat.reduceSub, Nat.reduceMul, Int.reduceToNat, Int.reduceNeg, Int.reduceAdd, Int.reduceSub, Int.reduceMul, Int.reduceLT, Int.reduceLE, Int.reduceMod, Int.reducePow, Nat.reducePow, Int.reduceDiv, Nat.reduceBEq, Nat.reduceBNe, Int.reduceBEq, Int.reduceBNe, reduceCtorEq, ea, eb, eq, pa, pb, pc, hz, k1, k2, k3, m1, m2, m3, c1, c2, c3, c4, c5, c6, c7, c8, c9, c10, c11, c12, c13, c14, c15, q1]
  rfl
set_option maxRecDepth 20000 in
set_option maxHeartbeats 2000000 in
theorem evaluates_V (x : Th) (y : Int × Int) (hx : x.Ok) (hy : B8 y.1 ∧ B8 y.2) : PCall Tryz.prog 8 [x.v, .agg [.raw (.int .i8 y.1), .raw (.int .i8 y.2)]] (.raw (.bool true)) := by
  obtain ⟨⟨pa, pb, pc⟩, hz⟩ := hx
  refine PCall.of_vc (tabs mixed (tbl_cons sanity3_C (tbl_cons made3_C (tbl_cons number_C (tbl_cons pMul_C (tbl_cons pAdd_C (tbl_cons pShift_C (tbl_cons pEval_C (tbl_cons rPEq_C (tbl_cons r2Cmp_C (tbl_cons r2Add_C (tbl_cons r2Mul_C (tbl_cons r2Neg_C tbl_nil))))))))))))) Tryz.func8 rfl Tryz.ntmps8 Tryz.results8 (by simp [Th.v]) ?_
  have ha : Sz (psL x.A 5) 5 1 := psL_sz pa 5
  have hb : Sz (psL x.B 5) 5 1 := psL_sz pb 5
  have hq : qs (mdQ x.X.1 x.X.2) ≤ 1 := qs_mdQ hz.1 hz.2
  have hw : qs (mdQ y.1 y.2) ≤ 1 := qs_mdQ hy.1 hy.2
  unfold Th.v
  obtain ⟨a, ea⟩ : ∃ a, psL x.A 5 = a := ⟨_, rfl⟩
  obtain ⟨b, eb⟩ : ∃ a, psL x.B 5 = a := ⟨_, rfl⟩
  obtain ⟨c, ec⟩ : ∃ a, mdQ x.X.1 x.X.2 = a := ⟨_, rfl⟩
  obtain ⟨z, ez⟩ : ∃ a, mdQ y.1 y.2 = a := ⟨_, rfl⟩
  rw [ea] at ha
  rw [eb] at hb
  rw [ec] at hq
  rw [ez] at hw
  have hzc : qs (z + c) ≤ 3 := by have := qs_add z c; omega
  have hnc : qs (-c) ≤ 1 := by rw [qs_neg]; exact hq
  have hsh := ha.shift hq (by decide)
  have hsb := hb.shift hq (by decide)
  have hback := hsh.shift hnc (by decide)
  have hs := ha.add hb
  have hm := ha.mul hb
  have hsm := hm.shift hq (by decide)
  have hms := hsh.mul hsb
  have v1 : ev (pShift c a) z = ev a (z + c) := ev_pShift c a z
  have v2 : ev (pAdd a b) z = ev a z + ev b z := ev_pAdd a b z
  have v3 : ev (pMul a b) z = ev a z * ev b z := ev_pMul a b z
  have k1 : decide (pShift (-c) (pShift c a) = a) = true := decide_eq_true (ev_inj hback.can ha.can fun x => by
    rw [ev_pShift, ev_pShift]
    have : x + -c + c = x := by grind
    rw [this])
  have k2 : decide (pShift c (pMul a b) = pMul (pShift c a) (pShift c b)) = true := decide_eq_true (ev_inj hsm.can hms.can fun x => by simp only [ev_pShift, ev_pMul])
  have c0 : ∀ a : Rat, cmpQ a a = 0 := fun a => by
    have := cmpQ_eq0 a a
    simpa using this
  have s1 := Sz.cs ha hq
  have s2 := Sz.cs hb hq
  have s3 := Sz.cs hsh hnc
  have s4 := Sz.cs hm hq
  have e1 := Sz.ce hsh hw
  have e2 := Sz.ce ha hzc
  have e3 := Sz.ce hs hw
  have e4 := Sz.ce ha hw
  have e5 := Sz.ce hb hw
  have e6 := Sz.ce hm hw
  have m1 := Sz.cm ha hb
  have m2 := Sz.cm hsh hsb
  have c1 := ha.c1
  have c2 := hb.c1
  have c3 := hback.c1
  have c4 := hsm.c1
  have c5 := hms.c1
  have b1 := ha.ev hzc
  have b2 := ha.ev hw
  have b3 := hb.ev hw
  have b4 : qs (ev a z + ev b z) ≤ 100000000 := by have := qs_add (ev a z) (ev b z); omega
  have b5 : qs (ev a z * ev b z) ≤ 100000000 := by have := qs_mul (ev a z) (ev b z); omega
  have b6 : qs (ev a (z + c)) ≤ 100000000 := by omega
  have b7 : qs (ev a z) ≤ 100000000 := by omega
  have b8 : qs (ev b z) ≤ 100000000 := by omega
  have q1 : qs c ≤ 100000000 := by omega
  have q2 : qs z ≤ 100000000 := by omega
  have q3 : qs c ≤ 1000000000 := by omega
  simp only [app_cons, app_nil]
  simp (maxSteps := 2000000) only [go_sem, List.reduceReplicate, ↓reduceIte, Nat.reduceEqDiff, Nat.reduceLT, Nat.reduceLeDiff, Nat.reduceAdd, Nat.reduceSub, Nat.reduceMul, Int.reduceToNat, Int.reduceNeg, Int.reduceAdd, Int.reduceSub, Int.reduceMul, Int.reduceLT, Int.reduceLE, Int.reduceMod, Int.reducePow, Nat.reducePow, Int.reduceDiv, Nat.reduceBEq, Nat.reduceBNe, Int.reduceBEq, Int.reduceBNe, reduceCtorEq, ea, eb, ec, ez, pa, pb, pc, hz, hy, k1, k2, v1, v2, v3, c0, s1, s2, s3, s4, e1, e2, e3, e4, e5, e6, m1, m2, c1, c2, c3, c4, c5, b4, b5, b6, b7, b8, q1, q2, q3]
  exact ⟨by rfl, by rfl⟩
set_option maxRecDepth 20000 in
theorem lawDerives_F (X : V) (h : Fits Tryz.prog 6 26 X) : PCall Tryz.prog 7 [X] (.raw (.bool true)) := by
  obtain ⟨x, rfl, hx⟩ := fits_three h
  exact derives_V x hx
set_option maxRecDepth 20000 in
theorem lawEvaluates_F (X Y : V) (h : Fits Tryz.prog 6 26 X) (g : Fits Tryz.prog 6 24 Y) : PCall Tryz.prog 8 [X, Y] (.raw (.bool true)) := by
  obtain ⟨x, rfl, hx⟩ := fits_three h
  obtain ⟨y, rfl, hy⟩ := fits_pr (n := 4) Tryz.underlying24 Tryz.underlying23 g
  exact evaluates_V x y hx hy
end Go.Proofs.YthhpmapbhdebeaaGreat
