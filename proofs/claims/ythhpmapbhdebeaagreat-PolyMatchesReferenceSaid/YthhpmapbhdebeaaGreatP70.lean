/- Texts LC7 in one. -/
import Derived.Test.YthhpmapbhdebeaaGreatP69
/- The law that package poly agrees with its reference. -/
namespace Go.Proofs.YthhpmapbhdebeaaGreat
set_option linter.unusedSimpArgs false
set_option linter.unusedVariables false
open Go.RowKit

theorem tr_self {a : List Rat} (h : Can a) : tr a = a := ev_inj (tr_can _) h fun x => ev_tr _ x
set_option maxRecDepth 20000 in
set_option maxHeartbeats 4000000 in
theorem matches_V (x : Th) (hx : x.Ok) : PCall Tryz.prog 9 [x.v] (.raw (.bool true)) := by
  obtain ⟨⟨pa, pb, pc⟩, hz⟩ := hx
  have T : Tabs Tryz.prog _ noGab := tabs mixed (tbl_cons sanity3_C (tbl_cons made3_C (tbl_cons number_C (tbl_cons pDM_C (tbl_cons rDM_C (tbl_cons ext_C (tbl_cons rExt_C (tbl_cons pGcd_C (tbl_cons rGcd_C (tbl_cons pAdd_C (tbl_cons rAdd_C (tbl_cons pSub_C (tbl_cons rSub_C (tbl_cons pMul_C (tbl_cons rPMul_C (tbl_cons pSc_C (tbl_cons rSc_C (tbl_cons pMonic_C (tbl_cons rMonic_C (tbl_cons pDiff_C (tbl_cons rDiff_C (tbl_cons pEval_C (tbl_cons rEval_C (tbl_cons pShift_C (tbl_cons rShift_C (tbl_cons pEq_C (tbl_cons rPEq_C (tbl_cons r2Cmp_C (tbl_cons pValid_C tbl_nil)))))))))))))))))))))))))))))
  refine PCall.of_vc T Tryz.func9 rfl Tryz.ntmps9 Tryz.results9 (by simp [Th.v]) ?_
  have ha : Sz (psL x.A 5) 5 1 := psL_sz pa 5
  have hb : Sz (psL x.B 5) 5 1 := psL_sz pb 5
  have hq : qs (mdQ x.X.1 x.X.2) ≤ 1 := qs_mdQ hz.1 hz.2
  unfold Th.v
  obtain ⟨a, ea⟩ : ∃ a, psL x.A 5 = a := ⟨_, rfl⟩
  obtain ⟨b, eb⟩ : ∃ a, psL x.B 5 = a := ⟨_, rfl⟩
  obtain ⟨c, ec⟩ : ∃ a, mdQ x.X.1 x.X.2 = a := ⟨_, rfl⟩
  rw [ea] at ha
  rw [eb] at hb
  rw [ec] at hq
  obtain ⟨x1, hg, hs, ht⟩ := ext_sz ha hb
  obtain ⟨y1, _, _⟩ := pExt_ok ha.can hb.can
  have v3 : DvOk a b := ha.dv hb
  have g2 : ∃ n, GcOk n a b := ⟨_, (gc_start ha hb (by decide)).1⟩
  obtain ⟨g, eg⟩ : ∃ g, pGcd a b = g := ⟨_, rfl⟩
  obtain ⟨s, es⟩ : ∃ s, (pExt a b).2.1 = s := ⟨_, rfl⟩
  obtain ⟨t, et⟩ : ∃ s, (pExt a b).2.2 = s := ⟨_, rfl⟩
  rw [eg] at y1 hg
  rw [es] at hs
  rw [et] at ht
  have dd : ∀ l : List Rat, decide (l = l) = true := fun l => decide_eq_true rfl
  have c0 : ∀ a : Rat, cmpQ a a = 0 := fun a => by
    have := cmpQ_eq0 a a
    simpa using this
  have m1 := Sz.cm ha hb
  have n1 := ha.c1
  have n2 := hb.c1
  have n3 := hg.c1
  have n4 := hs.c1
  have n5 := ht.c1
  have n6 := (ha.add hb).c1
  have n7 := (ha.sub hb).c1
  have n8 := (ha.mul hb).c1
  have n9 := (ha.sc hq).c1
  have n10 := ha.monic.c1
  have n11 := (ha.diff (by decide)).c1
  have n12 := (ha.shift hq (by decide)).c1
  have w1 : Can a := ha.can
  have w2 : ∃ s, PB a s ∧ s ≤ 50000000 := ⟨_, ha.pb, by decide⟩
  have w3 := Sz.ce ha hq
  have w4 := Sz.cs ha hq
  have w5 : ∃ N k C, (a.length ≤ N ∧ PB a k) ∧ (qs c ≤ C ∧ 1 ≤ C) ∧ N ≤ 1000 ∧ N * (shBd N k C + C + 1) ≤ 40000000 ∧ shBd N k C ≤ 40000000 := ⟨5, 1, 1, ⟨ha.len, ha.pb⟩, ⟨hq, Nat.le_refl _⟩, by decide, by decide, by decide⟩
  have q1 : qs c ≤ 100000000 := by omega
  have q2 : qs (ev a c) ≤ 100000000 := Nat.le_trans (ha.ev hq) (by decide)
  have vt : (((tr a).length : Int) == (a.length : Int)) = true := by rw [tr_self ha.can]; simp
  have b1 := List.length_pos_iff (l := b)
  have n0 : PB [] 100000000 := PB_nil (by decide)
  by_cases b0 : b = []
  · have u3 : dmP a b = .tup [.lst (V.rats []), .lst (V.rats []), .raw (.int .i64 3)] := if_pos b0
    by_cases dab : a = b
    · have d1 : decide (a = b) = true := decide_eq_true dab
      simp only [app_cons, app_nil]
      simp (maxSteps := 4000000) only [go_sem, List.reduceReplicate, ↓reduceIte, Nat.reduceEqDiff, Nat.reduceLT, Nat.reduceLeDiff, Nat.reduceAdd, Nat.reduceSub, Nat.reduceMul, Int.reduceToNat, Int.reduceNeg, Int.reduceAdd, Int.reduceSub, Int.reduceMul, Int.reduceLT, Int.reduceLE, Int.reduceMod, Int.reducePow, Nat.reducePow, Int.reduceDiv, Nat.reduceBEq, Nat.reduceBNe, Int.reduceBEq, Int.reduceBNe, reduceCtorEq, ea, eb, ec, pa, pb, pc, hz, x1, y1, eg, es, et, v3, g2, dd, c0, m1, n0, n1, n2, n3, n4, n5, n6, n7, n8, n9, n10, n11, n12, w1, w2, w3, w4, w5, q1, q2, vt, u3, d1, List.length_nil, Int.natCast_zero]
      rfl
    · have d1 : decide (a = b) = false := decide_eq_false dab
      simp only [app_cons, app_nil]
      simp (maxSteps := 4000000) only [go_sem, List.reduceReplicate, ↓reduceIte, Nat.reduceEqDiff, Nat.reduceLT, Nat.reduceLeDiff, Nat.reduceAdd, Nat.reduceSub, Nat.reduceMul, Int.reduceToNat, Int.reduceNeg, Int.reduceAdd, Int.reduceSub, Int.reduceMul, Int.reduceLT, Int.reduceLE, Int.reduceMod, Int.reducePow, Nat.reducePow, Int.reduceDiv, Nat.reduceBEq, Nat.reduceBNe, Int.reduceBEq, Int.reduceBNe, reduceCtorEq, ea, eb, ec, pa, pb, pc, hz, x1, y1, eg, es, et, v3, g2, dd, c0, m1, n0, n1, n2, n3, n4, n5, n6, n7, n8, n9, n10, n11, n12, w1, w2, w3, w4, w5, q1, q2, vt, u3, d1, List.length_nil, Int.natCast_zero]
      rfl
  · have u3 : dmP a b = .tup [.lst (V.rats (pDiv a b)), .lst (V.rats (pMod a b)), .raw (.int .i64 0)] := if_neg b0
    obtain ⟨⟨cq, cr⟩, hrl, hev⟩ := dm_ok ha.can hb.can b0
    obtain ⟨pq, pr⟩ := div_PB (S := 4) ha.can hb.can b0 ha.pb hb.pb (by decide)
    have hQ : 2 ^ (a.length - b.length + 1) * 4 ≤ 128 := Nat.le_trans (Nat.mul_le_mul_right 4 (Nat.pow_le_pow_right (by decide) (show a.length - b.length + 1 ≤ 5 by have := ha.len; have := List.length_pos_iff.2 b0; omega))) (by decide)
    have n13 := (show Sz (pDiv a b) 6 128 from ⟨Nat.le_trans (div_len ha.can hb.can b0) (by have := ha.len; omega), pq.mono hQ, cq⟩).c1
    have n14 := (show Sz (pMod a b) 5 128 from ⟨by have := hb.len; omega, pr.mono hQ, cr⟩).c1
    by_cases dab : a = b
    · have d1 : decide (a = b) = true := decide_eq_true dab
      simp only [app_cons, app_nil]
      simp (maxSteps := 4000000) only [go_sem, List.reduceReplicate, ↓reduceIte, Nat.reduceEqDiff, Nat.reduceLT, Nat.reduceLeDiff, Nat.reduceAdd, Nat.reduceSub, Nat.reduceMul, Int.reduceToNat, Int.reduceNeg, Int.reduceAdd, Int.reduceSub, Int.reduceMul, Int.reduceLT, Int.reduceLE, Int.reduceMod, Int.reducePow, Nat.reducePow, Int.reduceDiv, Nat.reduceBEq, Nat.reduceBNe, Int.reduceBEq, Int.reduceBNe, reduceCtorEq, ea, eb, ec, pa, pb, pc, hz, x1, y1, eg, es, et, v3, g2, dd, c0, m1, n0, n1, n2, n3, n4, n5, n6, n7, n8, n9, n10, n11, n12, w1, w2, w3, w4, w5, q1, q2, vt, u3, d1, List.length_nil, Int.natCast_zero, n13, n14]
      rfl
    · have d1 : decide (a = b) = false := decide_eq_false dab
      simp only [app_cons, app_nil]
      simp (maxSteps := 4000000) only [go_sem, List.reduceReplicate, ↓reduceIte, Nat.reduceEqDiff, Nat.reduceLT, Nat.reduceLeDiff, Nat.reduceAdd, Nat.reduceSub, Nat.reduceMul, Int.reduceToNat, Int.reduceNeg, Int.reduceAdd, Int.reduceSub, Int.reduceMul, Int.reduceLT, Int.reduceLE, Int.reduceMod, Int.reducePow, Nat.reducePow, Int.reduceDiv, Nat.reduceBEq, Nat.reduceBNe, Int.reduceBEq, Int.reduceBNe, reduceCtorEq, ea, eb, ec, pa, pb, pc, hz, x1, y1, eg, es, et, v3, g2, dd, c0, m1, n0, n1, n2, n3, n4, n5, n6, n7, n8, n9, n10, n11, n12, w1, w2, w3, w4, w5, q1, q2, vt, u3, d1, List.length_nil, Int.natCast_zero, n13, n14]
      rfl
set_option maxRecDepth 20000 in
theorem lawMatches_F (X : V) (h : Fits Tryz.prog 6 26 X) : PCall Tryz.prog 9 [X] (.raw (.bool true)) := by
  obtain ⟨x, rfl, hx⟩ := fits_three h
  exact matches_V x hx
end Go.Proofs.YthhpmapbhdebeaaGreat
