/- Texts LC1 LC2 in one. -/
import Derived.Test.YthhpmapbhdebeaaGreatP59
import Derived.Test.YthhpmapbhdebeaaGreatP60
import Derived.Test.YthhpmapbhdebeaaGreatP44
import Derived.Test.YthhpmapbhdebeaaGreatP41
/- The helpers of the laws of polynomials: sanity, made, number. -/
namespace Go.Proofs.YthhpmapbhdebeaaGreat
set_option linter.unusedSimpArgs false
set_option linter.unusedVariables false
open Go.RowKit

def kSqf (k : Nat) (l : List (List Rat × Nat)) : Con := con1 pR fun a => (pSqf k a = some l ∧ SfOk k a, .lst (V.facs l))
attribute [go_sem ↓, go_sem] kSqf
theorem sqf_C (k : Nat) (l : List (List Rat × Nat)) : Ctr Tryz.prog 14 (kSqf k l) := Ctr.c1 (by kernel_rfl) fun a h => sqf_V k a l h.2 h.1
theorem b8 (l : List Int) (h : (l.all fun z => decide (-128 ≤ z) && decide (z ≤ 127)) = true) : ∀ z ∈ l, B8 z := fun z hz => by
  have := List.all_eq_true.1 h z hz
  simp only [Bool.and_eq_true, decide_eq_true_eq] at this
  exact this
theorem app_cons {α : Type} (a : α) (l m : List α) : List.append (a :: l) m = a :: List.append l m := rfl
theorem app_nil {α : Type} (m : List α) : List.append [] m = m := rfl
set_option maxRecDepth 20000 in
set_option maxHeartbeats 2000000 in
theorem sanity3_V : PCall Tryz.prog 10 [] (.raw (.bool true)) := by
  obtain ⟨p1, h1⟩ : ∃ p : List Rat, p = [-1, 0, 0, 1] := ⟨_, rfl⟩
  obtain ⟨p2, h2⟩ : ∃ p : List Rat, p = [-1, 1] := ⟨_, rfl⟩
  obtain ⟨p3, h3⟩ : ∃ p : List Rat, p = [0, 0, 2, 2] := ⟨_, rfl⟩
  obtain ⟨p4, h4⟩ : ∃ p : List Rat, p = [1, 1] := ⟨_, rfl⟩
  obtain ⟨p5, h5⟩ : ∃ p : List Rat, p = [0, 1] := ⟨_, rfl⟩
  obtain ⟨p6, h6⟩ : ∃ p : List Rat, p = [2] := ⟨_, rfl⟩
  obtain ⟨p7, h7⟩ : ∃ p : List Rat, p = [1, 1, 1] := ⟨_, rfl⟩
  obtain ⟨p8, h8⟩ : ∃ p : List Rat, p = [-2, 0, 1] := ⟨_, rfl⟩
  obtain ⟨p9, h9⟩ : ∃ p : List Rat, p = [1] := ⟨_, rfl⟩
  obtain ⟨p10, h10⟩ : ∃ p : List Rat, p = [0, 0, 3] := ⟨_, rfl⟩
  have z1 : zsL [-1, 0, 0, 1] 4 = p1 := by rw [h1]; decide +kernel
  have z2 : zsL [-1, 1] 2 = p2 := by rw [h2]; decide +kernel
  have z3 : zsL [0, 0, 2, 2] 4 = p3 := by rw [h3]; decide +kernel
  have z4 : zsL [1, 1] 2 = p4 := by rw [h4]; decide +kernel
  have z5 : zsL [0, 1] 2 = p5 := by rw [h5]; decide +kernel
  have z6 : zsL [2] 1 = p6 := by rw [h6]; decide +kernel
  have z7 : zsL [1, 1, 1] 3 = p7 := by rw [h7]; decide +kernel
  have z8 : zsL [-2, 0, 1] 3 = p8 := by rw [h8]; decide +kernel
  have z9 : zsL [1] 1 = p9 := by rw [h9]; decide +kernel
  have z10 : zsL [0, 0, 3] 3 = p10 := by rw [h10]; decide +kernel
  have w1 : (∀ z ∈ ([-1, 0, 0, 1] : List Int), B8 z) = True := eq_true (b8 _ (by decide))
  have w2 : (∀ z ∈ ([-1, 1] : List Int), B8 z) = True := eq_true (b8 _ (by decide))
  have w3 : (∀ z ∈ ([0, 0, 2, 2] : List Int), B8 z) = True := eq_true (b8 _ (by decide))
  have w4 : (∀ z ∈ ([1, 1] : List Int), B8 z) = True := eq_true (b8 _ (by decide))
  have w5 : (∀ z ∈ ([0, 1] : List Int), B8 z) = True := eq_true (b8 _ (by decide))
  have w6 : (∀ z ∈ ([2] : List Int), B8 z) = True := eq_true (b8 _ (by decide))
  have w7 : (∀ z ∈ ([1, 1, 1] : List Int), B8 z) = True := eq_true (b8 _ (by decide))
  have w8 : (∀ z ∈ ([-2, 0, 1] : List Int), B8 z) = True := eq_true (b8 _ (by decide))
  have w9 : (∀ z ∈ ([1] : List Int), B8 z) = True := eq_true (b8 _ (by decide))
  have w10 : (∀ z ∈ ([0, 0, 3] : List Int), B8 z) = True := eq_true (b8 _ (by decide))
  have y1 : mdQ 1 2 = 1 / 2 := by decide +kernel
  have y2 : mdQ (-7) 8 = -7 / 8 := by decide +kernel
  have y3 : mdQ (-1) 2 = -1 / 2 := by decide +kernel
  have y4 : ((-1 : Int) : Rat) = -1 := by decide +kernel
  have d1 : dmP p1 p2 = .tup [.lst (V.rats p7), .lst (V.rats []), .raw (.int .i64 0)] := by
    rw [h1, h2, h7]
    unfold dmP
    rw [if_neg (by decide), show pDiv [-1, 0, 0, 1] [-1, 1] = [1, 1, 1] from by decide +kernel, show pMod [-1, 0, 0, 1] [-1, 1] = [] from by decide +kernel]
  have d2 : dmP p1 [] = .tup [.lst (V.rats []), .lst (V.rats []), .raw (.int .i64 3)] := if_pos rfl
  have e1 : pExt p5 p6 = (p9, [], [mdQ 1 2]) := by rw [h5, h6, h9, y1]; decide +kernel
  have r1 : pRes p8 p2 = ((-1 : Int) : Rat) := by rw [h8, h2, y4]; decide +kernel
  have v1 : ev p1 (mdQ 1 2) = mdQ (-7) 8 := by rw [h1, y1, y2]; decide +kernel
  have s1 : pShift (mdQ 1 2) p2 = [mdQ (-1) 2, ((1 : Int) : Rat)] := by rw [h2, y1, y3]; decide +kernel
  have g1 : pDiff p1 = p10 := by rw [h1, h10]; decide +kernel
  have t0 : tr [((0 : Int) : Rat)] = [] := by decide +kernel
  have t1 : tr [] = [] := rfl
  have c0 : ∀ a : Rat, cmpQ a a = 0 := fun a => by
    have := cmpQ_eq0 a a
    simpa using this
  have dd : ∀ l : List Rat, decide (l = l) = true := fun l => decide_eq_true rfl
  have df : ∀ l : List (List Rat × Int), decide (l = l) = true := fun l => decide_eq_true rfl
  have fz : facZ [(p4, 1), (p5, 2)] = [(p4, 1), (p5, 2)] := rfl
  have sq : pSqf 5 p3 = some [(p4, 1), (p5, 2)] := by rw [h3, h4, h5]; decide +kernel
  have so : SfOk 5 p3 := by rw [h3]; exact sfB_ok (by decide +kernel)
  have q1 : DvOk p1 p2 := by rw [h1, h2]; exact dvB_ok (by decide +kernel)
  have q2 : DvOk p1 [] := by rw [h1]; exact dvB_ok (by decide +kernel)
  have q3 : ∃ n, ExOk n p5 p6 [1] [] [] [1] := ⟨10, by rw [h5, h6]; exact exB_ok (by decide +kernel)⟩
  have q5 : ∃ n, ReOk n 1 p8 p2 := ⟨10, by rw [h8, h2]; exact reB_ok (by decide +kernel)⟩
  have sm : ∀ l : List Rat, smL l = true → l.length ≤ 1000000 ∧ PB l 100000000 := fun l h => ⟨Nat.le_trans (smL_len h) (by decide), smL_PB h (by decide)⟩
  have m1 := sm p1 (by rw [h1]; decide +kernel)
  have m2 := sm p2 (by rw [h2]; decide +kernel)
  have m4 := sm p4 (by rw [h4]; decide +kernel)
  have m5 := sm p5 (by rw [h5]; decide +kernel)
  have m7 := sm p7 (by rw [h7]; decide +kernel)
  have m9 := sm p9 (by rw [h9]; decide +kernel)
  have m10 := sm p10 (by rw [h10]; decide +kernel)
  have m11 := sm [] (by decide)
  have m12 := sm [mdQ 1 2] (by rw [y1]; decide +kernel)
  have m13 := sm [mdQ (-1) 2, ((1 : Int) : Rat)] (by rw [y3]; decide +kernel)
  have m14 := sm [((0 : Int) : Rat)] (by decide +kernel)
  have qh : qs (mdQ 1 2) ≤ 40000000 := by rw [y1]; exact smq_ok (by decide +kernel) (by decide)
  have qh' : qs (mdQ 1 2) ≤ 100000000 := by omega
  have q6 : EvOk p1 (mdQ 1 2) := by rw [h1, y1]; exact evB_ok (by decide +kernel)
  have q7 : ShOk p2.length (mdQ 1 2) p2 := by rw [h2, y1]; exact shB_ok (by decide +kernel)
  have q8 : Can p2 := by rw [h2]; exact cnB_ok (by decide +kernel)
  have qa : qs (mdQ (-7) 8) ≤ 100000000 := by rw [y2]; exact smq_ok (by decide +kernel) (by decide)
  have qb : qs ((-1 : Int) : Rat) ≤ 100000000 := by rw [y4]; exact smq_ok (by decide +kernel) (by decide)
  have fb : FB [(p4, 1), (p5, 2)] := ⟨by simp, fun i => by
    rcases i with _ | _ | i
    · exact m4
    · exact m5
    · exact m11⟩
  refine PCall.of_awp Tryz.func10 rfl Tryz.ntmps10 Tryz.results10 (by simp) ?_
  have T1 := (tabs mixed (tbl_cons rInts_C (tbl_cons pDM_C (tbl_cons ext_C (tbl_cons r2Made_C tbl_nil)))))
  refine AWp.seq (vc_ok T1 _ _ _ ?_)
  simp only [go_sem, List.reduceReplicate, ↓reduceIte, Nat.reduceEqDiff, Nat.reduceLT, Nat.reduceLeDiff, Nat.reduceAdd, Nat.reduceSub, Nat.reduceMul, Int.reduceToNat, Int.reduceNeg, Int.reduceAdd, Int.reduceSub, Int.reduceMul, Int.reduceLT, Int.reduceLE, Int.reduceMod, Int.reducePow, Nat.reducePow, Int.reduceDiv, Nat.reduceBEq, Nat.reduceBNe, Int.reduceBEq, Int.reduceBNe, reduceCtorEq, z1, z2, z3, z4, z5, z6, z7, z8, z9, z10, w1, w2, w3, w4, w5, w6, w7, w8, w9, w10, d1, d2, e1, r1, v1, s1, g1, t0, t1, c0, dd, df, fz, sq, so, q1, q2, q3, q5, q6, q7, q8, m1, m2, m4, m5, m7, m9, m10, m11, m12, m13, m14, qh, qh', qa, qb, fb]
  refine AWp.seq (vc_ok T1 _ _ _ ?_)
  simp only [go_sem, List.reduceReplicate, ↓reduceIte, Nat.reduceEqDiff, Nat.reduceLT, Nat.reduceLeDiff, Nat.reduceAdd, Nat.reduceSub, Nat.reduceMul, Int.reduceToNat, Int.reduceNeg, Int.reduceAdd, Int.reduceSub, Int.reduceMul, Int.reduceLT, Int.reduceLE, Int.reduceMod, Int.reducePow, Nat.reducePow, Int.reduceDiv, Nat.reduceBEq, Nat.reduceBNe, Int.reduceBEq, Int.reduceBNe, reduceCtorEq, z1, z2, z3, z4, z5, z6, z7, z8, z9, z10, w1, w2, w3, w4, w5, w6, w7, w8, w9, w10, d1, d2, e1, r1, v1, s1, g1, t0, t1, c0, dd, df, fz, sq, so, q1, q2, q3, q5, q6, q7, q8, m1, m2, m4, m5, m7, m9, m10, m11, m12, m13, m14, qh, qh', qa, qb, fb]
  refine AWp.seq (vc_ok T1 _ _ _ ?_)
  simp only [go_sem, List.reduceReplicate, ↓reduceIte, Nat.reduceEqDiff, Nat.reduceLT, Nat.reduceLeDiff, Nat.reduceAdd, Nat.reduceSub, Nat.reduceMul, Int.reduceToNat, Int.reduceNeg, Int.reduceAdd, Int.reduceSub, Int.reduceMul, Int.reduceLT, Int.reduceLE, Int.reduceMod, Int.reducePow, Nat.reducePow, Int.reduceDiv, Nat.reduceBEq, Nat.reduceBNe, Int.reduceBEq, Int.reduceBNe, reduceCtorEq, z1, z2, z3, z4, z5, z6, z7, z8, z9, z10, w1, w2, w3, w4, w5, w6, w7, w8, w9, w10, d1, d2, e1, r1, v1, s1, g1, t0, t1, c0, dd, df, fz, sq, so, q1, q2, q3, q5, q6, q7, q8, m1, m2, m4, m5, m7, m9, m10, m11, m12, m13, m14, qh, qh', qa, qb, fb]
  refine AWp.seq (vc_ok T1 _ _ _ ?_)
  simp only [go_sem, List.reduceReplicate, ↓reduceIte, Nat.reduceEqDiff, Nat.reduceLT, Nat.reduceLeDiff, Nat.reduceAdd, Nat.reduceSub, Nat.reduceMul, Int.reduceToNat, Int.reduceNeg, Int.reduceAdd, Int.reduceSub, Int.reduceMul, Int.reduceLT, Int.reduceLE, Int.reduceMod, Int.reducePow, Nat.reducePow, Int.reduceDiv, Nat.reduceBEq, Nat.reduceBNe, Int.reduceBEq, Int.reduceBNe, reduceCtorEq, z1, z2, z3, z4, z5, z6, z7, z8, z9, z10, w1, w2, w3, w4, w5, w6, w7, w8, w9, w10, d1, d2, e1, r1, v1, s1, g1, t0, t1, c0, dd, df, fz, sq, so, q1, q2, q3, q5, q6, q7, q8, m1, m2, m4, m5, m7, m9, m10, m11, m12, m13, m14, qh, qh', qa, qb, fb]
  refine AWp.seq (vc_ok T1 _ _ _ ?_)
  simp only [go_sem, List.reduceReplicate, ↓reduceIte, Nat.reduceEqDiff, Nat.reduceLT, Nat.reduceLeDiff, Nat.reduceAdd, Nat.reduceSub, Nat.reduceMul, Int.reduceToNat, Int.reduceNeg, Int.reduceAdd, Int.reduceSub, Int.reduceMul, Int.reduceLT, Int.reduceLE, Int.reduceMod, Int.reducePow, Nat.reducePow, Int.reduceDiv, Nat.reduceBEq, Nat.reduceBNe, Int.reduceBEq, Int.reduceBNe, reduceCtorEq, z1, z2, z3, z4, z5, z6, z7, z8, z9, z10, w1, w2, w3, w4, w5, w6, w7, w8, w9, w10, d1, d2, e1, r1, v1, s1, g1, t0, t1, c0, dd, df, fz, sq, so, q1, q2, q3, q5, q6, q7, q8, m1, m2, m4, m5, m7, m9, m10, m11, m12, m13, m14, qh, qh', qa, qb, fb]
  refine AWp.seq (vc_ok T1 _ _ _ ?_)
  simp only [go_sem, List.reduceReplicate, ↓reduceIte, Nat.reduceEqDiff, Nat.reduceLT, Nat.reduceLeDiff, Nat.reduceAdd, Nat.reduceSub, Nat.reduceMul, Int.reduceToNat, Int.reduceNeg, Int.reduceAdd, Int.reduceSub, Int.reduceMul, Int.reduceLT, Int.reduceLE, Int.reduceMod, Int.reducePow, Nat.reducePow, Int.reduceDiv, Nat.reduceBEq, Nat.reduceBNe, Int.reduceBEq, Int.reduceBNe, reduceCtorEq, z1, z2, z3, z4, z5, z6, z7, z8, z9, z10, w1, w2, w3, w4, w5, w6, w7, w8, w9, w10, d1, d2, e1, r1, v1, s1, g1, t0, t1, c0, dd, df, fz, sq, so, q1, q2, q3, q5, q6, q7, q8, m1, m2, m4, m5, m7, m9, m10, m11, m12, m13, m14, qh, qh', qa, qb, fb]
  refine AWp.seq (vc_ok T1 _ _ _ ?_)
  simp only [go_sem, List.reduceReplicate, ↓reduceIte, Nat.reduceEqDiff, Nat.reduceLT, Nat.reduceLeDiff, Nat.reduceAdd, Nat.reduceSub, Nat.reduceMul, Int.reduceToNat, Int.reduceNeg, Int.reduceAdd, Int.reduceSub, Int.reduceMul, Int.reduceLT, Int.reduceLE, Int.reduceMod, Int.reducePow, Nat.reducePow, Int.reduceDiv, Nat.reduceBEq, Nat.reduceBNe, Int.reduceBEq, Int.reduceBNe, reduceCtorEq, z1, z2, z3, z4, z5, z6, z7, z8, z9, z10, w1, w2, w3, w4, w5, w6, w7, w8, w9, w10, d1, d2, e1, r1, v1, s1, g1, t0, t1, c0, dd, df, fz, sq, so, q1, q2, q3, q5, q6, q7, q8, m1, m2, m4, m5, m7, m9, m10, m11, m12, m13, m14, qh, qh', qa, qb, fb]
  refine AWp.seq (vc_ok T1 _ _ _ ?_)
  simp only [go_sem, List.reduceReplicate, ↓reduceIte, Nat.reduceEqDiff, Nat.reduceLT, Nat.reduceLeDiff, Nat.reduceAdd, Nat.reduceSub, Nat.reduceMul, Int.reduceToNat, Int.reduceNeg, Int.reduceAdd, Int.reduceSub, Int.reduceMul, Int.reduceLT, Int.reduceLE, Int.reduceMod, Int.reducePow, Nat.reducePow, Int.reduceDiv, Nat.reduceBEq, Nat.reduceBNe, Int.reduceBEq, Int.reduceBNe, reduceCtorEq, z1, z2, z3, z4, z5, z6, z7, z8, z9, z10, w1, w2, w3, w4, w5, w6, w7, w8, w9, w10, d1, d2, e1, r1, v1, s1, g1, t0, t1, c0, dd, df, fz, sq, so, q1, q2, q3, q5, q6, q7, q8, m1, m2, m4, m5, m7, m9, m10, m11, m12, m13, m14, qh, qh', qa, qb, fb]
  refine AWp.seq (vc_ok T1 _ _ _ ?_)
  simp only [go_sem, List.reduceReplicate, ↓reduceIte, Nat.reduceEqDiff, Nat.reduceLT, Nat.reduceLeDiff, Nat.reduceAdd, Nat.reduceSub, Nat.reduceMul, Int.reduceToNat, Int.reduceNeg, Int.reduceAdd, Int.reduceSub, Int.reduceMul, Int.reduceLT, Int.reduceLE, Int.reduceMod, Int.reducePow, Nat.reducePow, Int.reduceDiv, Nat.reduceBEq, Nat.reduceBNe, Int.reduceBEq, Int.reduceBNe, reduceCtorEq, z1, z2, z3, z4, z5, z6, z7, z8, z9, z10, w1, w2, w3, w4, w5, w6, w7, w8, w9, w10, d1, d2, e1, r1, v1, s1, g1, t0, t1, c0, dd, df, fz, sq, so, q1, q2, q3, q5, q6, q7, q8, m1, m2, m4, m5, m7, m9, m10, m11, m12, m13, m14, qh, qh', qa, qb, fb]
  refine AWp.seq (AWp.from (Wk.of (ss := [(1, .lst (V.rats p1)), (2, .lst (V.rats p2)), (3, .lst (V.rats p7)), (4, .lst (V.rats [])), (5, .raw (.int .i64 0)), (8, .raw (.int .i64 3)), (9, .lst (V.rats p3)), (10, .sl 0 2 0 2), (11, .lst (V.rats p9)), (12, .lst (V.rats [])), (13, .lst (V.rats [mdQ 1 2])), (14, .ptr 1 4 0 0)])
    (hs := [(0, false, ⟨42, 2, [.agg [.lst (V.rats p4), .raw (.int .i64 1)], .agg [.lst (V.rats p5), .raw (.int .i64 2)]]⟩), (1, false, ⟨51, 4, [.Q (mdQ 1 2)]⟩)]) (n := 2) (N := 140) [35, 50] (by decide) ?_) (AWp.regs ?_))
  · simp only [go_sem, List.reduceReplicate, ↓reduceIte, Nat.reduceEqDiff, Nat.reduceLT, Nat.reduceLeDiff, Nat.reduceAdd, Nat.reduceSub, Nat.reduceMul, Int.reduceToNat, Int.reduceNeg, Int.reduceAdd, Int.reduceSub, Int.reduceMul, Int.reduceLT, Int.reduceLE, Int.reduceMod, Int.reducePow, Nat.reducePow, Int.reduceDiv, Nat.reduceBEq, Nat.reduceBNe, Int.reduceBEq, Int.reduceBNe, reduceCtorEq]
    exact ⟨⟨renV_pure rfl, renV_pure rfl⟩, renV_pure rfl⟩
  have T2 := (tabs mixed (tbl_cons rInts_C (tbl_cons r2Made_C (tbl_cons rPEq_C (tbl_cons (sqf_C 5 [(p4, 1), (p5, 2)]) (tbl_cons rSame_C (tbl_cons res_C (tbl_cons r2Whole_C (tbl_cons r2Cmp_C (tbl_cons pEval_C (tbl_cons pShift_C (tbl_cons pDiff_C (tbl_cons pValid_C (tbl_cons rTrim_C (tbl_cons trim_C tbl_nil)))))))))))))))
  simp only [app_cons, app_nil]
  refine RegI.cut T2 0 9 rfl rfl (by decide) ?_
  simp only [go_sem, List.reduceReplicate, ↓reduceIte, Nat.reduceEqDiff, Nat.reduceLT, Nat.reduceLeDiff, Nat.reduceAdd, Nat.reduceSub, Nat.reduceMul, Int.reduceToNat, Int.reduceNeg, Int.reduceAdd, Int.reduceSub, Int.reduceMul, Int.reduceLT, Int.reduceLE, Int.reduceMod, Int.reducePow, Nat.reducePow, Int.reduceDiv, Nat.reduceBEq, Nat.reduceBNe, Int.reduceBEq, Int.reduceBNe, reduceCtorEq, mkSt_eq, z1, z2, z3, z4, z5, z6, z7, z8, z9, z10, w1, w2, w3, w4, w5, w6, w7, w8, w9, w10, d1, d2, e1, r1, v1, s1, g1, t0, t1, c0, dd, df, fz, sq, so, q1, q2, q3, q5, q6, q7, q8, m1, m2, m4, m5, m7, m9, m10, m11, m12, m13, m14, qh, qh', qa, qb, fb]
  refine ⟨_, Wk.of (ss := [(1, .lst (V.rats p1)), (2, .lst (V.rats p2)), (3, .lst (V.rats p7)), (4, .lst (V.rats [])), (5, .raw (.int .i64 0)), (8, .raw (.int .i64 3)), (9, .lst (V.rats p3)), (10, .sl 0 2 0 2), (11, .lst (V.rats p9)), (12, .lst (V.rats [])), (13, .lst (V.rats [mdQ 1 2])), (14, .ptr 1 4 0 0), (59, .raw (.bool true))]) (hs := [(0, false, ⟨42, 2, [.agg [.lst (V.rats p4), .raw (.int .i64 1)], .agg [.lst (V.rats p5), .raw (.int .i64 2)]]⟩), (1, false, ⟨51, 4, [.Q (mdQ 1 2)]⟩)]) (n := 2) (N := 140) [0, 1] (by decide) ?_, ?_⟩
  · simp only [go_sem, List.reduceReplicate, ↓reduceIte, Nat.reduceEqDiff, Nat.reduceLT, Nat.reduceLeDiff, Nat.reduceAdd, Nat.reduceSub, Nat.reduceMul, Int.reduceToNat, Int.reduceNeg, Int.reduceAdd, Int.reduceSub, Int.reduceMul, Int.reduceLT, Int.reduceLE, Int.reduceMod, Int.reducePow, Nat.reducePow, Int.reduceDiv, Nat.reduceBEq, Nat.reduceBNe, Int.reduceBEq, Int.reduceBNe, reduceCtorEq]
    exact ⟨⟨renV_pure rfl, renV_pure rfl⟩, renV_pure rfl⟩
  refine RegI.cut T2 9 17 rfl rfl (by decide) ?_
  simp only [go_sem, List.reduceReplicate, ↓reduceIte, Nat.reduceEqDiff, Nat.reduceLT, Nat.reduceLeDiff, Nat.reduceAdd, Nat.reduceSub, Nat.reduceMul, Int.reduceToNat, Int.reduceNeg, Int.reduceAdd, Int.reduceSub, Int.reduceMul, Int.reduceLT, Int.reduceLE, Int.reduceMod, Int.reducePow, Nat.reducePow, Int.reduceDiv, Nat.reduceBEq, Nat.reduceBNe, Int.reduceBEq, Int.reduceBNe, reduceCtorEq, mkSt_eq, z1, z2, z3, z4, z5, z6, z7, z8, z9, z10, w1, w2, w3, w4, w5, w6, w7, w8, w9, w10, d1, d2, e1, r1, v1, s1, g1, t0, t1, c0, dd, df, fz, sq, so, q1, q2, q3, q5, q6, q7, q8, m1, m2, m4, m5, m7, m9, m10, m11, m12, m13, m14, qh, qh', qa, qb, fb]
  refine ⟨_, Wk.of (ss := [(1, .lst (V.rats p1)), (2, .lst (V.rats p2)), (3, .lst (V.rats p7)), (4, .lst (V.rats [])), (5, .raw (.int .i64 0)), (8, .raw (.int .i64 3)), (9, .lst (V.rats p3)), (10, .sl 0 2 0 2), (11, .lst (V.rats p9)), (12, .lst (V.rats [])), (13, .lst (V.rats [mdQ 1 2])), (14, .ptr 1 4 0 0), (67, .raw (.bool true))]) (hs := [(0, false, ⟨42, 2, [.agg [.lst (V.rats p4), .raw (.int .i64 1)], .agg [.lst (V.rats p5), .raw (.int .i64 2)]]⟩), (1, false, ⟨51, 4, [.Q (mdQ 1 2)]⟩)]) (n := 2) (N := 140) [0, 1] (by decide) ?_, ?_⟩
  · simp only [go_sem, List.reduceReplicate, ↓reduceIte, Nat.reduceEqDiff, Nat.reduceLT, Nat.reduceLeDiff, Nat.reduceAdd, Nat.reduceSub, Nat.reduceMul, Int.reduceToNat, Int.reduceNeg, Int.reduceAdd, Int.reduceSub, Int.reduceMul, Int.reduceLT, Int.reduceLE, Int.reduceMod, Int.reducePow, Nat.reducePow, Int.reduceDiv, Nat.reduceBEq, Nat.reduceBNe, Int.reduceBEq, Int.reduceBNe, reduceCtorEq]
    exact ⟨⟨renV_pure rfl, renV_pure rfl⟩, renV_pure rfl⟩
  refine RegI.cut T2 17 23 rfl rfl (by decide) ?_
  simp only [go_sem, List.reduceReplicate, ↓reduceIte, Nat.reduceEqDiff, Nat.reduceLT, Nat.reduceLeDiff, Nat.reduceAdd, Nat.reduceSub, Nat.reduceMul, Int.reduceToNat, Int.reduceNeg, Int.reduceAdd, Int.reduceSub, Int.reduceMul, Int.reduceLT, Int.reduceLE, Int.reduceMod, Int.reducePow, Nat.reducePow, Int.reduceDiv, Nat.reduceBEq, Nat.reduceBNe, Int.reduceBEq, Int.reduceBNe, reduceCtorEq, mkSt_eq, z1, z2, z3, z4, z5, z6, z7, z8, z9, z10, w1, w2, w3, w4, w5, w6, w7, w8, w9, w10, d1, d2, e1, r1, v1, s1, g1, t0, t1, c0, dd, df, fz, sq, so, q1, q2, q3, q5, q6, q7, q8, m1, m2, m4, m5, m7, m9, m10, m11, m12, m13, m14, qh, qh', qa, qb, fb]
  refine ⟨_, Wk.of (ss := [(1, .lst (V.rats p1)), (2, .lst (V.rats p2)), (3, .lst (V.rats p7)), (4, .lst (V.rats [])), (5, .raw (.int .i64 0)), (8, .raw (.int .i64 3)), (9, .lst (V.rats p3)), (10, .sl 0 2 0 2), (11, .lst (V.rats p9)), (12, .lst (V.rats [])), (13, .lst (V.rats [mdQ 1 2])), (14, .ptr 1 4 0 0), (73, .raw (.bool true))]) (hs := [(0, false, ⟨42, 2, [.agg [.lst (V.rats p4), .raw (.int .i64 1)], .agg [.lst (V.rats p5), .raw (.int .i64 2)]]⟩), (1, false, ⟨51, 4, [.Q (mdQ 1 2)]⟩)]) (n := 2) (N := 140) [0, 1] (by decide) ?_, ?_⟩
  · simp only [go_sem, List.reduceReplicate, ↓reduceIte, Nat.reduceEqDiff, Nat.reduceLT, Nat.reduceLeDiff, Nat.reduceAdd, Nat.reduceSub, Nat.reduceMul, Int.reduceToNat, Int.reduceNeg, Int.reduceAdd, Int.reduceSub, Int.reduceMul, Int.reduceLT, Int.reduceLE, Int.reduceMod, Int.reducePow, Nat.reducePow, Int.reduceDiv, Nat.reduceBEq, Nat.reduceBNe, Int.reduceBEq, Int.reduceBNe, reduceCtorEq]
    exact ⟨⟨renV_pure rfl, renV_pure rfl⟩, renV_pure rfl⟩
  refine RegI.cut T2 23 32 rfl rfl (by decide) ?_
  simp only [go_sem, List.reduceReplicate, ↓reduceIte, Nat.reduceEqDiff, Nat.reduceLT, Nat.reduceLeDiff, Nat.reduceAdd, Nat.reduceSub, Nat.reduceMul, Int.reduceToNat, Int.reduceNeg, Int.reduceAdd, Int.reduceSub, Int.reduceMul, Int.reduceLT, Int.reduceLE, Int.reduceMod, Int.reducePow, Nat.reducePow, Int.reduceDiv, Nat.reduceBEq, Nat.reduceBNe, Int.reduceBEq, Int.reduceBNe, reduceCtorEq, mkSt_eq, z1, z2, z3, z4, z5, z6, z7, z8, z9, z10, w1, w2, w3, w4, w5, w6, w7, w8, w9, w10, d1, d2, e1, r1, v1, s1, g1, t0, t1, c0, dd, df, fz, sq, so, q1, q2, q3, q5, q6, q7, q8, m1, m2, m4, m5, m7, m9, m10, m11, m12, m13, m14, qh, qh', qa, qb, fb]
  refine ⟨_, Wk.of (ss := [(1, .lst (V.rats p1)), (2, .lst (V.rats p2)), (3, .lst (V.rats p7)), (4, .lst (V.rats [])), (5, .raw (.int .i64 0)), (8, .raw (.int .i64 3)), (9, .lst (V.rats p3)), (10, .sl 0 2 0 2), (11, .lst (V.rats p9)), (12, .lst (V.rats [])), (13, .lst (V.rats [mdQ 1 2])), (14, .ptr 1 4 0 0), (82, .raw (.bool true))]) (hs := [(0, false, ⟨42, 2, [.agg [.lst (V.rats p4), .raw (.int .i64 1)], .agg [.lst (V.rats p5), .raw (.int .i64 2)]]⟩), (1, false, ⟨51, 4, [.Q (mdQ 1 2)]⟩)]) (n := 2) (N := 140) [0, 1] (by decide) ?_, ?_⟩
  · simp only [go_sem, List.reduceReplicate, ↓reduceIte, Nat.reduceEqDiff, Nat.reduceLT, Nat.reduceLeDiff, Nat.reduceAdd, Nat.reduceSub, Nat.reduceMul, Int.reduceToNat, Int.reduceNeg, Int.reduceAdd, Int.reduceSub, Int.reduceMul, Int.reduceLT, Int.reduceLE, Int.reduceMod, Int.reducePow, Nat.reducePow, Int.reduceDiv, Nat.reduceBEq, Nat.reduceBNe, Int.reduceBEq, Int.reduceBNe, reduceCtorEq]
    exact ⟨⟨renV_pure rfl, renV_pure rfl⟩, renV_pure rfl⟩
  refine RegI.cut T2 32 38 rfl rfl (by decide) ?_
  simp only [go_sem, List.reduceReplicate, ↓reduceIte, Nat.reduceEqDiff, Nat.reduceLT, Nat.reduceLeDiff, Nat.reduceAdd, Nat.reduceSub, Nat.reduceMul, Int.reduceToNat, Int.reduceNeg, Int.reduceAdd, Int.reduceSub, Int.reduceMul, Int.reduceLT, Int.reduceLE, Int.reduceMod, Int.reducePow, Nat.reducePow, Int.reduceDiv, Nat.reduceBEq, Nat.reduceBNe, Int.reduceBEq, Int.reduceBNe, reduceCtorEq, mkSt_eq, z1, z2, z3, z4, z5, z6, z7, z8, z9, z10, w1, w2, w3, w4, w5, w6, w7, w8, w9, w10, d1, d2, e1, r1, v1, s1, g1, t0, t1, c0, dd, df, fz, sq, so, q1, q2, q3, q5, q6, q7, q8, m1, m2, m4, m5, m7, m9, m10, m11, m12, m13, m14, qh, qh', qa, qb, fb]
  refine ⟨_, Wk.of (ss := [(1, .lst (V.rats p1)), (2, .lst (V.rats p2)), (3, .lst (V.rats p7)), (4, .lst (V.rats [])), (5, .raw (.int .i64 0)), (8, .raw (.int .i64 3)), (9, .lst (V.rats p3)), (10, .sl 0 2 0 2), (11, .lst (V.rats p9)), (12, .lst (V.rats [])), (13, .lst (V.rats [mdQ 1 2])), (14, .ptr 1 4 0 0), (88, .raw (.bool true))]) (hs := [(0, false, ⟨42, 2, [.agg [.lst (V.rats p4), .raw (.int .i64 1)], .agg [.lst (V.rats p5), .raw (.int .i64 2)]]⟩), (1, false, ⟨51, 4, [.Q (mdQ 1 2)]⟩)]) (n := 2) (N := 140) [0, 1] (by decide) ?_, ?_⟩
  · simp only [go_sem, List.reduceReplicate, ↓reduceIte, Nat.reduceEqDiff, Nat.reduceLT, Nat.reduceLeDiff, Nat.reduceAdd, Nat.reduceSub, Nat.reduceMul, Int.reduceToNat, Int.reduceNeg, Int.reduceAdd, Int.reduceSub, Int.reduceMul, Int.reduceLT, Int.reduceLE, Int.reduceMod, Int.reducePow, Nat.reducePow, Int.reduceDiv, Nat.reduceBEq, Nat.reduceBNe, Int.reduceBEq, Int.reduceBNe, reduceCtorEq]
    exact ⟨⟨renV_pure rfl, renV_pure rfl⟩, renV_pure rfl⟩
  refine RegI.cut T2 38 43 rfl rfl (by decide) ?_
  simp only [go_sem, List.reduceReplicate, ↓reduceIte, Nat.reduceEqDiff, Nat.reduceLT, Nat.reduceLeDiff, Nat.reduceAdd, Nat.reduceSub, Nat.reduceMul, Int.reduceToNat, Int.reduceNeg, Int.reduceAdd, Int.reduceSub, Int.reduceMul, Int.reduceLT, Int.reduceLE, Int.reduceMod, Int.reducePow, Nat.reducePow, Int.reduceDiv, Nat.reduceBEq, Nat.reduceBNe, Int.reduceBEq, Int.reduceBNe, reduceCtorEq, mkSt_eq, z1, z2, z3, z4, z5, z6, z7, z8, z9, z10, w1, w2, w3, w4, w5, w6, w7, w8, w9, w10, d1, d2, e1, r1, v1, s1, g1, t0, t1, c0, dd, df, fz, sq, so, q1, q2, q3, q5, q6, q7, q8, m1, m2, m4, m5, m7, m9, m10, m11, m12, m13, m14, qh, qh', qa, qb, fb]
  refine ⟨_, Wk.of (ss := [(1, .lst (V.rats p1)), (2, .lst (V.rats p2)), (3, .lst (V.rats p7)), (4, .lst (V.rats [])), (5, .raw (.int .i64 0)), (8, .raw (.int .i64 3)), (9, .lst (V.rats p3)), (10, .sl 0 2 0 2), (11, .lst (V.rats p9)), (12, .lst (V.rats [])), (13, .lst (V.rats [mdQ 1 2])), (14, .ptr 1 4 0 0), (93, .raw (.bool true))]) (hs := [(0, false, ⟨42, 2, [.agg [.lst (V.rats p4), .raw (.int .i64 1)], .agg [.lst (V.rats p5), .raw (.int .i64 2)]]⟩), (1, false, ⟨51, 4, [.Q (mdQ 1 2)]⟩)]) (n := 2) (N := 140) [0, 1] (by decide) ?_, ?_⟩
  · simp only [go_sem, List.reduceReplicate, ↓reduceIte, Nat.reduceEqDiff, Nat.reduceLT, Nat.reduceLeDiff, Nat.reduceAdd, Nat.reduceSub, Nat.reduceMul, Int.reduceToNat, Int.reduceNeg, Int.reduceAdd, Int.reduceSub, Int.reduceMul, Int.reduceLT, Int.reduceLE, Int.reduceMod, Int.reducePow, Nat.reducePow, Int.reduceDiv, Nat.reduceBEq, Nat.reduceBNe, Int.reduceBEq, Int.reduceBNe, reduceCtorEq]
    exact ⟨⟨renV_pure rfl, renV_pure rfl⟩, renV_pure rfl⟩
  refine RegI.cut T2 43 49 rfl rfl (by decide) ?_
  simp only [go_sem, List.reduceReplicate, ↓reduceIte, Nat.reduceEqDiff, Nat.reduceLT, Nat.reduceLeDiff, Nat.reduceAdd, Nat.reduceSub, Nat.reduceMul, Int.reduceToNat, Int.reduceNeg, Int.reduceAdd, Int.reduceSub, Int.reduceMul, Int.reduceLT, Int.reduceLE, Int.reduceMod, Int.reducePow, Nat.reducePow, Int.reduceDiv, Nat.reduceBEq, Nat.reduceBNe, Int.reduceBEq, Int.reduceBNe, reduceCtorEq, mkSt_eq, z1, z2, z3, z4, z5, z6, z7, z8, z9, z10, w1, w2, w3, w4, w5, w6, w7, w8, w9, w10, d1, d2, e1, r1, v1, s1, g1, t0, t1, c0, dd, df, fz, sq, so, q1, q2, q3, q5, q6, q7, q8, m1, m2, m4, m5, m7, m9, m10, m11, m12, m13, m14, qh, qh', qa, qb, fb]
  refine ⟨_, Wk.of (ss := [(1, .lst (V.rats p1)), (2, .lst (V.rats p2)), (3, .lst (V.rats p7)), (4, .lst (V.rats [])), (5, .raw (.int .i64 0)), (8, .raw (.int .i64 3)), (9, .lst (V.rats p3)), (10, .sl 0 2 0 2), (11, .lst (V.rats p9)), (12, .lst (V.rats [])), (13, .lst (V.rats [mdQ 1 2])), (14, .ptr 1 4 0 0), (99, .raw (.bool true))]) (hs := [(0, false, ⟨42, 2, [.agg [.lst (V.rats p4), .raw (.int .i64 1)], .agg [.lst (V.rats p5), .raw (.int .i64 2)]]⟩), (1, false, ⟨51, 4, [.Q (mdQ 1 2)]⟩)]) (n := 2) (N := 140) [0, 1] (by decide) ?_, ?_⟩
  · simp only [go_sem, List.reduceReplicate, ↓reduceIte, Nat.reduceEqDiff, Nat.reduceLT, Nat.reduceLeDiff, Nat.reduceAdd, Nat.reduceSub, Nat.reduceMul, Int.reduceToNat, Int.reduceNeg, Int.reduceAdd, Int.reduceSub, Int.reduceMul, Int.reduceLT, Int.reduceLE, Int.reduceMod, Int.reducePow, Nat.reducePow, Int.reduceDiv, Nat.reduceBEq, Nat.reduceBNe, Int.reduceBEq, Int.reduceBNe, reduceCtorEq]
    exact ⟨⟨renV_pure rfl, renV_pure rfl⟩, renV_pure rfl⟩
  refine RegI.cut T2 49 57 rfl rfl (by decide) ?_
  simp only [go_sem, List.reduceReplicate, ↓reduceIte, Nat.reduceEqDiff, Nat.reduceLT, Nat.reduceLeDiff, Nat.reduceAdd, Nat.reduceSub, Nat.reduceMul, Int.reduceToNat, Int.reduceNeg, Int.reduceAdd, Int.reduceSub, Int.reduceMul, Int.reduceLT, Int.reduceLE, Int.reduceMod, Int.reducePow, Nat.reducePow, Int.reduceDiv, Nat.reduceBEq, Nat.reduceBNe, Int.reduceBEq, Int.reduceBNe, reduceCtorEq, mkSt_eq, z1, z2, z3, z4, z5, z6, z7, z8, z9, z10, w1, w2, w3, w4, w5, w6, w7, w8, w9, w10, d1, d2, e1, r1, v1, s1, g1, t0, t1, c0, dd, df, fz, sq, so, q1, q2, q3, q5, q6, q7, q8, m1, m2, m4, m5, m7, m9, m10, m11, m12, m13, m14, qh, qh', qa, qb, fb]
  refine ⟨_, Wk.of (ss := [(1, .lst (V.rats p1)), (2, .lst (V.rats p2)), (3, .lst (V.rats p7)), (4, .lst (V.rats [])), (5, .raw (.int .i64 0)), (8, .raw (.int .i64 3)), (9, .lst (V.rats p3)), (10, .sl 0 2 0 2), (11, .lst (V.rats p9)), (12, .lst (V.rats [])), (13, .lst (V.rats [mdQ 1 2])), (14, .ptr 1 4 0 0), (107, .raw (.bool true))]) (hs := [(0, false, ⟨42, 2, [.agg [.lst (V.rats p4), .raw (.int .i64 1)], .agg [.lst (V.rats p5), .raw (.int .i64 2)]]⟩), (1, false, ⟨51, 4, [.Q (mdQ 1 2)]⟩)]) (n := 2) (N := 140) [0, 1] (by decide) ?_, ?_⟩
  · simp only [go_sem, List.reduceReplicate, ↓reduceIte, Nat.reduceEqDiff, Nat.reduceLT, Nat.reduceLeDiff, Nat.reduceAdd, Nat.reduceSub, Nat.reduceMul, Int.reduceToNat, Int.reduceNeg, Int.reduceAdd, Int.reduceSub, Int.reduceMul, Int.reduceLT, Int.reduceLE, Int.reduceMod, Int.reducePow, Nat.reducePow, Int.reduceDiv, Nat.reduceBEq, Nat.reduceBNe, Int.reduceBEq, Int.reduceBNe, reduceCtorEq]
    exact ⟨⟨renV_pure rfl, renV_pure rfl⟩, renV_pure rfl⟩
  refine RegI.cut T2 57 66 rfl rfl (by decide) ?_
  simp only [go_sem, List.reduceReplicate, ↓reduceIte, Nat.reduceEqDiff, Nat.reduceLT, Nat.reduceLeDiff, Nat.reduceAdd, Nat.reduceSub, Nat.reduceMul, Int.reduceToNat, Int.reduceNeg, Int.reduceAdd, Int.reduceSub, Int.reduceMul, Int.reduceLT, Int.reduceLE, Int.reduceMod, Int.reducePow, Nat.reducePow, Int.reduceDiv, Nat.reduceBEq, Nat.reduceBNe, Int.reduceBEq, Int.reduceBNe, reduceCtorEq, mkSt_eq, z1, z2, z3, z4, z5, z6, z7, z8, z9, z10, w1, w2, w3, w4, w5, w6, w7, w8, w9, w10, d1, d2, e1, r1, v1, s1, g1, t0, t1, c0, dd, df, fz, sq, so, q1, q2, q3, q5, q6, q7, q8, m1, m2, m4, m5, m7, m9, m10, m11, m12, m13, m14, qh, qh', qa, qb, fb]
  refine ⟨_, Wk.of (ss := [(1, .lst (V.rats p1)), (2, .lst (V.rats p2)), (3, .lst (V.rats p7)), (4, .lst (V.rats [])), (5, .raw (.int .i64 0)), (8, .raw (.int .i64 3)), (9, .lst (V.rats p3)), (10, .sl 0 2 0 2), (11, .lst (V.rats p9)), (12, .lst (V.rats [])), (13, .lst (V.rats [mdQ 1 2])), (14, .ptr 1 4 0 0), (116, .raw (.bool true))]) (hs := [(0, false, ⟨42, 2, [.agg [.lst (V.rats p4), .raw (.int .i64 1)], .agg [.lst (V.rats p5), .raw (.int .i64 2)]]⟩), (1, false, ⟨51, 4, [.Q (mdQ 1 2)]⟩)]) (n := 2) (N := 140) [0, 1] (by decide) ?_, ?_⟩
  · simp only [go_sem, List.reduceReplicate, ↓reduceIte, Nat.reduceEqDiff, Nat.reduceLT, Nat.reduceLeDiff, Nat.reduceAdd, Nat.reduceSub, Nat.reduceMul, Int.reduceToNat, Int.reduceNeg, Int.reduceAdd, Int.reduceSub, Int.reduceMul, Int.reduceLT, Int.reduceLE, Int.reduceMod, Int.reducePow, Nat.reducePow, Int.reduceDiv, Nat.reduceBEq, Nat.reduceBNe, Int.reduceBEq, Int.reduceBNe, reduceCtorEq]
    exact ⟨⟨renV_pure rfl, renV_pure rfl⟩, renV_pure rfl⟩
  refine RegI.cut T2 66 73 rfl rfl (by decide) ?_
  simp only [go_sem, List.reduceReplicate, ↓reduceIte, Nat.reduceEqDiff, Nat.reduceLT, Nat.reduceLeDiff, Nat.reduceAdd, Nat.reduceSub, Nat.reduceMul, Int.reduceToNat, Int.reduceNeg, Int.reduceAdd, Int.reduceSub, Int.reduceMul, Int.reduceLT, Int.reduceLE, Int.reduceMod, Int.reducePow, Nat.reducePow, Int.reduceDiv, Nat.reduceBEq, Nat.reduceBNe, Int.reduceBEq, Int.reduceBNe, reduceCtorEq, mkSt_eq, z1, z2, z3, z4, z5, z6, z7, z8, z9, z10, w1, w2, w3, w4, w5, w6, w7, w8, w9, w10, d1, d2, e1, r1, v1, s1, g1, t0, t1, c0, dd, df, fz, sq, so, q1, q2, q3, q5, q6, q7, q8, m1, m2, m4, m5, m7, m9, m10, m11, m12, m13, m14, qh, qh', qa, qb, fb]
  refine ⟨_, Wk.of (ss := [(1, .lst (V.rats p1)), (2, .lst (V.rats p2)), (3, .lst (V.rats p7)), (4, .lst (V.rats [])), (5, .raw (.int .i64 0)), (8, .raw (.int .i64 3)), (9, .lst (V.rats p3)), (10, .sl 0 2 0 2), (11, .lst (V.rats p9)), (12, .lst (V.rats [])), (13, .lst (V.rats [mdQ 1 2])), (14, .ptr 1 4 0 0), (123, .raw (.bool true))]) (hs := [(0, false, ⟨42, 2, [.agg [.lst (V.rats p4), .raw (.int .i64 1)], .agg [.lst (V.rats p5), .raw (.int .i64 2)]]⟩), (1, false, ⟨51, 4, [.Q (mdQ 1 2)]⟩)]) (n := 2) (N := 140) [0, 1] (by decide) ?_, ?_⟩
  · simp only [go_sem, List.reduceReplicate, ↓reduceIte, Nat.reduceEqDiff, Nat.reduceLT, Nat.reduceLeDiff, Nat.reduceAdd, Nat.reduceSub, Nat.reduceMul, Int.reduceToNat, Int.reduceNeg, Int.reduceAdd, Int.reduceSub, Int.reduceMul, Int.reduceLT, Int.reduceLE, Int.reduceMod, Int.reducePow, Nat.reducePow, Int.reduceDiv, Nat.reduceBEq, Nat.reduceBNe, Int.reduceBEq, Int.reduceBNe, reduceCtorEq]
    exact ⟨⟨renV_pure rfl, renV_pure rfl⟩, renV_pure rfl⟩
  refine RegI.cut T2 73 79 rfl rfl (by decide) ?_
  simp only [go_sem, List.reduceReplicate, ↓reduceIte, Nat.reduceEqDiff, Nat.reduceLT, Nat.reduceLeDiff, Nat.reduceAdd, Nat.reduceSub, Nat.reduceMul, Int.reduceToNat, Int.reduceNeg, Int.reduceAdd, Int.reduceSub, Int.reduceMul, Int.reduceLT, Int.reduceLE, Int.reduceMod, Int.reducePow, Nat.reducePow, Int.reduceDiv, Nat.reduceBEq, Nat.reduceBNe, Int.reduceBEq, Int.reduceBNe, reduceCtorEq, mkSt_eq, z1, z2, z3, z4, z5, z6, z7, z8, z9, z10, w1, w2, w3, w4, w5, w6, w7, w8, w9, w10, d1, d2, e1, r1, v1, s1, g1, t0, t1, c0, dd, df, fz, sq, so, q1, q2, q3, q5, q6, q7, q8, m1, m2, m4, m5, m7, m9, m10, m11, m12, m13, m14, qh, qh', qa, qb, fb]
  refine ⟨_, Wk.of (ss := [(1, .lst (V.rats p1)), (2, .lst (V.rats p2)), (3, .lst (V.rats p7)), (4, .lst (V.rats [])), (5, .raw (.int .i64 0)), (8, .raw (.int .i64 3)), (9, .lst (V.rats p3)), (10, .sl 0 2 0 2), (11, .lst (V.rats p9)), (12, .lst (V.rats [])), (13, .lst (V.rats [mdQ 1 2])), (14, .ptr 1 4 0 0), (129, .raw (.bool true))]) (hs := [(0, false, ⟨42, 2, [.agg [.lst (V.rats p4), .raw (.int .i64 1)], .agg [.lst (V.rats p5), .raw (.int .i64 2)]]⟩), (1, false, ⟨51, 4, [.Q (mdQ 1 2)]⟩)]) (n := 2) (N := 140) [0, 1] (by decide) ?_, ?_⟩
  · simp only [go_sem, List.reduceReplicate, ↓reduceIte, Nat.reduceEqDiff, Nat.reduceLT, Nat.reduceLeDiff, Nat.reduceAdd, Nat.reduceSub, Nat.reduceMul, Int.reduceToNat, Int.reduceNeg, Int.reduceAdd, Int.reduceSub, Int.reduceMul, Int.reduceLT, Int.reduceLE, Int.reduceMod, Int.reducePow, Nat.reducePow, Int.reduceDiv, Nat.reduceBEq, Nat.reduceBNe, Int.reduceBEq, Int.reduceBNe, reduceCtorEq]
    exact ⟨⟨renV_pure rfl, renV_pure rfl⟩, renV_pure rfl⟩
  refine RegI.fin T2 79 rfl ?_
  simp only [go_sem, List.reduceReplicate, ↓reduceIte, Nat.reduceEqDiff, Nat.reduceLT, Nat.reduceLeDiff, Nat.reduceAdd, Nat.reduceSub, Nat.reduceMul, Int.reduceToNat, Int.reduceNeg, Int.reduceAdd, Int.reduceSub, Int.reduceMul, Int.reduceLT, Int.reduceLE, Int.reduceMod, Int.reducePow, Nat.reducePow, Int.reduceDiv, Nat.reduceBEq, Nat.reduceBNe, Int.reduceBEq, Int.reduceBNe, reduceCtorEq, mkSt_eq, z1, z2, z3, z4, z5, z6, z7, z8, z9, z10, w1, w2, w3, w4, w5, w6, w7, w8, w9, w10, d1, d2, e1, r1, v1, s1, g1, t0, t1, c0, dd, df, fz, sq, so, q1, q2, q3, q5, q6, q7, q8, m1, m2, m4, m5, m7, m9, m10, m11, m12, m13, m14, qh, qh', qa, qb, fb]
  refine AWp.from (Wk.of (ss := [(0, .raw (.bool true))]) (hs := []) (n := 0) (N := 140) [] (by decide) ?_) (vc_at T2 ?_)
  · simp only [go_sem, List.reduceReplicate, ↓reduceIte, Nat.reduceEqDiff, Nat.reduceLT, Nat.reduceLeDiff, Nat.reduceAdd, Nat.reduceSub, Nat.reduceMul, Int.reduceToNat, Int.reduceNeg, Int.reduceAdd, Int.reduceSub, Int.reduceMul, Int.reduceLT, Int.reduceLE, Int.reduceMod, Int.reducePow, Nat.reducePow, Int.reduceDiv, Nat.reduceBEq, Nat.reduceBNe, Int.reduceBEq, Int.reduceBNe, reduceCtorEq]
  · simp only [go_sem, List.reduceReplicate, ↓reduceIte, Nat.reduceEqDiff, Nat.reduceLT, Nat.reduceLeDiff, Nat.reduceAdd, Nat.reduceSub, Nat.reduceMul, Int.reduceToNat, Int.reduceNeg, Int.reduceAdd, Int.reduceSub, Int.reduceMul, Int.reduceLT, Int.reduceLE, Int.reduceMod, Int.reducePow, Nat.reducePow, Int.reduceDiv, Nat.reduceBEq, Nat.reduceBNe, Int.reduceBEq, Int.reduceBNe, reduceCtorEq]
def kSanity3 : Con := con0 (True, .raw (.bool true))
attribute [go_sem ↓, go_sem] kSanity3
theorem sanity3_C : Ctr Tryz.prog 10 kSanity3 := Ctr.c0 (by kernel_rfl) fun _ => sanity3_V
end Go.Proofs.YthhpmapbhdebeaaGreat

/- The helpers of the laws of polynomials: made, number; the arguments. -/
namespace Go.Proofs.YthhpmapbhdebeaaGreat
set_option linter.unusedSimpArgs false
set_option linter.unusedVariables false
open Go.RowKit

theorem qs_mdQ {n d : Int} (hn : B8 n) (hd : B8 d) : qs (mdQ n d) ≤ 1 := by
  unfold mdQ
  obtain ⟨h1, h2⟩ := hn
  obtain ⟨h3, h4⟩ := hd
  refine Nat.le_trans (qs_divInt _ _) ?_
  have e1 : dl n.natAbs ≤ 1 := dl_le.2 (by simp only [Nat.pow_one]; omega)
  have e2 : dl (if d = 0 then (1 : Int) else d).natAbs ≤ 1 := dl_le.2 (by simp only [Nat.pow_one]; split <;> omega)
  omega
theorem psL_sz {l : List (Int × Int)} (h : P8 l) (n : Nat) : Sz (psL l (n : Nat)) n 1 := ⟨by
  unfold psL
  refine Nat.le_trans (tr_len _) ?_
  rw [rg_len]; omega, fun i => by
  unfold psL
  rw [cf_tr, cf_rg]
  split
  · have := B8.get2 h.2 i
    exact qs_mdQ this.1 this.2
  · exact qs_0, tr_can _⟩
/-- A pair of small integers, by value. -/
def pPr : Pat (Int × Int) where
  p
    | .agg [.raw (.int .i8 x), .raw (.int .i8 y)] => some (True, (x, y))
    | _ => none
  val z := .agg [.raw (.int .i8 z.1), .raw (.int .i8 z.2)]
  ok x c a h hc := by
    split at h
    · injection h with h; injection h with h1 h2; subst h2; exact .refl _
    · cases h
@[go_sem ↓, go_sem] theorem ev_pPr {x y : Int} : pPr.p (.agg [.raw (.int .i8 x), .raw (.int .i8 y)]) = some (True, (x, y)) := rfl
@[go_sem ↓, go_sem] theorem ev_pPr_mk {z : Int × Int} : pPr.val z = .agg [.raw (.int .i8 z.1), .raw (.int .i8 z.2)] := rfl
def kNumber : Con := con1 pPr fun z => (B8 z.1 ∧ B8 z.2, .Q (mdQ z.1 z.2))
attribute [go_sem ↓, go_sem] kNumber
theorem number_C : Ctr Tryz.prog 34 kNumber := Ctr.c1 (by kernel_rfl) fun z h => by
  obtain ⟨⟨h1, h2⟩, h3, h4⟩ := h
  refine PCall.of_vc (tabs mixed (tbl_cons r2Made_C tbl_nil)) Tryz.func34 rfl Tryz.ntmps34 Tryz.results34 (by simp) ?_
  have f0 : IntKind.i64.wrap z.1 = z.1 := IntWalk.i64_in _ ⟨by omega, by omega⟩
  have f1 : IntKind.i64.wrap z.2 = z.2 := IntWalk.i64_in _ ⟨by omega, by omega⟩
  simp only [go_sem, List.reduceReplicate, ↓reduceIte, Nat.reduceEqDiff, Nat.reduceLT, Nat.reduceLeDiff, Nat.reduceAdd, Nat.reduceSub, Nat.reduceMul, Int.reduceToNat, Int.reduceNeg, Int.reduceAdd, Int.reduceSub, Int.reduceMul, Int.reduceLT, Int.reduceLE, Int.reduceMod, Int.reducePow, Nat.reducePow, Int.reduceDiv, Nat.reduceBEq, Nat.reduceBNe, Int.reduceBEq, Int.reduceBNe, reduceCtorEq, f0, f1]
  exact ⟨⟨by omega, by omega⟩, by omega, by omega⟩
/-- The argument of the laws. -/
structure Th where
  A : List (Int × Int)
  B : List (Int × Int)
  C : List (Int × Int)
  X : Int × Int
def Th.v (x : Th) : V := .agg [.lst (V.prs x.A), .lst (V.prs x.B), .lst (V.prs x.C), .agg [.raw (.int .i8 x.X.1), .raw (.int .i8 x.X.2)]]
def Th.Ok (x : Th) : Prop := (P8 x.A ∧ P8 x.B ∧ P8 x.C) ∧ B8 x.X.1 ∧ B8 x.X.2
def pTh : Pat Th where
  p
    | .agg [.lst a, .lst b, .lst c, .agg [.raw (.int .i8 x), .raw (.int .i8 y)]] => (unprs a).bind fun a => (unprs b).bind fun b => (unprs c).map fun c => (True, ⟨a, b, c, (x, y)⟩)
    | _ => none
  val := Th.v
  ok x c a h hc := by
    split at h
    · rename_i a b c x y
      rcases ha : unprs a with _ | a' <;> simp only [ha, bind_none, bind_some] at h
      · cases h
      · rcases hb : unprs b with _ | b' <;> simp only [hb, bind_none, bind_some] at h
        · cases h
        · rcases hc : unprs c with _ | c' <;> rw [hc] at h
          · cases h
          · injection h with h; injection h with h1 h2; subst h2
            rw [unprs_ok _ _ ha, unprs_ok _ _ hb, unprs_ok _ _ hc]; exact .refl _
    · cases h
@[go_sem ↓, go_sem] theorem ev_pTh {a b c : List V} {x y : Int} : pTh.p (.agg [.lst a, .lst b, .lst c, .agg [.raw (.int .i8 x), .raw (.int .i8 y)]]) = (unprs a).bind fun a => (unprs b).bind fun b => (unprs c).map fun c => (True, ⟨a, b, c, (x, y)⟩) := rfl
@[go_sem ↓, go_sem] theorem ev_pTh_mk {z : Th} : pTh.val z = .agg [.lst (V.prs z.A), .lst (V.prs z.B), .lst (V.prs z.C), .agg [.raw (.int .i8 z.X.1), .raw (.int .i8 z.X.2)]] := rfl
def kMade3 : Con := con1 pTh fun z => (P8 z.A ∧ P8 z.B ∧ P8 z.C, .tup [.lst (V.rats (psL z.A 5)), .lst (V.rats (psL z.B 5)), .lst (V.rats (psL z.C 3))])
attribute [go_sem ↓, go_sem] kMade3
theorem made3_C : Ctr Tryz.prog 11 kMade3 := Ctr.c1 (by kernel_rfl) fun z h => by
  obtain ⟨h1, h2, h3⟩ := h
  refine PCall.of_vc (tabs mixed (tbl_cons rPolyMade_C tbl_nil)) Tryz.func11 rfl Tryz.ntmps11 Tryz.results11 (by simp) ?_
  simp only [go_sem, List.reduceReplicate, ↓reduceIte, Nat.reduceEqDiff, Nat.reduceLT, Nat.reduceLeDiff, Nat.reduceAdd, Nat.reduceSub, Nat.reduceMul, Int.reduceToNat, Int.reduceNeg, Int.reduceAdd, Int.reduceSub, Int.reduceMul, Int.reduceLT, Int.reduceLE, Int.reduceMod, Int.reducePow, Nat.reducePow, Int.reduceDiv, Nat.reduceBEq, Nat.reduceBNe, Int.reduceBEq, Int.reduceBNe, reduceCtorEq]
  exact ⟨h1, h2, h3, by rfl⟩
theorem list_prs {P : Program} {n : Nat} {e b : TypeId} (he : P.underlying e = some (.array 2 b)) (hb : P.underlying b = some (.int .i8)) : ∀ (l : List V), (∀ y ∈ l, Fits P (n + 2) e y) → ∃ A : List (Int × Int), l = V.prs A ∧ ∀ z ∈ A, B8 z.1 ∧ B8 z.2
  | [], _ => ⟨[], rfl, fun z hz => by simp at hz⟩
  | y :: l, h => by
    obtain ⟨A, rfl, hA⟩ := list_prs he hb l fun y hy => h y (by simp [hy])
    obtain ⟨m, rfl, hm⟩ := fits_arr he (h y (by simp))
    obtain ⟨x1, m1, rfl, g1, hm⟩ := fitL_cons hm
    obtain ⟨x2, m2, rfl, g2, hm⟩ := fitL_cons hm
    have := fitL_nil hm
    subst this
    obtain ⟨z1, w1, rfl⟩ := fits_int hb g1
    obtain ⟨z2, w2, rfl⟩ := fits_int hb g2
    exact ⟨(z1, z2) :: A, rfl, fun z hz => by
      rcases List.mem_cons.1 hz with rfl | hz
      · exact ⟨wf_i8 w1, wf_i8 w2⟩
      · exact hA z hz⟩
theorem fits_prs {P : Program} {n : Nat} {t e b : TypeId} {X : V} (hu : P.underlying t = some (.slice e)) (he : P.underlying e = some (.array 2 b)) (hb : P.underlying b = some (.int .i8)) (h : Fits P (n + 3) t X) : ∃ A, X = .lst (V.prs A) ∧ P8 A := by
  obtain ⟨l, rfl, hl, hy⟩ := fits_sl hu h
  obtain ⟨A, rfl, hA⟩ := list_prs he hb l hy
  rw [prs_len] at hl
  exact ⟨A, rfl, hl, hA⟩
theorem fits_pr {P : Program} {n : Nat} {e b : TypeId} {X : V} (he : P.underlying e = some (.array 2 b)) (hb : P.underlying b = some (.int .i8)) (h : Fits P (n + 2) e X) : ∃ z : Int × Int, X = .agg [.raw (.int .i8 z.1), .raw (.int .i8 z.2)] ∧ B8 z.1 ∧ B8 z.2 := by
  obtain ⟨A, e1, hA⟩ := list_prs he hb [X] fun y hy => by
    rw [List.mem_singleton.1 hy]; exact h
  match A, e1 with
  | [z], e1 =>
    injection e1 with e1 _
    exact ⟨z, e1, hA z (by simp)⟩
set_option maxRecDepth 20000 in
theorem fits_three {X : V} (h : Fits Tryz.prog 6 26 X) : ∃ x : Th, X = x.v ∧ x.Ok := by
  have u1 : Tryz.prog.underlying 22 = some (.slice 24) := by kernel_rfl
  have u2 : Tryz.prog.underlying 24 = some (.array 2 23) := by kernel_rfl
  have u3 : Tryz.prog.underlying 23 = some (.int .i8) := by kernel_rfl
  obtain ⟨l, rfl, hl⟩ := fits_struct Tryz.underlying26 h
  obtain ⟨x1, m, rfl, g1, hl⟩ := fitL_cons hl
  obtain ⟨x2, m, rfl, g2, hl⟩ := fitL_cons hl
  obtain ⟨x3, m, rfl, g3, hl⟩ := fitL_cons hl
  obtain ⟨x4, m, rfl, g4, hl⟩ := fitL_cons hl
  have := fitL_nil hl
  subst this
  obtain ⟨A, rfl, hA⟩ := fits_prs u1 u2 u3 g1
  obtain ⟨B, rfl, hB⟩ := fits_prs u1 u2 u3 g2
  obtain ⟨C, rfl, hC⟩ := fits_prs u1 u2 u3 g3
  obtain ⟨z, rfl, hz⟩ := fits_pr u2 u3 g4
  exact ⟨⟨A, B, C, z⟩, rfl, ⟨hA, hB, hC⟩, hz⟩
end Go.Proofs.YthhpmapbhdebeaaGreat
