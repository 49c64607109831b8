/- Texts MC11 LM0 LMS MRS in one. -/
import Derived.Test.YtjjebokgckmnjaaGreatR31
import Derived.Test.YtjjebokgckmnjaaGreatR22
/- The fixed examples of the laws. -/
namespace Go.Proofs.YtjjebokgckmnjaaGreat
set_option linter.unusedSimpArgs false
set_option linter.unusedVariables false
open Go.RowKit

set_option maxRecDepth 20000 in
set_option maxHeartbeats 2000000 in
theorem sanity5_V : PCall Tryz.prog 4 [] (.raw (.bool true)) := by
  obtain ⟨p1, h1⟩ : ∃ p : List Rat, p = rwZ [0, 2, 4] := ⟨_, rfl⟩
  obtain ⟨p2, h2⟩ : ∃ p : List Rat, p = rwZ [1, 1, 1] := ⟨_, rfl⟩
  obtain ⟨p3, h3⟩ : ∃ p : List Rat, p = rwZ [1, 1] := ⟨_, rfl⟩
  obtain ⟨p4, h4⟩ : ∃ p : List Rat, p = rwZ [1, -1] := ⟨_, rfl⟩
  obtain ⟨p5, h5⟩ : ∃ p : List Rat, p = rwZ [3, 1] := ⟨_, rfl⟩
  obtain ⟨p6, h6⟩ : ∃ p : List Rat, p = rwZ [2, 2] := ⟨_, rfl⟩
  obtain ⟨p7, h7⟩ : ∃ p : List Rat, p = rwZ [1, 3] := ⟨_, rfl⟩
  obtain ⟨p8, h8⟩ : ∃ p : List Rat, p = rwZ [1, 2] := ⟨_, rfl⟩
  obtain ⟨p9, h9⟩ : ∃ p : List Rat, p = rwZ [3, 4] := ⟨_, rfl⟩
  obtain ⟨p10, h10⟩ : ∃ p : List Rat, p = rwZ [1, 0, -1] := ⟨_, rfl⟩
  obtain ⟨p11, h11⟩ : ∃ p : List Rat, p = rwZ [0, 1, 2] := ⟨_, rfl⟩
  obtain ⟨p12, h12⟩ : ∃ p : List Rat, p = rwZ [1, -2, 1] := ⟨_, rfl⟩
  obtain ⟨p13, h13⟩ : ∃ p : List Rat, p = rwZ [2, 1] := ⟨_, rfl⟩
  obtain ⟨p14, h14⟩ : ∃ p : List Rat, p = rwZ [-2, 1] := ⟨_, rfl⟩
  have w1 : SmI [0, 2, 4] = True := eq_true (smI_ok _ (by decide))
  have w2 : SmI [1, 1, 1] = True := eq_true (smI_ok _ (by decide))
  have w3 : SmI [1, 1] = True := eq_true (smI_ok _ (by decide))
  have w4 : SmI [1, -1] = True := eq_true (smI_ok _ (by decide))
  have w5 : SmI [3, 1] = True := eq_true (smI_ok _ (by decide))
  have w6 : SmI [2, 2] = True := eq_true (smI_ok _ (by decide))
  have w7 : SmI [1, 3] = True := eq_true (smI_ok _ (by decide))
  have w8 : SmI [1, 2] = True := eq_true (smI_ok _ (by decide))
  have w9 : SmI [3, 4] = True := eq_true (smI_ok _ (by decide))
  have w10 : SmI [1, 0, -1] = True := eq_true (smI_ok _ (by decide))
  have w11 : SmI [0, 1, 2] = True := eq_true (smI_ok _ (by decide))
  have w12 : SmI [1, -2, 1] = True := eq_true (smI_ok _ (by decide))
  have w13 : SmI [2, 1] = True := eq_true (smI_ok _ (by decide))
  have w14 : SmI [-2, 1] = True := eq_true (smI_ok _ (by decide))
  obtain ⟨M1, k1⟩ : ∃ M, [p1, p2] = M := ⟨_, rfl⟩
  obtain ⟨M2, k2⟩ : ∃ M, [p3, p4] = M := ⟨_, rfl⟩
  obtain ⟨M3, k3⟩ : ∃ M, [p3, p6] = M := ⟨_, rfl⟩
  obtain ⟨M4, k4⟩ : ∃ M, [p8, p9] = M := ⟨_, rfl⟩
  obtain ⟨M5, k5⟩ : ∃ M, [p8] = M := ⟨_, rfl⟩
  obtain ⟨A1, k6⟩ : ∃ M, [p10, p11] = M := ⟨_, rfl⟩
  obtain ⟨N1, k7⟩ : ∃ M, [p12] = M := ⟨_, rfl⟩
  have s1 : mdB M1 = true ∧ wdt M1 ≤ 5 := by subst k1 h1 h2; decide +kernel
  have s2 : mdB M2 = true ∧ wdt M2 ≤ 5 := by subst k2 h3 h4; decide +kernel
  have s3 : mdB M3 = true ∧ wdt M3 ≤ 5 := by subst k3 h3 h6; decide +kernel
  have s4 : mdB M4 = true ∧ wdt M4 ≤ 5 := by subst k4 h8 h9; decide +kernel
  have s5 : mdB M5 = true ∧ wdt M5 ≤ 5 := by subst k5 h8; decide +kernel
  have s6 : mdB A1 = true ∧ wdt A1 ≤ 5 := by subst k6 h10 h11; decide +kernel
  have s7 : mdB N1 = true ∧ wdt N1 ≤ 5 := by subst k7 h12; decide +kernel
  have r1 := mdB_red s1.1 s1.2
  have b6 := mdB_MB s6.1 s6.2
  have b7 := mdB_MB s7.1 s7.2
  have e1 : rre M1 (wdt M1) = A1 ∧ (elm M1 (wdt M1)).p = [0, 1] := by subst k1 k6 h1 h2 h10 h11; decide +kernel
  have e2 : nulP [0, 1] A1 3 3 = N1 := by subst k6 k7 h10 h11 h12; decide +kernel
  have e3 : rk M1 (wdt M1) = 2 := by unfold rk; rw [e1.2]; rfl
  have e4 : solV M2 p5 = .tup [.lst (V.rats p13), .lst [], .raw (.bool true)] := by
    have x1 : slF M2 p5 (wdt M2) = none := by subst k2 h3 h4 h5; decide +kernel
    have x2 : slX M2 p5 (wdt M2) = p13 := by subst k2 h3 h4 h5 h13; decide +kernel
    unfold solV
    rw [x1, x2]
  have e5 : solV M3 p7 = .tup [.lst [], .lst (V.rats p14), .raw (.bool false)] := by
    have x1 : slF M3 p7 (wdt M3) = some 1 := by subst k3 h3 h6 h7; decide +kernel
    have x2 : slW M3 p7 (wdt M3) 1 = p14 := by subst k3 h3 h6 h7 h14; decide +kernel
    unfold solV
    rw [x1]
    show V.tup [_, .lst (V.rats (slW M3 p7 (wdt M3) 1)), _] = _
    rw [x2]
  have e6 : detV M4 = .tup [.Q (-2 : Int), .raw (.int .i64 0)] := by
    have x1 : wdt M4 = M4.length := by subst k4 h8 h9; decide +kernel
    have x2 : dtv M4 = (-2 : Int) := by subst k4 h8 h9; decide +kernel
    unfold detV
    rw [if_pos x1, x2]
  have e7 : detV [] = .tup [.Q (1 : Int), .raw (.int .i64 0)] := by
    have x2 : dtv [] = (1 : Int) := by decide +kernel
    unfold detV
    rw [if_pos (show wdt ([] : List (List Rat)) = ([] : List (List Rat)).length from rfl), x2]
  have e8 : detV M5 = .tup [z0, .raw (.int .i64 1)] := by
    unfold detV
    rw [if_neg (by subst k5 h8; decide +kernel)]
  have d1 : DetC M4 := ⟨by have := (mdB_ok s4.1).1; omega, fun e => by rw [← e]; exact mdB_red s4.1 s4.2⟩
  have d2 : DetC M5 := ⟨by have := (mdB_ok s5.1).1; omega, fun e => by rw [← e]; exact mdB_red s5.1 s5.2⟩
  have rn : RedOk [] ((wdt [] : Nat) : Int) := mdB_red rfl (by decide)
  have d3 : DetC [] := ⟨by decide, fun _ => rn⟩
  have l5 : SolOk M2 p5 := mdB_sol s2.1 s2.2 (by subst k2 h5; rfl) (by subst h5; decide +kernel)
  have l7 : SolOk M3 p7 := mdB_sol s3.1 s3.2 (by subst k3 h7; rfl) (by subst h7; decide +kernel)
  have l13 : LB p13 := LB_of (by subst h13; decide +kernel)
  have l14 : LB p14 := LB_of (by subst h14; decide +kernel)
  have n1 : NulOk M1 3 := ⟨⟨r1, by decide, by decide⟩, fun _ => by subst k1 h1; rfl⟩
  have e9 : rk [] (wdt []) = 0 := rfl
  have qm : qs (((-2 : Int) : Rat)) ≤ 5000000000000 := Nat.le_trans (qsB_ok (by decide +kernel)) (by decide)
  have q1 : qs (((1 : Int) : Rat)) ≤ 5000000000000 := Nat.le_trans (qsB_ok (by decide +kernel)) (by decide)
  have q2 : MB A1 := b6
  have un0 : unmat [] = some [] := rfl
  have sz1 : dl ((-2 : Int) : Rat).num.natAbs ≤ 30000000000000 := by decide
  have sz2 : dl ((((-2 : Int) : Rat).den : Int)).natAbs ≤ 30000000000000 := by decide
  have sz3 : dl ((1 : Int) : Rat).num.natAbs ≤ 30000000000000 := by decide
  have sz4 : dl ((((1 : Int) : Rat).den : Int)).natAbs ≤ 30000000000000 := by decide
  have un1 : unnat [.raw (.int .i64 0), .raw (.int .i64 1)] = some [0, 1] := rfl
  refine PCall.of_awp Tryz.func4 rfl Tryz.ntmps4 Tryz.results4 (by simp) ?_
  have T := (tabs mixed (tbl_cons row_C (tbl_cons rref_C (tbl_cons null_C (tbl_cons solve_C (tbl_cons mdet_C (tbl_cons rank_C (tbl_cons rlist_C (tbl_cons rrows_C (tbl_cons ints_C (tbl_cons r2Same_C (tbl_cons r2Whole_C tbl_nil))))))))))))
  refine AWp.seq (vc_ok T _ _ _ ?_)
  simp only [go_sem, ← h1, ← h2, ← h3, ← h4, ← h5, ← h6, ← h7, ← h8, ← h9, ← h10, ← h11, ← h12, ← h13, ← h14, w1, w2, w3, w4, w5, w6, w7, w8, w9, w10, w11, w12, w13, w14, k1, k2, k3, k4, k5, k6, k7, e1, e2, e3, e4, e5, e6, e7, e8, e9, d1, d2, d3, rn, l5, l7, l13, l14, n1, b6, b7, r1, qm, q1, q2, unmat_cons, un0, un1, z0]
  refine AWp.seq (vc_ok T _ _ _ ?_)
  simp only [go_sem, ← h1, ← h2, ← h3, ← h4, ← h5, ← h6, ← h7, ← h8, ← h9, ← h10, ← h11, ← h12, ← h13, ← h14, w1, w2, w3, w4, w5, w6, w7, w8, w9, w10, w11, w12, w13, w14, k1, k2, k3, k4, k5, k6, k7, e1, e2, e3, e4, e5, e6, e7, e8, e9, d1, d2, d3, rn, l5, l7, l13, l14, n1, b6, b7, r1, qm, q1, q2, unmat_cons, un0, un1, z0]
  refine AWp.frzS 1 ?_
  simp only [go_sem, ← h1, ← h2, ← h3, ← h4, ← h5, ← h6, ← h7, ← h8, ← h9, ← h10, ← h11, ← h12, ← h13, ← h14, w1, w2, w3, w4, w5, w6, w7, w8, w9, w10, w11, w12, w13, w14, k1, k2, k3, k4, k5, k6, k7, e1, e2, e3, e4, e5, e6, e7, e8, e9, d1, d2, d3, rn, l5, l7, l13, l14, n1, b6, b7, r1, qm, q1, q2, unmat_cons, un0, un1, z0]
  refine AWp.seq (vc_ok T _ _ _ ?_)
  simp only [go_sem, ← h1, ← h2, ← h3, ← h4, ← h5, ← h6, ← h7, ← h8, ← h9, ← h10, ← h11, ← h12, ← h13, ← h14, w1, w2, w3, w4, w5, w6, w7, w8, w9, w10, w11, w12, w13, w14, k1, k2, k3, k4, k5, k6, k7, e1, e2, e3, e4, e5, e6, e7, e8, e9, d1, d2, d3, rn, l5, l7, l13, l14, n1, b6, b7, r1, qm, q1, q2, unmat_cons, un0, un1, z0]
  refine AWp.seq (vc_ok T _ _ _ ?_)
  simp only [go_sem, ← h1, ← h2, ← h3, ← h4, ← h5, ← h6, ← h7, ← h8, ← h9, ← h10, ← h11, ← h12, ← h13, ← h14, w1, w2, w3, w4, w5, w6, w7, w8, w9, w10, w11, w12, w13, w14, k1, k2, k3, k4, k5, k6, k7, e1, e2, e3, e4, e5, e6, e7, e8, e9, d1, d2, d3, rn, l5, l7, l13, l14, n1, b6, b7, r1, qm, q1, q2, unmat_cons, un0, un1, z0]
  refine AWp.seq (AWp.from (Wk.of (ss := [(1, .lst [.lst (V.rats p1), .lst (V.rats p2)]), (2, .lst (V.mat A1)), (3, .lst (V.nats [0, 1])), (4, .lst (V.mat N1))]) (hs := []) (n := 0) (N := 144) [] (by decide) ?_) (AWp.regs ?_))
  · simp only [go_sem]
  refine RegI.cut T 0 4 rfl rfl (by decide) ?_
  simp only [go_sem, mkSt_eq, ← h1, ← h2, ← h3, ← h4, ← h5, ← h6, ← h7, ← h8, ← h9, ← h10, ← h11, ← h12, ← h13, ← h14, w1, w2, w3, w4, w5, w6, w7, w8, w9, w10, w11, w12, w13, w14, k1, k2, k3, k4, k5, k6, k7, e1, e2, e3, e4, e5, e6, e7, e8, e9, d1, d2, d3, rn, l5, l7, l13, l14, n1, b6, b7, r1, qm, q1, q2, unmat_cons, un0, un1, z0]
  refine ⟨_, Wk.of (ss := [(1, .lst [.lst (V.rats p1), .lst (V.rats p2)]), (2, .lst (V.mat A1)), (3, .lst (V.nats [0, 1])), (4, .lst (V.mat N1)), (32, .lst (V.rats p3)), (34, .lst (V.rats p4))]) (hs := []) (n := 0) (N := 144) [] (by decide) ?_, ?_⟩
  · simp only [go_sem]
  refine RegI.cut T 4 7 rfl rfl (by decide) ?_
  simp only [go_sem, mkSt_eq, ← h1, ← h2, ← h3, ← h4, ← h5, ← h6, ← h7, ← h8, ← h9, ← h10, ← h11, ← h12, ← h13, ← h14, w1, w2, w3, w4, w5, w6, w7, w8, w9, w10, w11, w12, w13, w14, k1, k2, k3, k4, k5, k6, k7, e1, e2, e3, e4, e5, e6, e7, e8, e9, d1, d2, d3, rn, l5, l7, l13, l14, n1, b6, b7, r1, qm, q1, q2, unmat_cons, un0, un1, z0]
  refine ⟨_, Wk.of (ss := [(1, .lst [.lst (V.rats p1), .lst (V.rats p2)]), (2, .lst (V.mat A1)), (3, .lst (V.nats [0, 1])), (4, .lst (V.mat N1)), (35, .sl 0 1 0 2), (37, .lst (V.rats p5))]) (hs := [(0, false, ⟨40, 1, [.lst (V.rats p3), .lst (V.rats p4)]⟩)]) (n := 1) (N := 144) [0] (by decide) ?_, ?_⟩
  · simp only [go_sem]
  refine RegI.cut T 7 12 rfl rfl (by decide) ?_
  simp only [go_sem, mkSt_eq, ← h1, ← h2, ← h3, ← h4, ← h5, ← h6, ← h7, ← h8, ← h9, ← h10, ← h11, ← h12, ← h13, ← h14, w1, w2, w3, w4, w5, w6, w7, w8, w9, w10, w11, w12, w13, w14, k1, k2, k3, k4, k5, k6, k7, e1, e2, e3, e4, e5, e6, e7, e8, e9, d1, d2, d3, rn, l5, l7, l13, l14, n1, b6, b7, r1, qm, q1, q2, unmat_cons, un0, un1, z0]
  refine ⟨_, Wk.of (ss := [(1, .lst [.lst (V.rats p1), .lst (V.rats p2)]), (2, .lst (V.mat A1)), (3, .lst (V.nats [0, 1])), (4, .lst (V.mat N1)), (39, .lst (V.rats p13)), (40, .lst []), (41, .raw (.bool true))]) (hs := []) (n := 0) (N := 144) [] (by decide) ?_, ?_⟩
  · simp only [go_sem]
  refine RegI.fin T 12 rfl ?_
  simp only [go_sem, mkSt_eq, ← h1, ← h2, ← h3, ← h4, ← h5, ← h6, ← h7, ← h8, ← h9, ← h10, ← h11, ← h12, ← h13, ← h14, w1, w2, w3, w4, w5, w6, w7, w8, w9, w10, w11, w12, w13, w14, k1, k2, k3, k4, k5, k6, k7, e1, e2, e3, e4, e5, e6, e7, e8, e9, d1, d2, d3, rn, l5, l7, l13, l14, n1, b6, b7, r1, qm, q1, q2, unmat_cons, un0, un1, z0]
  refine AWp.seq (AWp.from (Wk.of (ss := [(1, .lst [.lst (V.rats p1), .lst (V.rats p2)]), (2, .lst (V.mat A1)), (3, .lst (V.nats [0, 1])), (4, .lst (V.mat N1)), (5, .lst (V.rats p13)), (7, .raw (.bool true))]) (hs := []) (n := 0) (N := 144) [] (by decide) ?_) (AWp.regs ?_))
  · simp only [go_sem]
  refine RegI.cut T 0 4 rfl rfl (by decide) ?_
  simp only [go_sem, mkSt_eq, ← h1, ← h2, ← h3, ← h4, ← h5, ← h6, ← h7, ← h8, ← h9, ← h10, ← h11, ← h12, ← h13, ← h14, w1, w2, w3, w4, w5, w6, w7, w8, w9, w10, w11, w12, w13, w14, k1, k2, k3, k4, k5, k6, k7, e1, e2, e3, e4, e5, e6, e7, e8, e9, d1, d2, d3, rn, l5, l7, l13, l14, n1, b6, b7, r1, qm, q1, q2, unmat_cons, un0, un1, z0]
  refine ⟨_, Wk.of (ss := [(1, .lst [.lst (V.rats p1), .lst (V.rats p2)]), (2, .lst (V.mat A1)), (3, .lst (V.nats [0, 1])), (4, .lst (V.mat N1)), (5, .lst (V.rats p13)), (7, .raw (.bool true)), (44, .lst (V.rats p3)), (46, .lst (V.rats p6))]) (hs := []) (n := 0) (N := 144) [] (by decide) ?_, ?_⟩
  · simp only [go_sem]
  refine RegI.cut T 4 7 rfl rfl (by decide) ?_
  simp only [go_sem, mkSt_eq, ← h1, ← h2, ← h3, ← h4, ← h5, ← h6, ← h7, ← h8, ← h9, ← h10, ← h11, ← h12, ← h13, ← h14, w1, w2, w3, w4, w5, w6, w7, w8, w9, w10, w11, w12, w13, w14, k1, k2, k3, k4, k5, k6, k7, e1, e2, e3, e4, e5, e6, e7, e8, e9, d1, d2, d3, rn, l5, l7, l13, l14, n1, b6, b7, r1, qm, q1, q2, unmat_cons, un0, un1, z0]
  refine ⟨_, Wk.of (ss := [(1, .lst [.lst (V.rats p1), .lst (V.rats p2)]), (2, .lst (V.mat A1)), (3, .lst (V.nats [0, 1])), (4, .lst (V.mat N1)), (5, .lst (V.rats p13)), (7, .raw (.bool true)), (47, .sl 0 1 0 2), (49, .lst (V.rats p7))]) (hs := [(0, false, ⟨40, 1, [.lst (V.rats p3), .lst (V.rats p6)]⟩)]) (n := 1) (N := 144) [0] (by decide) ?_, ?_⟩
  · simp only [go_sem]
  refine RegI.cut T 7 12 rfl rfl (by decide) ?_
  simp only [go_sem, mkSt_eq, ← h1, ← h2, ← h3, ← h4, ← h5, ← h6, ← h7, ← h8, ← h9, ← h10, ← h11, ← h12, ← h13, ← h14, w1, w2, w3, w4, w5, w6, w7, w8, w9, w10, w11, w12, w13, w14, k1, k2, k3, k4, k5, k6, k7, e1, e2, e3, e4, e5, e6, e7, e8, e9, d1, d2, d3, rn, l5, l7, l13, l14, n1, b6, b7, r1, qm, q1, q2, unmat_cons, un0, un1, z0]
  refine ⟨_, Wk.of (ss := [(1, .lst [.lst (V.rats p1), .lst (V.rats p2)]), (2, .lst (V.mat A1)), (3, .lst (V.nats [0, 1])), (4, .lst (V.mat N1)), (5, .lst (V.rats p13)), (7, .raw (.bool true)), (51, .lst []), (52, .lst (V.rats p14)), (53, .raw (.bool false))]) (hs := []) (n := 0) (N := 144) [] (by decide) ?_, ?_⟩
  · simp only [go_sem]
  refine RegI.fin T 12 rfl ?_
  simp only [go_sem, mkSt_eq, ← h1, ← h2, ← h3, ← h4, ← h5, ← h6, ← h7, ← h8, ← h9, ← h10, ← h11, ← h12, ← h13, ← h14, w1, w2, w3, w4, w5, w6, w7, w8, w9, w10, w11, w12, w13, w14, k1, k2, k3, k4, k5, k6, k7, e1, e2, e3, e4, e5, e6, e7, e8, e9, d1, d2, d3, rn, l5, l7, l13, l14, n1, b6, b7, r1, qm, q1, q2, unmat_cons, un0, un1, z0]
  refine AWp.seq (AWp.from (Wk.of (ss := [(1, .lst [.lst (V.rats p1), .lst (V.rats p2)]), (2, .lst (V.mat A1)), (3, .lst (V.nats [0, 1])), (4, .lst (V.mat N1)), (5, .lst (V.rats p13)), (7, .raw (.bool true)), (9, .lst (V.rats p14)), (10, .raw (.bool false))]) (hs := []) (n := 0) (N := 144) [] (by decide) ?_) (AWp.regs ?_))
  · simp only [go_sem]
  refine RegI.cut T 0 4 rfl rfl (by decide) ?_
  simp only [go_sem, mkSt_eq, ← h1, ← h2, ← h3, ← h4, ← h5, ← h6, ← h7, ← h8, ← h9, ← h10, ← h11, ← h12, ← h13, ← h14, w1, w2, w3, w4, w5, w6, w7, w8, w9, w10, w11, w12, w13, w14, k1, k2, k3, k4, k5, k6, k7, e1, e2, e3, e4, e5, e6, e7, e8, e9, d1, d2, d3, rn, l5, l7, l13, l14, n1, b6, b7, r1, qm, q1, q2, unmat_cons, un0, un1, z0]
  refine ⟨_, Wk.of (ss := [(1, .lst [.lst (V.rats p1), .lst (V.rats p2)]), (2, .lst (V.mat A1)), (3, .lst (V.nats [0, 1])), (4, .lst (V.mat N1)), (5, .lst (V.rats p13)), (7, .raw (.bool true)), (9, .lst (V.rats p14)), (10, .raw (.bool false)), (56, .lst (V.rats p8)), (58, .lst (V.rats p9))]) (hs := []) (n := 0) (N := 144) [] (by decide) ?_, ?_⟩
  · simp only [go_sem]
  refine RegI.cut T 4 9 rfl rfl (by decide) ?_
  simp only [go_sem, mkSt_eq, ← h1, ← h2, ← h3, ← h4, ← h5, ← h6, ← h7, ← h8, ← h9, ← h10, ← h11, ← h12, ← h13, ← h14, w1, w2, w3, w4, w5, w6, w7, w8, w9, w10, w11, w12, w13, w14, k1, k2, k3, k4, k5, k6, k7, e1, e2, e3, e4, e5, e6, e7, e8, e9, d1, d2, d3, rn, l5, l7, l13, l14, n1, b6, b7, r1, qm, q1, q2, unmat_cons, un0, un1, z0]
  refine ⟨_, Wk.of (ss := [(1, .lst [.lst (V.rats p1), .lst (V.rats p2)]), (2, .lst (V.mat A1)), (3, .lst (V.nats [0, 1])), (4, .lst (V.mat N1)), (5, .lst (V.rats p13)), (7, .raw (.bool true)), (9, .lst (V.rats p14)), (10, .raw (.bool false)), (61, .Q ((-2 : Int) : Rat)), (62, .raw (.int .i64 0))]) (hs := []) (n := 0) (N := 144) [] (by decide) ?_, ?_⟩
  · simp only [go_sem]
  refine RegI.fin T 9 rfl ?_
  simp only [go_sem, mkSt_eq, ← h1, ← h2, ← h3, ← h4, ← h5, ← h6, ← h7, ← h8, ← h9, ← h10, ← h11, ← h12, ← h13, ← h14, w1, w2, w3, w4, w5, w6, w7, w8, w9, w10, w11, w12, w13, w14, k1, k2, k3, k4, k5, k6, k7, e1, e2, e3, e4, e5, e6, e7, e8, e9, d1, d2, d3, rn, l5, l7, l13, l14, n1, b6, b7, r1, qm, q1, q2, unmat_cons, un0, un1, z0]
  refine AWp.seq (AWp.from (Wk.of (ss := [(1, .lst [.lst (V.rats p1), .lst (V.rats p2)]), (2, .lst (V.mat A1)), (3, .lst (V.nats [0, 1])), (4, .lst (V.mat N1)), (5, .lst (V.rats p13)), (7, .raw (.bool true)), (9, .lst (V.rats p14)), (10, .raw (.bool false)), (11, .ptr 0 4 0 0), (12, .raw (.int .i64 0))]) (hs := [(0, false, ⟨36, 4, [.Q ((-2 : Int) : Rat)]⟩)]) (n := 1) (N := 144) [0] (by decide) ?_) (AWp.regs ?_))
  · simp only [go_sem]
  refine RegI.fin T 0 rfl ?_
  simp only [go_sem, mkSt_eq, ← h1, ← h2, ← h3, ← h4, ← h5, ← h6, ← h7, ← h8, ← h9, ← h10, ← h11, ← h12, ← h13, ← h14, w1, w2, w3, w4, w5, w6, w7, w8, w9, w10, w11, w12, w13, w14, k1, k2, k3, k4, k5, k6, k7, e1, e2, e3, e4, e5, e6, e7, e8, e9, d1, d2, d3, rn, l5, l7, l13, l14, n1, b6, b7, r1, qm, q1, q2, unmat_cons, un0, un1, z0]
  refine AWp.seq (AWp.from (Wk.of (ss := [(1, .lst [.lst (V.rats p1), .lst (V.rats p2)]), (2, .lst (V.mat A1)), (3, .lst (V.nats [0, 1])), (4, .lst (V.mat N1)), (5, .lst (V.rats p13)), (7, .raw (.bool true)), (9, .lst (V.rats p14)), (10, .raw (.bool false)), (11, .ptr 0 4 0 0), (12, .raw (.int .i64 0)), (13, .ptr 1 4 0 0), (14, .raw (.int .i64 0))]) (hs := [(0, false, ⟨36, 4, [.Q ((-2 : Int) : Rat)]⟩), (1, false, ⟨36, 4, [.Q ((1 : Int) : Rat)]⟩)]) (n := 2) (N := 144) [0, 5] (by decide) ?_) (AWp.regs ?_))
  · simp only [go_sem]
  refine RegI.cut T 0 2 rfl rfl (by decide) ?_
  simp only [go_sem, mkSt_eq, ← h1, ← h2, ← h3, ← h4, ← h5, ← h6, ← h7, ← h8, ← h9, ← h10, ← h11, ← h12, ← h13, ← h14, w1, w2, w3, w4, w5, w6, w7, w8, w9, w10, w11, w12, w13, w14, k1, k2, k3, k4, k5, k6, k7, e1, e2, e3, e4, e5, e6, e7, e8, e9, d1, d2, d3, rn, l5, l7, l13, l14, n1, b6, b7, r1, qm, q1, q2, unmat_cons, un0, un1, z0]
  refine ⟨_, Wk.of (ss := [(1, .lst [.lst (V.rats p1), .lst (V.rats p2)]), (2, .lst (V.mat A1)), (3, .lst (V.nats [0, 1])), (4, .lst (V.mat N1)), (5, .lst (V.rats p13)), (7, .raw (.bool true)), (9, .lst (V.rats p14)), (10, .raw (.bool false)), (11, .ptr 0 4 0 0), (12, .raw (.int .i64 0)), (13, .ptr 1 4 0 0), (14, .raw (.int .i64 0)), (69, .lst (V.rats p8))]) (hs := [(0, false, ⟨36, 4, [.Q ((-2 : Int) : Rat)]⟩), (1, false, ⟨36, 4, [.Q ((1 : Int) : Rat)]⟩)]) (n := 2) (N := 144) [0, 1] (by decide) ?_, ?_⟩
  · simp only [go_sem]
  refine RegI.cut T 2 7 rfl rfl (by decide) ?_
  simp only [go_sem, mkSt_eq, ← h1, ← h2, ← h3, ← h4, ← h5, ← h6, ← h7, ← h8, ← h9, ← h10, ← h11, ← h12, ← h13, ← h14, w1, w2, w3, w4, w5, w6, w7, w8, w9, w10, w11, w12, w13, w14, k1, k2, k3, k4, k5, k6, k7, e1, e2, e3, e4, e5, e6, e7, e8, e9, d1, d2, d3, rn, l5, l7, l13, l14, n1, b6, b7, r1, qm, q1, q2, unmat_cons, un0, un1, z0]
  refine ⟨_, Wk.of (ss := [(1, .lst [.lst (V.rats p1), .lst (V.rats p2)]), (2, .lst (V.mat A1)), (3, .lst (V.nats [0, 1])), (4, .lst (V.mat N1)), (5, .lst (V.rats p13)), (7, .raw (.bool true)), (9, .lst (V.rats p14)), (10, .raw (.bool false)), (11, .ptr 0 4 0 0), (12, .raw (.int .i64 0)), (13, .ptr 1 4 0 0), (14, .raw (.int .i64 0)), (72, .agg [.raw (.bool false), .raw (.slice none 0 0), .raw (.bool false), .raw (.slice none 0 0)]), (73, .raw (.int .i64 1))]) (hs := [(0, false, ⟨36, 4, [.Q ((-2 : Int) : Rat)]⟩), (1, false, ⟨36, 4, [.Q ((1 : Int) : Rat)]⟩)]) (n := 2) (N := 144) [0, 1] (by decide) ?_, ?_⟩
  · simp only [go_sem]
    exact renV_pure rfl
  refine RegI.fin T 7 rfl ?_
  simp only [go_sem, mkSt_eq, ← h1, ← h2, ← h3, ← h4, ← h5, ← h6, ← h7, ← h8, ← h9, ← h10, ← h11, ← h12, ← h13, ← h14, w1, w2, w3, w4, w5, w6, w7, w8, w9, w10, w11, w12, w13, w14, k1, k2, k3, k4, k5, k6, k7, e1, e2, e3, e4, e5, e6, e7, e8, e9, d1, d2, d3, rn, l5, l7, l13, l14, n1, b6, b7, r1, qm, q1, q2, unmat_cons, un0, un1, z0]
  refine AWp.seq (AWp.from (Wk.of (ss := [(1, .lst [.lst (V.rats p1), .lst (V.rats p2)]), (2, .lst (V.mat A1)), (3, .lst (V.nats [0, 1])), (4, .lst (V.mat N1)), (5, .lst (V.rats p13)), (7, .raw (.bool true)), (9, .lst (V.rats p14)), (10, .raw (.bool false)), (11, .ptr 0 4 0 0), (12, .raw (.int .i64 0)), (13, .ptr 1 4 0 0), (14, .raw (.int .i64 0)), (16, .raw (.int .i64 1))]) (hs := [(0, false, ⟨36, 4, [.Q ((-2 : Int) : Rat)]⟩), (1, false, ⟨36, 4, [.Q ((1 : Int) : Rat)]⟩)]) (n := 2) (N := 144) [0, 1] (by decide) ?_) (AWp.regs ?_))
  · simp only [go_sem]
  refine RegI.cut T 0 5 rfl rfl (by decide) ?_
  simp only [go_sem, mkSt_eq, ← h1, ← h2, ← h3, ← h4, ← h5, ← h6, ← h7, ← h8, ← h9, ← h10, ← h11, ← h12, ← h13, ← h14, w1, w2, w3, w4, w5, w6, w7, w8, w9, w10, w11, w12, w13, w14, k1, k2, k3, k4, k5, k6, k7, e1, e2, e3, e4, e5, e6, e7, e8, e9, d1, d2, d3, rn, l5, l7, l13, l14, n1, b6, b7, r1, qm, q1, q2, unmat_cons, un0, un1, z0]
  refine ⟨_, Wk.of (ss := [(1, .lst [.lst (V.rats p1), .lst (V.rats p2)]), (2, .lst (V.mat A1)), (3, .lst (V.nats [0, 1])), (4, .lst (V.mat N1)), (5, .lst (V.rats p13)), (7, .raw (.bool true)), (9, .lst (V.rats p14)), (10, .raw (.bool false)), (11, .ptr 0 4 0 0), (12, .raw (.int .i64 0)), (13, .ptr 1 4 0 0), (14, .raw (.int .i64 0)), (16, .raw (.int .i64 1)), (74, .lst (V.mat A1)), (76, .lst (V.rats p10)), (78, .lst (V.rats p11))]) (hs := [(0, false, ⟨36, 4, [.Q ((-2 : Int) : Rat)]⟩), (1, false, ⟨36, 4, [.Q ((1 : Int) : Rat)]⟩)]) (n := 2) (N := 144) [0, 1] (by decide) ?_, ?_⟩
  · simp only [go_sem]
  refine RegI.cut T 5 8 rfl rfl (by decide) ?_
  simp only [go_sem, mkSt_eq, ← h1, ← h2, ← h3, ← h4, ← h5, ← h6, ← h7, ← h8, ← h9, ← h10, ← h11, ← h12, ← h13, ← h14, w1, w2, w3, w4, w5, w6, w7, w8, w9, w10, w11, w12, w13, w14, k1, k2, k3, k4, k5, k6, k7, e1, e2, e3, e4, e5, e6, e7, e8, e9, d1, d2, d3, rn, l5, l7, l13, l14, n1, b6, b7, r1, qm, q1, q2, unmat_cons, un0, un1, z0]
  refine ⟨_, Wk.of (ss := [(1, .lst [.lst (V.rats p1), .lst (V.rats p2)]), (2, .lst (V.mat A1)), (3, .lst (V.nats [0, 1])), (4, .lst (V.mat N1)), (5, .lst (V.rats p13)), (7, .raw (.bool true)), (9, .lst (V.rats p14)), (10, .raw (.bool false)), (11, .ptr 0 4 0 0), (12, .raw (.int .i64 0)), (13, .ptr 1 4 0 0), (14, .raw (.int .i64 0)), (16, .raw (.int .i64 1)), (81, .raw (.bool true))]) (hs := [(0, false, ⟨36, 4, [.Q ((-2 : Int) : Rat)]⟩), (1, false, ⟨36, 4, [.Q ((1 : Int) : Rat)]⟩)]) (n := 2) (N := 144) [0, 1] (by decide) ?_, ?_⟩
  · simp only [go_sem]
  refine RegI.cut T 8 13 rfl rfl (by decide) ?_
  simp only [go_sem, mkSt_eq, ← h1, ← h2, ← h3, ← h4, ← h5, ← h6, ← h7, ← h8, ← h9, ← h10, ← h11, ← h12, ← h13, ← h14, w1, w2, w3, w4, w5, w6, w7, w8, w9, w10, w11, w12, w13, w14, k1, k2, k3, k4, k5, k6, k7, e1, e2, e3, e4, e5, e6, e7, e8, e9, d1, d2, d3, rn, l5, l7, l13, l14, n1, b6, b7, r1, qm, q1, q2, unmat_cons, un0, un1, z0]
  refine ⟨_, Wk.of (ss := [(1, .lst [.lst (V.rats p1), .lst (V.rats p2)]), (2, .lst (V.mat A1)), (3, .lst (V.nats [0, 1])), (4, .lst (V.mat N1)), (5, .lst (V.rats p13)), (7, .raw (.bool true)), (9, .lst (V.rats p14)), (10, .raw (.bool false)), (11, .ptr 0 4 0 0), (12, .raw (.int .i64 0)), (13, .ptr 1 4 0 0), (14, .raw (.int .i64 0)), (16, .raw (.int .i64 1)), (86, .raw (.bool true))]) (hs := [(0, false, ⟨36, 4, [.Q ((-2 : Int) : Rat)]⟩), (1, false, ⟨36, 4, [.Q ((1 : Int) : Rat)]⟩)]) (n := 2) (N := 144) [0, 1] (by decide) ?_, ?_⟩
  · simp only [go_sem]
  refine RegI.cut T 13 16 rfl rfl (by decide) ?_
  simp only [go_sem, mkSt_eq, ← h1, ← h2, ← h3, ← h4, ← h5, ← h6, ← h7, ← h8, ← h9, ← h10, ← h11, ← h12, ← h13, ← h14, w1, w2, w3, w4, w5, w6, w7, w8, w9, w10, w11, w12, w13, w14, k1, k2, k3, k4, k5, k6, k7, e1, e2, e3, e4, e5, e6, e7, e8, e9, d1, d2, d3, rn, l5, l7, l13, l14, n1, b6, b7, r1, qm, q1, q2, unmat_cons, un0, un1, z0]
  refine ⟨_, Wk.of (ss := [(1, .lst [.lst (V.rats p1), .lst (V.rats p2)]), (2, .lst (V.mat A1)), (3, .lst (V.nats [0, 1])), (4, .lst (V.mat N1)), (5, .lst (V.rats p13)), (7, .raw (.bool true)), (9, .lst (V.rats p14)), (10, .raw (.bool false)), (11, .ptr 0 4 0 0), (12, .raw (.int .i64 0)), (13, .ptr 1 4 0 0), (14, .raw (.int .i64 0)), (16, .raw (.int .i64 1)), (86, .raw (.bool true)), (87, .lst (V.mat N1)), (89, .lst (V.rats p12))]) (hs := [(0, false, ⟨36, 4, [.Q ((-2 : Int) : Rat)]⟩), (1, false, ⟨36, 4, [.Q ((1 : Int) : Rat)]⟩)]) (n := 2) (N := 144) [0, 1] (by decide) ?_, ?_⟩
  · simp only [go_sem]
  refine RegI.cut T 16 20 rfl rfl (by decide) ?_
  simp only [go_sem, mkSt_eq, ← h1, ← h2, ← h3, ← h4, ← h5, ← h6, ← h7, ← h8, ← h9, ← h10, ← h11, ← h12, ← h13, ← h14, w1, w2, w3, w4, w5, w6, w7, w8, w9, w10, w11, w12, w13, w14, k1, k2, k3, k4, k5, k6, k7, e1, e2, e3, e4, e5, e6, e7, e8, e9, d1, d2, d3, rn, l5, l7, l13, l14, n1, b6, b7, r1, qm, q1, q2, unmat_cons, un0, un1, z0]
  refine ⟨_, Wk.of (ss := [(1, .lst [.lst (V.rats p1), .lst (V.rats p2)]), (2, .lst (V.mat A1)), (3, .lst (V.nats [0, 1])), (4, .lst (V.mat N1)), (5, .lst (V.rats p13)), (7, .raw (.bool true)), (9, .lst (V.rats p14)), (10, .raw (.bool false)), (11, .ptr 0 4 0 0), (12, .raw (.int .i64 0)), (13, .ptr 1 4 0 0), (14, .raw (.int .i64 0)), (16, .raw (.int .i64 1)), (93, .raw (.bool true))]) (hs := [(0, false, ⟨36, 4, [.Q ((-2 : Int) : Rat)]⟩), (1, false, ⟨36, 4, [.Q ((1 : Int) : Rat)]⟩)]) (n := 2) (N := 144) [0, 1] (by decide) ?_, ?_⟩
  · simp only [go_sem]
  refine RegI.cut T 20 25 rfl rfl (by decide) ?_
  simp only [go_sem, mkSt_eq, ← h1, ← h2, ← h3, ← h4, ← h5, ← h6, ← h7, ← h8, ← h9, ← h10, ← h11, ← h12, ← h13, ← h14, w1, w2, w3, w4, w5, w6, w7, w8, w9, w10, w11, w12, w13, w14, k1, k2, k3, k4, k5, k6, k7, e1, e2, e3, e4, e5, e6, e7, e8, e9, d1, d2, d3, rn, l5, l7, l13, l14, n1, b6, b7, r1, qm, q1, q2, unmat_cons, un0, un1, z0]
  refine ⟨_, Wk.of (ss := [(1, .lst [.lst (V.rats p1), .lst (V.rats p2)]), (2, .lst (V.mat A1)), (3, .lst (V.nats [0, 1])), (4, .lst (V.mat N1)), (5, .lst (V.rats p13)), (7, .raw (.bool true)), (9, .lst (V.rats p14)), (10, .raw (.bool false)), (11, .ptr 0 4 0 0), (12, .raw (.int .i64 0)), (13, .ptr 1 4 0 0), (14, .raw (.int .i64 0)), (16, .raw (.int .i64 1)), (98, .raw (.bool true))]) (hs := [(0, false, ⟨36, 4, [.Q ((-2 : Int) : Rat)]⟩), (1, false, ⟨36, 4, [.Q ((1 : Int) : Rat)]⟩)]) (n := 2) (N := 144) [0, 1] (by decide) ?_, ?_⟩
  · simp only [go_sem]
  refine RegI.fin T 25 rfl ?_
  simp only [go_sem, mkSt_eq, ← h1, ← h2, ← h3, ← h4, ← h5, ← h6, ← h7, ← h8, ← h9, ← h10, ← h11, ← h12, ← h13, ← h14, w1, w2, w3, w4, w5, w6, w7, w8, w9, w10, w11, w12, w13, w14, k1, k2, k3, k4, k5, k6, k7, e1, e2, e3, e4, e5, e6, e7, e8, e9, d1, d2, d3, rn, l5, l7, l13, l14, n1, b6, b7, r1, qm, q1, q2, unmat_cons, un0, un1, z0]
  refine AWp.seq (AWp.from (Wk.of (ss := [(1, .lst [.lst (V.rats p1), .lst (V.rats p2)]), (2, .lst (V.mat A1)), (3, .lst (V.nats [0, 1])), (4, .lst (V.mat N1)), (5, .lst (V.rats p13)), (7, .raw (.bool true)), (9, .lst (V.rats p14)), (10, .raw (.bool false)), (11, .ptr 0 4 0 0), (12, .raw (.int .i64 0)), (13, .ptr 1 4 0 0), (14, .raw (.int .i64 0)), (16, .raw (.int .i64 1)), (17, .raw (.bool true))]) (hs := [(0, false, ⟨36, 4, [.Q ((-2 : Int) : Rat)]⟩), (1, false, ⟨36, 4, [.Q ((1 : Int) : Rat)]⟩)]) (n := 2) (N := 144) [0, 1] (by decide) ?_) (vc_at T ?_))
  · simp only [go_sem]
  simp only [go_sem, ← h1, ← h2, ← h3, ← h4, ← h5, ← h6, ← h7, ← h8, ← h9, ← h10, ← h11, ← h12, ← h13, ← h14, w1, w2, w3, w4, w5, w6, w7, w8, w9, w10, w11, w12, w13, w14, k1, k2, k3, k4, k5, k6, k7, e1, e2, e3, e4, e5, e6, e7, e8, e9, d1, d2, d3, rn, l5, l7, l13, l14, n1, b6, b7, r1, qm, q1, q2, qpair, sz1, sz2, sz3, sz4, unmat_cons, un0, un1, z0]
  refine ⟨by rfl, ?_⟩
  refine AWp.from (Wk.of (ss := [(0, .raw (.bool true))]) (hs := []) (n := 0) (N := 144) [] (by decide) ?_) (vc_at T ?_)
  · simp only [go_sem]
  · simp only [go_sem]
def kSanity5 : Con := con0 (True, .raw (.bool true))
attribute [go_sem ↓, go_sem] kSanity5
theorem sanity5_C : Ctr Tryz.prog 4 kSanity5 := Ctr.c0 (by kernel_rfl) fun _ => sanity5_V
end Go.Proofs.YtjjebokgckmnjaaGreat


/- The laws of matrices: arguments. -/
namespace Go.Proofs.YtjjebokgckmnjaaGreat
set_option linter.unusedSimpArgs false
set_option linter.unusedVariables false
open Go.RowKit

theorem iz_of {l : List Int} (h : ∀ z ∈ l, (Lit.int .i16 z).wf = true) (i : Nat) : -32768 ≤ iz l i ∧ iz l i ≤ 32767 := by
  unfold iz
  rw [List.getD_eq_getElem?_getD]
  by_cases hi : i < l.length
  · rw [List.getElem?_eq_getElem hi]
    exact wf_i16 (h _ (List.getElem_mem hi))
  · rw [List.getElem?_eq_none (by omega)]
    exact ⟨by decide, by decide⟩
set_option maxRecDepth 20000 in
theorem fits_i16s {X : V} {n : Nat} (h : Fits Tryz.prog (n + 2) 22 X) : ∃ l : List Int, X = .lst (V.i16s l) ∧ l.length ≤ 9223372036854775807 ∧ ∀ i, -32768 ≤ iz l i ∧ iz l i ≤ 32767 := by
  have u1 : Tryz.prog.underlying 22 = some (.slice 53) := by kernel_rfl
  have u2 : Tryz.prog.underlying 53 = some (.int .i16) := by kernel_rfl
  obtain ⟨l, rfl, hl, hw⟩ := fits_ints u1 u2 h
  exact ⟨l, rfl, hl, iz_of hw⟩
set_option maxRecDepth 20000 in
theorem fits_raw5 {X : V} {n : Nat} (h : Fits Tryz.prog (n + 4) 24 X) : ∃ x : Raw5, X = x.v ∧ x.Ok := by
  have u3 : Tryz.prog.underlying 5 = some (.int .u8) := by kernel_rfl
  obtain ⟨l, rfl, hl⟩ := fits_struct Tryz.underlying24 h
  obtain ⟨x1, m, rfl, g1, hl⟩ := fitL_cons hl
  obtain ⟨x2, m, rfl, g2, hl⟩ := fitL_cons hl
  obtain ⟨x3, m, rfl, g3, hl⟩ := fitL_cons hl
  have := fitL_nil hl
  subst this
  obtain ⟨r, hr, rfl⟩ := fits_int u3 g1
  obtain ⟨c, hc, rfl⟩ := fits_int u3 g2
  obtain ⟨w, rfl, hw, hv⟩ := fits_i16s g3
  exact ⟨⟨r, c, w⟩, rfl, by have := wf_u8 hr; exact ⟨by simp only; omega, by simp only; omega⟩, by have := wf_u8 hc; exact ⟨by simp only; omega, by simp only; omega⟩, hv, hw⟩
theorem mdQ_sz {n d : Int} (h1 : -9 ≤ n ∧ n ≤ 9) (h2 : 1 ≤ d ∧ d ≤ 2) : qs (mdQ n d) ≤ 1 := by
  unfold mdQ
  refine Nat.le_trans (qs_divInt _ _) ?_
  have e1 : dl n.natAbs ≤ 1 := dl_le.2 (by simp only [Nat.pow_one]; omega)
  have e2 : dl (if d = 0 then (1 : Int) else d).natAbs ≤ 1 := dl_le.2 (by simp only [Nat.pow_one]; split <;> omega)
  omega
theorem rwQ_sz {v : Int} (h : -32768 ≤ v ∧ v ≤ 32767) : qs (rwQ v) ≤ 1 := by
  have := and1_ok (z := v / 256) (by omega) (by omega)
  exact mdQ_sz (tmod10 v) (by omega)
theorem vq_sz (l : List Int) (i : Nat) : qs (vq l i) ≤ 1 := mdQ_sz (tmod10 _) (by omega)
theorem vecQ_sz (l : List Int) (n k : Nat) : qs (cf (vecQ l n) k) ≤ 1 := by
  unfold vecQ
  rw [cf_mkr]
  split
  · exact vq_sz l k
  · exact qs_0
theorem xm_len (x : Raw5) (r c : Nat) : (x.m r c).length = r := mkm_len _ _
theorem xm_wid (x : Raw5) (r c : Nat) : Wid c (x.m r c) := fun i hi => by
  rw [xm_len] at hi
  unfold Raw5.m
  rw [gd_mkm, if_pos hi, mkr_len]
theorem xm_sz {x : Raw5} (h : x.Ok) (r c i k : Nat) : qs (ent (x.m r c) i k) ≤ 1 := by
  show qs (cf _ _) ≤ 1
  unfold Raw5.m
  rw [gd_mkm]
  split
  · rw [cf_mkr]
    split
    · exact rwQ_sz (h.v _)
    · exact qs_0
  · exact qs_0
theorem rows_lt (x : Raw5) : x.rows ≤ 4 := by unfold Raw5.rows; omega
theorem cols_lt (x : Raw5) : x.cols ≤ 5 := by unfold Raw5.cols; omega
theorem wdt_of {M : List (List Rat)} {w : Nat} (hW : Wid w M) : wdt M = if M.length = 0 then 0 else w := by
  unfold wdt
  split
  · rename_i h; rw [List.eq_nil_of_length_eq_zero h]; rfl
  · rename_i h; exact hW 0 (by omega)
/-- A matrix within the laws' sizes. -/
structure SmM (M : List (List Rat)) (w S : Nat) : Prop where
  l : M.length ≤ 10
  wid : Wid w M
  w : w ≤ 5
  sz : ∀ i k, qs (ent M i k) ≤ S
theorem SmM.red {M : List (List Rat)} {w S : Nat} (h : SmM M w S) (hS : S ≤ 20000000) : RedOk M (wdt M : Nat) := by
  have hw := h.w
  have e := wdt_of h.wid
  exact redOk_of (by have := h.l; omega) h.wid (by omega) (by rw [e]; split <;> omega) (by rw [e]; split <;> omega) h.sz hS
theorem xm_Sm {x : Raw5} (h : x.Ok) : SmM (x.m x.rows x.cols) x.cols 1 := ⟨by rw [xm_len]; have := rows_lt x; omega, xm_wid _ _ _, cols_lt x, xm_sz h _ _⟩
/-- What an argument gives. -/
theorem raw_gen {R C : Int} {W : List Int} (hx : (Raw5.mk R C W).Ok) : ∃ r c M, (Raw5.mk R C W).rows = r ∧ (Raw5.mk R C W).cols = c ∧ (Raw5.mk R C W).m r c = M ∧ SmM M c 1 ∧ M.length = r ∧ r ≤ 4 ∧ c ≤ 5 :=
  ⟨_, _, _, rfl, rfl, rfl, xm_Sm hx, xm_len _ _ _, rows_lt _, cols_lt _⟩
theorem SmM.tr {M : List (List Rat)} {w S : Nat} (h : SmM M w S) (h1 : 1 ≤ S) (hl : M.length ≤ 5) : SmM (trM M w) M.length S := ⟨by rw [trM_len]; have := h.w; omega, trM_wid M w, hl, fun i k => by
  by_cases hi : i < w
  · rw [ent_trM M hi]; exact h.sz k i
  · rw [ent_ge (by rw [trM_len]; omega)]; exact Nat.le_trans qs_0 h1⟩
end Go.Proofs.YtjjebokgckmnjaaGreat


/- Sizes within the laws of matrices. -/
namespace Go.Proofs.YtjjebokgckmnjaaGreat
set_option linter.unusedSimpArgs false
set_option linter.unusedVariables false
open Go.RowKit

theorem rre_sz {M : List (List Rat)} {w S : Nat} (h : SmM M w S) (i k : Nat) : qs (ent (rre M w) i k) ≤ sS S w := by
  have := (elm_sz h.wid h.sz w).1
  have sp : 1 ≤ sS S w := by
    have := this 0 0
    have := qs_pos (ent (elm M w).M 0 0)
    omega
  show qs (cf _ _) ≤ _
  unfold rre
  rw [gd_take]
  split
  · exact this i k
  · exact Nat.le_trans qs_0 sp
theorem sS_pos {M : List (List Rat)} {w S : Nat} (h : SmM M w S) : 1 ≤ sS S w := by
  have := (elm_sz h.wid h.sz w).1 0 0
  have := qs_pos (ent (elm M w).M 0 0)
  omega
theorem nvF_sz {M : List (List Rat)} {w S : Nat} (h : SmM M w S) {c : Nat} (hc : ∀ i, i < (elm M w).p.length → pv (elm M w).p i ≠ c) (k : Nat) : qs (nvF (elm M w).p (rre M w) c k) ≤ sS S w := by
  have hE := elm_RE h.wid
  have sp := sS_pos h
  by_cases hf : ∀ i, i < (elm M w).p.length → pv (elm M w).p i ≠ k
  · rw [nvF_free hf]
    split
    · exact Nat.le_trans qs_1 sp
    · exact Nat.le_trans qs_0 sp
  · obtain ⟨i, hi, rfl⟩ : ∃ i, i < (elm M w).p.length ∧ pv (elm M w).p i = k := Classical.byContradiction fun hn => hf fun i hi e => hn ⟨i, hi, e⟩
    rw [nvF_piv hE hc hi, qs_neg]
    exact rre_sz h i c
theorem nulM_Sm {M : List (List Rat)} {w S : Nat} (h : SmM M w S) : SmM (nulM (elm M w).p (rre M w) w) w (sS S w) := by
  have hE := elm_RE h.wid
  refine ⟨by rw [nulM_len]; have := frL_len (elm M w).p w; have := h.w; omega, nulM_wid hE, h.w, fun i k => ?_⟩
  have sp := sS_pos h
  by_cases hi : i < (frL (elm M w).p w).length
  · obtain ⟨f1, f2⟩ := frL_lt hi
    show qs (cf _ _) ≤ _
    rw [nulM_get hE hi, cf_mkr]
    split
    · exact nvF_sz h (fun j hj e => f2 (mem_pv.2 ⟨j, hj, e⟩)) k
    · exact Nat.le_trans qs_0 sp
  · rw [ent_ge (by rw [nulM_len]; omega)]
    exact Nat.le_trans qs_0 sp
/-- What Null gives, for a matrix whose number of columns is told. -/
theorem nul_eq {M : List (List Rat)} {w : Nat} (hW : Wid w M) : nulP (elm M (wdt M)).p (rre M (wdt M)) w w = nulM (elm M w).p (rre M w) w ∧ (elm M (wdt M)).p = (elm M w).p ∧ rre M (wdt M) = rre M w := by
  have : (elm M (wdt M)).p = (elm M w).p ∧ rre M (wdt M) = rre M w := by
    rw [wdt_of hW]
    split
    · rename_i h
      rw [List.eq_nil_of_length_eq_zero h]
      unfold rre
      rw [elm_nil, elm_nil]
      exact ⟨rfl, rfl⟩
    · exact ⟨rfl, rfl⟩
  rw [this.1, this.2]
  exact ⟨rfl, rfl, rfl⟩
theorem SmM.nul {M : List (List Rat)} {w S : Nat} (h : SmM M w S) (hS : S ≤ 20000000) : NulOk M ((w : Nat) : Int) := by
  refine ⟨⟨h.red hS, by omega, by have := h.w; omega⟩, fun h0 => ?_⟩
  rw [wdt_of h.wid, if_neg fun e => h0 (List.eq_nil_of_length_eq_zero e)]
theorem SmM.row {M : List (List Rat)} {w S : Nat} (h : SmM M w S) (i : Nat) : (M.getD i []).length ≤ 5 := by
  by_cases hi : i < M.length
  · rw [h.wid i hi]; exact h.w
  · rw [gd_ge (by omega)]; simp
theorem wdW {M : List (List Rat)} {w : Nat} (hW : Wid w M) : Wid (wdt M) M := fun i hi => by
  rw [wdt_of hW, if_neg (by omega)]
  exact hW i hi
theorem xS_sz {p : List Nat} {E : List (List Rat)} {w S : Nat} (h1 : 1 ≤ S) (h : ∀ i, qs (ent E i w) ≤ S) : ∀ n k, qs (cf (xS p E w n) k) ≤ S
  | 0, k => by
    have : cf (xS p E w 0) k = 0 := by
      show cf (List.replicate w 0) k = 0
      unfold cf
      rw [List.getD_eq_getElem?_getD, List.getElem?_replicate]
      split <;> rfl
    rw [this]; exact Nat.le_trans qs_0 h1
  | n + 1, k => by
    rw [xS]
    by_cases hn : pv p n < w
    · rw [cf_setL (by rw [xS_len]; exact hn)]
      split
      · exact h n
      · exact xS_sz h1 h n k
    · rw [List.set_eq_of_length_le (by rw [xS_len]; omega)]
      exact xS_sz h1 h n k
theorem SmM.to {M : List (List Rat)} {w S : Nat} (h : SmM M w S) : SmM M (wdt M) S := ⟨h.l, wdW h.wid, by rw [wdt_of h.wid]; have := h.w; split <;> omega, h.sz⟩
theorem slE_sz {M : List (List Rat)} {b : List Rat} {S : Nat} (h : SmM M (wdt M) S) (h1 : 1 ≤ S) (hb : ∀ k, qs (cf b k) ≤ S) (i k : Nat) : qs (ent (slE M b (wdt M)).M i k) ≤ sS S (wdt M) :=
  (elm_sz (exM_wid h.wid b) (exM_sz h.wid h1 h.sz hb) (wdt M)).1 i k
theorem slX_sz {M : List (List Rat)} {b : List Rat} {S : Nat} (h : SmM M (wdt M) S) (h1 : 1 ≤ S) (hb : ∀ k, qs (cf b k) ≤ S) (k : Nat) : qs (cf (slX M b (wdt M)) k) ≤ sS S (wdt M) :=
  xS_sz (by have := slE_sz h h1 hb 0 0; have := qs_pos (ent (slE M b (wdt M)).M 0 0); omega) (fun i => slE_sz h h1 hb i _) _ k
theorem sS5 {w : Nat} (h : w ≤ 5) : sS 1 w ≤ 2000 := Nat.le_trans (sS_mono 1 h) (by decide)
end Go.Proofs.YtjjebokgckmnjaaGreat


/- Rows of a matrix set and exchanged. -/
namespace Go.Proofs.YtjjebokgckmnjaaGreat
set_option linter.unusedSimpArgs false
set_option linter.unusedVariables false
open Go.RowKit

@[go_sem] theorem mat_set (Z : List (List Rat)) (i : Nat) (r : List Rat) : (V.mat Z).set i (.lst (V.rats r)) = V.mat (Z.set i r) := by
  unfold V.mat
  rw [List.map_set]
@[go_sem] theorem nats_take (l : List Nat) (n : Nat) : (V.nats l).take n = V.nats (l.take n) := by simp [V.nats]
theorem sw_eq {Z : List (List Rat)} {n a : Nat} (hn : n < Z.length) (ha : a < Z.length) : (Z.set n (Z.getD a [])).set a (Z.getD n []) = swM Z n a := by
  refine m_ext (by rw [swM_len]; simp) fun j hj => ?_
  rw [gd_set (by simp; exact ha), gd_set hn, swM_get hn ha]
  by_cases e1 : j = n
  · by_cases e2 : j = a
    · rw [if_pos e2, if_pos e1, ← e1, ← e2]
    · rw [if_neg e2, if_pos e1, if_pos e1]
  · by_cases e2 : j = a
    · rw [if_pos e2, if_neg e1, if_pos e2]
    · rw [if_neg e2, if_neg e1, if_neg e1, if_neg e2]
end Go.Proofs.YtjjebokgckmnjaaGreat

