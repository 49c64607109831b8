/- Texts LS1 LS2 LS3 LS4a in one. -/
import Derived.Test.YtlhapagililgmaaGreatR35
import Derived.Test.YtlhapagililgmaaGreatR26
/- The fixed examples of the laws about package sturm. -/
namespace Go.Proofs.YtlhapagililgmaaGreat
set_option linter.unusedSimpArgs false
set_option linter.unusedVariables false
open Go.RowKit

@[go_sem ↓, go_sem] theorem ev_pRaw4 {a b : List V} : pRaw4.p (.agg [.lst a, .lst b]) = (uni8 a).bind fun l => (unB b).map fun m => (b = V.bytes m, (l, m)) := rfl
theorem z4b (l : List Int) (h : (l.all fun z => decide (-128 ≤ z) && decide (z ≤ 127)) = true) : (∀ z ∈ l, B8 z) = True := eq_true (b8 l h)
theorem pn_of {p : List Rat} (t : Nat) (h : (cnB p && decide (p ≠ []) && decide (p.length ≤ 9) && decide (1 ≤ t) && decide (t ≤ BigN) && (List.range p.length).all fun i => decide (((t : Rat) * cf p i).den = 1) && decide (((t : Rat) * cf p i).num.natAbs ≤ BigN)) = true) : Pn p := by
 simp only [Bool.and_eq_true, decide_eq_true_eq] at h
 obtain ⟨⟨⟨⟨⟨h1, h2⟩, h3⟩, h4⟩, h5⟩, h6⟩ := h
 refine ⟨cnB_ok h1, h2, h3, t, ⟨h4, h5⟩, fun i => ?_⟩
 by_cases hi : i < p.length
 ·have := List.all_eq_true.1 h6 i (List.mem_range.2 hi)
  simp only [Bool.and_eq_true, decide_eq_true_eq] at this
  refine ⟨((t : Rat) * cf p i).num, ?_, this.2⟩
  exact Rat.ext rfl this.1
 ·exact ⟨0, by rw [cf_ge (by omega), Rat.mul_zero]; rfl, Nat.zero_le _⟩
theorem mr_of {a b : List Rat} {n m j k : Nat} (ha : Sz a n j) (hb : Sz b m k) (h : (n + m ≤ 1000000 ∧ n * (j + k + 1) + 1 ≤ 5000000000000) ∧ j ≤ 5000000000000 ∧ k ≤ 5000000000000) : (a.length + b.length ≤ 1000000 ∧ PB a 5000000000000 ∧ PB b 5000000000000) ∧ ∃ j k, (PB a j ∧ PB b k) ∧ a.length * (j + k + 1) ≤ 4999999999999 :=
 ⟨⟨(Sz.cm ha hb h.1).1, ha.pb.mono h.2.1, hb.pb.mono h.2.2⟩, (Sz.cm ha hb h.1).2⟩
set_option maxRecDepth 20000 in
set_option maxHeartbeats 2000000 in
theorem sanity4_V : PCall Tryz.prog 11 [] (.raw (.bool true)) := by
 obtain ⟨p1, h1⟩ : ∃ p : List Rat, p = [-2, 0, 1] := ⟨_, rfl⟩
 obtain ⟨p2, h2⟩ : ∃ p : List Rat, p = [0, -1, 0, 1] := ⟨_, rfl⟩
 obtain ⟨p3, h3⟩ : ∃ p : List Rat, p = [1, -2, 1] := ⟨_, rfl⟩
 obtain ⟨p4, h4⟩ : ∃ p : List Rat, p = [-7, 2] := ⟨_, rfl⟩
 obtain ⟨p5, h5⟩ : ∃ p : List Rat, p = [1, 0, 1] := ⟨_, rfl⟩
 obtain ⟨p6, h6⟩ : ∃ p : List Rat, p = [5] := ⟨_, rfl⟩
 obtain ⟨p7, h7⟩ : ∃ p : List Rat, p = [-1, 2] := ⟨_, rfl⟩
 obtain ⟨p8, h8⟩ : ∃ p : List Rat, p = [3, 1] := ⟨_, rfl⟩
 obtain ⟨p9, h9⟩ : ∃ p : List Rat, p = [0, 2] := ⟨_, rfl⟩
 obtain ⟨p10, h10⟩ : ∃ p : List Rat, p = [2] := ⟨_, rfl⟩
 obtain ⟨p11, h11⟩ : ∃ p : List Rat, p = [-3, 5, 2] := ⟨_, rfl⟩
 obtain ⟨p12, h12⟩ : ∃ p : List Rat, p = [6, -10, -7, 5, 2] := ⟨_, rfl⟩
 have z1 : pyL [-2, 0, 1] [] 3 = p1 := by rw [h1]; decide +kernel
 have z2 : pyL [0, -1, 0, 1] [] 4 = p2 := by rw [h2]; decide +kernel
 have z3 : pyL [1, -2, 1] [] 3 = p3 := by rw [h3]; decide +kernel
 have z4 : pyL [-7, 2] [] 2 = p4 := by rw [h4]; decide +kernel
 have z5 : pyL [1, 0, 1] [] 3 = p5 := by rw [h5]; decide +kernel
 have z6 : pyL [5] [] 1 = p6 := by rw [h6]; decide +kernel
 have z7 : pyL [-1, 2] [] 2 = p7 := by rw [h7]; decide +kernel
 have z8 : pyL [3, 1] [] 2 = p8 := by rw [h8]; decide +kernel
 have z9 : pyL [0, 2] [] 2 = p9 := by rw [h9]; decide +kernel
 have z10 : pyL [2] [] 1 = p10 := by rw [h10]; decide +kernel
 have w1 := z4b [-2, 0, 1] (by decide)
 have w2 := z4b [0, -1, 0, 1] (by decide)
 have w3 := z4b [1, -2, 1] (by decide)
 have w4 := z4b [-7, 2] (by decide)
 have w5 := z4b [1, 0, 1] (by decide)
 have w6 := z4b [5] (by decide)
 have w7 := z4b [-1, 2] (by decide)
 have w8 := z4b [3, 1] (by decide)
 have w9 := z4b [0, 2] (by decide)
 have w10 := z4b [2] (by decide)
 have n1 : Pn p1 := pn_of 1 (by rw [h1]; decide +kernel)
 have n2 : Pn p2 := pn_of 1 (by rw [h2]; decide +kernel)
 have n3 : Pn p3 := pn_of 1 (by rw [h3]; decide +kernel)
 have n4 : Pn p4 := pn_of 1 (by rw [h4]; decide +kernel)
 have n5 : Pn p5 := pn_of 1 (by rw [h5]; decide +kernel)
 have n6 : Pn p6 := pn_of 1 (by rw [h6]; decide +kernel)
 have n12 : Pn p12 := pn_of 1 (by rw [h12]; decide +kernel)
 have nq : Pn (lqP p12) := by
  have e : lqP p12 = [6, -5, -7 / 4, 5 / 8, 1 / 8] := by rw [h12]; decide +kernel
  rw [e]
  exact pn_of 8 (by decide +kernel)
 have e1 : stL p1 (pDiff p1) = [p1, p9, p10] := by rw [h1, h9, h10]; decide +kernel
 have e2 : stL [] (pDiff []) = [] := rfl
 have c1 : cntP p2 ((-1 : Int) : Rat) ((1 : Int) : Rat) = 2 := by rw [h2]; decide +kernel
 have c2 : cntP p2 ((-2 : Int) : Rat) ((1 : Int) : Rat) = 3 := by rw [h2]; decide +kernel
 have c3 : cntP p3 ((0 : Int) : Rat) ((1 : Int) : Rat) = 1 := by rw [h3]; decide +kernel
 have c4 : cntP p3 ((1 : Int) : Rat) ((2 : Int) : Rat) = 0 := by rw [h3]; decide +kernel
 have c5 : cntP p2 ((1 : Int) : Rat) ((-2 : Int) : Rat) = 0 := by rw [h2]; decide +kernel
 have c6 : cntP [] ((0 : Int) : Rat) ((1 : Int) : Rat) = 0 := rfl
 have b1 : bndZ p4 = 5 := by rw [h4]; decide +kernel
 have b2 : bndZ p5 = 2 := by rw [h5]; decide +kernel
 have b3 : bndZ p6 = 0 := by rw [h6]; rfl
 have m1 : pMul p7 p8 = p11 := by rw [h7, h8, h11]; decide +kernel
 have m2 : pMul p11 p1 = p12 := by rw [h11, h1, h12]; decide +kernel
 have r1 : ratL p12 = [((-3 : Int) : Rat), mdQ 1 2] := by rw [h12]; decide +kernel
 have r2 : intL p12 = [-3] := by rw [h12]; decide +kernel
 have r3 : ratL [] = [] := rfl
 have r4 : intL p6 = [] := by rw [h6]; decide +kernel
 have k1 : Can p1 = True := eq_true n1.can
 have k2 : ChOk p1 = True := eq_true n1.Ch
 have k3 : Can [] = True := eq_true Can_nil
 have k4 : ChOk [] = True := eq_true ⟨⟨Nat.zero_le _, PB_nil (by decide)⟩, fun n hn => absurd (show (stI [] n).1 = [] by rw [stI_J]; exact congrArg Prod.fst (stJ_nil n)) hn⟩
 have qz : ∀ z : Int, z.natAbs < 4294967296 → qs (z : Rat) ≤ 1000 := fun z hz => Nat.le_trans (qs_int z) (Nat.max_le.2 ⟨Nat.le_trans (dl_le (k := 1).2 (by simpa using hz)) (by decide), by decide⟩)
 have t1 : CtOk p2 ((-1 : Int) : Rat) ((1 : Int) : Rat) = True := eq_true (n2.Ct (qz _ (by decide)) (qz _ (by decide)))
 have t2 : CtOk p2 ((-2 : Int) : Rat) ((1 : Int) : Rat) = True := eq_true (n2.Ct (qz _ (by decide)) (qz _ (by decide)))
 have t3 : CtOk p3 ((0 : Int) : Rat) ((1 : Int) : Rat) = True := eq_true (n3.Ct (qz _ (by decide)) (qz _ (by decide)))
 have t4 : CtOk p3 ((1 : Int) : Rat) ((2 : Int) : Rat) = True := eq_true (n3.Ct (qz _ (by decide)) (qz _ (by decide)))
 have t5 : CtOk p2 ((1 : Int) : Rat) ((-2 : Int) : Rat) = True := eq_true (n2.Ct (qz _ (by decide)) (qz _ (by decide)))
 have t6 : CtOk [] ((0 : Int) : Rat) ((1 : Int) : Rat) = True := eq_true ⟨⟨Nat.le_trans (qz _ (by decide)) (by decide), Nat.le_trans (qz _ (by decide)) (by decide)⟩, fun h => absurd rfl h⟩
 have d1 : BdOk p4 = True := eq_true n4.Bd
 have d2 : BdOk p5 = True := eq_true n5.Bd
 have d3 : BdOk p6 = True := eq_true n6.Bd
 have ra : RaOk p12 = True := eq_true (n12.Ra nq)
 have la : (p12.length ≤ 1000000) = True := eq_true (by have := n12.len; omega)
 have rn : RaOk [] = True := eq_true fun h => absurd h (by decide)
 have i1 : InOk p12 = True := eq_true n12.In
 have i2 : InOk p6 = True := eq_true n6.In
 have lb : LB [((-3 : Int) : Rat), mdQ 1 2] = True := eq_true (by rw [← r1]; exact (ratL_LB n12 nq).1)
 have lz : LZ [-3] = True := eq_true (by rw [← r2]; exact intL_LZ n12)
 have szO : ∀ (p : List Rat) (n : Nat), (decide (p.length ≤ n) && smL p && cnB p) = true → Sz p n 1 := fun p n h => by
  simp only [Bool.and_eq_true, decide_eq_true_eq] at h
  exact ⟨h.1.1, smL_PB h.1.2 (Nat.le_refl _), cnB_ok h.2⟩
 have g1 := eq_true (mr_of (szO p7 2 (by rw [h7]; decide +kernel)) (szO p8 2 (by rw [h8]; decide +kernel)) (by decide))
 have g2 := eq_true (mr_of (szO p11 3 (by rw [h11]; decide +kernel)) (szO p1 3 (by rw [h1]; decide +kernel)) (by decide))
 have dlz : ∀ n : Nat, n < 4294967296 → dl n ≤ 30000000000000 := fun n h => Nat.le_trans ((dl_le (k := 1)).2 (by simpa using h)) (by decide)
 have y5 := eq_true (dlz (Int.natAbs 5) (by decide))
 have y2 := eq_true (dlz (Int.natAbs 2) (by decide))
 have y0 := eq_true (dlz (Int.natAbs 0) (by decide))
 have y3 := eq_true (dlz (Int.natAbs (-3)) (by decide))
 have u1 : [p1, p9, p10].getD 1 [] = p9 := rfl
 have u2 : [p1, p9, p10].getD 2 [] = p10 := rfl
 have u3 : (p9.length ≤ 1000000) = True := eq_true (by rw [h9]; decide)
 have u4 : (p10.length ≤ 1000000) = True := eq_true (by rw [h10]; decide)
 have u5 : PB p9 5000000000000 = True := eq_true (by rw [h9]; exact smL_PB (by decide +kernel) (by decide))
 have u6 : PB p10 5000000000000 = True := eq_true (by rw [h10]; exact smL_PB (by decide +kernel) (by decide))
 have u7 : decide (p9 = p9) = true := decide_eq_true rfl
 have u8 : decide (p10 = p10) = true := decide_eq_true rfl
 have q0 : ([] : List Int).length = 0 := rfl
 refine PCall.of_awp Tryz.func11 rfl Tryz.ntmps11 Tryz.results11 (by simp) ?_
 have T := (tabs mixed (tbl_cons lPoly_C (tbl_cons chain_C (tbl_cons count_C (tbl_cons r2Whole_C (tbl_cons bound_C (tbl_cons rof_C (tbl_cons same_C (tbl_cons rPMul_C (tbl_cons rats_C (tbl_cons r2Made_C (tbl_cons sameRats_C (tbl_cons ints_C (tbl_cons sameInts_C (tbl_cons rPEq_C tbl_nil)))))))))))))))
 refine AWp.seq (vc_ok T _ _ _ ?_)
 simp only [go_sem, z1, z2, z3, z4, z5, z6, z7, z8, z9, z10, w1, w2, w3, w4, w5, w6, w7, w8, w9, w10, e1, e2, c1, c2, c3, c4, c5, c6, b1, b2, b3, m1, m2, r1, r2, r3, r4, k1, k2, k3, k4, t1, t2, t3, t4, t5, t6, d1, d2, d3, ra, la, rn, i1, i2, lb, lz, g1, g2, q0, y5, y2, y0, y3]
 refine AWp.seq (vc_ok T _ _ _ ?_)
 simp only [go_sem, z1, z2, z3, z4, z5, z6, z7, z8, z9, z10, w1, w2, w3, w4, w5, w6, w7, w8, w9, w10, e1, e2, c1, c2, c3, c4, c5, c6, b1, b2, b3, m1, m2, r1, r2, r3, r4, k1, k2, k3, k4, t1, t2, t3, t4, t5, t6, d1, d2, d3, ra, la, rn, i1, i2, lb, lz, g1, g2, q0, y5, y2, y0, y3]
 refine AWp.seq (vc_ok T _ _ _ ?_)
 simp only [go_sem, z1, z2, z3, z4, z5, z6, z7, z8, z9, z10, w1, w2, w3, w4, w5, w6, w7, w8, w9, w10, e1, e2, c1, c2, c3, c4, c5, c6, b1, b2, b3, m1, m2, r1, r2, r3, r4, k1, k2, k3, k4, t1, t2, t3, t4, t5, t6, d1, d2, d3, ra, la, rn, i1, i2, lb, lz, g1, g2, q0, y5, y2, y0, y3]
 refine AWp.seq (vc_ok T _ _ _ ?_)
 simp only [go_sem, z1, z2, z3, z4, z5, z6, z7, z8, z9, z10, w1, w2, w3, w4, w5, w6, w7, w8, w9, w10, e1, e2, c1, c2, c3, c4, c5, c6, b1, b2, b3, m1, m2, r1, r2, r3, r4, k1, k2, k3, k4, t1, t2, t3, t4, t5, t6, d1, d2, d3, ra, la, rn, i1, i2, lb, lz, g1, g2, q0, y5, y2, y0, y3]
 refine AWp.seq (vc_ok T _ _ _ ?_)
 simp only [go_sem, z1, z2, z3, z4, z5, z6, z7, z8, z9, z10, w1, w2, w3, w4, w5, w6, w7, w8, w9, w10, e1, e2, c1, c2, c3, c4, c5, c6, b1, b2, b3, m1, m2, r1, r2, r3, r4, k1, k2, k3, k4, t1, t2, t3, t4, t5, t6, d1, d2, d3, ra, la, rn, i1, i2, lb, lz, g1, g2, q0, y5, y2, y0, y3]
 refine AWp.seq (vc_ok T _ _ _ ?_)
 simp only [go_sem, z1, z2, z3, z4, z5, z6, z7, z8, z9, z10, w1, w2, w3, w4, w5, w6, w7, w8, w9, w10, e1, e2, c1, c2, c3, c4, c5, c6, b1, b2, b3, m1, m2, r1, r2, r3, r4, k1, k2, k3, k4, t1, t2, t3, t4, t5, t6, d1, d2, d3, ra, la, rn, i1, i2, lb, lz, g1, g2, q0, y5, y2, y0, y3]
 refine AWp.seq (vc_ok T _ _ _ ?_)
 simp only [go_sem, z1, z2, z3, z4, z5, z6, z7, z8, z9, z10, w1, w2, w3, w4, w5, w6, w7, w8, w9, w10, e1, e2, c1, c2, c3, c4, c5, c6, b1, b2, b3, m1, m2, r1, r2, r3, r4, k1, k2, k3, k4, t1, t2, t3, t4, t5, t6, d1, d2, d3, ra, la, rn, i1, i2, lb, lz, g1, g2, q0, y5, y2, y0, y3]
 refine vc_ok T _ _ _ ?_
 simp (maxSteps := 2000000) only [go_sem, z1, z2, z3, z4, z5, z6, z7, z8, z9, z10, w1, w2, w3, w4, w5, w6, w7, w8, w9, w10, e1, e2, c1, c2, c3, c4, c5, c6, b1, b2, b3, m1, m2, r1, r2, r3, r4, k1, k2, k3, k4, t1, t2, t3, t4, t5, t6, d1, d2, d3, ra, la, rn, i1, i2, lb, lz, g1, g2, q0, y5, y2, y0, y3, u1, u2, u3, u4, u5, u6, u7, u8]
 exact by rfl
def kSanity4 : Con := con0 (True, .raw (.bool true))
attribute [go_sem ↓, go_sem] kSanity4
theorem sanity4_C : Ctr Tryz.prog 11 kSanity4 := Ctr.c0 (by kernel_rfl) fun _ => sanity4_V
end Go.Proofs.YtlhapagililgmaaGreat


/- The laws about package sturm: arguments; the law of counts. -/
namespace Go.Proofs.YtlhapagililgmaaGreat
set_option linter.unusedSimpArgs false
set_option linter.unusedVariables false
open Go.RowKit

set_option maxRecDepth 20000 in
theorem fits_raw4 {X : V} {n : Nat} (h : Fits Tryz.prog (n + 4) 25 X) : ∃ a b, X = .agg [.lst (V.i8s a), .lst (V.bytes b)] ∧ PyOk a b 5 := by
 have u3 : Tryz.prog.underlying 38 = some (.int .i8) := by kernel_rfl
 have u4 : Tryz.prog.underlying 22 = some (.slice 38) := by kernel_rfl
 have u5 : Tryz.prog.underlying 23 = some (.slice 5) := by kernel_rfl
 have u6 : Tryz.prog.underlying 5 = some (.int .u8) := by kernel_rfl
 obtain ⟨l, rfl, hl⟩ := fits_struct Tryz.underlying25 h
 obtain ⟨x1, m, rfl, g1, hl⟩ := fitL_cons hl
 obtain ⟨x2, m, rfl, g2, hl⟩ := fitL_cons hl
 have := fitL_nil hl
 subst this
 obtain ⟨R, rfl, lR, hR⟩ := fits_ints u4 u3 g1
 obtain ⟨N, rfl, hN, lN⟩ := fits_bytes u5 u6 g2
 exact ⟨R, N, rfl, ⟨⟨lR, lN⟩, by decide⟩, fun z hz => wf_i8 (hR z hz), hN⟩
set_option maxRecDepth 20000 in
theorem fits_iv {X : V} {n : Nat} (h : Fits Tryz.prog (n + 4) 41 X) : ∃ a b c d, X = .agg [.agg [.raw (.int .i8 a), .raw (.int .i8 b)], .agg [.raw (.int .i8 c), .raw (.int .i8 d)]] ∧ (B8 a ∧ B8 b) ∧ B8 c ∧ B8 d := by
 have u2 : Tryz.prog.underlying 39 = some (.array 2 38) := by kernel_rfl
 have u3 : Tryz.prog.underlying 38 = some (.int .i8) := by kernel_rfl
 obtain ⟨l, rfl, hl⟩ := fits_struct Tryz.underlying41 h
 obtain ⟨x1, m, rfl, g1, hl⟩ := fitL_cons hl
 obtain ⟨x2, m, rfl, g2, hl⟩ := fitL_cons hl
 have := fitL_nil hl
 subst this
 obtain ⟨z, rfl, hz⟩ := fits_pr u2 u3 g1
 obtain ⟨w, rfl, hw⟩ := fits_pr u2 u3 g2
 exact ⟨z.1, z.2, w.1, w.2, rfl, hz, hw⟩
theorem md_sz {z d : Int} (hz : z.natAbs < 4294967296) (h1 : 1 ≤ d) (h2 : d < 4294967296) : qs (mdQ z d) ≤ 1 := by
 obtain ⟨a, b⟩ := md_nd (z := z) h1
 exact qs_sm (by omega) (by omega)
theorem wq_sz {a b : Int} (ha : B8 a) : qs (wQ a b) ≤ 1 := by
 obtain ⟨h1, h2⟩ := ha
 exact md_sz (by omega) (by omega) (by omega)
set_option maxRecDepth 8000 in
theorem countM_V (x : List Int) (y : List Nat) (hx : PyOk x y 5) (a b c d : Int) (ha : (B8 a ∧ B8 b) ∧ B8 c ∧ B8 d) : PCall Tryz.prog 4 [.agg [.lst (V.i8s x), .lst (V.bytes y)], .agg [.agg [.raw (.int .i8 a), .raw (.int .i8 b)], .agg [.raw (.int .i8 c), .raw (.int .i8 d)]]] (.raw (.bool true)) := by
 have T := (tabs mixed (tbl_cons sanity4_C (tbl_cons made4_C (tbl_cons bounds_C (tbl_cons count_C (tbl_cons rCount_C (tbl_cons bound_C (tbl_cons rBound_C (tbl_cons same_C tbl_nil)))))))))
 have hs := py_Sm x y
 have hx' := eq_true hx
 have b1 := eq_true ha.1.1
 have b2 := eq_true ha.1.2
 have b3 := eq_true ha.2.1
 have b4 := eq_true ha.2.2
 have q1 := wq_sz (b := b) ha.1.1
 have q2 := wq_sz (b := d) ha.2.1
 obtain ⟨p, ep⟩ : ∃ p, pyL x y 5 = p := ⟨_, rfl⟩
 obtain ⟨lo, el⟩ : ∃ p, wQ a b = p := ⟨_, rfl⟩
 obtain ⟨hi, eh⟩ : ∃ p, wQ c d = p := ⟨_, rfl⟩
 rw [ep] at hs
 rw [el] at q1
 rw [eh] at q2
 have t1 := eq_true (sm_Ct hs (lo := lo) (hi := hi) (by omega) (by omega))
 have t2 := eq_true (sm_Cq hs (lo := lo) (hi := hi) (by omega) (by omega))
 have t3 := eq_true (sm_Bd hs)
 have t4 := eq_true (Nat.le_trans (sm_bnd hs) (show 10 ≤ 30000000000000 by decide))
 have c1 : (cntP p lo hi == cntP p lo hi) = true := by simp
 have c2 : decide (bndZ p = bndZ p) = true := decide_eq_true rfl
 refine PCall.of_vc T Tryz.func4 rfl Tryz.ntmps4 Tryz.results4 (by simp) ?_
 simp only [go_sem, hx', b1, b2, b3, b4, ep, el, eh, t1, t2, t3, t4, c1, c2]
 exact by rfl
set_option maxRecDepth 20000 in
theorem lawCountM_F (X Y : V) (h : Fits Tryz.prog 6 25 X) (h2 : Fits Tryz.prog 6 41 Y) : PCall Tryz.prog 4 [X, Y] (.raw (.bool true)) := by
 obtain ⟨x, y, rfl, hx⟩ := fits_raw4 h
 obtain ⟨a, b, c, d, rfl, ha⟩ := fits_iv h2
 exact countM_V x y hx a b c d ha
end Go.Proofs.YtlhapagililgmaaGreat


/- The law of chains. -/
namespace Go.Proofs.YtlhapagililgmaaGreat
set_option linter.unusedSimpArgs false
set_option linter.unusedVariables false
open Go.RowKit

theorem dvT : (allB 10 fun lb => lb == 0 || dvC 9 1800000001 lb 900000000) = true := by decide +kernel
structure ChL (L : List (List Rat)) : Prop where
 sz : ∀ i, i < L.length → Sz (L.getD i []) 9 900000000 ∧ L.getD i [] ≠ []
 st : ∀ i, i + 2 < L.length → pMod (pAdd (L.getD i []) (L.getD (i + 2) [])) (L.getD (i + 1) []) = [] ∧ (L.getD (i + 2) []).length < (L.getD (i + 1) []).length
theorem Pn.Ch2 {p : List Rat} (h : Pn p) : ∀ i, (stI p i).1 ≠ [] → (Can (stI p i).1 ∧ PB (stI p i).1 900000000) ∧ (stI p i).1.length ≤ 9 := by
 have hl := h.len
 exact (ChOk_of (allB_ok chT1 _ (show p.length < 10 by omega)) h.can rfl h.pb (diff_PB h.pb (by omega)) (by decide) (by omega)).2
theorem stL_get {p : List Rat} (hp : Can p) {i : Nat} (hi : i < (stL p (pDiff p)).length) : (stL p (pDiff p)).getD i [] = (stI p i).1 ∧ (stI p i).1 ≠ [] := by
 obtain ⟨N, ⟨h1, _⟩, h3, h4⟩ := stL_I hp
 have hl : (stL p (pDiff p)).length = N := by rw [h1, jL_len]
 rw [hl] at hi
 refine ⟨?_, h4 i hi⟩
 rw [h1, List.getD_eq_getElem?_getD]
 unfold jL
 rw [List.getElem?_map, List.getElem?_range hi, stI_J]
 rfl
theorem chL {p : List Rat} (h : Pn p) : ChL (stL p (pDiff p)) := by
 refine ⟨fun i hi => ?_, fun i hi => ?_⟩
 ·obtain ⟨e1, e2⟩ := stL_get h.can hi
  obtain ⟨⟨k1, k2⟩, k3⟩ := h.Ch2 i e2
  rw [e1]
  exact ⟨⟨k3, k2, k1⟩, e2⟩
 ·obtain ⟨a1, a2⟩ := stL_get h.can (show i < _ by omega)
  obtain ⟨b1, b2⟩ := stL_get h.can (show i + 1 < _ by omega)
  obtain ⟨c1, c2⟩ := stL_get h.can hi
  rw [a1, b1, c1]
  have e1 : (stI p (i + 1)).1 = (stI p i).2 := rfl
  have e2 : (stI p (i + 2)).1 = nxt (stI p i).1 (stI p i).2 := rfl
  rw [e1] at b2 ⊢
  rw [e2] at c2 ⊢
  have ca := (h.Ch2 i a2).1.1
  have cb := (h.Ch2 (i + 1) (by rw [e1]; exact b2)).1.1
  rw [e1] at cb
  refine ⟨mod_of_dvd (can_pAdd _ _) cb b2 ⟨pDiv (stI p i).1 (stI p i).2, (dm_ok ca cb b2).1.1, fun x => ?_⟩, nxt_len ca cb b2⟩
  rw [ev_pAdd]
  exact nxt_ev ca cb b2 x
theorem chL_nil : ChL [] := ⟨fun i hi => absurd hi (Nat.not_lt_zero _), fun i hi => absurd hi (Nat.not_lt_zero _)⟩
theorem ChL.dv {L : List (List Rat)} (h : ChL L) {i : Nat} (hi : i + 2 < L.length) : DvOk (pAdd (L.getD i []) (L.getD (i + 2) [])) (L.getD (i + 1) []) := by
 obtain ⟨s1, _⟩ := h.sz i (by omega)
 obtain ⟨s2, n2⟩ := h.sz (i + 1) (by omega)
 obtain ⟨s3, _⟩ := h.sz (i + 2) hi
 have sa := s1.add s3
 have l2 := s2.len
 have := List.length_pos_iff.2 n2
 have hd := allB_ok dvT (L.getD (i + 1) []).length (by omega)
 rw [Bool.or_eq_true, beq_iff_eq] at hd
 exact dvC_ok (hd.resolve_left (by omega)) (can_pAdd _ _) s2.can sa.len rfl sa.pb s2.pb
theorem py_Pn {a : List Int} {b : List Nat} (h : pyL a b 5 ≠ []) : Pn (pyL a b 5) := by
 have hl := py_len a b 5
 refine ⟨py_can a b 5, h, by simp at hl; omega, 2520, ⟨by decide, by decide +kernel⟩, fun i => ?_⟩
 obtain ⟨h1, h2⟩ := py_cf a b 5 i
 generalize cf (pyL a b 5) i = q at h1 h2 ⊢
 have hd := q.den_pos
 obtain ⟨k, hk⟩ : ∃ k, 2520 = q.den * k := by
  have : ∀ n : Fin 10, 1 ≤ n.1 → 2520 = n.1 * (2520 / n.1) := by decide
  exact ⟨_, this ⟨q.den, by omega⟩ hd⟩
 have hk2 : k ≤ 2520 := by rw [hk]; exact Nat.le_mul_of_pos_left k hd
 refine ⟨q.num * (k : Int), ?_, ?_⟩
 ·have e := rat_md q
  rw [hk, natR_mul, Rat.intCast_mul, ← e]
  have : (((k : Nat) : Int) : Rat) = (k : Rat) := rfl
  rw [this]; grind
 ·rw [Int.natAbs_mul, Int.natAbs_natCast]
  refine Nat.le_trans (Nat.mul_le_mul h1 hk2) (by decide +kernel)
set_option maxRecDepth 8000 in
theorem chains_V (x : List Int) (y : List Nat) (hx : PyOk x y 5) : PCall Tryz.prog 3 [.agg [.lst (V.i8s x), .lst (V.bytes y)]] (.raw (.bool true)) := by
 have T := (tabs mixed (tbl_cons sanity4_C (tbl_cons made4_C (tbl_cons chain_C (tbl_cons rChain_C (tbl_cons rPEq_C (tbl_cons rAdd_C (tbl_cons rDM_C tbl_nil))))))))
 have hs := py_Sm x y
 have hx' := eq_true hx
 have hpn : pyL x y 5 ≠ [] → Pn (pyL x y 5) := py_Pn
 obtain ⟨p, ep⟩ : ∃ p, pyL x y 5 = p := ⟨_, rfl⟩
 rw [ep] at hs hpn
 have t1 := eq_true hs.1.can
 have t2 := eq_true (sm_Ch hs)
 have hL : ChL (stL p (pDiff p)) := by
  by_cases p0 : p = []
  ·rw [p0]; exact chL_nil
  ·exact chL (hpn p0)
 have hne : p ≠ [] → stL p (pDiff p) ≠ [] := fun p0 e => by
  rw [stL_cons hs.1.can (can_pDiff p) p0] at e; cases e
 have hlen := stL_len hs.1.can (can_pDiff p)
 have hdl : (pDiff p).length ≤ 5 := by
  have := len_pDiff hs.1.can
  have := hs.1.len
  omega
 refine PCall.of_vc T Tryz.func3 rfl Tryz.ntmps3 Tryz.results3 (by simp) ?_
 obtain ⟨L, eL⟩ : ∃ L, stL p (pDiff p) = L := ⟨_, rfl⟩
 rw [eL] at hL hne hlen
 have c0 : ((L.length : Int) != (L.length : Int)) = false := by simp
 have key : ∃ P b, (((0 : Int) < (p.length : Int)) = P ∧ (P = True ∨ P = False)) ∧ ((L.length : Int) == 0) = b ∧ (P = True → b = false) := ⟨_, _, ⟨rfl, by by_cases h : (0 : Int) < (p.length : Int) <;> simp only [h, true_or, or_true]⟩, rfl, fun h => by
  rw [beq_eq_false_iff_ne]
  intro e
  have h : (0 : Int) < (p.length : Int) := of_eq_true h
  exact hne (fun e2 => by rw [e2] at h; exact absurd h (by decide)) (List.eq_nil_of_length_eq_zero (by omega))⟩
 obtain ⟨P, b, ⟨c1, hP⟩, c2, hb⟩ := key
 have dm : ∀ i, i + 2 < L.length → dmP (pAdd (L.getD i []) (L.getD (i + 2) [])) (L.getD (i + 1) []) = .tup [.lst (V.rats (pDiv (pAdd (L.getD i []) (L.getD (i + 2) [])) (L.getD (i + 1) []))), .lst (V.rats []), .raw (.int .i64 0)] := fun i hi => by
  obtain ⟨s2, n2⟩ := hL.sz (i + 1) (by omega)
  unfold dmP
  rw [if_neg n2, (hL.st i hi).1]
 have l5 : L.length ≤ 6 := by omega
 have T0 : ∀ a : List Rat, decide (a = a) = true := fun a => decide_eq_true rfl
 rcases hP with rfl | rfl
 ·have hb := hb rfl
  subst hb
  simp only [go_sem, hx', ep, eL, t1, t2, c0, c1, c2]
  refine AWp.loops (X := { i : Nat // i ≤ L.length }) (fun i => mkSt [(3, .raw (.bool true)), (5, .lst (V.mat L)), (6, .lst (V.mat L)), (7, .raw (.int .i64 (i.1 : Nat)))] [] 0 94) (fun i => L.length - i.1) ⟨0, Nat.zero_le _⟩ (Wk.of [] (by decide) ?_) ?_
  ·simp only [go_sem, Int.natCast_zero]
  rintro ⟨i, hi⟩
  refine vc_at T ?_
  by_cases hin : i < L.length
  ·have d1 : (i : Int) < (L.length : Int) := by omega
   have d2 : (i : Int) + 1 = ((i + 1 : Nat) : Int) := by omega
   have d3 : 0 ≤ (i : Int) := by omega
   obtain ⟨sz, _⟩ := hL.sz i hin
   obtain ⟨a, ea⟩ : ∃ a, L.getD i [] = a := ⟨_, rfl⟩
   rw [ea] at sz
   have s1 := eq_true (show a.length ≤ 1000000 from Nat.le_trans sz.len (by decide))
   have s2 := eq_true (show PB a 5000000000000 from sz.pb.mono (by decide))
   simp only [go_sem, d1, d2, d3, hin, ea, s1, s2, T0]
   refine ⟨by rfl, ⟨by omega, by omega⟩, ⟨i + 1, hin⟩, Wk.of [] (by decide) ?_, by simp only; omega⟩
   simp only [go_sem]
  ·have d1 : ¬ (i : Int) < (L.length : Int) := by omega
   simp only [go_sem, d1]
   refine AWp.loops (X := { i : Nat // 2 ≤ i ∧ (i ≤ L.length ∨ i = 2) }) (fun i => mkSt [(3, .raw (.bool true)), (5, .lst (V.mat L)), (8, .raw (.int .i64 (i.1 : Nat)))] [] 0 94) (fun i => L.length - i.1) ⟨2, Nat.le_refl _, .inr rfl⟩ (Wk.of [] (by decide) ?_) ?_
   ·simp only [go_sem]
    try rfl
   rintro ⟨j, j2, hj⟩
   refine vc_at T ?_
   by_cases hjn : j < L.length
   ·obtain ⟨k, rfl⟩ : ∃ k, j = k + 2 := ⟨j - 2, by omega⟩
    have f1 : ((k + 2 : Nat) : Int) < (L.length : Int) := by omega
    have f2 : ((k + 2 : Nat) : Int) + 1 = ((k + 3 : Nat) : Int) := by omega
    have f3 : ((k + 2 : Nat) : Int) - 2 = ((k : Nat) : Int) := by omega
    have f4 : ((k + 2 : Nat) : Int) - 1 = ((k + 1 : Nat) : Int) := by omega
    have f5 : 0 ≤ ((k + 2 : Nat) : Int) := by omega
    have f6 : 0 ≤ ((k : Nat) : Int) := by omega
    have f7 : 0 ≤ ((k + 1 : Nat) : Int) := by omega
    have g1 : k < L.length := by omega
    have g2 : k + 1 < L.length := by omega
    have dm1 := dm k hjn
    have dv1 := eq_true (hL.dv hjn)
    obtain ⟨s1, _⟩ := hL.sz k g1
    obtain ⟨s2, _⟩ := hL.sz (k + 1) g2
    obtain ⟨s3, _⟩ := hL.sz (k + 2) hjn
    obtain ⟨_, hlt⟩ := hL.st k hjn
    obtain ⟨a, ea⟩ : ∃ a, L.getD k [] = a := ⟨_, rfl⟩
    obtain ⟨b, eb⟩ : ∃ a, L.getD (k + 1) [] = a := ⟨_, rfl⟩
    obtain ⟨c, ec⟩ : ∃ a, L.getD (k + 2) [] = a := ⟨_, rfl⟩
    rw [ea, eb, ec] at dm1 dv1
    rw [ea] at s1
    rw [eb] at s2 hlt
    rw [ec] at s3 hlt
    have x1 := eq_true (Sz.c2 s1 s3)
    have x2 : ¬ (b.length : Int) ≤ (c.length : Int) := by omega
    simp only [go_sem, f1, f2, f3, f4, f5, f6, f7, g1, g2, hjn, ea, eb, ec, x1, dv1, dm1, x2]
    refine ⟨⟨by omega, by omega⟩, by omega, ⟨by omega, by omega⟩, by omega, by rfl, ⟨by omega, by omega⟩, by omega, by rfl, ⟨by omega, by omega⟩, ⟨k + 3, by omega, by omega⟩, Wk.of [] (by decide) ?_, by simp only; omega⟩
    simp only [go_sem]
   ·have f1 : ¬ (j : Int) < (L.length : Int) := by omega
    simp only [go_sem, f1]
 ·simp only [go_sem, hx', ep, eL, t1, t2, c0, c1]
  refine AWp.loops (X := { i : Nat // i ≤ L.length }) (fun i => mkSt [(3, .raw (.bool true)), (5, .lst (V.mat L)), (6, .lst (V.mat L)), (7, .raw (.int .i64 (i.1 : Nat)))] [] 0 94) (fun i => L.length - i.1) ⟨0, Nat.zero_le _⟩ (Wk.of [] (by decide) ?_) ?_
  ·simp only [go_sem, Int.natCast_zero]
  rintro ⟨i, hi⟩
  refine vc_at T ?_
  by_cases hin : i < L.length
  ·have d1 : (i : Int) < (L.length : Int) := by omega
   have d2 : (i : Int) + 1 = ((i + 1 : Nat) : Int) := by omega
   have d3 : 0 ≤ (i : Int) := by omega
   obtain ⟨sz, _⟩ := hL.sz i hin
   obtain ⟨a, ea⟩ : ∃ a, L.getD i [] = a := ⟨_, rfl⟩
   rw [ea] at sz
   have s1 := eq_true (show a.length ≤ 1000000 from Nat.le_trans sz.len (by decide))
   have s2 := eq_true (show PB a 5000000000000 from sz.pb.mono (by decide))
   simp only [go_sem, d1, d2, d3, hin, ea, s1, s2, T0]
   refine ⟨by rfl, ⟨by omega, by omega⟩, ⟨i + 1, hin⟩, Wk.of [] (by decide) ?_, by simp only; omega⟩
   simp only [go_sem]
  ·have d1 : ¬ (i : Int) < (L.length : Int) := by omega
   simp only [go_sem, d1]
   refine AWp.loops (X := { i : Nat // 2 ≤ i ∧ (i ≤ L.length ∨ i = 2) }) (fun i => mkSt [(3, .raw (.bool true)), (5, .lst (V.mat L)), (8, .raw (.int .i64 (i.1 : Nat)))] [] 0 94) (fun i => L.length - i.1) ⟨2, Nat.le_refl _, .inr rfl⟩ (Wk.of [] (by decide) ?_) ?_
   ·simp only [go_sem]
    try rfl
   rintro ⟨j, j2, hj⟩
   refine vc_at T ?_
   by_cases hjn : j < L.length
   ·obtain ⟨k, rfl⟩ : ∃ k, j = k + 2 := ⟨j - 2, by omega⟩
    have f1 : ((k + 2 : Nat) : Int) < (L.length : Int) := by omega
    have f2 : ((k + 2 : Nat) : Int) + 1 = ((k + 3 : Nat) : Int) := by omega
    have f3 : ((k + 2 : Nat) : Int) - 2 = ((k : Nat) : Int) := by omega
    have f4 : ((k + 2 : Nat) : Int) - 1 = ((k + 1 : Nat) : Int) := by omega
    have f5 : 0 ≤ ((k + 2 : Nat) : Int) := by omega
    have f6 : 0 ≤ ((k : Nat) : Int) := by omega
    have f7 : 0 ≤ ((k + 1 : Nat) : Int) := by omega
    have g1 : k < L.length := by omega
    have g2 : k + 1 < L.length := by omega
    have dm1 := dm k hjn
    have dv1 := eq_true (hL.dv hjn)
    obtain ⟨s1, _⟩ := hL.sz k g1
    obtain ⟨s2, _⟩ := hL.sz (k + 1) g2
    obtain ⟨s3, _⟩ := hL.sz (k + 2) hjn
    obtain ⟨_, hlt⟩ := hL.st k hjn
    obtain ⟨a, ea⟩ : ∃ a, L.getD k [] = a := ⟨_, rfl⟩
    obtain ⟨b, eb⟩ : ∃ a, L.getD (k + 1) [] = a := ⟨_, rfl⟩
    obtain ⟨c, ec⟩ : ∃ a, L.getD (k + 2) [] = a := ⟨_, rfl⟩
    rw [ea, eb, ec] at dm1 dv1
    rw [ea] at s1
    rw [eb] at s2 hlt
    rw [ec] at s3 hlt
    have x1 := eq_true (Sz.c2 s1 s3)
    have x2 : ¬ (b.length : Int) ≤ (c.length : Int) := by omega
    simp only [go_sem, f1, f2, f3, f4, f5, f6, f7, g1, g2, hjn, ea, eb, ec, x1, dv1, dm1, x2]
    refine ⟨⟨by omega, by omega⟩, by omega, ⟨by omega, by omega⟩, by omega, by rfl, ⟨by omega, by omega⟩, by omega, by rfl, ⟨by omega, by omega⟩, ⟨k + 3, by omega, by omega⟩, Wk.of [] (by decide) ?_, by simp only; omega⟩
    simp only [go_sem]
   ·have f1 : ¬ (j : Int) < (L.length : Int) := by omega
    simp only [go_sem, f1]
set_option maxRecDepth 20000 in
theorem lawChains_F (X : V) (h : Fits Tryz.prog 6 25 X) : PCall Tryz.prog 3 [X] (.raw (.bool true)) := by
 obtain ⟨x, y, rfl, hx⟩ := fits_raw4 h
 exact chains_V x y hx
end Go.Proofs.YtlhapagililgmaaGreat


/- Sums of counts. No program in sight. -/
namespace Go.Proofs.YtlhapagililgmaaGreat
set_option linter.unusedSimpArgs false
set_option linter.unusedVariables false
open Go.RowKit

theorem Tb.ib {p : List Rat} {t H : Nat} (h : IB H (pSc (t : Rat) p)) : ∀ i, ∃ z : Int, (t : Rat) * cf p i = (z : Rat) ∧ z.natAbs ≤ H := fun i => by
 obtain ⟨⟨z, hz⟩, hb⟩ := h i
 rw [cf_pSc] at hz
 rw [cf_pSc, hz] at hb
 exact ⟨z, hz, Bd_int.1 hb⟩
theorem Tb.toIB {p : List Rat} {t H : Nat} (h : ∀ i, ∃ z : Int, (t : Rat) * cf p i = (z : Rat) ∧ z.natAbs ≤ H) : IB H (pSc (t : Rat) p) := fun i => by
 obtain ⟨z, e, l⟩ := h i
 rw [cf_pSc, e]
 exact ⟨⟨z, rfl⟩, Bd_int.2 l⟩
theorem Tb.mul {a b : List Rat} {T H S K n : Nat} (ha : Tb a T H) (hb : Tb b S K) (hn : a.length ≤ n) : Tb (pMul a b) (T * S) (n * (H * K)) := by
 obtain ⟨t, ⟨t1, t2⟩, h1⟩ := ha
 obtain ⟨s, ⟨s1, s2⟩, h2⟩ := hb
 refine ⟨t * s, ⟨Nat.mul_pos t1 s1, Nat.mul_le_mul t2 s2⟩, Tb.ib ?_⟩
 have e : pSc ((t * s : Nat) : Rat) (pMul a b) = pMul (pSc (t : Rat) a) (pSc (s : Rat) b) := ev_inj (can_pSc _ _) (can_pMul _ _) fun x => by
  rw [ev_pSc, ev_pMul, ev_pMul, ev_pSc, ev_pSc, natR_mul]; grind
 rw [e]
 exact IB_mul (Tb.toIB h1) (Tb.toIB h2) (Nat.le_trans (len_pSc _ _) hn)
theorem Tb.sc {a : List Rat} {T H d : Nat} (ha : Tb a T H) {k : Rat} {z : Int} (hd : 1 ≤ d) (e : (d : Rat) * k = (z : Rat)) : Tb (pSc k a) (T * d) (H * z.natAbs) := by
 obtain ⟨t, ⟨t1, t2⟩, h1⟩ := ha
 refine ⟨t * d, ⟨Nat.mul_pos t1 hd, Nat.mul_le_mul_right d t2⟩, fun i => ?_⟩
 obtain ⟨w, hw, hl⟩ := h1 i
 refine ⟨w * z, ?_, by rw [Int.natAbs_mul]; exact Nat.mul_le_mul_right _ hl⟩
 rw [cf_pSc, natR_mul, Rat.intCast_mul, ← hw, ← e]; grind
theorem mdQ_mul {z d : Int} (hd : 1 ≤ d) : ((d.toNat : Nat) : Rat) * mdQ z d = (z : Rat) := by
 unfold mdQ
 rw [if_neg (by omega), Rat.divInt_eq_div]
 have e : ((d.toNat : Nat) : Rat) = (d : Rat) := by
  have : ((d.toNat : Nat) : Int) = d := Int.toNat_of_nonneg (by omega)
  calc ((d.toNat : Nat) : Rat) = (((d.toNat : Nat) : Int) : Rat) := rfl
   _ = (d : Rat) := by rw [this]
 have d0 : (d : Rat) ≠ 0 := fun h => by
  have : d = 0 := by exact_mod_cast h
  omega
 rw [e, Rat.div_def]
 have := Rat.mul_inv_cancel _ d0
 generalize (d : Rat)⁻¹ = y at *
 grind
theorem py_Tb (a : List Int) (b : List Nat) : Tb (pyL a b 5) 2520 22680 := by
 refine ⟨2520, ⟨by decide, Nat.le_refl _⟩, fun i => ?_⟩
 obtain ⟨h1, h2⟩ := py_cf a b 5 i
 generalize cf (pyL a b 5) i = q at h1 h2 ⊢
 have hd := q.den_pos
 obtain ⟨k, hk⟩ : ∃ k, 2520 = q.den * k := by
  have : ∀ n : Fin 10, 1 ≤ n.1 → 2520 = n.1 * (2520 / n.1) := by decide
  exact ⟨_, this ⟨q.den, by omega⟩ hd⟩
 have hk2 : k ≤ 2520 := by rw [hk]; exact Nat.le_mul_of_pos_left k hd
 refine ⟨q.num * (k : Int), ?_, ?_⟩
 ·have e := rat_md q
  rw [hk, natR_mul, Rat.intCast_mul, ← e]
  have : (((k : Nat) : Int) : Rat) = (k : Rat) := rfl
  rw [this]; grind
 ·rw [Int.natAbs_mul, Int.natAbs_natCast]
  exact Nat.le_trans (Nat.mul_le_mul h1 hk2) (by decide)
structure Lw (p : List Rat) : Prop where
 can : Can p
 len : p.length ≤ 5
 tb : Tb p 2520 22680
theorem py_Lw (a : List Int) (b : List Nat) : Lw (pyL a b 5) := ⟨py_can a b 5, by have := py_len a b 5; simp at this; omega, py_Tb a b⟩
section
variable {p : List Rat}
theorem Lw.sz (h : Lw p) : Sz p 5 1 := ⟨h.len, h.tb.pb (by decide) (by decide) (by decide), h.can⟩
theorem Lw.pn (h : Lw p) (p0 : p ≠ []) : Pn p := ⟨h.can, p0, by have := h.len; omega, h.tb.mono (by decide +kernel) (by decide +kernel)⟩
theorem Lw.sq (h : Lw p) (p0 : p ≠ []) : Pn (pMul p p) := ⟨can_pMul _ _, fun e => by rcases (pMul_eq_nil h.can h.can).1 e with h | h <;> exact p0 h, by
 have := len_pMul h.can h.can p0 p0
 have := h.len
 omega, (h.tb.mul h.tb h.len).mono (by decide +kernel) (by decide +kernel)⟩
theorem Lw.scl (h : Lw p) (p0 : p ≠ []) {k : Rat} {z : Int} (k0 : k ≠ 0) (e : ((3 : Nat) : Rat) * k = (z : Rat)) (hz : z.natAbs ≤ 1000) : Pn (pSc k p) := ⟨can_pSc _ _, fun e2 => by
 have := len_pSc' k0 h.can
 rw [e2] at this
 exact p0 (List.eq_nil_of_length_eq_zero this.symm), by have := len_pSc k p; have := h.len; omega, (h.tb.sc (d := 3) (by decide) e).mono (by decide +kernel) (Nat.le_trans (Nat.mul_le_mul_left _ hz) (by decide +kernel))⟩
theorem ct_nil {lo hi : Rat} (h1 : qs lo ≤ 1000) (h2 : qs hi ≤ 1000) : CtOk [] lo hi := ⟨⟨by omega, by omega⟩, fun h => absurd rfl h⟩
theorem Lw.Ct (h : Lw p) {lo hi : Rat} (h1 : qs lo ≤ 1000) (h2 : qs hi ≤ 1000) : CtOk p lo hi := by
 by_cases p0 : p = []
 ·rw [p0]; exact ct_nil h1 h2
 ·exact (h.pn p0).Ct h1 h2
structure SumF (p : List Rat) (k A B c : Rat) : Prop where
 c1 : CtOk p A B
 c2 : CtOk p A c
 c3 : CtOk p c B
 c4 : CtOk (pMul p p) A B
 c5 : CtOk (pSc k p) A B
 e1 : A ≤ c → c ≤ B → cntP p A c + cntP p c B = cntP p A B
 e2 : cntP (pMul p p) A B = cntP p A B
 e3 : cntP (pSc k p) A B = cntP p A B
 b1 : 0 ≤ cntP p A B
 b2 : cntP p A B ≤ max 0 ((p.length : Int) - 1)
 s1 : cntP p A c ≤ 4 ∧ -4 ≤ cntP p A c
 s2 : cntP p c B ≤ 4 ∧ -4 ≤ cntP p c B
theorem cntP_nil (lo hi : Rat) : cntP [] lo hi = 0 := if_pos (.inl rfl)
theorem cntP_bd (h : Lw p) (lo hi : Rat) : 0 ≤ cntP p lo hi ∧ cntP p lo hi ≤ max 0 ((p.length : Int) - 1) := by
 unfold cntP
 split
 ·omega
 ·rename_i hn
  have p0 : p ≠ [] := fun e => hn (.inl e)
  have hl : lo ≤ hi := by
   have : ¬ hi ≤ lo := fun e => hn (.inr e)
   grind
  have h1 := vrS_le h.can p0 hl
  have h2 := vrS_deg h.can p0 lo
  have := List.length_pos_iff.2 p0
  omega
theorem sumF (h : Lw p) {k A B c : Rat} {z : Int} (k0 : k ≠ 0) (e : ((3 : Nat) : Rat) * k = (z : Rat)) (hz : z.natAbs ≤ 1000) (qa : qs A ≤ 1000) (qb : qs B ≤ 1000) (qc : qs c ≤ 1000) (hab : A ≤ B) : SumF p k A B c := by
 have bd := cntP_bd h
 have hl := h.len
 by_cases p0 : p = []
 ·subst p0
  have e1 : pMul [] [] = [] := rfl
  have e2 : pSc k [] = [] := rfl
  exact ⟨ct_nil qa qb, ct_nil qa qc, ct_nil qc qb, by rw [e1]; exact ct_nil qa qb, by rw [e2]; exact ct_nil qa qb, fun _ _ => by rw [cntP_nil, cntP_nil, cntP_nil]; rfl, by rw [e1], by rw [e2], (bd A B).1, (bd A B).2, by rw [cntP_nil]; omega, by rw [cntP_nil]; omega⟩
 ·have m0 := (h.sq p0).ne
  have s0 := (h.scl p0 k0 e hz).ne
  have big : ∀ lo hi, cntP p lo hi ≤ 4 ∧ -4 ≤ cntP p lo hi := fun lo hi => by
   have := bd lo hi
   omega
  refine ⟨(h.pn p0).Ct qa qb, (h.pn p0).Ct qa qc, (h.pn p0).Ct qc qb, (h.sq p0).Ct qa qb, (h.scl p0 k0 e hz).Ct qa qb, fun h1 h2 => ?_, ?_, ?_, (bd A B).1, (bd A B).2, big _ _, big _ _⟩
  ·have val : ∀ lo hi : Rat, lo ≤ hi → cntP p lo hi = (vrS p lo : Int) - (vrS p hi : Int) := fun lo hi hl => by
    unfold cntP
    split
    ·rename_i hn
     rcases hn with hn | hn
     ·exact absurd hn p0
     ·rw [show lo = hi by grind]; omega
    ·rfl
   rw [val A c h1, val c B h2, val A B (by grind)]; omega
  ·unfold cntP
   rw [vrS_sq h.can p0, vrS_sq h.can p0]
   simp only [p0, m0, false_or]
  ·unfold cntP
   rw [vrS_sc h.can p0 k0, vrS_sc h.can p0 k0]
   simp only [p0, s0, false_or]
end
end Go.Proofs.YtlhapagililgmaaGreat

