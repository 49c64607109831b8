/- Texts LC6 in one. -/
import Derived.Test.YthhpmapbhdebeaaGreatP64
import Derived.Test.YthhpmapbhdebeaaGreatP62
/- The law of division of polynomials. -/
namespace Go.Proofs.YthhpmapbhdebeaaGreat
set_option linter.unusedSimpArgs false
set_option linter.unusedVariables false
open Go.RowKit

theorem len0 (l : List Rat) : (0 : Int) < (l.length : Int) ↔ l ≠ [] := by
  cases l with
  | nil => simp
  | cons x l => simp
set_option maxRecDepth 20000 in
set_option maxHeartbeats 4000000 in
theorem divides_V (x : Th) (hx : x.Ok) : PCall Tryz.prog 6 [x.v] (.raw (.bool true)) := by
  obtain ⟨⟨pa, pb, pc⟩, hz⟩ := hx
  refine PCall.of_vc (tabs mixed (tbl_cons sanity3_C (tbl_cons made3_C (tbl_cons ext_C (tbl_cons pMul_C (tbl_cons pAdd_C (tbl_cons pGcd_C (tbl_cons pMonic_C (tbl_cons pDM_C (tbl_cons rPEq_C tbl_nil)))))))))) Tryz.func6 rfl Tryz.ntmps6 Tryz.results6 (by simp [Th.v]) ?_
  have ha : Sz (psL x.A 5) 5 1 := psL_sz pa 5
  have hb : Sz (psL x.B 5) 5 1 := psL_sz pb 5
  have hc : Sz (psL x.C 3) 3 1 := psL_sz pc 3
  have ma := psL_MB pa 5
  have mb := psL_MB pb 5
  have mc := psL_MB pc 3
  unfold Th.v
  obtain ⟨a, ea⟩ : ∃ a, psL x.A 5 = a := ⟨_, rfl⟩
  obtain ⟨b, eb⟩ : ∃ a, psL x.B 5 = a := ⟨_, rfl⟩
  obtain ⟨c, ec⟩ : ∃ a, psL x.C 3 = a := ⟨_, rfl⟩
  rw [ea] at ha ma
  rw [eb] at hb mb
  rw [ec] at hc mc
  obtain ⟨x1, hg, hs, ht⟩ := ext_sz ha hb
  obtain ⟨y1, _, y2⟩ := pExt_ok ha.can hb.can
  obtain ⟨d1, d2⟩ := pG_dvd ha.can hb.can
  have d1 := dvd_monic (can_pG ha.can hb.can) d1
  have d2 := dvd_monic (can_pG ha.can hb.can) d2
  have hac := three_sz ha hc ma mc
  have hbc := three_sz hb hc mb mc
  obtain ⟨z1, z2⟩ := gc_start hac hbc (by decide)
  have hm := (show Sz (pG (pMul a c) (pMul b c)) 7 18600435 from ⟨pG_len hac.can hbc.can hac.len hbc.len, z2, can_pG hac.can hbc.can⟩).monic
  have k2 : pGcd (pMul a c) (pMul b c) = pMonic (pMul (pGcd a b) c) := by
    by_cases c0 : c = []
    · subst c0
      have e : ∀ l : List Rat, pMul l [] = [] := fun l => ev_inj (can_pMul _ _) Can_nil fun x => by rw [ev_pMul]; show ev l x * 0 = 0; grind
      rw [e, e, e]; rfl
    · show pMonic (pG (pMul a c) (pMul b c)) = _
      rw [pG_mul ha.can hb.can hc.can c0]
      exact (pMonic_mul (can_pG ha.can hb.can)).symm
  have k4 : pMonic (pGcd a b) = pGcd a b := pMonic_idem (can_pG ha.can hb.can)
  have hm' : Sz (pGcd (pMul a c) (pMul b c)) 7 37200871 := hm
  have d1 : pDvd (pGcd a b) a := d1
  have d2 : pDvd (pGcd a b) b := d2
  have hbg : pGcd a b = [] → b = [] := fun e => by
    have h1 := len_pMonic (can_pG ha.can hb.can)
    have h2 : (pMonic (pG a b)).length = 0 := by rw [show pMonic (pG a b) = [] from e]; rfl
    exact ((pG_eq_nil ha.can hb.can).1 (List.eq_nil_of_length_eq_zero (by omega))).2
  obtain ⟨g, eg⟩ : ∃ g, pGcd a b = g := ⟨_, rfl⟩
  obtain ⟨s, es⟩ : ∃ s, (pExt a b).2.1 = s := ⟨_, rfl⟩
  obtain ⟨t, et⟩ : ∃ s, (pExt a b).2.2 = s := ⟨_, rfl⟩
  rw [es, et] at y2
  rw [eg] at y1 y2 k4 hg d1 d2 k2 hbg
  rw [es] at hs
  rw [et] at ht
  rw [k2] at hm'
  have hsa := hs.mul ha
  have htb := ht.mul hb
  have hcm := hsa.add htb
  have hgc := hg.mul hc
  have k1 : decide (pAdd (pMul s a) (pMul t b) = g) = true := decide_eq_true (ev_inj hcm.can hg.can fun x => by simp only [ev_pAdd, ev_pMul]; exact y2 x)
  have dd : ∀ l : List Rat, decide (l = l) = true := fun l => decide_eq_true rfl
  have m1 := Sz.cm hs ha
  have m2 := Sz.cm ht hb
  have m3 := Sz.cm ha hc
  have m4 := Sz.cm hb hc
  have m5 := Sz.cm hg hc
  have c1 := hcm.c1
  have c2 := hg.c1
  have c3 := hsa.c1
  have c4 := htb.c1
  have c5 := hm'.c1
  have w1 : Can g := hg.can
  have w2 : ∃ s, PB g s ∧ s ≤ 50000000 := ⟨_, hg.pb, by decide⟩
  have w3 : Can (pMul g c) := hgc.can
  have w4 : ∃ s, PB (pMul g c) s ∧ s ≤ 50000000 := ⟨_, hgc.pb, by decide⟩
  have w5 := hgc.c1
  have g1 : ∃ n, GcOk n (pMul a c) (pMul b c) := ⟨_, z1⟩
  have g2 : ∃ n, GcOk n a b := ⟨_, (gc_start ha hb (by decide)).1⟩
  have v1 : DvOk a g := ha.dv hg
  have v2 : DvOk b g := hb.dv hg
  have v3 : DvOk a b := ha.dv hb
  have fin1 : b = [] → dmP a b = .tup [.lst (V.rats []), .lst (V.rats []), .raw (.int .i64 3)] := fun e => if_pos e
  by_cases g0 : g = []
  · have r1 : ¬ (0 : Int) < (g.length : Int) := fun h => (len0 g).1 h g0
    have b0 : b = [] := hbg g0
    have fin1 := fin1 b0
    have l2 : ((b.length : Int) == 0) = true := by rw [beq_len0]; exact decide_eq_true b0
    simp only [app_cons, app_nil]
    simp (maxSteps := 2000000) only [go_sem, List.reduceReplicate, ↓reduceIte, Nat.reduceEqDiff, Nat.reduceLT, Nat.reduceLeDiff, Nat.reduceAdd, Nat.reduceSub, Nat.reduceMul, Int.reduceToNat, Int.reduceNeg, Int.reduceAdd, Int.reduceSub, Int.reduceMul, Int.reduceLT, Int.reduceLE, Int.reduceMod, Int.reducePow, Nat.reducePow, Int.reduceDiv, Nat.reduceBEq, Nat.reduceBNe, Int.reduceBEq, Int.reduceBNe, reduceCtorEq, ea, eb, ec, pa, pb, pc, x1, y1, eg, es, et, k1, k2, k4, dd, m1, m2, m3, m4, m5, c1, c2, c3, c4, c5, w1, w2, w3, w4, w5, g1, g2, v1, v2, v3, r1, fin1, l2, List.length_nil, Int.natCast_zero]
  · have r1 : (0 : Int) < (g.length : Int) := (len0 g).2 g0
    have u1 : dmP a g = .tup [.lst (V.rats (pDiv a g)), .lst (V.rats []), .raw (.int .i64 0)] := by unfold dmP; rw [if_neg g0, mod_of_dvd ha.can hg.can g0 d1]
    have u2 : dmP b g = .tup [.lst (V.rats (pDiv b g)), .lst (V.rats []), .raw (.int .i64 0)] := by unfold dmP; rw [if_neg g0, mod_of_dvd hb.can hg.can g0 d2]
    by_cases b0 : b = []
    · have fin1 := fin1 b0
      have l2 : ((b.length : Int) == 0) = true := by rw [beq_len0]; exact decide_eq_true b0
      simp only [app_cons, app_nil]
      simp (maxSteps := 2000000) only [go_sem, List.reduceReplicate, ↓reduceIte, Nat.reduceEqDiff, Nat.reduceLT, Nat.reduceLeDiff, Nat.reduceAdd, Nat.reduceSub, Nat.reduceMul, Int.reduceToNat, Int.reduceNeg, Int.reduceAdd, Int.reduceSub, Int.reduceMul, Int.reduceLT, Int.reduceLE, Int.reduceMod, Int.reducePow, Nat.reducePow, Int.reduceDiv, Nat.reduceBEq, Nat.reduceBNe, Int.reduceBEq, Int.reduceBNe, reduceCtorEq, ea, eb, ec, pa, pb, pc, x1, y1, eg, es, et, k1, k2, k4, dd, m1, m2, m3, m4, m5, c1, c2, c3, c4, c5, w1, w2, w3, w4, w5, g1, g2, v1, v2, v3, r1, fin1, l2, List.length_nil, Int.natCast_zero, u1, u2]
    · have u3 : dmP a b = .tup [.lst (V.rats (pDiv a b)), .lst (V.rats (pMod a b)), .raw (.int .i64 0)] := if_neg b0
      obtain ⟨⟨cq, cr⟩, hrl, hev⟩ := dm_ok ha.can hb.can b0
      obtain ⟨pq, pr⟩ := div_PB (S := 4) ha.can hb.can b0 ha.pb hb.pb (by decide)
      have hlb := (len0 b).2 b0
      have l2 : ((b.length : Int) == 0) = false := by rw [beq_len0]; exact decide_eq_false b0
      have l3 : ((pMod a b).length : Int) < (b.length : Int) := by omega
      have hQ : 2 ^ (a.length - b.length + 1) * 4 ≤ 128 := Nat.le_trans (Nat.mul_le_mul_right 4 (Nat.pow_le_pow_right (by decide) (show a.length - b.length + 1 ≤ 5 by have := ha.len; have := List.length_pos_iff.2 b0; omega))) (by decide)
      have sq : Sz (pDiv a b) 6 128 := ⟨Nat.le_trans (div_len ha.can hb.can b0) (by have := ha.len; omega), pq.mono hQ, cq⟩
      have sr : Sz (pMod a b) 5 128 := ⟨by have := hb.len; omega, pr.mono hQ, cr⟩
      have m6 := Sz.cm sq hb
      have c6 := (sq.mul hb).c1
      have c7 := sr.c1
      have c8 := ((sq.mul hb).add sr).c1
      have c9 := ha.c1
      have k5 : decide (pAdd (pMul (pDiv a b) b) (pMod a b) = a) = true := decide_eq_true (ev_inj (can_pAdd _ _) ha.can fun x => by simp only [ev_pAdd, ev_pMul]; exact hev x)
      simp only [app_cons, app_nil]
      simp (maxSteps := 2000000) only [go_sem, List.reduceReplicate, ↓reduceIte, Nat.reduceEqDiff, Nat.reduceLT, Nat.reduceLeDiff, Nat.reduceAdd, Nat.reduceSub, Nat.reduceMul, Int.reduceToNat, Int.reduceNeg, Int.reduceAdd, Int.reduceSub, Int.reduceMul, Int.reduceLT, Int.reduceLE, Int.reduceMod, Int.reducePow, Nat.reducePow, Int.reduceDiv, Nat.reduceBEq, Nat.reduceBNe, Int.reduceBEq, Int.reduceBNe, reduceCtorEq, ea, eb, ec, pa, pb, pc, x1, y1, eg, es, et, k1, k2, k4, k5, dd, m1, m2, m3, m4, m5, m6, c1, c2, c3, c4, c5, c6, c7, c8, c9, w1, w2, w3, w4, w5, g1, g2, v1, v2, v3, r1, u1, u2, u3, l2, l3, List.length_nil, Int.natCast_zero]
set_option maxRecDepth 20000 in
theorem lawDivides_F (X : V) (h : Fits Tryz.prog 6 26 X) : PCall Tryz.prog 6 [X] (.raw (.bool true)) := by
  obtain ⟨x, rfl, hx⟩ := fits_three h
  exact divides_V x hx
end Go.Proofs.YthhpmapbhdebeaaGreat
