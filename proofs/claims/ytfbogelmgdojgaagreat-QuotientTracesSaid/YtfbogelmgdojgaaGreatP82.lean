/- Texts LQ4 in one. -/
import Derived.Test.YtfbogelmgdojgaaGreatP79
import Derived.Test.YtfbogelmgdojgaaGreatP81
/- The law of traces and norms. -/
namespace Go.Proofs.YtfbogelmgdojgaaGreat
set_option linter.unusedSimpArgs false
set_option linter.unusedVariables false
open Go.RowKit

theorem cmpQ_self (x : Rat) : cmpQ x x = 0 := by
  have := cmpQ_eq0 x x
  rw [decide_eq_true rfl] at this
  exact eq_of_beq this
theorem pow_mon (i : Nat) : tr (mon ((1 : Int) : Rat) (i : Int).toNat) = mon 1 i := by
  rw [Int.toNat_natCast]
  exact tr_of_can (mon_can i (by decide))
theorem mon_sz {i : Nat} (h : i < 6) : Sz (mon 1 i) 6 1 := ⟨by rw [mon_len]; omega, fun j => by
  by_cases e : j = i
  · rw [e, mon_top]; exact qs_1
  · rw [mon_low _ _ _ e]; exact qs_0, mon_can i (by decide)⟩
theorem const_sz {c : Rat} (h : qs c ≤ 1) : Sz (tr [c]) 2 1 := ⟨Nat.le_trans (tr_len _) (by simp), fun j => by
  rw [cf_tr]
  exact PB_cons h (PB_nil (Nat.le_refl _)) j, tr_can _⟩
/-- The sizes of a norm. -/
def nmC (m j n k : Nat) : Bool := allB n fun l => reC 16 1 n (2 * k + 1) l (2 ^ (m - n + 1) * (j + 2 * k + 1)) && decide (reM 16 n (2 * k + 1) l (2 ^ (m - n + 1) * (j + 2 * k + 1)) ≤ 5000000000)
theorem nm_ok {q a : List Rat} {n k m j : Nat} (hq : Md q n k) (ha : Sz a m j) (hC : ∀ n k, (n = 2 ∧ k = 448) ∨ (n = 3 ∧ k = 448) ∨ (n = 4 ∧ k = 5504) ∨ (n = 5 ∧ k = 1) → nmC m j n k = true) (hm : 1 ≤ j) : (∃ s, ReOk s 1 (pMonic q) (pMod a q)) ∧ qs (pRes (pMonic q) (pMod a q)) ≤ 5000000000 := by
  have h1 := hC n k hq.cs
  have q0 := hq.ne
  have la := ha.len
  obtain ⟨⟨_, cr⟩, hr, _⟩ := dm_ok ha.can hq.can q0
  rw [hq.len] at hr
  have pr : PB (pMod a q) (2 ^ (m - n + 1) * (j + 2 * k + 1)) := by
    refine ((div_PB (S := j + 2 * k + 1) ha.can hq.can q0 ha.pb hq.pb (by omega)).2).mono (Nat.mul_le_mul_right _ (Nat.pow_le_pow_right (by decide) ?_))
    rw [hq.len]; omega
  have h5 := allB_ok h1 _ hr
  simp only [Bool.and_eq_true, decide_eq_true_eq] at h5
  have lm : (pMonic q).length = n := by rw [len_pMonic hq.can]; exact hq.len
  have n5 := hq.cs
  exact ⟨⟨16, reC_ok 16 h5.1 (o := 1) qs_1 (can_pMonic q) cr lm rfl (monic_PB hq.pb) pr⟩, Nat.le_trans (reM_ok 16 (by omega) (can_pMonic q) cr lm rfl (monic_PB hq.pb) pr) h5.2⟩
set_option maxRecDepth 20000 in
set_option maxHeartbeats 2000000 in
theorem traces6_V (x : Cs) (hx : x.Ok) : PCall Tryz.prog 6 [x.v] (.raw (.bool true)) := by
  obtain ⟨⟨⟨pq, pq'⟩, pa, pb⟩, hz⟩ := hx
  have T := (tabs mixed (tbl_cons sanity6_C (tbl_cons made6_C (tbl_cons r2Made_C (tbl_cons trace_C (tbl_cons qNorm_C (tbl_cons r2Add_C (tbl_cons r2Mul_C (tbl_cons r2Cmp_C (tbl_cons rAdd_C (tbl_cons rSc_C (tbl_cons rPMul_C (tbl_cons power6_C (tbl_cons rPower_C (tbl_cons r2Whole_C (tbl_cons rTrim_C tbl_nil))))))))))))))))
  refine PCall.of_vc T Tryz.func6 rfl Tryz.ntmps6 Tryz.results6 (by simp [Cs.v]) ?_
  obtain ⟨n, k, hq⟩ := mod6_md pq'
  have ha : Sz (psL x.A 6) 6 1 := psL_sz pa 6
  have hb : Sz (psL x.B 6) 6 1 := psL_sz pb 6
  have hc := qs_mdQ hz.1 hz.2
  have pqq : (∀ z ∈ x.Q, B8 z) = True := eq_true pq'
  have r1 : (-9223372036854775808 ≤ x.X.1 ∧ x.X.1 ≤ 9223372036854775807) ∧ -9223372036854775808 ≤ x.X.2 ∧ x.X.2 ≤ 9223372036854775807 := by
    obtain ⟨⟨a1, a2⟩, a3, a4⟩ := hz
    exact ⟨⟨by omega, by omega⟩, by omega, by omega⟩
  have w1 : IntKind.i64.wrap x.X.1 = x.X.1 := IntWalk.i64_in _ ⟨by omega, by omega⟩
  have w2 : IntKind.i64.wrap x.X.2 = x.X.2 := IntWalk.i64_in _ ⟨by omega, by omega⟩
  unfold Cs.v
  obtain ⟨q, eq⟩ : ∃ a, mod6 x.Q = a := ⟨_, rfl⟩
  obtain ⟨a, ea⟩ : ∃ a, psL x.A 6 = a := ⟨_, rfl⟩
  obtain ⟨b, eb⟩ : ∃ a, psL x.B 6 = a := ⟨_, rfl⟩
  obtain ⟨c, ec⟩ : ∃ a, mdQ x.X.1 x.X.2 = a := ⟨_, rfl⟩
  rw [eq] at hq
  rw [ea] at ha
  rw [eb] at hb
  rw [ec] at hc
  have q0 := hq.ne
  have cq := hq.can
  have h2 := hq.two
  have hql := hq.sz.len
  obtain ⟨ta, sa⟩ := hq.tr ha
  obtain ⟨tb, sb⟩ := hq.tr hb
  have hbc := hb.sc hc
  have habc := ha.add hbc
  obtain ⟨tc, sc⟩ := hq.tr habc
  have hab := ha.mul hb
  have hk : tr [c] = tr [c] := rfl
  obtain ⟨tk, sk⟩ := hq.tr (const_sz hc)
  have k1 : trQ q (pAdd a (pSc c b)) = trQ q a + c * trQ q b := trQ_lin c ha.can hb.can cq q0
  have k2 : pRes (pMonic q) (pMod (pMul a b) q) = pRes (pMonic q) (pMod a q) * pRes (pMonic q) (pMod b q) := norm_mul ha.can hb.can cq h2
  have k3 : trQ q (tr [c]) = c * (((q.length - 1 : Nat) : Int) : Rat) := trQ_const c cq h2
  have ql : (q.length : Int) - 1 = ((q.length - 1 : Nat) : Int) := by omega
  have m1 : Can q ∧ q.length ≤ 1000000 ∧ ∃ s, PB q s ∧ s ≤ 5000000000 := ⟨cq, by omega, 5504, hq.sz.pb, by decide⟩
  have dva := hq.dv ha (by decide)
  have dvb := hq.dv hb (by decide)
  have dvab := hq.dv hab (by decide)
  obtain ⟨na, za⟩ := nm_ok hq ha (fun n k h => by rcases h with ⟨rfl, rfl⟩ | ⟨rfl, rfl⟩ | ⟨rfl, rfl⟩ | ⟨rfl, rfl⟩ <;> decide +kernel) (by decide)
  obtain ⟨nb, zb⟩ := nm_ok hq hb (fun n k h => by rcases h with ⟨rfl, rfl⟩ | ⟨rfl, rfl⟩ | ⟨rfl, rfl⟩ | ⟨rfl, rfl⟩ <;> decide +kernel) (by decide)
  obtain ⟨nab, zab⟩ := nm_ok hq hab (fun n k h => by rcases h with ⟨rfl, rfl⟩ | ⟨rfl, rfl⟩ | ⟨rfl, rfl⟩ | ⟨rfl, rfl⟩ <;> decide +kernel) (by decide)
  have sab : qs (trQ q a + c * trQ q b) ≤ 10000000000 := by rw [← k1]; exact Nat.le_trans sc (by decide)
  have sa' : qs (trQ q a) ≤ 10000000000 := Nat.le_trans sa (by decide)
  have sb' : qs (trQ q b) ≤ 10000000000 := Nat.le_trans sb (by decide)
  have scb : qs (c * trQ q b) ≤ 10000000000 := Nat.le_trans (qs_mul _ _) (by
    have : trB7 6 1 ≤ 9000000000 := by decide
    omega)
  have hc' : qs c ≤ 10000000000 := by omega
  have sn : qs (((q.length - 1 : Nat) : Int) : Rat) ≤ 1 := qs_nat (z := q.length - 1) (by omega)
  have sn' : qs (((q.length - 1 : Nat) : Int) : Rat) ≤ 10000000000 := by omega
  have scn : qs (c * (((q.length - 1 : Nat) : Int) : Rat)) ≤ 10000000000 := Nat.le_trans (qs_mul _ _) (by omega)
  have za' : qs (pRes (pMonic q) (pMod a q)) ≤ 10000000000 := by omega
  have zb' : qs (pRes (pMonic q) (pMod b q)) ≤ 10000000000 := by omega
  have zab' : qs (pRes (pMonic q) (pMod a q) * pRes (pMonic q) (pMod b q)) ≤ 10000000000 := by rw [← k2]; omega
  have blp : (pSc c b).length ≤ 1000000 ∧ PB (pSc c b) 10000000000 := hbc.c1
  have bl : b.length ≤ 1000000 ∧ PB b 10000000000 := hb.c1
  have d1 := Sz.c2 ha hbc
  have d2 := Sz.cm ha hb
  have d3 : (a.length + b.length ≤ 1000000 ∧ PB a 10000000000 ∧ PB b 10000000000) := ⟨d2.1, ha.c1.2, hb.c1.2⟩
  have po := hq.po (L := 6) (by decide)
  obtain ⟨p, ep⟩ : ∃ p, nwR (pMonic q) 6 = p := ⟨_, rfl⟩
  have lp : p.length = 6 := by rw [← ep, nwR_len]; rfl
  have gp : ∀ i, i < 6 → cf p i = trQ q (mon 1 i) := fun i hi => by
    rw [trQ_mon cq h2 (i + 1) i (by omega), ← ep]
    exact nwL_get _ 6 i hi
  have p0 : cf p 0 = (((q.length - 1 : Nat) : Int) : Rat) := by
    rw [← ep, show nwR (pMonic q) 6 = nwL (pMonic q) 6 from rfl, nwL_get _ 6 0 (by decide), nw_zero cq]
  have c0 : ((p.length : Int) != 6) = false := by rw [lp]; rfl
  have c1 : ∀ x, cmpQ x x = 0 := cmpQ_self
  have c2 : ((0 : Int) != 0) = false := rfl
  have c3 : ((0 : Int) == 0) = true := rfl
  have r2 : -9223372036854775808 ≤ (((q.length - 1 : Nat) : Nat) : Int) ∧ (((q.length - 1 : Nat) : Nat) : Int) ≤ 9223372036854775807 := ⟨by omega, by omega⟩
  simp only [app_cons, app_nil]
  simp (maxSteps := 2000000) only [go_sem, eq, ea, eb, w1, w2, ec, pq, pqq, pa, pb, r1, r2, q0, k1, k2, ql, m1, ta, tb, tc, dva, dvb, dvab, na, nb, nab, sab, sa', sb', scb, hc', za', zb', zab', blp, bl, d1, d2, d3, po, ep, c0, c1, c2, c3]
  refine ⟨by rfl, by rfl, ?_⟩
  refine AWp.loops (X := { i : Nat // i ≤ 6 }) (fun i => mkSt [(3, .raw (.bool true)), (4, .lst (V.rats q)), (7, .ptr 0 4 0 0), (8, .raw (.int .i64 ((q.length - 1 : Nat) : Int))), (10, .lst (V.rats p)), (11, .raw (.int .i64 (i.1 : Nat)))] [(0, true, ⟨45, 4, [.Q c]⟩)] 1 109) (fun i => 6 - i.1) ⟨0, Nat.zero_le _⟩ (Wk.of [22] (by decide) ?_) ?_
  · simp only [go_sem]
  rintro ⟨i, hi⟩
  refine vc_at T ?_
  by_cases hin : i < 6
  · have e1 : (i : Int) < 6 := by omega
    have e2 : (i : Int) + 1 = ((i + 1 : Nat) : Int) := by omega
    have e3 : tr (mon ((1 : Int) : Rat) i) = mon 1 i := pow_mon i
    have e4 := gp i hin
    obtain ⟨ti, si⟩ := hq.tr (mon_sz hin)
    have si' : qs (trQ q (mon 1 i)) ≤ 10000000000 := Nat.le_trans si (by decide)
    have e5 : (i : Int) ≤ 1000000 := by omega
    have e6 : i < p.length := by omega
    simp only [app_cons, app_nil]
    simp (maxSteps := 2000000) only [go_sem, e1, e2, e3, e4, e5, e6, ti, si', c1, c2, q0]
    refine ⟨⟨by omega, by omega⟩, by omega, by rfl, ⟨by omega, by omega⟩, ⟨i + 1, hin⟩, Wk.of [0] (by decide) ?_, by simp only; omega⟩
    simp only [go_sem]
  · obtain rfl : i = 6 := by omega
    have e1 : ¬ ((6 : Nat) : Int) < 6 := by omega
    have e6 : 0 < p.length := by omega
    simp only [app_cons, app_nil]
    simp (maxSteps := 2000000) only [go_sem, e1, e6, p0, k3, tk, sn', hc', scn, c1, c3, r2]
    exact ⟨by omega, by rfl⟩
set_option maxRecDepth 20000 in
theorem lawTraces6_F (X : V) (h : Fits Tryz.prog 6 27 X) : PCall Tryz.prog 6 [X] (.raw (.bool true)) := by
  obtain ⟨x, rfl, hx⟩ := fits_case h
  exact traces6_V x hx
end Go.Proofs.YtfbogelmgdojgaaGreat
