/- Texts PM14 SZ6 LQ3 in one. -/
import Derived.Test.YtfbogelmgdojgaaGreatP71
import Derived.Test.YtfbogelmgdojgaaGreatP74
import Derived.Test.YtfbogelmgdojgaaGreatP78
/- Polynomials over the rational numbers: inverses of residues. No program in sight. -/
namespace Go.Proofs.YtfbogelmgdojgaaGreat
set_option linter.unusedSimpArgs false
set_option linter.unusedVariables false
open Go.RowKit

theorem dvd_mod {a q d : List Rat} (ha : Can a) (hq : Can q) (q0 : q ≠ []) (h : pDvd d q) : pDvd d a ↔ pDvd d (pMod a q) := by
  obtain ⟨m, cm, hm⟩ := h
  obtain ⟨⟨c1, c2⟩, _, e⟩ := dm_ok ha hq q0
  constructor
  · rintro ⟨k, ck, hk⟩
    exact ⟨pSub k (pMul (pDiv a q) m), can_pSub _ _, fun x => by
      rw [ev_pSub, ev_pMul]
      have := e x
      rw [hk, hm] at this
      grind⟩
  · rintro ⟨k, ck, hk⟩
    exact ⟨pAdd k (pMul (pDiv a q) m), can_pAdd _ _, fun x => by
      rw [ev_pAdd, ev_pMul]
      have := e x
      rw [hk, hm] at this
      grind⟩
theorem dvd_nil {a : List Rat} (ha : Can a) (h : pDvd [] a) : a = [] := by
  obtain ⟨k, _, hk⟩ := h
  exact ev_inj ha Can_nil fun x => by
    rw [hk]
    show ev k x * 0 = 0
    grind
theorem dvd_both {g h : List Rat} (cg : Can g) (ch : Can h) (h1 : pDvd g h) (h2 : pDvd h g) : g.length = h.length := by
  by_cases g0 : g = []
  · subst g0
    rw [dvd_nil ch h1]
  · by_cases h0 : h = []
    · subst h0
      rw [dvd_nil cg h2]
    · have := (dvd_len ch cg h1 h0).1
      have := (dvd_len cg ch h2 g0).1
      omega
/-- The same common divisors. -/
theorem pG_same {a b c d : List Rat} (ha : Can a) (hb : Can b) (hc : Can c) (hd : Can d) (h : ∀ x, (pDvd x a ∧ pDvd x b) ↔ (pDvd x c ∧ pDvd x d)) : (pG a b).length = (pG c d).length := by
  have h1 := (h _).1 (pG_dvd ha hb)
  have h2 := (h _).2 (pG_dvd hc hd)
  exact dvd_both (can_pG ha hb) (can_pG hc hd) (dvd_pG hc hd h1.1 h1.2) (dvd_pG ha hb h2.1 h2.2)
theorem len_pGcd {a b : List Rat} (ha : Can a) (hb : Can b) : (pGcd a b).length = (pG a b).length := len_pMonic (can_pG ha hb)
theorem cop_len {a q : List Rat} (ha : Can a) (hq : Can q) (q0 : q ≠ []) : (pExt (pMod a q) q).1.length = (pGcd q a).length := by
  have cr := (dm_ok ha hq q0).1.2
  rw [(pExt_ok cr hq).1, len_pGcd cr hq, len_pGcd hq ha]
  refine pG_same cr hq hq ha fun x => ⟨fun h => ⟨h.2, (dvd_mod ha hq q0 h.2).2 h.1⟩, fun h => ⟨(dvd_mod ha hq q0 h.1).1 h.2, h.1⟩⟩
theorem dvd_mon {a d : List Rat} (ha : Can a) (a0 : a ≠ []) : pDvd d (pMonic a) ↔ pDvd d a := by
  have l0 := lead_ne ha a0
  constructor
  · rintro ⟨k, ck, hk⟩
    exact ⟨pSc (lead a) k, can_pSc _ _, fun x => by
      have := hk x
      rw [ev_pMonic a0] at this
      rw [ev_pSc]
      grind⟩
  · rintro ⟨k, ck, hk⟩
    exact ⟨pSc (1 / lead a) k, can_pSc _ _, fun x => by
      rw [ev_pMonic a0, ev_pSc, hk]
      grind⟩
/-- The norm vanishes exactly if there is a common factor. -/
theorem norm_cop {a q : List Rat} (ha : Can a) (hq : Can q) (h2 : 2 ≤ q.length) : pRes (pMonic q) (pMod a q) = 0 ↔ ¬ (pGcd q a).length = 1 := by
  have q0 : q ≠ [] := fun e => by rw [e] at h2; simp at h2
  have cr := (dm_ok ha hq q0).1.2
  have cm : Can (pMonic q) := can_pMonic _
  have lm := len_pMonic hq
  have m0 : pMonic q ≠ [] := fun e => by rw [e] at lm; simp only [List.length_nil] at lm; omega
  have e : (pGcd q a).length = (pG (pMonic q) (pMod a q)).length := by
    rw [len_pGcd hq ha]
    exact pG_same hq ha cm cr fun x => ⟨fun h => ⟨(dvd_mon hq q0).2 h.1, (dvd_mod ha hq q0 h.1).1 h.2⟩, fun h => ⟨(dvd_mon hq q0).1 h.1, (dvd_mod ha hq q0 ((dvd_mon hq q0).1 h.1)).2 h.2⟩⟩
  rw [e]
  by_cases r0 : pMod a q = []
  · rw [r0, pG_nil, pRes_step cm Can_nil, if_pos (.inr rfl)]
    constructor
    · intro _; omega
    · intro _; rfl
  · rw [pRes_zero _ _ _ cm cr (Nat.lt_succ_self _) m0 r0]
    have : pG (pMonic q) (pMod a q) ≠ [] := fun e => m0 ((pG_eq_nil cm cr).1 e).1
    have := List.length_pos_iff.2 this
    omega
/-- The inverse. -/
theorem inv_mul {a q : List Rat} (ha : Can a) (hq : Can q) (h2 : 2 ≤ q.length) (h : (pExt (pMod a q) q).1.length = 1) : pMod (pMul (pMod (pExt (pMod a q) q).2.1 q) a) q = [1] := by
  have q0 : q ≠ [] := fun e => by rw [e] at h2; simp at h2
  have cr := (dm_ok ha hq q0).1.2
  obtain ⟨e1, ⟨c1, c2⟩, e2⟩ := pExt_ok cr hq
  rw [e1] at h
  have g1 : pGcd (pMod a q) q = [1] := pMonic_one (can_pG cr hq) (by rw [← len_pGcd cr hq]; exact h)
  rw [mod_mul_l c1 hq q0, ← mod_mul_r ha hq q0]
  refine (dm_eq (can_pMul _ _) hq (q := pSub [] (pExt (pMod a q) q).2.2) (can_pSub _ _) can_one (by show 1 < _; omega) fun x => ?_).2
  have := e2 x
  rw [g1] at this
  rw [ev_pMul, ev_pSub]
  have e0 : ev [] x = 0 := rfl
  grind
end Go.Proofs.YtfbogelmgdojgaaGreat

/- Sizes of inverses and norms. No program in sight. -/
namespace Go.Proofs.YtfbogelmgdojgaaGreat
set_option linter.unusedSimpArgs false
set_option linter.unusedVariables false
open Go.RowKit

def ivS (n k l : Nat) : Nat := exM 12 l (2 ^ (7 - n) * (2 * k + 2)) n k 1 1 1 1 + gcM 12 l (2 ^ (7 - n) * (2 * k + 2)) n k + 1
def ivC (n k : Nat) : Bool := (allB n fun l => exC 12 l (2 ^ (7 - n) * (2 * k + 2)) n k 1 1 1 1 && (gcC 12 l (2 ^ (7 - n) * (2 * k + 2)) n k && (reC 12 1 n (2 * k + 1) l (2 ^ (7 - n) * (2 * k + 2)) && decide (exL 12 l n 1 1 ≤ n - 1)))) &&
  ((allB 7 fun la => gcC 12 n k la 1) && (decide (mxB n (ivS n k) ≤ 100000000) && decide (2 ^ 6 * ((n - 1) * (mxB n (ivS n k) + 2) + 1 + 2 * k + 1) ≤ 5000000000)))
theorem iv_ok {q a : List Rat} {n k : Nat} (hq : Md q n k) (ha : Sz a 6 1) : ((∃ m, ExOk m (pMod a q) q [1] [] [] [1]) ∧ (∃ m, ReOk m 1 (pMonic q) (pMod a q)) ∧ (∃ m, GcOk m q a)) ∧ ∃ S, (S ≤ 100000000 ∧ 2 ^ 6 * ((n - 1) * (S + 2) + 1 + 2 * k + 1) ≤ 5000000000) ∧ Sz (pExt (pMod a q) q).2.1 (n - 1) S := by
  have hC : ivC n k = true := by
    rcases hq.cs with ⟨rfl, rfl⟩ | ⟨rfl, rfl⟩ | ⟨rfl, rfl⟩ | ⟨rfl, rfl⟩ <;> decide +kernel
  simp only [ivC, Bool.and_eq_true, decide_eq_true_eq] at hC
  obtain ⟨h1, h2, h3, h4⟩ := hC
  have n5 : 2 ≤ n ∧ n ≤ 5 := by have := hq.cs; omega
  have q0 := hq.ne
  have la := ha.len
  obtain ⟨⟨_, cr⟩, hr, _⟩ := dm_ok ha.can hq.can q0
  rw [hq.len] at hr
  have pr : PB (pMod a q) (2 ^ (7 - n) * (2 * k + 2)) := by
    refine ((div_PB (S := 2 * k + 2) ha.can hq.can q0 ha.pb hq.pb (by omega)).2).mono (Nat.mul_le_mul_right _ (Nat.pow_le_pow_right (by decide) ?_))
    rw [hq.len]; omega
  have h5 := allB_ok h1 _ hr
  simp only [Bool.and_eq_true, decide_eq_true_eq] at h5
  obtain ⟨h5, h6, h7, h8⟩ := h5
  have one : PB [1] 1 := PB_cons qs_1 (PB_nil (Nat.le_refl _))
  have nil1 : PB [] 1 := PB_nil (Nat.le_refl _)
  obtain ⟨x1, ⟨x2, x3⟩, _⟩ := exC_ok 12 h5 (s := [1]) (u := []) (t := []) (v := [1]) cr hq.can rfl hq.len pr hq.pb ⟨Nat.le_refl _, Nat.zero_le _⟩ ⟨Nat.zero_le _, Nat.le_refl _⟩ ⟨one, nil1⟩ ⟨nil1, one⟩
  have g1 := gcC_ok 12 h6 cr hq.can rfl hq.len pr hq.pb
  have r1 := reC_ok 12 h7 (o := 1) qs_1 (can_pMonic q) cr (by rw [len_pMonic hq.can]; exact hq.len) rfl (monic_PB hq.pb) pr
  have h9 := allB_ok h2 _ (show a.length < 7 by omega)
  have g2 := gcC_ok 12 h9 hq.can ha.can hq.len rfl hq.pb ha.pb
  refine ⟨⟨⟨12, x1⟩, ⟨12, r1⟩, ⟨12, g2.1⟩⟩, _, ⟨h3, h4⟩, ?_, ?_, (pExt_ok cr hq.can).2.1.1⟩
  all_goals
    have ef : exF 12 (pMod a q) q [1] [] [] [1] = pX (pMod a q) q := exF_fuel _ _ _ _ _ _ _ _ cr hq.can (by rw [hq.len]; omega) (by omega)
    rw [ef] at x2 x3
  · unfold pExt
    simp only
    split
    · omega
    · exact Nat.le_trans (len_pSc _ _) (by omega)
  · have hm := mxB_ok (f := ivS n k) _ hr
    have gm := g1.2
    rw [← (pX_ok cr hq.can).1] at gm
    unfold ivS at hm
    unfold pExt
    simp only
    split
    · exact x2.mono (by unfold ivS; omega)
    · intro i
      rw [cf_pSc]
      have e1 := qs_mul (1 / lead (pX (pMod a q) q).1) (cf (pX (pMod a q) q).2.1 i)
      have e2 := qs_inv1 (lead (pX (pMod a q) q).1) (gm ((pX (pMod a q) q).1.length - 1))
      have e3 := x2 i
      unfold ivS
      omega
end Go.Proofs.YtfbogelmgdojgaaGreat

/- The law of inverses. -/
namespace Go.Proofs.YtfbogelmgdojgaaGreat
set_option linter.unusedSimpArgs false
set_option linter.unusedVariables false
open Go.RowKit

set_option maxRecDepth 20000 in
set_option maxHeartbeats 2000000 in
theorem inverts6_V (x : Cs) (hx : x.Ok) : PCall Tryz.prog 5 [x.v] (.raw (.bool true)) := by
  obtain ⟨⟨⟨pq, pq'⟩, pa, pb⟩, hz⟩ := hx
  refine PCall.of_vc (tabs mixed (tbl_cons sanity6_C (tbl_cons made6_C (tbl_cons qInv_C (tbl_cons rGcd_C (tbl_cons qNorm_C (tbl_cons r2Sign_C (tbl_cons rPMul_C (tbl_cons rRest_C (tbl_cons r2Whole_C (tbl_cons rPEq_C tbl_nil))))))))))) Tryz.func5 rfl Tryz.ntmps5 Tryz.results5 (by simp [Cs.v]) ?_
  obtain ⟨n, k, hq⟩ := mod6_md pq'
  have ha : Sz (psL x.A 6) 6 1 := psL_sz pa 6
  have hb : Sz (psL x.B 6) 6 1 := psL_sz pb 6
  have pqq : (∀ z ∈ x.Q, B8 z) = True := eq_true pq'
  unfold Cs.v
  obtain ⟨q, eq⟩ : ∃ a, mod6 x.Q = a := ⟨_, rfl⟩
  obtain ⟨a, ea⟩ : ∃ a, psL x.A 6 = a := ⟨_, rfl⟩
  rw [eq] at hq
  rw [ea] at ha
  have q0 := hq.ne
  have h2 := hq.two
  have n5 : 2 ≤ n ∧ n ≤ 5 := by have := hq.cs; omega
  obtain ⟨⟨i1, i3, i4⟩, S, ⟨s1, s2⟩, hs⟩ := iv_ok hq ha
  have m1 := hq.dv ha (by decide)
  have m2 : Can q ∧ q.length ≤ 1000000 ∧ ∃ s, PB q s ∧ s ≤ 5000000000 := ⟨hq.can, by have := hq.sz.len; omega, 5504, hq.sz.pb, by decide⟩
  have hx : DvOk (pExt (pMod a q) q).2.1 q := by
    have hd := hq.dv (m := 4) (j := S) ⟨by have := hs.len; omega, hs.pb, hs.can⟩ ⟨by decide, by omega⟩
    exact hd.1
  have hx' : ((pExt (pMod a q) q).1.length = 1 → DvOk (pExt (pMod a q) q).2.1 q) = True := eq_true fun _ => hx
  have el := cop_len ha.can hq.can q0
  have nc := norm_cop ha.can hq.can h2
  by_cases h1 : (pExt (pMod a q) q).1.length = 1
  · have e1 : invR q a = .tup [.lst (V.rats (pMod (pExt (pMod a q) q).2.1 q)), .raw (.int .i64 0)] := if_pos h1
    rw [h1] at el
    have c1 : (((pGcd q a).length : Int) == 1) = true := by rw [← el]; rfl
    have c2 : (sgI (pRes (pMonic q) (pMod a q)).num == 0) = false := by
      rw [sgn_numQ]
      exact decide_eq_false fun e => nc.1 e el.symm
    have c3 : (sgI (pRes (pMonic q) (pMod a q)).num != 0) = true := by unfold bne; rw [c2]; rfl
    have im := inv_mul ha.can hq.can h2 h1
    have hl : (pMod (pExt (pMod a q) q).2.1 q).length < q.length := (dm_ok hs.can hq.can q0).2.1
    have sm : pMod (pExt (pMod a q) q).2.1 q = (pExt (pMod a q) q).2.1 := (dm_small hs.can hq.can (by have := hs.len; have := hq.len; omega)).2
    rw [sm] at e1 im hl
    obtain ⟨s, es⟩ : ∃ s, (pExt (pMod a q) q).2.1 = s := ⟨_, rfl⟩
    rw [es] at e1 im hl hs
    have c4 : (s.length : Int) < (q.length : Int) := by omega
    have m3 := Sz.cm hs ha ⟨by omega, by
      have : (n - 1) * (S + 1 + 1) ≤ 4 * (S + 1 + 1) := Nat.mul_le_mul_right _ (by omega)
      omega⟩
    have hm := hs.mul ha
    have m4 : DvOk (pMul s a) q ∧ q ≠ [] := by
      refine ⟨⟨⟨hm.can, hq.can⟩, by have := hm.len; have := hq.sz.len; omega, _, k, ⟨hm.pb, hq.pb⟩, ?_⟩, q0⟩
      refine Nat.le_trans (Nat.mul_le_mul_right _ (Nat.pow_le_pow_right (by decide) (show (pMul s a).length - q.length + 1 ≤ 6 by have := hm.len; have := hq.len; omega))) ?_
      refine Nat.le_trans (Nat.mul_le_mul_left _ ?_) s2
      rw [show S + 1 + 1 = S + 2 from rfl]
      omega
    have m5 : (s.length ≤ 1000000 ∧ a.length ≤ 1000000) ∧ PB s 10000000000 ∧ PB a 10000000000 := ⟨⟨by have := hq.sz.len; omega, by have := ha.len; omega⟩, hs.pb.mono (by omega), ha.pb.mono (by decide)⟩
    have c5 : decide (pMod (pMul s a) q = [((1 : Int) : Rat)]) = true := decide_eq_true im
    have hr := hq.rm (m := n + 4) (j := (n - 1) * (S + 1 + 1) + 1) ⟨by have := hm.len; omega, hm.pb, hm.can⟩ (by omega)
    have m6 : (pMod (pMul s a) q).length ≤ 1000000 ∧ PB (pMod (pMul s a) q) 10000000000 := by
      rw [im]
      exact ⟨by decide, PB_cons (Nat.le_trans qs_1 (by decide)) (PB_nil (by decide))⟩
    have m7 : ([((1 : Int) : Rat)] : List Rat).length ≤ 1000000 ∧ PB [((1 : Int) : Rat)] 10000000000 := ⟨by decide, PB_cons (Nat.le_trans (show qs ((1 : Int) : Rat) ≤ 1 from qs_1) (by decide)) (PB_nil (by decide))⟩
    simp only [app_cons, app_nil]
    simp (maxSteps := 2000000) only [go_sem, eq, ea, pq, pqq, pa, pb, q0, e1, c1, c3, c4, c5, i1, i3, i4, m1, m2, m3, m4, m5, m6, m7, hx']
  · have e1 : invR q a = .tup [.lst (V.rats []), .raw (.int .i64 60)] := if_neg h1
    have c1 : (((pGcd q a).length : Int) == 1) = false := by rw [← el]; simp; omega
    have c2 : (sgI (pRes (pMonic q) (pMod a q)).num == 0) = true := by
      rw [sgn_numQ]
      exact decide_eq_true (nc.2 (by rw [← el]; exact h1))
    have c3 : (sgI (pRes (pMonic q) (pMod a q)).num != 0) = false := by unfold bne; rw [c2]; rfl
    simp only [app_cons, app_nil]
    simp (maxSteps := 2000000) only [go_sem, eq, ea, pq, pqq, pa, pb, q0, e1, c1, c3, i1, i3, i4, m1, m2, hx']
set_option maxRecDepth 20000 in
theorem lawInverts6_F (X : V) (h : Fits Tryz.prog 6 27 X) : PCall Tryz.prog 5 [X] (.raw (.bool true)) := by
  obtain ⟨x, rfl, hx⟩ := fits_case h
  exact inverts6_V x hx
end Go.Proofs.YtfbogelmgdojgaaGreat
