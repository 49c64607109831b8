/- Texts H9 in one. -/
import Derived.Test.YtfbogelmgdojgaaGreatP67
/- Contracts: the reference of package poly, division. -/
namespace Go.Proofs.YtfbogelmgdojgaaGreat
set_option linter.unusedSimpArgs false
set_option linter.unusedVariables false
open Go.RowKit

/-- The sizes while a division is under way. -/
structure DmI (b : List Rat) (t K N : Nat) (q r : List Rat) : Prop where
  cr : Can r
  lr : r.length ≤ N
  lq : q.length ≤ N + 1
  pq : PB q K
  zq : ∀ i, i + b.length ≤ r.length → cf q i = 0
  sz : ∃ s Z, PB r s ∧ s + 2 * t + 1 ≤ Z ∧ 2 ^ (r.length + 1 - b.length) * Z ≤ K
theorem dm_one {b q r : List Rat} {t K N : Nat} (hb : Can b) (h0 : b ≠ []) (hbt : PB b t) (h : DmI b t K N q r) (hl : b.length ≤ r.length) :
    DmI b t K N (pAdd q (mon (lead r / lead b) (r.length - b.length))) (pSub r (pMul (mon (lead r / lead b) (r.length - b.length)) b)) ∧ (pSub r (pMul (mon (lead r / lead b) (r.length - b.length)) b)).length < r.length ∧
      ∃ s, (PB r s ∧ qs (lead r / lead b) ≤ s + t) ∧ (r.length - b.length + 1) * (s + t + t + 1) ≤ K ∧ s + 2 * t + 1 ≤ K := by
  obtain ⟨cr, lr, lq, hq, hqz, s, Z, hs, hz, hk⟩ := h
  have hZK : Z ≤ K := Nat.le_trans (Nat.le_mul_of_pos_left Z (Nat.two_pow_pos _)) hk
  have hbl := List.length_pos_iff.2 h0
  have hst := dm_step cr hb h0 hl
  obtain ⟨c, hc⟩ : ∃ c, lead r / lead b = c := ⟨_, rfl⟩
  obtain ⟨k, hkk⟩ : ∃ k, r.length - b.length = k := ⟨_, rfl⟩
  rw [hc, hkk] at hst ⊢
  have qc : qs c ≤ s + t := by rw [← hc]; exact Nat.le_trans (qs_div _ _) (Nat.add_le_add (hs _) (hbt _))
  have pr : PB (pSub r (pMul (mon c k) b)) (2 * s + 2 * t + 1) := fun i => by
    rw [cf_pSub]
    unfold pMul
    rw [cf_tr, cf_mon_mul]
    have h1 := qs_sub (cf r i) (if k ≤ i then c * cf b (i - k) else 0)
    have h2 : qs (if k ≤ i then c * cf b (i - k) else 0) ≤ s + 2 * t := by
      split
      · have := qs_mul c (cf b (i - k)); have := hbt (i - k); omega
      · have := qs_0; have := hs.pos; omega
    have := hs i
    omega
  have lm := mon_len c k
  have la := len_pAdd q (mon c k)
  refine ⟨⟨can_pSub _ _, by omega, by omega, fun i => ?_, fun i hi => ?_, 2 * s + 2 * t + 1, 2 * Z, pr, by omega, ?_⟩, hst, s, ⟨hs, qc⟩, ?_, by omega⟩
  · rw [cf_pAdd]
    by_cases e : i = k
    · subst e
      rw [mon_top, hqz i (by omega), Rat.zero_add]
      omega
    · rw [mon_low c k i e, Rat.add_zero]
      exact hq i
  · rw [cf_pAdd, mon_low c k i (by omega), hqz i (by omega), Rat.add_zero]
  · generalize (pSub r (pMul (mon c k) b)).length = m at hst
    have e : 2 ^ (m + 1 - b.length) * (2 * Z) = 2 ^ (m + 1 - b.length + 1) * Z := by rw [Nat.pow_succ, Nat.mul_assoc]
    rw [e]
    exact Nat.le_trans (Nat.mul_le_mul_right Z (Nat.pow_le_pow_right (by decide) (by omega))) hk
  · refine Nat.le_trans (Nat.mul_le_mul (show k + 1 ≤ 2 ^ (r.length + 1 - b.length) from ?_) (show s + t + t + 1 ≤ Z by omega)) hk
    rw [show r.length + 1 - b.length = k + 1 from by omega]
    exact Nat.le_of_lt Nat.lt_two_pow_self
theorem mon_PB {c : Rat} {k K : Nat} (h : qs c ≤ K) (hK : 1 ≤ K) : PB (mon c k) K := fun i => by
  by_cases e : i = k
  · subst e; rw [mon_top]; exact h
  · rw [mon_low c k i e]; exact Nat.le_trans qs_0 hK
theorem tr_mon {c : Rat} (k : Nat) (hc : c ≠ 0) : tr (mon c k) = mon c k := ev_inj (tr_can _) (mon_can k hc) fun x => ev_tr _ x
def dmS (b : List Rat) : Bool → List Rat → List Rat → St
  | true, _, r => mkSt [(1, .lst (V.rats b)), (4, .raw (.slice none 0 0)), (5, .raw (.slice none 0 0)), (6, .raw (.int .i64 0)), (7, .sl 0 4 0 0), (8, .lst (V.rats r))] [(0, true, ⟨45, 4, []⟩)] 1 42
  | false, q, r => mkSt [(1, .lst (V.rats b)), (4, .raw (.slice none 0 0)), (5, .raw (.slice none 0 0)), (6, .raw (.int .i64 0)), (7, .lst (V.rats q)), (8, .lst (V.rats r))] [] 0 42
set_option maxRecDepth 4000 in
theorem rDM_C : Ctr Tryz.prog 79 kDM := Ctr.c2 (by kernel_rfl) fun a b h => by
  obtain ⟨⟨ca, cb⟩, hl, s0, t, ⟨ha, hb⟩, hs⟩ := h
  show PCall _ _ _ (dmP a b)
  refine PCall.of_vc (tabs mixed (tbl_cons rLead_C (tbl_cons rInv_C (tbl_cons r2Mul_C (tbl_cons rPower_C (tbl_cons rAdd_C (tbl_cons rSub_C (tbl_cons rPMul_C tbl_nil)))))))) Tryz.func79 rfl Tryz.ntmps79 Tryz.results79 (by simp) ?_
  by_cases b0 : b = []
  · have e1 : dmP a b = .tup [.lst (V.rats []), .lst (V.rats []), .raw (.int .i64 3)] := if_pos b0
    have l1 : ((b.length : Int) == 0) = true := by rw [beq_len0]; exact decide_eq_true b0
    simp only [go_sem, l1, e1]
    exact .refl _
  · have e1 : dmP a b = .tup [.lst (V.rats (pDiv a b)), .lst (V.rats (pMod a b)), .raw (.int .i64 0)] := if_neg b0
    have l1 : ((b.length : Int) == 0) = false := by rw [beq_len0]; exact decide_eq_false b0
    have hbl := List.length_pos_iff.2 b0
    simp only [go_sem, l1]
    rw [e1]
    obtain ⟨K, eK⟩ : ∃ K, 2 ^ (a.length - b.length + 1) * (s0 + 2 * t + 1) = K := ⟨_, rfl⟩
    rw [eK] at hs
    refine AWp.loops (X := { p : Bool × List Rat × List Rat // (p.1 = true → p.2.1 = []) ∧ DmI b t K a.length p.2.1 p.2.2 ∧ ∃ n, p.2.2.length ≤ n ∧ dmF n p.2.1 p.2.2 b = (pDiv a b, pMod a b) }) (fun p => dmS b p.1.1 p.1.2.1 p.1.2.2) (fun p => p.1.2.2.length)
      ⟨(true, [], a), fun _ => rfl, ⟨ca, Nat.le_refl _, Nat.zero_le _, PB_nil (by rw [← eK]; exact Nat.mul_pos (Nat.two_pow_pos _) (by omega)), fun i _ => rfl, s0, s0 + 2 * t + 1, ha, Nat.le_refl _, by rw [← eK]; exact Nat.mul_le_mul_right _ (Nat.pow_le_pow_right (by decide) (show a.length + 1 - b.length ≤ a.length - b.length + 1 by omega))⟩, a.length, Nat.le_refl _, rfl⟩ (Wk.of [6] (by decide) ?_) ?_
    · simp only [go_sem]
    · rintro ⟨⟨f, q, r⟩, hf, hI, n, hn, hdm⟩
      simp only at hf hI hn hdm
      by_cases hlt : b.length ≤ r.length
      · obtain ⟨hI', hlen, s, ⟨hrs, hqc⟩, hk1, hk2⟩ := dm_one cb b0 hb hI hlt
        have c1 : (b.length : Int) ≤ (r.length : Int) := by omega
        have r0 : r ≠ [] := fun e => by rw [e] at hlt; simp only [List.length_nil] at hlt; omega
        have lr := lead_ne hI.cr r0
        have lb := lead_ne cb b0
        have cne : lead r / lead b ≠ 0 := by grind
        have f1 : lead r * (1 / lead b) = lead r / lead b := by grind
        have f2 : (r.length : Int) - (b.length : Int) = ((r.length - b.length : Nat) : Int) := by omega
        have f3 := tr_mon (r.length - b.length) cne
        have f4 := hI.lr
        have f5 := hI.lq
        have q1 : qs (lead r) ≤ 10000000000 := Nat.le_trans (hrs _) (by omega)
        have q2 : qs (lead b) ≤ 10000000000 := Nat.le_trans (hb _) (by omega)
        have q3 : qs (1 / lead b) ≤ 10000000000 := Nat.le_trans (qs_inv1 _ (hb _)) (by omega)
        have m0 : r.length ≤ 1000000 := by omega
        have m1 : b.length ≤ 1000000 := by omega
        have m2 : q.length ≤ 1000000 := by omega
        have pm := mon_PB (k := r.length - b.length) hqc (by have := hrs.pos; omega)
        have m3 : (mon (lead r / lead b) (r.length - b.length)).length ≤ 1000000 := by rw [mon_len]; omega
        have m4 : PB (mon (lead r / lead b) (r.length - b.length)) 10000000000 := pm.mono (by omega)
        have m5 : PB q 10000000000 := hI.pq.mono (by omega)
        have m6 : PB r 10000000000 := hrs.mono (by omega)
        have m7 : PB b 10000000000 := hb.mono (by omega)
        have m8 : ∃ j k, (PB (mon (lead r / lead b) (r.length - b.length)) j ∧ PB b k) ∧ (mon (lead r / lead b) (r.length - b.length)).length * (j + k + 1) ≤ 9999999999 := ⟨s + t, t, ⟨pm, hb⟩, by rw [mon_len]; omega⟩
        have m9 : PB (pMul (mon (lead r / lead b) (r.length - b.length)) b) 10000000000 := fun i => by
          unfold pMul
          rw [cf_tr]
          have h1 := mulL_PB hb pm i
          rw [mon_len] at h1
          omega
        have m10 : (pMul (mon (lead r / lead b) (r.length - b.length)) b).length ≤ 1000000 := Nat.le_trans (len_pMul_le _ _) (by rw [mon_len]; omega)
        have m11 : (mon (lead r / lead b) (r.length - b.length)).length + b.length ≤ 1000000 := by rw [mon_len]; omega
        have f6 : ((r.length - b.length : Nat) : Int).toNat = r.length - b.length := Int.toNat_natCast _
        have f7 : (0 : Int) ≤ ((r.length - b.length : Nat) : Int) ∧ ((r.length - b.length : Nat) : Int) ≤ 1000000 := by omega
        have nx : ∃ n, (pSub r (pMul (mon (lead r / lead b) (r.length - b.length)) b)).length ≤ n ∧ dmF n (pAdd q (mon (lead r / lead b) (r.length - b.length))) (pSub r (pMul (mon (lead r / lead b) (r.length - b.length)) b)) b = (pDiv a b, pMod a b) := by
          rcases n with _ | n
          · omega
          · refine ⟨n, by omega, ?_⟩
            rw [← hdm]
            exact (if_neg (by omega)).symm
        obtain ⟨c, ec⟩ : ∃ c, lead r / lead b = c := ⟨_, rfl⟩
        obtain ⟨k, ek⟩ : ∃ k, r.length - b.length = k := ⟨_, rfl⟩
        rw [ec] at f1 f3 m3 m4 m8 m9 m10 m11 nx hI' hlen
        rw [ek] at f2 f3 f6 f7 m3 m4 m8 m9 m10 m11 nx hI' hlen
        obtain ⟨m, em⟩ : ∃ m, mon c k = m := ⟨_, rfl⟩
        rw [em] at f3 m3 m4 m8 m9 m10 m11 nx hI' hlen
        have f3' : tr (mon c k) = m := by rw [em]; exact f3
        cases f with
        | true =>
          have q0 : q = [] := hf rfl
          subst q0
          refine vc_at (tabs mixed (tbl_cons rLead_C (tbl_cons rInv_C (tbl_cons r2Mul_C (tbl_cons rPower_C (tbl_cons rAdd_C (tbl_cons rSub_C (tbl_cons rPMul_C tbl_nil)))))))) ?_
          simp only [go_sem, c1, f1, f2, f3', f6, f7, q1, q2, q3, m0, m1, m2, m3, m4, m5, m6, m7, m8, m9, m10, m11]
          refine ⟨⟨by omega, by omega⟩, ⟨(false, pAdd [] m, pSub r (pMul m b)), fun e => (by cases e), hI', nx⟩, Wk.of [] (by decide) ?_, hlen⟩
          simp only [go_sem]
        | false =>
          refine vc_at (tabs mixed (tbl_cons rLead_C (tbl_cons rInv_C (tbl_cons r2Mul_C (tbl_cons rPower_C (tbl_cons rAdd_C (tbl_cons rSub_C (tbl_cons rPMul_C tbl_nil)))))))) ?_
          simp only [go_sem, c1, f1, f2, f3', f6, f7, q1, q2, q3, m0, m1, m2, m3, m4, m5, m6, m7, m8, m9, m10, m11]
          refine ⟨⟨by omega, by omega⟩, ⟨(false, pAdd q m, pSub r (pMul m b)), fun e => (by cases e), hI', nx⟩, Wk.of [] (by decide) ?_, hlen⟩
          simp only [go_sem]
      · have c1 : ¬ (b.length : Int) ≤ (r.length : Int) := by omega
        have e2 : (q, r) = (pDiv a b, pMod a b) := by
          rw [← hdm]
          rcases n with _ | n
          · rfl
          · exact (if_pos (by omega)).symm
        injection e2 with e3 e4
        cases f with
        | true =>
          have q0 : q = [] := hf rfl
          subst q0
          refine vc_at (tabs mixed (tbl_cons rLead_C (tbl_cons rInv_C (tbl_cons r2Mul_C (tbl_cons rPower_C (tbl_cons rAdd_C (tbl_cons rSub_C (tbl_cons rPMul_C tbl_nil)))))))) ?_
          simp only [go_sem, c1, ← e3, ← e4]
          exact .refl _
        | false =>
          refine vc_at (tabs mixed (tbl_cons rLead_C (tbl_cons rInv_C (tbl_cons r2Mul_C (tbl_cons rPower_C (tbl_cons rAdd_C (tbl_cons rSub_C (tbl_cons rPMul_C tbl_nil)))))))) ?_
          simp only [go_sem, c1, ← e3, ← e4]
def kRest : Con := con2 pR pR fun a b => (DvOk a b ∧ b ≠ [], .lst (V.rats (pMod a b)))
attribute [go_sem ↓, go_sem] kRest
theorem rRest_C : Ctr Tryz.prog 35 kRest := Ctr.c2 (by kernel_rfl) fun a b h => by
  obtain ⟨hd, b0⟩ := h
  show PCall _ _ _ (.lst (V.rats (pMod a b)))
  have e1 : dmP a b = .tup [.lst (V.rats (pDiv a b)), .lst (V.rats (pMod a b)), .raw (.int .i64 0)] := if_neg b0
  refine PCall.of_vc (tabs mixed (tbl_cons rDM_C tbl_nil)) Tryz.func35 rfl Tryz.ntmps35 Tryz.results35 (by simp) ?_
  simp only [go_sem, e1, hd]
theorem rGcd_C : Ctr Tryz.prog 33 kPGcd := Ctr.c2 (by kernel_rfl) fun a b h => by
  obtain ⟨n, hn⟩ := h
  show PCall _ _ _ (.lst (V.rats (pGcd a b)))
  refine PCall.of_vc (tabs mixed (tbl_cons rRest_C (tbl_cons rMonic_C tbl_nil))) Tryz.func33 rfl Tryz.ntmps33 Tryz.results33 (by simp) ?_
  simp only [go_sem]
  refine AWp.loops (X := { p : Nat × List Rat × List Rat // GcOk p.1 p.2.1 p.2.2 ∧ pGcd p.2.1 p.2.2 = pGcd a b })
    (fun p => mkSt [(0, .lst (V.rats p.1.2.1)), (1, .lst (V.rats p.1.2.2)), (4, .raw (.slice none 0 0))] [] 0 16)
    (fun p => p.1.1) ⟨(n, a, b), hn, rfl⟩ (Wk.of [] (by decide) ?_) ?_
  · simp only [go_sem]
  · rintro ⟨⟨m, x, y⟩, hm, he⟩
    simp only at hm he
    refine vc_at (tabs mixed (tbl_cons rRest_C (tbl_cons rMonic_C tbl_nil))) ?_
    rcases m with _ | m
    · exact hm.elim
    · obtain ⟨hd, hm⟩ := hm
      by_cases y0 : y = []
      · subst y0
        rw [if_pos rfl] at hm
        obtain ⟨s, h1, h2⟩ := hm
        have hc : Can x := hd.1.1
        have hl : x.length ≤ 1000000 := by have := hd.2.1; omega
        have e0 : pMonic x = pGcd a b := by rw [← he]; rfl
        have w : ∃ s, PB x s ∧ s ≤ 5000000000 := ⟨s, h1, h2⟩
        simp only [go_sem, hc, hl, w, e0, List.length_nil, Int.natCast_zero]
      · rw [if_neg y0] at hm
        have c1 : (0 : Int) < (y.length : Int) := (len0 y).2 y0
        have e2 : pGcd y (pMod x y) = pGcd a b := by
          rw [← he]
          show pMonic (pG y (pMod x y)) = pMonic (pG x y)
          rw [pG_step hd.1.1 hd.1.2 y0]
        simp only [go_sem, c1, hd, y0]
        refine ⟨⟨(m, y, pMod x y), hm, e2⟩, Wk.of [] (by decide) ?_, Nat.lt_succ_self m⟩
        simp only [go_sem]
end Go.Proofs.YtfbogelmgdojgaaGreat
