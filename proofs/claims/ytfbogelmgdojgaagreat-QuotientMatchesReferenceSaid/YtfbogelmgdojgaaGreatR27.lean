/- Texts H8 H9 SZ3 SZ4 PM13 in one. -/
import Derived.Test.YtfbogelmgdojgaaGreatR26
/- Contracts: the reference of package poly, products and values. -/
namespace Go.Proofs.YtfbogelmgdojgaaGreat
set_option linter.unusedSimpArgs false
set_option linter.unusedVariables false
open Go.RowKit

def cvS (a b : List Rat) (k : Nat) : Nat → Rat
 | 0 => 0
 | j + 1 => cvS a b k j + cf a j * cf b (k - j)
theorem cvS_nil (b : List Rat) (k : Nat) : ∀ j, cvS [] b k j = 0
 | 0 => rfl
 | j + 1 => by
   show cvS [] b k j + 0 * cf b (k - j) = 0
   rw [cvS_nil b k j]; grind
theorem cvS_cons (x : Rat) (a b : List Rat) (k : Nat) : ∀ j, cvS (x :: a) b (k + 1) (j + 1) = x * cf b (k + 1) + cvS a b k j
 | 0 => by
   show 0 + x * cf b (k + 1) = x * cf b (k + 1) + 0
   grind
 | j + 1 => by
   have ih := cvS_cons x a b k j
   show cvS (x :: a) b (k + 1) (j + 1) + cf a j * cf b (k + 1 - (j + 1)) = x * cf b (k + 1) + (cvS a b k j + cf a j * cf b (k - j))
   rw [ih, show k + 1 - (j + 1) = k - j from by omega]; grind
theorem cvS_mul : ∀ (a b : List Rat) (k : Nat), cvS a b k (k + 1) = cf (mulL a b) k
 | [], b, k => by rw [cvS_nil]; rfl
 | x :: a, b, 0 => by
   rw [cf_mulL_cons]
   show 0 + x * cf b 0 = x * cf b 0 + 0
   grind
 | x :: a, b, k + 1 => by
   rw [cvS_cons, cf_mulL_cons, cvS_mul a b k, if_neg (by omega), Nat.add_sub_cancel]
theorem cvS_qs {a b : List Rat} {j k : Nat} (ha : PB a j) (hb : PB b k) (m : Nat) : ∀ i, qs (cvS a b m i) ≤ min i a.length * (j + k + 1) + 1
 | 0 => Nat.le_trans qs_0 (by omega)
 | i + 1 => by
   have ih := cvS_qs ha hb m i
   show qs (cvS a b m i + cf a i * cf b (m - i)) ≤ _
   by_cases hi : i < a.length
   ·have h1 := qs_add (cvS a b m i) (cf a i * cf b (m - i))
    have h2 := qs_mul (cf a i) (cf b (m - i))
    have h3 := ha i
    have h4 := hb (m - i)
    rw [show min (i + 1) a.length = i + 1 from by omega, Nat.add_mul]
    rw [show min i a.length = i from by omega] at ih
    omega
   ·rw [cf_ge (l := a) (by omega), Rat.zero_mul, Rat.add_zero, show min (i + 1) a.length = min i a.length from by omega]
    exact ih
theorem mul_list (a b : List Rat) : tr (rg (fun k => cvS a b k (k + 1)) (a.length + b.length - 1)) = pMul a b := tr_of_cf fun i => by
 rw [cf_rg]
 split
 ·exact cvS_mul a b i
 ·rename_i h
  by_cases b0 : b = []
  ·subst b0
   have e : cf (pMul a []) i = cf (mulL a []) i := by unfold pMul; rw [cf_tr]
   have e2 : pMul a [] = [] := ev_inj (can_pMul _ _) Can_nil fun x => by rw [ev_pMul]; show ev a x * 0 = 0; grind
   rw [← e, e2]; rfl
  ·have := len_mulL a b b0
   by_cases a0 : a = []
   ·subst a0; rfl
   ·rw [if_neg a0] at this
    rw [cf_ge (by omega)]
def kPRMul : Con := con2 pR pR fun a b => ((a.length + b.length ≤ 1000000 ∧ PB a 5000000000000 ∧ PB b 5000000000000) ∧ ∃ j k, (PB a j ∧ PB b k) ∧ a.length * (j + k + 1) ≤ 4999999999999, .lst (V.rats (pMul a b)))
attribute [go_sem ↓, go_sem] kPRMul
set_option maxRecDepth 4000 in
theorem rPMul_C : Ctr Tryz.prog 32 kPRMul := Ctr.c2 (by kernel_rfl) fun a b h => by
 obtain ⟨⟨hl, pa, pb⟩, j, k', ⟨ha, hb⟩, hs⟩ := h
 show PCall _ _ _ (.lst (V.rats (pMul a b)))
 rw [← mul_list]
 obtain ⟨F, hF⟩ : ∃ F : Nat → Rat, F = fun k => cvS a b k (k + 1) := ⟨_, rfl⟩
 rw [← hF]
 have mx : maxLen = 9223372036854775807 := by decide
 refine PCall.of_vc (tabs mixed (tbl_cons rTrim_C (tbl_cons rZero_C (tbl_cons rAt_C (tbl_cons r2Mul_C (tbl_cons r2Add_C tbl_nil)))))) Tryz.func32 rfl Tryz.ntmps32 Tryz.results32 (by simp) ?_
 simp only [go_sem]
 refine AWp.loops (X := { k : Nat // k ≤ a.length + b.length - 1 }) (fun k => mkSt [(0, .lst (V.rats a)), (1, .lst (V.rats b)), (4, .raw (.slice none 0 0)), (5, .sl 0 4 0 k.1), (6, .raw (.int .i64 (k.1 : Nat)))] [(0, true, ⟨45, 4, V.rats (rg F k.1)⟩)] 1 43) (fun k => a.length + b.length - k.1) ⟨0, Nat.zero_le _⟩ (Wk.of [1] (by decide) ?_) ?_
 ·simp only [go_sem, rg_0, rats_0, Int.natCast_zero]
 ·rintro ⟨k, hk⟩
  refine vc_at (tabs mixed (tbl_cons rTrim_C (tbl_cons rZero_C (tbl_cons rAt_C (tbl_cons r2Mul_C (tbl_cons r2Add_C tbl_nil)))))) ?_
  have c3 : (k : Int) + 1 = ((k + 1 : Nat) : Int) := by omega
  have c5 : (a.length : Int) + (b.length : Int) = ((a.length + b.length : Nat) : Int) := by omega
  have r1 : -9223372036854775808 ≤ ((k + 1 : Nat) : Int) ∧ ((k + 1 : Nat) : Int) ≤ 9223372036854775807 := by omega
  have r2 : -9223372036854775808 ≤ ((a.length + b.length : Nat) : Int) ∧ ((a.length + b.length : Nat) : Int) ≤ 9223372036854775807 := by omega
  by_cases hin : k + 1 < a.length + b.length
  ·have c1 : ((k + 1 : Nat) : Int) < ((a.length + b.length : Nat) : Int) := by omega
   simp only [go_sem, c1, c3, c5, r1, r2]
   refine AWp.loops (X := { i : Nat // i ≤ k + 1 }) (fun i => mkSt [(0, .lst (V.rats a)), (1, .lst (V.rats b)), (4, .raw (.slice none 0 0)), (5, .sl 0 4 0 k), (6, .raw (.int .i64 (k : Nat))), (7, .ptr 1 4 0 0), (8, .raw (.int .i64 (i.1 : Nat)))] [(0, true, ⟨45, 4, V.rats (rg F k)⟩), (1, false, ⟨45, 4, [.Q (cvS a b k i.1)]⟩)] 2 43) (fun i => k + 1 - i.1) ⟨0, Nat.zero_le _⟩ (Wk.of [0, 10] (by decide) ?_) ?_
   ·simp only [go_sem, Int.natCast_zero]
    exact renV_pure rfl
   ·rintro ⟨i, hi⟩
    refine vc_at (tabs mixed (tbl_cons rTrim_C (tbl_cons rZero_C (tbl_cons rAt_C (tbl_cons r2Mul_C (tbl_cons r2Add_C tbl_nil)))))) ?_
    by_cases hik : i ≤ k
    ·have d1 : (i : Int) ≤ (k : Int) := by omega
     have d2 : (k : Int) - (i : Int) = ((k - i : Nat) : Int) := by omega
     have d3 : (i : Int) + 1 = ((i + 1 : Nat) : Int) := by omega
     have l0 := lt0 i
     have l1 := lt0 (k - i)
     have q1 := pa i
     have q2 := pb (k - i)
     have q3 : qs (cvS a b k i) ≤ 5000000000000 := by
      have h1 := cvS_qs ha hb k i
      have h2 := Nat.mul_le_mul_right (j + k' + 1) (show min i a.length ≤ a.length by omega)
      omega
     have q4 : qs (cf a i * cf b (k - i)) ≤ 5000000000000 := by
      by_cases hia : i < a.length
      ·have h1 := qs_mul (cf a i) (cf b (k - i))
       have h2 := ha i
       have h3 := hb (k - i)
       have h4 := Nat.mul_le_mul_right (j + k' + 1) (show 1 ≤ a.length by omega)
       omega
      ·rw [cf_ge (l := a) (by omega), Rat.zero_mul]
       exact Nat.le_trans qs_0 (by decide)
     simp only [go_sem, d1, d2, d3, l0, l1, q1, q2, q3, q4, Int.toNat_natCast]
     refine ⟨⟨by omega, by omega⟩, by rfl, ⟨by omega, by omega⟩, ⟨i + 1, by omega⟩, Wk.of [0, 1] (by decide) ?_, by simp only; omega⟩
     have f2 : cvS a b k (i + 1) = cvS a b k i + cf a i * cf b (k - i) := rfl
     simp only [go_sem, f2]
     exact renV_pure rfl
    ·obtain rfl : i = k + 1 := by omega
     have d1 : ¬ ((k + 1 : Nat) : Int) ≤ (k : Int) := by omega
     have f1 : cvS a b k (k + 1) = F k := by rw [hF]
     simp only [go_sem, d1, c3, f1, rg_snoc, mx]
     refine ⟨⟨by omega, by omega⟩, ⟨by omega, by omega⟩, ⟨k + 1, by omega⟩, Wk.of [8] (by decide) ?_, by simp only; omega⟩
     simp only [go_sem]
  ·obtain rfl : k = a.length + b.length - 1 := by omega
   have c1 : ¬ ((a.length + b.length - 1 + 1 : Nat) : Int) < ((a.length + b.length : Nat) : Int) := by omega
   have c6 : ((a.length + b.length - 1 : Nat) : Int) + 1 = ((a.length + b.length - 1 + 1 : Nat) : Int) := by omega
   simp only [go_sem, c1, c5, c6, r1, r2]
   omega
end Go.Proofs.YtfbogelmgdojgaaGreat


/- Contracts: the reference of package poly, division. -/
namespace Go.Proofs.YtfbogelmgdojgaaGreat
set_option linter.unusedSimpArgs false
set_option linter.unusedVariables false
open Go.RowKit

structure DmI (b : List Rat) (t K N : Nat) (q r : List Rat) : Prop where
 cr : Can r
 lr : r.length ≤ N
 lq : q.length ≤ N + 1
 pq : PB q K
 zq : ∀ i, i + b.length ≤ r.length → cf q i = 0
 sz : ∃ s Z, PB r s ∧ s + 2 * t + 1 ≤ Z ∧ 2 ^ (r.length + 1 - b.length) * Z ≤ K
theorem dm_one {b q r : List Rat} {t K N : Nat} (hb : Can b) (h0 : b ≠ []) (hbt : PB b t) (h : DmI b t K N q r) (hl : b.length ≤ r.length) :
 DmI b t K N (pAdd q (mon (lead r / lead b) (r.length - b.length))) (pSub r (pMul (mon (lead r / lead b) (r.length - b.length)) b)) ∧ (pSub r (pMul (mon (lead r / lead b) (r.length - b.length)) b)).length < r.length ∧
  ∃ s, (PB r s ∧ qs (lead r / lead b) ≤ s + t) ∧ (r.length - b.length + 1) * (s + t + t + 1) ≤ K ∧ s + 2 * t + 1 ≤ K := by
 obtain ⟨cr, lr, lq, hq, hqz, s, Z, hs, hz, hk⟩ := h
 have hZK : Z ≤ K := Nat.le_trans (Nat.le_mul_of_pos_left Z (Nat.two_pow_pos _)) hk
 have hbl := List.length_pos_iff.2 h0
 have hst := dm_step cr hb h0 hl
 obtain ⟨c, hc⟩ : ∃ c, lead r / lead b = c := ⟨_, rfl⟩
 obtain ⟨k, hkk⟩ : ∃ k, r.length - b.length = k := ⟨_, rfl⟩
 rw [hc, hkk] at hst ⊢
 have qc : qs c ≤ s + t := by rw [← hc]; exact Nat.le_trans (qs_div _ _) (Nat.add_le_add (hs _) (hbt _))
 have pr : PB (pSub r (pMul (mon c k) b)) (2 * s + 2 * t + 1) := fun i => by
  rw [cf_pSub]
  unfold pMul
  rw [cf_tr, cf_mon_mul]
  have h1 := qs_sub (cf r i) (if k ≤ i then c * cf b (i - k) else 0)
  have h2 : qs (if k ≤ i then c * cf b (i - k) else 0) ≤ s + 2 * t := by
   split
   ·have := qs_mul c (cf b (i - k)); have := hbt (i - k); omega
   ·have := qs_0; have := hs.pos; omega
  have := hs i
  omega
 have lm := mon_len c k
 have la := len_pAdd q (mon c k)
 refine ⟨⟨can_pSub _ _, by omega, by omega, fun i => ?_, fun i hi => ?_, 2 * s + 2 * t + 1, 2 * Z, pr, by omega, ?_⟩, hst, s, ⟨hs, qc⟩, ?_, by omega⟩
 ·rw [cf_pAdd]
  by_cases e : i = k
  ·subst e
   rw [mon_top, hqz i (by omega), Rat.zero_add]
   omega
  ·rw [mon_low c k i e, Rat.add_zero]
   exact hq i
 ·rw [cf_pAdd, mon_low c k i (by omega), hqz i (by omega), Rat.add_zero]
 ·generalize (pSub r (pMul (mon c k) b)).length = m at hst
  have e : 2 ^ (m + 1 - b.length) * (2 * Z) = 2 ^ (m + 1 - b.length + 1) * Z := by rw [Nat.pow_succ, Nat.mul_assoc]
  rw [e]
  exact Nat.le_trans (Nat.mul_le_mul_right Z (Nat.pow_le_pow_right (by decide) (by omega))) hk
 ·refine Nat.le_trans (Nat.mul_le_mul (show k + 1 ≤ 2 ^ (r.length + 1 - b.length) from ?_) (show s + t + t + 1 ≤ Z by omega)) hk
  rw [show r.length + 1 - b.length = k + 1 from by omega]
  exact Nat.le_of_lt Nat.lt_two_pow_self
theorem mon_PB {c : Rat} {k K : Nat} (h : qs c ≤ K) (hK : 1 ≤ K) : PB (mon c k) K := fun i => by
 by_cases e : i = k
 ·subst e; rw [mon_top]; exact h
 ·rw [mon_low c k i e]; exact Nat.le_trans qs_0 hK
theorem tr_mon {c : Rat} (k : Nat) (hc : c ≠ 0) : tr (mon c k) = mon c k := ev_inj (tr_can _) (mon_can k hc) fun x => ev_tr _ x
def dmS (b : List Rat) : Bool → List Rat → List Rat → St
 | true, _, r => mkSt [(1, .lst (V.rats b)), (4, .raw (.slice none 0 0)), (5, .raw (.slice none 0 0)), (6, .raw (.int .i64 0)), (7, .sl 0 4 0 0), (8, .lst (V.rats r))] [(0, true, ⟨45, 4, []⟩)] 1 42
 | false, q, r => mkSt [(1, .lst (V.rats b)), (4, .raw (.slice none 0 0)), (5, .raw (.slice none 0 0)), (6, .raw (.int .i64 0)), (7, .lst (V.rats q)), (8, .lst (V.rats r))] [] 0 42
set_option maxRecDepth 4000 in
theorem rDM_C : Ctr Tryz.prog 79 kDM := Ctr.c2 (by kernel_rfl) fun a b h => by
 obtain ⟨⟨ca, cb⟩, hl, s0, t, ⟨ha, hb⟩, hs⟩ := h
 show PCall _ _ _ (dmP a b)
 refine PCall.of_vc (tabs mixed (tbl_cons rLead_C (tbl_cons rInv_C (tbl_cons r2Mul_C (tbl_cons rPower_C (tbl_cons rAdd_C (tbl_cons rSub_C (tbl_cons rPMul_C tbl_nil)))))))) Tryz.func79 rfl Tryz.ntmps79 Tryz.results79 (by simp) ?_
 by_cases b0 : b = []
 ·have e1 : dmP a b = .tup [.lst (V.rats []), .lst (V.rats []), .raw (.int .i64 3)] := if_pos b0
  have l1 : ((b.length : Int) == 0) = true := by rw [beq_len0]; exact decide_eq_true b0
  simp only [go_sem, l1, e1]
  exact .refl _
 ·have e1 : dmP a b = .tup [.lst (V.rats (pDiv a b)), .lst (V.rats (pMod a b)), .raw (.int .i64 0)] := if_neg b0
  have l1 : ((b.length : Int) == 0) = false := by rw [beq_len0]; exact decide_eq_false b0
  have hbl := List.length_pos_iff.2 b0
  simp only [go_sem, l1]
  rw [e1]
  obtain ⟨K, eK⟩ : ∃ K, 2 ^ (a.length - b.length + 1) * (s0 + 2 * t + 1) = K := ⟨_, rfl⟩
  rw [eK] at hs
  refine AWp.loops (X := { p : Bool × List Rat × List Rat // (p.1 = true → p.2.1 = []) ∧ DmI b t K a.length p.2.1 p.2.2 ∧ ∃ n, p.2.2.length ≤ n ∧ dmF n p.2.1 p.2.2 b = (pDiv a b, pMod a b) }) (fun p => dmS b p.1.1 p.1.2.1 p.1.2.2) (fun p => p.1.2.2.length)
   ⟨(true, [], a), fun _ => rfl, ⟨ca, Nat.le_refl _, Nat.zero_le _, PB_nil (by rw [← eK]; exact Nat.mul_pos (Nat.two_pow_pos _) (by omega)), fun i _ => rfl, s0, s0 + 2 * t + 1, ha, Nat.le_refl _, by rw [← eK]; exact Nat.mul_le_mul_right _ (Nat.pow_le_pow_right (by decide) (show a.length + 1 - b.length ≤ a.length - b.length + 1 by omega))⟩, a.length, Nat.le_refl _, rfl⟩ (Wk.of [6] (by decide) ?_) ?_
  ·simp only [go_sem]
  ·rintro ⟨⟨f, q, r⟩, hf, hI, n, hn, hdm⟩
   simp only at hf hI hn hdm
   by_cases hlt : b.length ≤ r.length
   ·obtain ⟨hI', hlen, s, ⟨hrs, hqc⟩, hk1, hk2⟩ := dm_one cb b0 hb hI hlt
    have c1 : (b.length : Int) ≤ (r.length : Int) := by omega
    have r0 : r ≠ [] := fun e => by rw [e] at hlt; simp only [List.length_nil] at hlt; omega
    have lr := lead_ne hI.cr r0
    have lb := lead_ne cb b0
    have cne : lead r / lead b ≠ 0 := by grind
    have f1 : lead r * (1 / lead b) = lead r / lead b := by grind
    have f2 : (r.length : Int) - (b.length : Int) = ((r.length - b.length : Nat) : Int) := by omega
    have f3 := tr_mon (r.length - b.length) cne
    have f4 := hI.lr
    have f5 := hI.lq
    have q1 : qs (lead r) ≤ 5000000000000 := Nat.le_trans (hrs _) (by omega)
    have q2 : qs (lead b) ≤ 5000000000000 := Nat.le_trans (hb _) (by omega)
    have q3 : qs (1 / lead b) ≤ 5000000000000 := Nat.le_trans (qs_inv1 _ (hb _)) (by omega)
    have m0 : r.length ≤ 1000000 := by omega
    have m1 : b.length ≤ 1000000 := by omega
    have m2 : q.length ≤ 1000000 := by omega
    have pm := mon_PB (k := r.length - b.length) hqc (by have := hrs.pos; omega)
    have m3 : (mon (lead r / lead b) (r.length - b.length)).length ≤ 1000000 := by rw [mon_len]; omega
    have m4 : PB (mon (lead r / lead b) (r.length - b.length)) 5000000000000 := pm.mono (by omega)
    have m5 : PB q 5000000000000 := hI.pq.mono (by omega)
    have m6 : PB r 5000000000000 := hrs.mono (by omega)
    have m7 : PB b 5000000000000 := hb.mono (by omega)
    have m8 : ∃ j k, (PB (mon (lead r / lead b) (r.length - b.length)) j ∧ PB b k) ∧ (mon (lead r / lead b) (r.length - b.length)).length * (j + k + 1) ≤ 4999999999999 := ⟨s + t, t, ⟨pm, hb⟩, by rw [mon_len]; omega⟩
    have m9 : PB (pMul (mon (lead r / lead b) (r.length - b.length)) b) 5000000000000 := fun i => by
     unfold pMul
     rw [cf_tr]
     have h1 := mulL_PB hb pm i
     rw [mon_len] at h1
     omega
    have m10 : (pMul (mon (lead r / lead b) (r.length - b.length)) b).length ≤ 1000000 := Nat.le_trans (len_pMul_le _ _) (by rw [mon_len]; omega)
    have m11 : (mon (lead r / lead b) (r.length - b.length)).length + b.length ≤ 1000000 := by rw [mon_len]; omega
    have f6 : ((r.length - b.length : Nat) : Int).toNat = r.length - b.length := Int.toNat_natCast _
    have f7 : (0 : Int) ≤ ((r.length - b.length : Nat) : Int) ∧ ((r.length - b.length : Nat) : Int) ≤ 1000000 := by omega
    have nx : ∃ n, (pSub r (pMul (mon (lead r / lead b) (r.length - b.length)) b)).length ≤ n ∧ dmF n (pAdd q (mon (lead r / lead b) (r.length - b.length))) (pSub r (pMul (mon (lead r / lead b) (r.length - b.length)) b)) b = (pDiv a b, pMod a b) := by
     rcases n with _ | n
     ·omega
     ·refine ⟨n, by omega, ?_⟩
      rw [← hdm]
      exact (if_neg (by omega)).symm
    obtain ⟨c, ec⟩ : ∃ c, lead r / lead b = c := ⟨_, rfl⟩
    obtain ⟨k, ek⟩ : ∃ k, r.length - b.length = k := ⟨_, rfl⟩
    rw [ec] at f1 f3 m3 m4 m8 m9 m10 m11 nx hI' hlen
    rw [ek] at f2 f3 f6 f7 m3 m4 m8 m9 m10 m11 nx hI' hlen
    obtain ⟨m, em⟩ : ∃ m, mon c k = m := ⟨_, rfl⟩
    rw [em] at f3 m3 m4 m8 m9 m10 m11 nx hI' hlen
    have f3' : tr (mon c k) = m := by rw [em]; exact f3
    cases f with
    | true =>
      have q0 : q = [] := hf rfl
      subst q0
      refine vc_at (tabs mixed (tbl_cons rLead_C (tbl_cons rInv_C (tbl_cons r2Mul_C (tbl_cons rPower_C (tbl_cons rAdd_C (tbl_cons rSub_C (tbl_cons rPMul_C tbl_nil)))))))) ?_
      simp only [go_sem, c1, f1, f2, f3', f6, f7, q1, q2, q3, m0, m1, m2, m3, m4, m5, m6, m7, m8, m9, m10, m11]
      refine ⟨⟨by omega, by omega⟩, ⟨(false, pAdd [] m, pSub r (pMul m b)), fun e => (by cases e), hI', nx⟩, Wk.of [] (by decide) ?_, hlen⟩
      simp only [go_sem]
    | false =>
      refine vc_at (tabs mixed (tbl_cons rLead_C (tbl_cons rInv_C (tbl_cons r2Mul_C (tbl_cons rPower_C (tbl_cons rAdd_C (tbl_cons rSub_C (tbl_cons rPMul_C tbl_nil)))))))) ?_
      simp only [go_sem, c1, f1, f2, f3', f6, f7, q1, q2, q3, m0, m1, m2, m3, m4, m5, m6, m7, m8, m9, m10, m11]
      refine ⟨⟨by omega, by omega⟩, ⟨(false, pAdd q m, pSub r (pMul m b)), fun e => (by cases e), hI', nx⟩, Wk.of [] (by decide) ?_, hlen⟩
      simp only [go_sem]
   ·have c1 : ¬ (b.length : Int) ≤ (r.length : Int) := by omega
    have e2 : (q, r) = (pDiv a b, pMod a b) := by
     rw [← hdm]
     rcases n with _ | n
     ·rfl
     ·exact (if_pos (by omega)).symm
    injection e2 with e3 e4
    cases f with
    | true =>
      have q0 : q = [] := hf rfl
      subst q0
      refine vc_at (tabs mixed (tbl_cons rLead_C (tbl_cons rInv_C (tbl_cons r2Mul_C (tbl_cons rPower_C (tbl_cons rAdd_C (tbl_cons rSub_C (tbl_cons rPMul_C tbl_nil)))))))) ?_
      simp only [go_sem, c1, ← e3, ← e4]
      exact .refl _
    | false =>
      refine vc_at (tabs mixed (tbl_cons rLead_C (tbl_cons rInv_C (tbl_cons r2Mul_C (tbl_cons rPower_C (tbl_cons rAdd_C (tbl_cons rSub_C (tbl_cons rPMul_C tbl_nil)))))))) ?_
      simp only [go_sem, c1, ← e3, ← e4]
def kRest : Con := con2 pR pR fun a b => (DvOk a b ∧ b ≠ [], .lst (V.rats (pMod a b)))
attribute [go_sem ↓, go_sem] kRest
theorem rRest_C : Ctr Tryz.prog 35 kRest := Ctr.c2 (by kernel_rfl) fun a b h => by
 obtain ⟨hd, b0⟩ := h
 show PCall _ _ _ (.lst (V.rats (pMod a b)))
 have e1 : dmP a b = .tup [.lst (V.rats (pDiv a b)), .lst (V.rats (pMod a b)), .raw (.int .i64 0)] := if_neg b0
 refine PCall.of_vc (tabs mixed (tbl_cons rDM_C tbl_nil)) Tryz.func35 rfl Tryz.ntmps35 Tryz.results35 (by simp) ?_
 simp only [go_sem, e1, hd]
theorem rGcd_C : Ctr Tryz.prog 33 kPGcd := Ctr.c2 (by kernel_rfl) fun a b h => by
 obtain ⟨n, hn⟩ := h
 show PCall _ _ _ (.lst (V.rats (pGcd a b)))
 refine PCall.of_vc (tabs mixed (tbl_cons rRest_C (tbl_cons rMonic_C tbl_nil))) Tryz.func33 rfl Tryz.ntmps33 Tryz.results33 (by simp) ?_
 simp only [go_sem]
 refine AWp.loops (X := { p : Nat × List Rat × List Rat // GcOk p.1 p.2.1 p.2.2 ∧ pGcd p.2.1 p.2.2 = pGcd a b })
  (fun p => mkSt [(0, .lst (V.rats p.1.2.1)), (1, .lst (V.rats p.1.2.2)), (4, .raw (.slice none 0 0))] [] 0 16)
  (fun p => p.1.1) ⟨(n, a, b), hn, rfl⟩ (Wk.of [] (by decide) ?_) ?_
 ·simp only [go_sem]
 ·rintro ⟨⟨m, x, y⟩, hm, he⟩
  simp only at hm he
  refine vc_at (tabs mixed (tbl_cons rRest_C (tbl_cons rMonic_C tbl_nil))) ?_
  rcases m with _ | m
  ·exact hm.elim
  ·obtain ⟨hd, hm⟩ := hm
   by_cases y0 : y = []
   ·subst y0
    rw [if_pos rfl] at hm
    obtain ⟨s, h1, h2⟩ := hm
    have hc : Can x := hd.1.1
    have hl : x.length ≤ 1000000 := by have := hd.2.1; omega
    have e0 : pMonic x = pGcd a b := by rw [← he]; rfl
    have w : ∃ s, PB x s ∧ s ≤ 2500000000000 := ⟨s, h1, h2⟩
    simp only [go_sem, hc, hl, w, e0, List.length_nil, Int.natCast_zero]
   ·rw [if_neg y0] at hm
    have c1 : (0 : Int) < (y.length : Int) := (len0 y).2 y0
    have e2 : pGcd y (pMod x y) = pGcd a b := by
     rw [← he]
     show pMonic (pG y (pMod x y)) = pMonic (pG x y)
     rw [pG_step hd.1.1 hd.1.2 y0]
    simp only [go_sem, c1, hd, y0]
    refine ⟨⟨(m, y, pMod x y), hm, e2⟩, Wk.of [] (by decide) ?_, Nat.lt_succ_self m⟩
    simp only [go_sem]
end Go.Proofs.YtfbogelmgdojgaaGreat


/- Sizes of the squarefree part of a small polynomial. No program in sight. -/
namespace Go.Proofs.YtfbogelmgdojgaaGreat
set_option linter.unusedSimpArgs false
set_option linter.unusedVariables false
open Go.RowKit

theorem len_pDiff {a : List Rat} (ha : Can a) : (pDiff a).length = a.length - 1 := by
 have hc := can_pDiff a
 by_cases h : a.length ≤ 1
 ·have : pDiff a = [] := ev_inj hc Can_nil fun x => by
   rw [ev_pDiff]
   match a, h with
   | [], _ => rfl
   | [c], _ =>
     rw [show dL [c] = dL [c] from rfl, ev_dL_cons]
     show 0 + x * 0 = 0
     grind
  rw [this]
  show 0 = _
  omega
 ·have h1 : ¬ (pDiff a).length < a.length - 1 := fun hlt => by
   have e1 := cf_pDiff a (a.length - 2)
   rw [cf_ge (l := pDiff a) (by omega), show a.length - 2 + 1 = a.length - 1 from by omega] at e1
   have e2 := ha (fun e => by rw [e] at h; simp at h)
   have e3 : ((a.length - 1 : Nat) : Rat) ≠ 0 := fun e => by
    have : a.length - 1 = 0 := by exact_mod_cast e
    omega
   rcases Rat.mul_eq_zero.1 e1.symm with e | e
   ·exact e3 e
   ·exact e2 e
  have h2 : ¬ a.length - 1 < (pDiff a).length := fun hlt => by
   have h3 := hc (fun e => by rw [e] at hlt; simp at hlt)
   rw [cf_pDiff, cf_ge (l := a) (by omega), Rat.mul_zero] at h3
   exact h3 rfl
  omega
theorem pMonic_one {g : List Rat} (hg : Can g) (h : g.length = 1) : pMonic g = [1] := by
 have g0 : g ≠ [] := fun e => by rw [e] at h; simp at h
 match g, h with
 | [c], _ =>
   have hc : c ≠ 0 := hg g0
   refine ev_inj (can_pMonic _) can_one fun x => ?_
   rw [ev_pMonic g0]
   show 1 / c * (c + x * 0) = 1 + x * 0
   grind
theorem pDiv_one {a : List Rat} (ha : Can a) : pDiv a [1] = a := (dm_eq ha can_one ha Can_nil (by decide) fun x => by
 show ev a x * (1 + x * 0) + 0 = ev a x
 grind).1
theorem ls (l : List Rat) (h : l ≠ []) : 1 ≤ l.length := List.length_pos_iff.2 h
def sqp (a : List Rat) : List Rat := pDiv a (pGcd a (pDiff a))
theorem sqp_len {a : List Rat} (ha : Can a) (h2 : 2 ≤ a.length) : ((Can (sqp a) ∧ 2 ≤ (sqp a).length) ∧ (sqp a).length + (pGcd a (pDiff a)).length = a.length + 1) ∧ (pGcd a (pDiff a)).length = (pG a (pDiff a)).length ∧ 1 ≤ (pG a (pDiff a)).length := by
 have hd := can_pDiff a
 have hl := len_pDiff ha
 have a0 : a ≠ [] := fun e => by rw [e] at h2; simp at h2
 have d0 : pDiff a ≠ [] := fun e => by rw [e] at hl; simp at hl; omega
 have hG := can_pG ha hd
 obtain ⟨x1, x2⟩ := pG_dvd ha hd
 have G0 : pG a (pDiff a) ≠ [] := fun e => a0 ((pG_eq_nil ha hd).1 e).1
 have lg := len_pMonic hG
 have hg : Can (pGcd a (pDiff a)) := can_pMonic _
 have g0 : pGcd a (pDiff a) ≠ [] := fun e => by
  have : (pMonic (pG a (pDiff a))).length = 0 := by rw [show pMonic (pG a (pDiff a)) = [] from e]; rfl
  exact G0 (List.eq_nil_of_length_eq_zero (by omega))
 have hdv : pDvd (pGcd a (pDiff a)) a := by
  obtain ⟨q, hq, he⟩ := x1
  refine ⟨pSc (lead (pG a (pDiff a))) q, can_pSc _ _, fun x => ?_⟩
  show _ = _ * ev (pMonic (pG a (pDiff a))) x
  rw [he x, ev_pSc, ev_pMonic G0]
  have := lead_ne hG G0
  grind
 obtain ⟨⟨cq, cr⟩, hrl, hev⟩ := dm_ok ha hg g0
 have hm := mod_of_dvd ha hg g0 hdv
 have e : pMul (pDiv a (pGcd a (pDiff a))) (pGcd a (pDiff a)) = a := ev_inj (can_pMul _ _) ha fun x => by
  have := hev x
  rw [hm] at this
  rw [ev_pMul]
  have e0 : ev [] x = 0 := rfl
  grind
 have q0 : pDiv a (pGcd a (pDiff a)) ≠ [] := fun h => by
  rw [h, show pMul [] (pGcd a (pDiff a)) = [] from rfl] at e
  exact a0 e.symm
 have l1 := len_pMul cq hg q0 g0
 rw [e] at l1
 have l2 := ls _ q0
 have l3 := ls _ g0
 have l4 := (dvd_len hd hG x2 d0).1
 have l5 : (pGcd a (pDiff a)).length = (pG a (pDiff a)).length := lg
 refine ⟨⟨⟨cq, ?_⟩, ?_⟩, l5, by omega⟩
 ·show 2 ≤ (pDiv a (pGcd a (pDiff a))).length; omega
 ·show (pDiv a (pGcd a (pDiff a))).length + _ = _; omega
theorem monic_PB {g : List Rat} {k : Nat} (h : PB g k) : PB (pMonic g) (2 * k + 1) := fun i => by
 unfold pMonic
 split
 ·exact Nat.le_trans qs_0 (by omega)
 ·rw [cf_pSc]
  have h1 := qs_mul (1 / lead g) (cf g i)
  have h2 := qs_inv1 (lead g) (h (g.length - 1))
  have := h i
  omega
theorem common_sz {a : List Rat} (ha : Sz a 5 1) (hd : PB (pDiff a) 1) (h2 : 2 ≤ a.length) (hG : 2 ≤ (pG a (pDiff a)).length) :
 ((pG a (pDiff a)).length = a.length - 1 ∧ PB (pG a (pDiff a)) 1) ∨ (a.length = 5 ∧ (pG a (pDiff a)).length = 2 ∧ PB (pG a (pDiff a)) 85) ∨ PB (pG a (pDiff a)) 13 := by
 have cd := can_pDiff a
 have hl := len_pDiff ha.can
 have la := ha.len
 have d0 : pDiff a ≠ [] := fun e => by rw [e] at hl; simp at hl; omega
 obtain ⟨⟨_, c1⟩, l1, _⟩ := dm_ok ha.can cd d0
 have p1 := mod_PB (S := 4) ha.can cd d0 ha.pb hd (by decide)
 rw [show a.length - (pDiff a).length + 1 = 2 from by omega] at p1
 have p1 : PB (pMod a (pDiff a)) 13 := p1
 rw [pG_step ha.can cd d0] at hG ⊢
 by_cases r1 : pMod a (pDiff a) = []
 ·rw [r1, pG_nil] at hG ⊢
  exact .inl ⟨hl, hd⟩
 ·obtain ⟨⟨_, c2⟩, l2, _⟩ := dm_ok cd c1 r1
  have p2 := mod_PB (S := 28) cd c1 r1 hd p1 (by decide)
  rw [pG_step cd c1 r1] at hG ⊢
  by_cases r2 : pMod (pDiff a) (pMod a (pDiff a)) = []
  ·rw [r2, pG_nil] at hG ⊢
   exact .inr (.inr p1)
  ·obtain ⟨⟨_, c3⟩, l3, _⟩ := dm_ok c1 c2 r2
   have l4 := ls _ r2
   rw [pG_step c1 c2 r2] at hG ⊢
   have dv := dvd_len c2 (can_pG c2 c3) (pG_dvd c2 c3).1 r2
   have l5 : (pMod (pDiff a) (pMod a (pDiff a))).length = 2 := by omega
   by_cases r3 : pMod (pMod a (pDiff a)) (pMod (pDiff a) (pMod a (pDiff a))) = []
   ·rw [r3, pG_nil] at hG ⊢
    refine .inr (.inl ⟨by omega, l5, ?_⟩)
    rw [show (pDiff a).length - (pMod a (pDiff a)).length + 1 = 2 from by omega] at p2
    exact p2
   ·have dv3 := dvd_len c3 (can_pG c2 c3) (pG_dvd c2 c3).2 r3
    have l6 := ls _ r3
    omega
theorem sqp_sz {a : List Rat} (ha : Sz a 5 1) (hd : PB (pDiff a) 1) (h2 : 2 ≤ a.length) : PB (sqp a) 5504 ∧ ((sqp a).length ≤ 3 → PB (sqp a) 448) ∧ ((sqp a).length = 5 → PB (sqp a) 1) := by
 obtain ⟨⟨⟨cq, l1⟩, l2⟩, l3, l4⟩ := sqp_len ha.can h2
 have la := ha.len
 have cG := can_pG ha.can (can_pDiff a)
 by_cases h1 : (pG a (pDiff a)).length = 1
 ·have e : sqp a = a := by
   unfold sqp pGcd
   rw [pMonic_one cG h1, pDiv_one ha.can]
  rw [e]
  exact ⟨ha.pb.mono (by decide), fun _ => ha.pb.mono (by decide), fun _ => ha.pb⟩
 ·have cg : Can (pGcd a (pDiff a)) := can_pMonic _
  have g0 : pGcd a (pDiff a) ≠ [] := fun e => by rw [e] at l3; simp only [List.length_nil] at l3; omega
  have main : ∀ (k d : Nat), PB (pG a (pDiff a)) k → a.length - (pGcd a (pDiff a)).length + 1 ≤ d → PB (sqp a) (2 ^ d * (1 + 2 * (2 * k + 1) + 1)) := fun k d hk hd' =>
   (div_PB ha.can cg g0 ha.pb (monic_PB hk) (Nat.le_refl _)).1.mono (Nat.mul_le_mul_right _ (Nat.pow_le_pow_right (by decide) hd'))
  rcases common_sz ha hd h2 (by omega) with ⟨e1, e2⟩ | ⟨e1, e2, e3⟩ | e1
  ·have p := main 1 2 e2 (by omega)
   exact ⟨p.mono (by decide), fun _ => p.mono (by decide), fun _ => by omega⟩
  ·have p := main 85 4 e3 (by omega)
   exact ⟨p, fun _ => by omega, fun _ => by omega⟩
  ·refine ⟨(main 13 4 e1 (by omega)).mono (by decide), fun h3 => ?_, fun _ => by omega⟩
   exact main 13 3 e1 (by omega)
end Go.Proofs.YtfbogelmgdojgaaGreat


/- Sizes along Euclid's algorithm, by computation over all lengths. No program in sight. -/
namespace Go.Proofs.YtfbogelmgdojgaaGreat
set_option linter.unusedSimpArgs false
set_option linter.unusedVariables false
open Go.RowKit

def rmB (la sa lb sb : Nat) : Nat := 2 ^ (la - lb + 1) * (sa + 2 * sb + 1) - (2 * sb + 1)
def dvC (la sa lb sb : Nat) : Bool := decide (la + lb ≤ 1000000) && decide (2 ^ (la - lb + 1) * (sa + 2 * sb + 1) ≤ 2500000000000)
theorem dvC_ok {la sa lb sb : Nat} {a b : List Rat} (h : dvC la sa lb sb = true) (ha : Can a) (hb : Can b) (la' : a.length ≤ la) (lb' : b.length = lb) (pa : PB a sa) (pb : PB b sb) : DvOk a b := by
 simp only [dvC, Bool.and_eq_true, decide_eq_true_eq] at h
 subst lb'
 exact ⟨⟨ha, hb⟩, by omega, sa, sb, ⟨pa, pb⟩, Nat.le_trans (Nat.mul_le_mul_right _ (Nat.pow_le_pow_right (by decide) (by omega))) h.2⟩
theorem rm_PB {a b : List Rat} {sa sb : Nat} (ha : Can a) (hb : Can b) (b0 : b ≠ []) (pa : PB a sa) (pb : PB b sb) : PB (pMod a b) (rmB a.length sa b.length sb) := mod_PB ha hb b0 pa pb (Nat.le_refl _)
def allB : Nat → (Nat → Bool) → Bool
 | 0, _ => true
 | n + 1, f => f n && allB n f
theorem allB_ok : ∀ {n : Nat} {f : Nat → Bool}, allB n f = true → ∀ i, i < n → f i = true
 | n + 1, f, h, i, hi => by
   simp only [allB, Bool.and_eq_true] at h
   by_cases e : i = n
   ·rw [e]; exact h.1
   ·exact allB_ok h.2 i (by omega)
def gcC : Nat → Nat → Nat → Nat → Nat → Bool
 | 0, _, _, _, _ => false
 | n + 1, la, sa, lb, sb => (dvC la sa lb sb && decide (sa ≤ 2500000000000)) && (if lb = 0 then true else if la < lb then gcC n lb sb la sa else allB lb fun l => gcC n lb sb l (rmB la sa lb sb))
def mxB : Nat → (Nat → Nat) → Nat
 | 0, _ => 0
 | n + 1, f => max (f n) (mxB n f)
theorem mxB_ok : ∀ {n : Nat} {f : Nat → Nat}, ∀ i, i < n → f i ≤ mxB n f
 | n + 1, f, i, hi => by
   simp only [mxB]
   by_cases e : i = n
   ·rw [e]; omega
   ·have := mxB_ok (f := f) i (show i < n by omega); omega
def gcM : Nat → Nat → Nat → Nat → Nat → Nat
 | 0, _, _, _, _ => 0
 | n + 1, la, sa, lb, sb => if lb = 0 then sa else if la < lb then gcM n lb sb la sa else mxB lb fun l => gcM n lb sb l (rmB la sa lb sb)
theorem gcC_ok : ∀ (n : Nat) {la sa lb sb : Nat} {a b : List Rat}, gcC n la sa lb sb = true → Can a → Can b → a.length = la → b.length = lb → PB a sa → PB b sb → GcOk n a b ∧ PB (pG a b) (gcM n la sa lb sb)
 | 0, _, _, _, _, _, _, h, _, _, _, _, _, _ => by cases h
 | n + 1, la, sa, lb, sb, a, b, h, ca, cb, e1, e2, pa, pb => by
   subst e1 e2
   simp only [gcC, Bool.and_eq_true, decide_eq_true_eq] at h
   obtain ⟨⟨h1, h2⟩, h3⟩ := h
   have dv := dvC_ok h1 ca cb (Nat.le_refl _) rfl pa pb
   by_cases b0 : b = []
   ·subst b0
    exact ⟨⟨dv, by rw [if_pos rfl]; exact ⟨sa, pa, h2⟩⟩, by rw [pG_nil]; exact pa⟩
   ·have hbl := List.length_pos_iff.2 b0
    rw [if_neg (by omega)] at h3
    unfold GcOk gcM
    rw [if_neg b0, if_neg (by omega), pG_step ca cb b0]
    by_cases hlt : a.length < b.length
    ·rw [if_pos hlt] at h3 ⊢
     rw [(dm_small ca cb hlt).2]
     have := gcC_ok n h3 cb ca rfl rfl pb pa
     exact ⟨⟨dv, this.1⟩, this.2⟩
    ·rw [if_neg hlt] at h3 ⊢
     obtain ⟨⟨_, cr⟩, hr, _⟩ := dm_ok ca cb b0
     have := gcC_ok n (allB_ok h3 _ hr) cb cr rfl rfl pb (rm_PB ca cb b0 pa pb)
     exact ⟨⟨dv, this.1⟩, this.2.mono (mxB_ok (f := fun l => gcM n b.length sb l (rmB a.length sa b.length sb)) _ hr)⟩
def pwC (c n : Nat) : Bool := decide (n ≤ 1000000) && (decide (n * c + 1 ≤ 2500000000000) && decide (c ≤ 2500000000000))
theorem pwC_ok {c n m : Nat} {x : Rat} (h : pwC c n = true) (hx : qs x ≤ c) (hm : m ≤ n) : PwOk x m ∧ qs (x ^ m) ≤ n * c + 1 := by
 simp only [pwC, Bool.and_eq_true, decide_eq_true_eq] at h
 have h1 := Nat.mul_le_mul hm hx
 exact ⟨⟨by omega, by omega, by omega⟩, by have := qs_pow x m; omega⟩
def reC : Nat → Nat → Nat → Nat → Nat → Nat → Bool
 | 0, _, _, _, _, _ => false
 | n + 1, so, la, sa, lb, sb => (decide (la ≤ 1000000) && (decide (lb ≤ 1000000) && decide (so ≤ 2500000000000))) &&
   (if la = 0 ∨ lb = 0 then true else if lb = 1 then pwC sb (la - 1) else if la = 1 then pwC sa (lb - 1) else
    if la < lb then reC n so lb sb la sa else dvC la sa lb sb && allB lb fun l => if l = 0 then true else pwC sb (la - l) && (decide (so + ((la - l) * sb + 1) ≤ 2500000000000) && reC n (so + ((la - l) * sb + 1)) lb sb l (rmB la sa lb sb)))
theorem qs_sgm (m n : Nat) (x : Rat) : qs (sgm m n x) = qs x := by
 unfold sgm
 split
 ·exact qs_neg x
 ·rfl
theorem reC_ok : ∀ (n : Nat) {so la sa lb sb : Nat} {o : Rat} {a b : List Rat}, reC n so la sa lb sb = true → qs o ≤ so → Can a → Can b → a.length = la → b.length = lb → PB a sa → PB b sb → ReOk n o a b
 | 0, _, _, _, _, _, _, _, _, h, _, _, _, _, _, _, _ => by cases h
 | n + 1, so, la, sa, lb, sb, o, a, b, h, ho, ca, cb, e1, e2, pa, pb => by
   subst e1 e2
   simp only [reC, Bool.and_eq_true, decide_eq_true_eq] at h
   obtain ⟨⟨h1, h2, h3⟩, h4⟩ := h
   refine ⟨⟨ca, cb⟩, ⟨h1, h2⟩, by omega, ?_⟩
   have en : ∀ l : List Rat, l = [] ↔ l.length = 0 := fun l => ⟨fun e => by rw [e]; rfl, List.eq_nil_of_length_eq_zero⟩
   by_cases h0 : a = [] ∨ b = []
   ·rw [if_pos h0]; trivial
   ·rw [if_neg h0]
    rw [if_neg (by rw [← en, ← en]; exact h0)] at h4
    have a0 : a ≠ [] := fun e => h0 (.inl e)
    have b0 : b ≠ [] := fun e => h0 (.inr e)
    by_cases hb1 : b.length = 1
    ·rw [if_pos hb1] at h4 ⊢
     exact (pwC_ok h4 (pb 0) (Nat.le_refl _)).1
    ·rw [if_neg hb1] at h4 ⊢
     by_cases ha1 : a.length = 1
     ·rw [if_pos ha1] at h4 ⊢
      exact (pwC_ok h4 (pa 0) (Nat.le_refl _)).1
     ·rw [if_neg ha1] at h4 ⊢
      by_cases hlt : a.length < b.length
      ·rw [if_pos hlt] at h4 ⊢
       exact reC_ok n h4 (by rw [qs_sgm]; exact ho) cb ca rfl rfl pb pa
      ·rw [if_neg hlt] at h4 ⊢
       simp only [Bool.and_eq_true] at h4
       obtain ⟨⟨_, cr⟩, hr, _⟩ := dm_ok ca cb b0
       refine ⟨dvC_ok h4.1 ca cb (Nat.le_refl _) rfl pa pb, ?_⟩
       by_cases r0 : pMod a b = []
       ·exact .inl r0
       ·have h5 := allB_ok h4.2 _ hr
        rw [if_neg (by rw [← en]; exact r0)] at h5
        simp only [Bool.and_eq_true, decide_eq_true_eq] at h5
        obtain ⟨h5, h6, h7⟩ := h5
        obtain ⟨w1, w2⟩ := pwC_ok h5 (x := lead b) (pb _) (Nat.le_refl _)
        have w3 := qs_mul o (lead b ^ (a.length - (pMod a b).length))
        exact .inr ⟨w1, by omega, reC_ok n h7 (by rw [qs_sgm]; omega) cb cr rfl rfl pb (rm_PB ca cb b0 pa pb)⟩
def exC : Nat → Nat → Nat → Nat → Nat → Nat → Nat → Nat → Nat → Bool
 | 0, _, _, _, _, _, _, _, _ => false
 | n + 1, la, sa, lb, sb, ls, ss, lu, su => (decide (la ≤ 1000) && (decide (lb ≤ 1000) && (decide (ls ≤ 1000) && (decide (lu ≤ 1000) && (decide (sa ≤ 500000000000) && decide (ss ≤ 2500000000000)))))) &&
   (if lb = 0 then true else dvC la sa lb sb && (decide ((la - lb + 1) * (2 ^ (la - lb + 1) * (sa + 2 * sb + 1) + sb + 1) ≤ 4999999999999) && (decide ((la - lb + 1) * (2 ^ (la - lb + 1) * (sa + 2 * sb + 1) + su + 1) ≤ 4999999999999) &&
    (if la < lb then exC n lb sb la sa lu su (max ls lu) (ss + su + 1) else allB lb fun l => exC n lb sb l (rmB la sa lb sb) lu su (max ls (lu + (la - lb))) ((la - lb + 1) * (2 ^ (la - lb + 1) * (sa + 2 * sb + 1) + su + 1) + ss + 2)))))
def exM : Nat → Nat → Nat → Nat → Nat → Nat → Nat → Nat → Nat → Nat
 | 0, _, _, _, _, _, _, _, _ => 0
 | n + 1, la, sa, lb, sb, ls, ss, lu, su => if lb = 0 then ss else if la < lb then exM n lb sb la sa lu su (max ls lu) (ss + su + 1) else mxB lb fun l => exM n lb sb l (rmB la sa lb sb) lu su (max ls (lu + (la - lb))) ((la - lb + 1) * (2 ^ (la - lb + 1) * (sa + 2 * sb + 1) + su + 1) + ss + 2)
def exL : Nat → Nat → Nat → Nat → Nat → Nat
 | 0, _, _, _, _ => 0
 | n + 1, la, lb, ls, lu => if lb = 0 then ls else if la < lb then exL n lb la lu (max ls lu) else mxB lb fun l => exL n lb l lu (max ls (lu + (la - lb)))
theorem co_len2 {q s u : List Rat} {N L M : Nat} (lq : q.length ≤ N + 1) (hs : s.length ≤ L) (hu : u.length ≤ M) : (pSub s (pMul q u)).length ≤ max L (M + N) := by
 have h1 := len_pSub s (pMul q u)
 have h2 : (pMul q u).length ≤ M + N := by
  by_cases q0 : q = []
  ·subst q0; exact Nat.zero_le _
  ·by_cases u0 : u = []
   ·subst u0
    rw [show pMul q [] = [] from ev_inj (can_pMul _ _) Can_nil fun x => by rw [ev_pMul]; show _ * 0 = (0 : Rat); grind]
    exact Nat.zero_le _
   ·unfold pMul
    have e1 := tr_len (mulL q u)
    have e2 := List.length_pos_iff.2 u0
    have e3 := len_mulL q u u0
    rw [if_neg q0] at e3
    omega
 omega
theorem co_step2 {q s u : List Rat} {Q S U N : Nat} (hq : PB q Q) (lq : q.length ≤ N) (hs : PB s S) (hu : PB u U) : PB (pSub s (pMul q u)) (N * (Q + U + 1) + S + 2) := fun i => by
 rw [cf_pSub]
 unfold pMul
 rw [cf_tr]
 have h1 := qs_sub (cf s i) (cf (mulL q u) i)
 have h2 := mulL_PB hu hq i
 have h3 := Nat.mul_le_mul_right (Q + U + 1) lq
 have := hs i
 omega
theorem co_ls2 {q s u : List Rat} {Q S U N : Nat} (hq : PB q Q) (lq : q.length ≤ N) (hs : PB s S) (hu : PB u U) (h : N * (Q + U + 1) ≤ 4999999999999 ∧ S ≤ 5000000000000) (hl : (N ≤ 1000 ∧ s.length ≤ 1000) ∧ u.length ≤ 1000) : LsOk q s u :=
 ⟨⟨⟨by omega, by omega⟩, Q, U, ⟨hq, hu⟩, Nat.le_trans (Nat.mul_le_mul_right _ lq) h.1⟩, hs.mono h.2⟩
theorem exC_ok : ∀ (n : Nat) {la sa lb sb ls ss lu su : Nat} {a b s u t v : List Rat}, exC n la sa lb sb ls ss lu su = true → Can a → Can b → a.length = la → b.length = lb → PB a sa → PB b sb →
 (s.length ≤ ls ∧ t.length ≤ ls) → (u.length ≤ lu ∧ v.length ≤ lu) → (PB s ss ∧ PB t ss) → (PB u su ∧ PB v su) →
 ExOk n a b s u t v ∧ (PB (exF n a b s u t v).2.1 (exM n la sa lb sb ls ss lu su) ∧ (exF n a b s u t v).2.1.length ≤ exL n la lb ls lu) ∧ PB (exF n a b s u t v).2.2 (exM n la sa lb sb ls ss lu su) ∧ (exF n a b s u t v).2.2.length ≤ exL n la lb ls lu
 | 0, _, _, _, _, _, _, _, _, _, _, _, _, _, _, h, _, _, _, _, _, _, _, _, _, _ => by cases h
 | n + 1, la, sa, lb, sb, ls, ss, lu, su, a, b, s, u, t, v, h, ca, cb, e1, e2, pa, pb, ⟨l1, l2⟩, ⟨l3, l4⟩, ⟨p1, p2⟩, ⟨p3, p4⟩ => by
   subst e1 e2
   simp only [exC, Bool.and_eq_true, decide_eq_true_eq] at h
   obtain ⟨⟨g1, g2, g3, g4, g5, g6⟩, h⟩ := h
   by_cases b0 : b = []
   ·subst b0
    have e : exF (n + 1) a [] s u t v = (a, s, t) := if_pos rfl
    rw [e]
    refine ⟨⟨⟨ca, cb⟩, ⟨by omega, by simp⟩, ?_⟩, ⟨p1, l1⟩, p2, l2⟩
    rw [if_pos rfl]
    exact ⟨sa, ⟨pa, g5⟩, ⟨by omega, p1.mono g6⟩, by omega, p2.mono g6⟩
   ·have hbl := List.length_pos_iff.2 b0
    rw [if_neg (by omega)] at h
    simp only [Bool.and_eq_true, decide_eq_true_eq] at h
    obtain ⟨h1, h2, h3, h4⟩ := h
    have e : exF (n + 1) a b s u t v = exF n b (pMod a b) u (pSub s (pMul (pDiv a b) u)) v (pSub t (pMul (pDiv a b) v)) := if_neg b0
    rw [e]
    have dv := dvC_ok h1 ca cb (Nat.le_refl _) rfl pa pb
    obtain ⟨⟨cq, cr⟩, hr, _⟩ := dm_ok ca cb b0
    obtain ⟨pq, pr⟩ := div_PB (S := sa + 2 * sb + 1) ca cb b0 pa pb (Nat.le_refl _)
    have lq := div_len ca cb b0
    unfold ExOk exM exL
    generalize 2 ^ (a.length - b.length + 1) * (sa + 2 * sb + 1) = Q at *
    have hb0 : ¬ b.length = 0 := by omega
    rw [if_neg b0]
    simp only [if_neg hb0]
    have k1 : LsOk (pDiv a b) a b := co_ls2 pq lq pa pb ⟨h2, by omega⟩ ⟨⟨by omega, by omega⟩, by omega⟩
    have k2 : LsOk (pDiv a b) s u := co_ls2 pq lq p1 p3 ⟨h3, by omega⟩ ⟨⟨by omega, by omega⟩, by omega⟩
    have k3 : LsOk (pDiv a b) t v := co_ls2 pq lq p2 p4 ⟨h3, by omega⟩ ⟨⟨by omega, by omega⟩, by omega⟩
    by_cases hlt : a.length < b.length
    ·rw [if_pos hlt] at h4
     simp only [if_pos hlt]
     obtain ⟨d1, d2⟩ := dm_small ca cb hlt
     have z : ∀ x y : List Rat, pSub x (pMul [] y) = tr x := fun x y => ev_inj (can_pSub _ _) (tr_can x) fun r => by
      rw [ev_pSub, show pMul [] y = [] from rfl, ev_tr]
      show ev x r - 0 = _
      grind
     have zl : ∀ x : List Rat, (tr x).length ≤ x.length := tr_len
     have zp : ∀ (x : List Rat) (k : Nat), PB x k → PB (tr x) k := fun x k hx i => by rw [cf_tr]; exact hx i
     rw [d1, d2, z, z]
     rw [d1] at k1 k2 k3
     have := exC_ok n h4 cb ca rfl rfl pb pa ⟨l3, l4⟩ ⟨Nat.le_trans (zl s) (by omega), Nat.le_trans (zl t) (by omega)⟩ ⟨p3, p4⟩ ⟨(zp s ss p1).mono (by omega), (zp t ss p2).mono (by omega)⟩
     exact ⟨⟨⟨ca, cb⟩, ⟨by omega, by omega⟩, dv, ⟨k1, k2, k3⟩, this.1⟩, this.2⟩
    ·rw [if_neg hlt] at h4
     simp only [if_neg hlt]
     have := exC_ok n (allB_ok h4 _ hr) cb cr rfl rfl pb (rm_PB ca cb b0 pa pb) ⟨l3, l4⟩ ⟨co_len2 lq l1 l3, co_len2 lq l2 l4⟩ ⟨p3, p4⟩ ⟨co_step2 pq lq p1 p3, co_step2 pq lq p2 p4⟩
     have m1 := mxB_ok (f := fun l => exM n b.length sb l (rmB a.length sa b.length sb) lu su (max ls (lu + (a.length - b.length))) ((a.length - b.length + 1) * (Q + su + 1) + ss + 2)) _ hr
     have m2 := mxB_ok (f := fun l => exL n b.length l lu (max ls (lu + (a.length - b.length)))) _ hr
     exact ⟨⟨⟨ca, cb⟩, ⟨by omega, by omega⟩, dv, ⟨k1, k2, k3⟩, this.1⟩, ⟨this.2.1.1.mono m1, Nat.le_trans this.2.1.2 m2⟩, this.2.2.1.mono m1, Nat.le_trans this.2.2.2 m2⟩
end Go.Proofs.YtfbogelmgdojgaaGreat


/- Polynomials over the rational numbers: residues. No program in sight. -/
namespace Go.Proofs.YtfbogelmgdojgaaGreat
set_option linter.unusedSimpArgs false
set_option linter.unusedVariables false
open Go.RowKit

theorem mod_congr {x y q : List Rat} (hx : Can x) (hy : Can y) (hq : Can q) (q0 : q ≠ []) (h : ∃ k, Can k ∧ ∀ t, ev x t = ev y t + ev k t * ev q t) : pMod x q = pMod y q := by
 obtain ⟨k, ck, hk⟩ := h
 obtain ⟨⟨c1, c2⟩, l1, e1⟩ := dm_ok hy hq q0
 refine (dm_eq hx hq (can_pAdd (pDiv y q) k) c2 l1 fun t => ?_).2
 rw [ev_pAdd, hk t]
 have := e1 t
 grind
theorem mod_self {x q : List Rat} (hx : Can x) (hq : Can q) (q0 : q ≠ []) : ∃ k, Can k ∧ ∀ t, ev x t = ev (pMod x q) t + ev k t * ev q t := by
 obtain ⟨⟨c1, c2⟩, l1, e1⟩ := dm_ok hx hq q0
 exact ⟨pDiv x q, c1, fun t => by have := e1 t; grind⟩
theorem mod_mul_l {a b q : List Rat} (ha : Can a) (hq : Can q) (q0 : q ≠ []) : pMod (pMul (pMod a q) b) q = pMod (pMul a b) q := by
 obtain ⟨k, ck, hk⟩ := mod_self ha hq q0
 refine mod_congr (can_pMul _ _) (can_pMul _ _) hq q0 ⟨pSub [] (pMul k b), can_pSub _ _, fun t => ?_⟩
 simp only [ev_pMul, ev_pSub, hk t]
 have e0 : ev [] t = 0 := rfl
 rw [e0]
 grind
theorem mod_mul_r {a b q : List Rat} (hb : Can b) (hq : Can q) (q0 : q ≠ []) : pMod (pMul a (pMod b q)) q = pMod (pMul a b) q := by
 have e : ∀ x y : List Rat, pMul x y = pMul y x := fun x y => ev_inj (can_pMul _ _) (can_pMul _ _) fun t => by rw [ev_pMul, ev_pMul]; grind
 rw [e, mod_mul_l hb hq q0, e b a]
theorem mod_mod {a q : List Rat} (ha : Can a) (hq : Can q) (q0 : q ≠ []) : pMod (pMod a q) q = pMod a q := by
 obtain ⟨k, ck, hk⟩ := mod_self ha hq q0
 refine mod_congr (dm_ok ha hq q0).1.2 ha hq q0 ⟨pSub [] k, can_pSub _ _, fun t => ?_⟩
 rw [ev_pSub, hk t]
 have e0 : ev [] t = 0 := rfl
 rw [e0]
 grind
theorem mod_add {a b q : List Rat} (ha : Can a) (hb : Can b) (hq : Can q) (q0 : q ≠ []) : pMod (pAdd a b) q = pAdd (pMod a q) (pMod b q) := by
 obtain ⟨⟨c1, c2⟩, l1, e1⟩ := dm_ok ha hq q0
 obtain ⟨⟨c3, c4⟩, l2, e2⟩ := dm_ok hb hq q0
 refine (dm_eq (can_pAdd a b) hq (can_pAdd (pDiv a q) (pDiv b q)) (can_pAdd _ _) (by have := len_pAdd (pMod a q) (pMod b q); omega) fun t => ?_).2
 simp only [ev_pAdd]
 have h1 := e1 t
 have h2 := e2 t
 grind
end Go.Proofs.YtfbogelmgdojgaaGreat

