/- Texts H6 H7 H8 H9 SZ3 SZ4 PM13 in one. -/
import Derived.Test.YthhpmapbhdebeaaGreatR27
/- Contracts: the reference of package poly, lists that are computed value by value. -/
namespace Go.Proofs.YthhpmapbhdebeaaGreat
set_option linter.unusedSimpArgs false
set_option linter.unusedVariables false
open Go.RowKit

theorem lt0 (n : Nat) : ¬ ((n : Nat) : Int) < 0 := by omega
theorem rAdd_C : Ctr Tryz.prog 42 kPAdd := Ctr.c2 (by kernel_rfl) fun a b h => by
  obtain ⟨⟨la, lb⟩, ha, hb⟩ := h
  show PCall _ _ _ (.lst (V.rats (pAdd a b)))
  rw [← add_list]
  show PCall _ _ _ (.lst (V.rats (tr (rg (fun i => cf a i + cf b i) (max a.length b.length)))))
  obtain ⟨F, hF⟩ : ∃ F : Nat → Rat, F = fun i => cf a i + cf b i := ⟨_, rfl⟩
  rw [← hF]
  have mx : maxLen = 9223372036854775807 := by decide
  refine PCall.of_vc (tabs mixed (tbl_cons rTrim_C (tbl_cons rAt_C (tbl_cons r2Add_C tbl_nil)))) Tryz.func42 rfl Tryz.ntmps42 Tryz.results42 (by simp) ?_
  simp only [go_sem]
  refine AWp.loops (X := { i : Nat // i ≤ max a.length b.length }) (fun i => mkSt [(0, .lst (V.rats a)), (1, .lst (V.rats b)), (4, .raw (.slice none 0 0)), (5, .sl 0 4 0 i.1), (6, .raw (.int .i64 (i.1 : Nat)))] [(0, true, ⟨51, 4, V.rats (rg F i.1)⟩)] 1 29) (fun i => max a.length b.length - i.1) ⟨0, Nat.zero_le _⟩ (Wk.of [1] (by decide) ?_) ?_
  · simp only [go_sem, rg_0, rats_0, Int.natCast_zero]
  · rintro ⟨i, hi⟩
    refine vc_at (tabs mixed (tbl_cons rTrim_C (tbl_cons rAt_C (tbl_cons r2Add_C tbl_nil)))) ?_
    have c3 : (i : Int) + 1 = ((i + 1 : Nat) : Int) := by omega
    have c4 := lt0 i
    have m1 : (if (a.length : Int) < (b.length : Int) then (b.length : Int) else (a.length : Int)) = ((max a.length b.length : Nat) : Int) := by split <;> omega
    have f1 : cf a i + cf b i = F i := by rw [hF]
    have q1 := ha i
    have q2 := hb i
    by_cases hin : i < max a.length b.length
    · have c1 : (i : Int) < ((max a.length b.length : Nat) : Int) := by omega
      simp only [go_sem, m1, c1, c3, c4, f1, rg_snoc, mx, Int.toNat_natCast, q1, q2]
      refine ⟨⟨by omega, by omega⟩, ⟨by omega, by omega⟩, ⟨i + 1, hin⟩, Wk.of [17] (by decide) ?_, by simp only; omega⟩
      simp only [go_sem]
    · obtain rfl : i = max a.length b.length := by omega
      have c1 : ¬ ((max a.length b.length : Nat) : Int) < ((max a.length b.length : Nat) : Int) := by omega
      simp only [go_sem, m1, c1]
      omega
theorem rSc_C : Ctr Tryz.prog 44 kPSc := Ctr.c2 (by kernel_rfl) fun a c h => by
  obtain ⟨la, ha, hc⟩ := h
  show PCall _ _ _ (.lst (V.rats (pSc c a)))
  rw [← sc_list]
  show PCall _ _ _ (.lst (V.rats (tr (rg (fun i => cf a i * c) a.length))))
  obtain ⟨F, hF⟩ : ∃ F : Nat → Rat, F = fun i => cf a i * c := ⟨_, rfl⟩
  rw [← hF]
  have mx : maxLen = 9223372036854775807 := by decide
  refine PCall.of_vc (tabs mixed (tbl_cons rTrim_C (tbl_cons r2Mul_C tbl_nil))) Tryz.func44 rfl Tryz.ntmps44 Tryz.results44 (by simp) ?_
  simp only [go_sem]
  refine AWp.loops (X := { i : Nat // i ≤ a.length }) (fun i => mkSt [(0, .lst (V.rats a)), (3, .ptr 0 4 0 0), (4, .raw (.slice none 0 0)), (5, .sl 1 4 0 i.1), (6, .raw (.int .i64 (i.1 : Nat)))] [(0, false, ⟨51, 4, [.Q c]⟩), (1, true, ⟨51, 4, V.rats (rg F i.1)⟩)] 2 25) (fun i => a.length - i.1) ⟨0, Nat.zero_le _⟩ (Wk.of [0, 2] (by decide) ?_) ?_
  · simp only [go_sem, rg_0, rats_0, Int.natCast_zero]
    exact renV_pure rfl
  · rintro ⟨i, hi⟩
    refine vc_at (tabs mixed (tbl_cons rTrim_C (tbl_cons r2Mul_C tbl_nil))) ?_
    have c3 : (i : Int) + 1 = ((i + 1 : Nat) : Int) := by omega
    have f1 : cf a i * c = F i := by rw [hF]
    have q1 := ha i
    by_cases hin : i < a.length
    · have c1 : (i : Int) < (a.length : Int) := by omega
      simp only [go_sem, c1, c3, f1, rg_snoc, mx, q1, hc]
      refine ⟨by omega, hin, ⟨by omega, by omega⟩, by rfl, ⟨by omega, by omega⟩, ⟨i + 1, hin⟩, Wk.of [0, 14] (by decide) ?_, by simp only; omega⟩
      simp only [go_sem]
      exact renV_pure rfl
    · obtain rfl : i = a.length := by omega
      have c1 : ¬ (a.length : Int) < (a.length : Int) := by omega
      simp only [go_sem, c1]
      omega
theorem rDiff_C : Ctr Tryz.prog 18 kPDiff := Ctr.c1 (by kernel_rfl) fun a h => by
  obtain ⟨la, ha⟩ := h
  show PCall _ _ _ (.lst (V.rats (pDiff a)))
  rw [← diff_list]
  show PCall _ _ _ (.lst (V.rats (tr (rg (fun i => cf a (i + 1) * (((i + 1 : Nat) : Int) : Rat)) (a.length - 1)))))
  obtain ⟨F, hF⟩ : ∃ F : Nat → Rat, F = fun i => cf a (i + 1) * (((i + 1 : Nat) : Int) : Rat) := ⟨_, rfl⟩
  rw [← hF]
  have mx : maxLen = 9223372036854775807 := by decide
  refine PCall.of_vc (tabs mixed (tbl_cons rTrim_C (tbl_cons r2Whole_C (tbl_cons r2Mul_C tbl_nil)))) Tryz.func18 rfl Tryz.ntmps18 Tryz.results18 (by simp) ?_
  simp only [go_sem]
  refine AWp.loops (X := { i : Nat // i ≤ a.length - 1 }) (fun i => mkSt [(0, .lst (V.rats a)), (2, .raw (.slice none 0 0)), (3, .sl 0 4 0 i.1), (4, .raw (.int .i64 ((i.1 + 1 : Nat) : Int)))] [(0, true, ⟨51, 4, V.rats (rg F i.1)⟩)] 1 24) (fun i => a.length - i.1) ⟨0, Nat.zero_le _⟩ (Wk.of [1] (by decide) ?_) ?_
  · simp only [go_sem, rg_0, rats_0, Int.natCast_zero, Nat.zero_add]
  · rintro ⟨i, hi⟩
    refine vc_at (tabs mixed (tbl_cons rTrim_C (tbl_cons r2Whole_C (tbl_cons r2Mul_C tbl_nil)))) ?_
    have c3 : ((i + 1 : Nat) : Int) + 1 = ((i + 1 + 1 : Nat) : Int) := by omega
    have f1 : cf a (i + 1) * (((i + 1 : Nat) : Int) : Rat) = F i := by rw [hF]
    have q1 := ha (i + 1)
    have q2 : i + 1 < a.length → qs (((i + 1 : Nat) : Int) : Rat) ≤ 5000000000000 := fun h => Nat.le_trans (qs_nat (z := i + 1) (by omega)) (by decide)
    by_cases hin : i + 1 < a.length
    · have c1 : ((i + 1 : Nat) : Int) < (a.length : Int) := by omega
      have q2 := q2 hin
      simp only [go_sem, c1, c3, f1, rg_snoc, mx, q1, q2]
      refine ⟨by omega, hin, ⟨by omega, by omega⟩, ⟨by omega, by omega⟩, by rfl, ⟨by omega, by omega⟩, ⟨i + 1, by omega⟩, Wk.of [14] (by decide) ?_, by simp only; omega⟩
      simp only [go_sem]
    · obtain rfl : i = a.length - 1 := by omega
      have c1 : ¬ ((a.length - 1 + 1 : Nat) : Int) < (a.length : Int) := by omega
      simp only [go_sem, c1]
      omega
end Go.Proofs.YthhpmapbhdebeaaGreat


/- Contracts: the reference of package poly, single values and small functions. -/
namespace Go.Proofs.YthhpmapbhdebeaaGreat
set_option linter.unusedSimpArgs false
set_option linter.unusedVariables false
open Go.RowKit

def kPRNeg : Con := con1 pR fun a => (a.length ≤ 1000000 ∧ PB a 5000000000000, .lst (V.rats (pSc ((-1 : Int) : Rat) a)))
attribute [go_sem ↓, go_sem] kPRNeg
theorem qm1 : qs ((-1 : Int) : Rat) ≤ 1 := smq_ok (by decide +kernel) (Nat.le_refl _)
theorem rPNeg_C : Ctr Tryz.prog 91 kPRNeg := Ctr.c1 (by kernel_rfl) fun a h => by
  obtain ⟨la, ha⟩ := h
  show PCall _ _ _ (.lst (V.rats (pSc ((-1 : Int) : Rat) a)))
  refine PCall.of_vc (tabs mixed (tbl_cons r2Whole_C (tbl_cons rSc_C tbl_nil))) Tryz.func91 rfl Tryz.ntmps91 Tryz.results91 (by simp) ?_
  have q1 : qs ((-1 : Int) : Rat) ≤ 5000000000000 := Nat.le_trans qm1 (by decide)
  simp only [go_sem, la, ha, q1]
theorem PB_neg {a : List Rat} {k : Nat} (h : PB a k) : PB (pSc ((-1 : Int) : Rat) a) k := fun i => by
  rw [cf_pSc]
  have e : ((-1 : Int) : Rat) * cf a i = -cf a i := by
    have : ((-1 : Int) : Rat) = -1 := by decide +kernel
    rw [this]; grind
  rw [e, qs_neg]
  exact h i
theorem rSub_C : Ctr Tryz.prog 43 kPSub := Ctr.c2 (by kernel_rfl) fun a b h => by
  obtain ⟨⟨la, lb⟩, ha, hb⟩ := h
  show PCall _ _ _ (.lst (V.rats (pSub a b)))
  have e : pAdd a (pSc ((-1 : Int) : Rat) b) = pSub a b := ev_inj (can_pAdd _ _) (can_pSub _ _) fun x => by
    have : ((-1 : Int) : Rat) = -1 := by decide +kernel
    rw [ev_pAdd, ev_pSub, ev_pSc, this]; grind
  have h1 := PB_neg hb
  have h2 : (pSc ((-1 : Int) : Rat) b).length ≤ 1000000 := Nat.le_trans (len_pSc _ _) lb
  refine PCall.of_vc (tabs mixed (tbl_cons rPNeg_C (tbl_cons rAdd_C tbl_nil))) Tryz.func43 rfl Tryz.ntmps43 Tryz.results43 (by simp) ?_
  simp only [go_sem, la, lb, ha, hb, h1, h2, e]
def kRLead : Con := con1 pR fun a => (a.length ≤ 1000000, .Q (lead a))
attribute [go_sem ↓, go_sem] kRLead
theorem rLead_C : Ctr Tryz.prog 59 kRLead := Ctr.c1 (by kernel_rfl) fun a la => by
  show PCall _ _ _ (.Q (lead a))
  have la : a.length ≤ 1000000 := la
  refine PCall.of_vc (tabs mixed (tbl_cons rAt_C tbl_nil)) Tryz.func59 rfl Tryz.ntmps59 Tryz.results59 (by simp) ?_
  have e : (if (a.length : Int) - 1 < 0 then (0 : Rat) else cf a ((a.length : Int) - 1).toNat) = lead a := by
    unfold lead
    split
    · rw [cf_ge (by omega)]
    · rw [show ((a.length : Int) - 1).toNat = a.length - 1 from by omega]
  simp only [go_sem, e]
  exact ⟨by omega, by omega⟩
def kRInv : Con := con1 pQ fun c => (qs c ≤ 5000000000000, .Q (1 / c))
attribute [go_sem ↓, go_sem] kRInv
theorem rInv_C : Ctr Tryz.prog 58 kRInv := Ctr.c1 (by kernel_rfl) fun c hc => by
  have hc : qs c ≤ 5000000000000 := hc
  show PCall _ _ _ (.Q (1 / c))
  have q1 : qs 1 ≤ 5000000000000 := Nat.le_trans qs_1 (by decide)
  refine PCall.of_vc (tabs mixed (tbl_cons rOne_C (tbl_cons r2Div_C (tbl_cons r2Sign_C (tbl_cons rZero_C tbl_nil))))) Tryz.func58 rfl Tryz.ntmps58 Tryz.results58 (by simp) ?_
  by_cases c0 : c = 0
  · have e1 : divR 1 c = .tup [.agg [.I 0, .I 0], .raw (.int .i64 3)] := if_pos c0
    have e2 : (sgI c.num == 0) = true := by rw [sgn_numQ]; exact decide_eq_true c0
    have e3 : 1 / c = 0 := by rw [c0]; decide +kernel
    simp only [go_sem, e1, e2, e3, hc, q1]
    rfl
  · have e1 : divR 1 c = .tup [.Q (1 / c), .raw (.int .i64 0)] := if_neg c0
    have e2 : (sgI c.num == 0) = false := by rw [sgn_numQ]; exact decide_eq_false c0
    simp only [go_sem, e1, e2, hc, q1]
    rfl
theorem rMonic_C : Ctr Tryz.prog 16 kMonic := Ctr.c1 (by kernel_rfl) fun a h => by
  obtain ⟨ca, la, s, pa, hs⟩ := h
  show PCall _ _ _ (.lst (V.rats (pMonic a)))
  have e : pSc (1 / lead a) a = pMonic a := by
    by_cases a0 : a = []
    · subst a0; rfl
    · exact (if_neg a0).symm
  have l1 : qs (lead a) ≤ s := pa _
  have l2 := qs_inv1 _ l1
  have l3 : qs (lead a) ≤ 5000000000000 := by omega
  have l4 : qs (1 / lead a) ≤ 5000000000000 := by omega
  have l5 : PB a 5000000000000 := pa.mono (by omega)
  refine PCall.of_vc (tabs mixed (tbl_cons rLead_C (tbl_cons rInv_C (tbl_cons rSc_C tbl_nil)))) Tryz.func16 rfl Tryz.ntmps16 Tryz.results16 (by simp) ?_
  simp only [go_sem, la, l3, l4, l5, e]
def kRPower : Con := con2 pQ (pN .i64) fun c n => (0 ≤ n ∧ n ≤ 1000000, .lst (V.rats (tr (mon c n.toNat))))
attribute [go_sem ↓, go_sem] kRPower
theorem rg_zeros (n : Nat) (c : Rat) : rg (fun _ => 0) n ++ [c] = mon c n := by
  unfold rg mon
  congr 1
  induction n with
  | zero => rfl
  | succ n ih => rw [List.range_succ, List.map_append, ih, List.replicate_succ']; rfl
theorem rPower_C : Ctr Tryz.prog 90 kRPower := Ctr.c2 (by kernel_rfl) fun c z h => by
  obtain ⟨h1, h2⟩ := h
  obtain ⟨n, rfl⟩ : ∃ n : Nat, z = n := ⟨z.toNat, by omega⟩
  show PCall _ _ _ (.lst (V.rats (tr (mon c (n : Int).toNat))))
  rw [Int.toNat_natCast]
  have mx : maxLen = 9223372036854775807 := by decide
  refine PCall.of_vc (tabs mixed (tbl_cons rTrim_C (tbl_cons rZero_C tbl_nil))) Tryz.func90 rfl Tryz.ntmps90 Tryz.results90 (by simp) ?_
  simp only [go_sem]
  refine AWp.loops (X := { i : Nat // i ≤ n }) (fun i => mkSt [(1, .raw (.int .i64 (n : Nat))), (2, .ptr 0 4 0 0), (4, .raw (.slice none 0 0)), (5, .sl 1 4 0 i.1), (6, .raw (.int .i64 (i.1 : Nat)))] [(0, false, ⟨51, 4, [.Q c]⟩), (1, true, ⟨51, 4, V.rats (rg (fun _ => 0) i.1)⟩)] 2 23) (fun i => n - i.1) ⟨0, Nat.zero_le _⟩ (Wk.of [0, 2] (by decide) ?_) ?_
  · simp only [go_sem, rg_0, rats_0, Int.natCast_zero]
    exact renV_pure rfl
  · rintro ⟨i, hi⟩
    refine vc_at (tabs mixed (tbl_cons rTrim_C (tbl_cons rZero_C tbl_nil))) ?_
    have c3 : (i : Int) + 1 = ((i + 1 : Nat) : Int) := by omega
    have f1 := rg_snoc (fun _ => (0 : Rat)) i
    by_cases hin : i < n
    · have c1 : (i : Int) < (n : Int) := by omega
      simp only [go_sem, c1, c3, f1, mx]
      refine ⟨⟨by omega, by omega⟩, ⟨by omega, by omega⟩, ⟨i + 1, hin⟩, Wk.of [0, 8] (by decide) ?_, by simp only; omega⟩
      simp only [go_sem]
      exact renV_pure rfl
    · obtain rfl : i = n := by omega
      have c1 : ¬ (i : Int) < (i : Int) := by omega
      simp only [go_sem, c1, rg_zeros, mx, mon_len]
      refine ⟨⟨by omega, by omega⟩, by omega, ?_⟩
      rw [List.take_of_length_le (by rw [mon_len]; exact Nat.le_refl _)]
      exact .refl _
end Go.Proofs.YthhpmapbhdebeaaGreat


/- Contracts: the reference of package poly, products and values. -/
namespace Go.Proofs.YthhpmapbhdebeaaGreat
set_option linter.unusedSimpArgs false
set_option linter.unusedVariables false
open Go.RowKit

/-- The first terms of a coefficient of a product. -/
def cvS (a b : List Rat) (k : Nat) : Nat → Rat
  | 0 => 0
  | j + 1 => cvS a b k j + cf a j * cf b (k - j)
theorem cvS_nil (b : List Rat) (k : Nat) : ∀ j, cvS [] b k j = 0
  | 0 => rfl
  | j + 1 => by
    show cvS [] b k j + 0 * cf b (k - j) = 0
    rw [cvS_nil b k j]; grind
theorem cvS_cons (x : Rat) (a b : List Rat) (k : Nat) : ∀ j, cvS (x :: a) b (k + 1) (j + 1) = x * cf b (k + 1) + cvS a b k j
  | 0 => by
    show 0 + x * cf b (k + 1) = x * cf b (k + 1) + 0
    grind
  | j + 1 => by
    have ih := cvS_cons x a b k j
    show cvS (x :: a) b (k + 1) (j + 1) + cf a j * cf b (k + 1 - (j + 1)) = x * cf b (k + 1) + (cvS a b k j + cf a j * cf b (k - j))
    rw [ih, show k + 1 - (j + 1) = k - j from by omega]; grind
theorem cvS_mul : ∀ (a b : List Rat) (k : Nat), cvS a b k (k + 1) = cf (mulL a b) k
  | [], b, k => by rw [cvS_nil]; rfl
  | x :: a, b, 0 => by
    rw [cf_mulL_cons]
    show 0 + x * cf b 0 = x * cf b 0 + 0
    grind
  | x :: a, b, k + 1 => by
    rw [cvS_cons, cf_mulL_cons, cvS_mul a b k, if_neg (by omega), Nat.add_sub_cancel]
theorem cvS_qs {a b : List Rat} {j k : Nat} (ha : PB a j) (hb : PB b k) (m : Nat) : ∀ i, qs (cvS a b m i) ≤ min i a.length * (j + k + 1) + 1
  | 0 => Nat.le_trans qs_0 (by omega)
  | i + 1 => by
    have ih := cvS_qs ha hb m i
    show qs (cvS a b m i + cf a i * cf b (m - i)) ≤ _
    by_cases hi : i < a.length
    · have h1 := qs_add (cvS a b m i) (cf a i * cf b (m - i))
      have h2 := qs_mul (cf a i) (cf b (m - i))
      have h3 := ha i
      have h4 := hb (m - i)
      rw [show min (i + 1) a.length = i + 1 from by omega, Nat.add_mul]
      rw [show min i a.length = i from by omega] at ih
      omega
    · rw [cf_ge (l := a) (by omega), Rat.zero_mul, Rat.add_zero, show min (i + 1) a.length = min i a.length from by omega]
      exact ih
theorem mul_list (a b : List Rat) : tr (rg (fun k => cvS a b k (k + 1)) (a.length + b.length - 1)) = pMul a b := tr_of_cf fun i => by
  rw [cf_rg]
  split
  · exact cvS_mul a b i
  · rename_i h
    by_cases b0 : b = []
    · subst b0
      have e : cf (pMul a []) i = cf (mulL a []) i := by unfold pMul; rw [cf_tr]
      have e2 : pMul a [] = [] := ev_inj (can_pMul _ _) Can_nil fun x => by rw [ev_pMul]; show ev a x * 0 = 0; grind
      rw [← e, e2]; rfl
    · have := len_mulL a b b0
      by_cases a0 : a = []
      · subst a0; rfl
      · rw [if_neg a0] at this
        rw [cf_ge (by omega)]
def kPRMul : Con := con2 pR pR fun a b => ((a.length + b.length ≤ 1000000 ∧ PB a 5000000000000 ∧ PB b 5000000000000) ∧ ∃ j k, (PB a j ∧ PB b k) ∧ a.length * (j + k + 1) ≤ 4999999999999, .lst (V.rats (pMul a b)))
attribute [go_sem ↓, go_sem] kPRMul
set_option maxRecDepth 4000 in
theorem rPMul_C : Ctr Tryz.prog 12 kPRMul := Ctr.c2 (by kernel_rfl) fun a b h => by
  obtain ⟨⟨hl, pa, pb⟩, j, k', ⟨ha, hb⟩, hs⟩ := h
  show PCall _ _ _ (.lst (V.rats (pMul a b)))
  rw [← mul_list]
  obtain ⟨F, hF⟩ : ∃ F : Nat → Rat, F = fun k => cvS a b k (k + 1) := ⟨_, rfl⟩
  rw [← hF]
  have mx : maxLen = 9223372036854775807 := by decide
  refine PCall.of_vc (tabs mixed (tbl_cons rTrim_C (tbl_cons rZero_C (tbl_cons rAt_C (tbl_cons r2Mul_C (tbl_cons r2Add_C tbl_nil)))))) Tryz.func12 rfl Tryz.ntmps12 Tryz.results12 (by simp) ?_
  simp only [go_sem]
  refine AWp.loops (X := { k : Nat // k ≤ a.length + b.length - 1 }) (fun k => mkSt [(0, .lst (V.rats a)), (1, .lst (V.rats b)), (4, .raw (.slice none 0 0)), (5, .sl 0 4 0 k.1), (6, .raw (.int .i64 (k.1 : Nat)))] [(0, true, ⟨51, 4, V.rats (rg F k.1)⟩)] 1 43) (fun k => a.length + b.length - k.1) ⟨0, Nat.zero_le _⟩ (Wk.of [1] (by decide) ?_) ?_
  · simp only [go_sem, rg_0, rats_0, Int.natCast_zero]
  · rintro ⟨k, hk⟩
    refine vc_at (tabs mixed (tbl_cons rTrim_C (tbl_cons rZero_C (tbl_cons rAt_C (tbl_cons r2Mul_C (tbl_cons r2Add_C tbl_nil)))))) ?_
    have c3 : (k : Int) + 1 = ((k + 1 : Nat) : Int) := by omega
    have c5 : (a.length : Int) + (b.length : Int) = ((a.length + b.length : Nat) : Int) := by omega
    have r1 : -9223372036854775808 ≤ ((k + 1 : Nat) : Int) ∧ ((k + 1 : Nat) : Int) ≤ 9223372036854775807 := by omega
    have r2 : -9223372036854775808 ≤ ((a.length + b.length : Nat) : Int) ∧ ((a.length + b.length : Nat) : Int) ≤ 9223372036854775807 := by omega
    by_cases hin : k + 1 < a.length + b.length
    · have c1 : ((k + 1 : Nat) : Int) < ((a.length + b.length : Nat) : Int) := by omega
      simp only [go_sem, c1, c3, c5, r1, r2]
      refine AWp.loops (X := { i : Nat // i ≤ k + 1 }) (fun i => mkSt [(0, .lst (V.rats a)), (1, .lst (V.rats b)), (4, .raw (.slice none 0 0)), (5, .sl 0 4 0 k), (6, .raw (.int .i64 (k : Nat))), (7, .ptr 1 4 0 0), (8, .raw (.int .i64 (i.1 : Nat)))] [(0, true, ⟨51, 4, V.rats (rg F k)⟩), (1, false, ⟨51, 4, [.Q (cvS a b k i.1)]⟩)] 2 43) (fun i => k + 1 - i.1) ⟨0, Nat.zero_le _⟩ (Wk.of [0, 10] (by decide) ?_) ?_
      · simp only [go_sem, Int.natCast_zero]
        exact renV_pure rfl
      · rintro ⟨i, hi⟩
        refine vc_at (tabs mixed (tbl_cons rTrim_C (tbl_cons rZero_C (tbl_cons rAt_C (tbl_cons r2Mul_C (tbl_cons r2Add_C tbl_nil)))))) ?_
        by_cases hik : i ≤ k
        · have d1 : (i : Int) ≤ (k : Int) := by omega
          have d2 : (k : Int) - (i : Int) = ((k - i : Nat) : Int) := by omega
          have d3 : (i : Int) + 1 = ((i + 1 : Nat) : Int) := by omega
          have l0 := lt0 i
          have l1 := lt0 (k - i)
          have q1 := pa i
          have q2 := pb (k - i)
          have q3 : qs (cvS a b k i) ≤ 5000000000000 := by
            have h1 := cvS_qs ha hb k i
            have h2 := Nat.mul_le_mul_right (j + k' + 1) (show min i a.length ≤ a.length by omega)
            omega
          have q4 : qs (cf a i * cf b (k - i)) ≤ 5000000000000 := by
            by_cases hia : i < a.length
            · have h1 := qs_mul (cf a i) (cf b (k - i))
              have h2 := ha i
              have h3 := hb (k - i)
              have h4 := Nat.mul_le_mul_right (j + k' + 1) (show 1 ≤ a.length by omega)
              omega
            · rw [cf_ge (l := a) (by omega), Rat.zero_mul]
              exact Nat.le_trans qs_0 (by decide)
          simp only [go_sem, d1, d2, d3, l0, l1, q1, q2, q3, q4, Int.toNat_natCast]
          refine ⟨⟨by omega, by omega⟩, by rfl, ⟨by omega, by omega⟩, ⟨i + 1, by omega⟩, Wk.of [0, 1] (by decide) ?_, by simp only; omega⟩
          have f2 : cvS a b k (i + 1) = cvS a b k i + cf a i * cf b (k - i) := rfl
          simp only [go_sem, f2]
          exact renV_pure rfl
        · obtain rfl : i = k + 1 := by omega
          have d1 : ¬ ((k + 1 : Nat) : Int) ≤ (k : Int) := by omega
          have f1 : cvS a b k (k + 1) = F k := by rw [hF]
          simp only [go_sem, d1, c3, f1, rg_snoc, mx]
          refine ⟨⟨by omega, by omega⟩, ⟨by omega, by omega⟩, ⟨k + 1, by omega⟩, Wk.of [8] (by decide) ?_, by simp only; omega⟩
          simp only [go_sem]
    · obtain rfl : k = a.length + b.length - 1 := by omega
      have c1 : ¬ ((a.length + b.length - 1 + 1 : Nat) : Int) < ((a.length + b.length : Nat) : Int) := by omega
      have c6 : ((a.length + b.length - 1 : Nat) : Int) + 1 = ((a.length + b.length - 1 + 1 : Nat) : Int) := by omega
      simp only [go_sem, c1, c5, c6, r1, r2]
      omega
end Go.Proofs.YthhpmapbhdebeaaGreat


/- Contracts: the reference of package poly, division. -/
namespace Go.Proofs.YthhpmapbhdebeaaGreat
set_option linter.unusedSimpArgs false
set_option linter.unusedVariables false
open Go.RowKit

/-- The sizes while a division is under way. -/
structure DmI (b : List Rat) (t K N : Nat) (q r : List Rat) : Prop where
  cr : Can r
  lr : r.length ≤ N
  lq : q.length ≤ N + 1
  pq : PB q K
  zq : ∀ i, i + b.length ≤ r.length → cf q i = 0
  sz : ∃ s Z, PB r s ∧ s + 2 * t + 1 ≤ Z ∧ 2 ^ (r.length + 1 - b.length) * Z ≤ K
theorem dm_one {b q r : List Rat} {t K N : Nat} (hb : Can b) (h0 : b ≠ []) (hbt : PB b t) (h : DmI b t K N q r) (hl : b.length ≤ r.length) :
    DmI b t K N (pAdd q (mon (lead r / lead b) (r.length - b.length))) (pSub r (pMul (mon (lead r / lead b) (r.length - b.length)) b)) ∧ (pSub r (pMul (mon (lead r / lead b) (r.length - b.length)) b)).length < r.length ∧
      ∃ s, (PB r s ∧ qs (lead r / lead b) ≤ s + t) ∧ (r.length - b.length + 1) * (s + t + t + 1) ≤ K ∧ s + 2 * t + 1 ≤ K := by
  obtain ⟨cr, lr, lq, hq, hqz, s, Z, hs, hz, hk⟩ := h
  have hZK : Z ≤ K := Nat.le_trans (Nat.le_mul_of_pos_left Z (Nat.two_pow_pos _)) hk
  have hbl := List.length_pos_iff.2 h0
  have hst := dm_step cr hb h0 hl
  obtain ⟨c, hc⟩ : ∃ c, lead r / lead b = c := ⟨_, rfl⟩
  obtain ⟨k, hkk⟩ : ∃ k, r.length - b.length = k := ⟨_, rfl⟩
  rw [hc, hkk] at hst ⊢
  have qc : qs c ≤ s + t := by rw [← hc]; exact Nat.le_trans (qs_div _ _) (Nat.add_le_add (hs _) (hbt _))
  have pr : PB (pSub r (pMul (mon c k) b)) (2 * s + 2 * t + 1) := fun i => by
    rw [cf_pSub]
    unfold pMul
    rw [cf_tr, cf_mon_mul]
    have h1 := qs_sub (cf r i) (if k ≤ i then c * cf b (i - k) else 0)
    have h2 : qs (if k ≤ i then c * cf b (i - k) else 0) ≤ s + 2 * t := by
      split
      · have := qs_mul c (cf b (i - k)); have := hbt (i - k); omega
      · have := qs_0; have := hs.pos; omega
    have := hs i
    omega
  have lm := mon_len c k
  have la := len_pAdd q (mon c k)
  refine ⟨⟨can_pSub _ _, by omega, by omega, fun i => ?_, fun i hi => ?_, 2 * s + 2 * t + 1, 2 * Z, pr, by omega, ?_⟩, hst, s, ⟨hs, qc⟩, ?_, by omega⟩
  · rw [cf_pAdd]
    by_cases e : i = k
    · subst e
      rw [mon_top, hqz i (by omega), Rat.zero_add]
      omega
    · rw [mon_low c k i e, Rat.add_zero]
      exact hq i
  · rw [cf_pAdd, mon_low c k i (by omega), hqz i (by omega), Rat.add_zero]
  · generalize (pSub r (pMul (mon c k) b)).length = m at hst
    have e : 2 ^ (m + 1 - b.length) * (2 * Z) = 2 ^ (m + 1 - b.length + 1) * Z := by rw [Nat.pow_succ, Nat.mul_assoc]
    rw [e]
    exact Nat.le_trans (Nat.mul_le_mul_right Z (Nat.pow_le_pow_right (by decide) (by omega))) hk
  · refine Nat.le_trans (Nat.mul_le_mul (show k + 1 ≤ 2 ^ (r.length + 1 - b.length) from ?_) (show s + t + t + 1 ≤ Z by omega)) hk
    rw [show r.length + 1 - b.length = k + 1 from by omega]
    exact Nat.le_of_lt Nat.lt_two_pow_self
theorem mon_PB {c : Rat} {k K : Nat} (h : qs c ≤ K) (hK : 1 ≤ K) : PB (mon c k) K := fun i => by
  by_cases e : i = k
  · subst e; rw [mon_top]; exact h
  · rw [mon_low c k i e]; exact Nat.le_trans qs_0 hK
theorem tr_mon {c : Rat} (k : Nat) (hc : c ≠ 0) : tr (mon c k) = mon c k := ev_inj (tr_can _) (mon_can k hc) fun x => ev_tr _ x
def dmS (b : List Rat) : Bool → List Rat → List Rat → St
  | true, _, r => mkSt [(1, .lst (V.rats b)), (4, .raw (.slice none 0 0)), (5, .raw (.slice none 0 0)), (6, .raw (.int .i64 0)), (7, .sl 0 4 0 0), (8, .lst (V.rats r))] [(0, true, ⟨51, 4, []⟩)] 1 42
  | false, q, r => mkSt [(1, .lst (V.rats b)), (4, .raw (.slice none 0 0)), (5, .raw (.slice none 0 0)), (6, .raw (.int .i64 0)), (7, .lst (V.rats q)), (8, .lst (V.rats r))] [] 0 42
set_option maxRecDepth 4000 in
theorem rDM_C : Ctr Tryz.prog 40 kDM := Ctr.c2 (by kernel_rfl) fun a b h => by
  obtain ⟨⟨ca, cb⟩, hl, s0, t, ⟨ha, hb⟩, hs⟩ := h
  show PCall _ _ _ (dmP a b)
  refine PCall.of_vc (tabs mixed (tbl_cons rLead_C (tbl_cons rInv_C (tbl_cons r2Mul_C (tbl_cons rPower_C (tbl_cons rAdd_C (tbl_cons rSub_C (tbl_cons rPMul_C tbl_nil)))))))) Tryz.func40 rfl Tryz.ntmps40 Tryz.results40 (by simp) ?_
  by_cases b0 : b = []
  · have e1 : dmP a b = .tup [.lst (V.rats []), .lst (V.rats []), .raw (.int .i64 3)] := if_pos b0
    have l1 : ((b.length : Int) == 0) = true := by rw [beq_len0]; exact decide_eq_true b0
    simp only [go_sem, l1, e1]
    exact .refl _
  · have e1 : dmP a b = .tup [.lst (V.rats (pDiv a b)), .lst (V.rats (pMod a b)), .raw (.int .i64 0)] := if_neg b0
    have l1 : ((b.length : Int) == 0) = false := by rw [beq_len0]; exact decide_eq_false b0
    have hbl := List.length_pos_iff.2 b0
    simp only [go_sem, l1]
    rw [e1]
    obtain ⟨K, eK⟩ : ∃ K, 2 ^ (a.length - b.length + 1) * (s0 + 2 * t + 1) = K := ⟨_, rfl⟩
    rw [eK] at hs
    refine AWp.loops (X := { p : Bool × List Rat × List Rat // (p.1 = true → p.2.1 = []) ∧ DmI b t K a.length p.2.1 p.2.2 ∧ ∃ n, p.2.2.length ≤ n ∧ dmF n p.2.1 p.2.2 b = (pDiv a b, pMod a b) }) (fun p => dmS b p.1.1 p.1.2.1 p.1.2.2) (fun p => p.1.2.2.length)
      ⟨(true, [], a), fun _ => rfl, ⟨ca, Nat.le_refl _, Nat.zero_le _, PB_nil (by rw [← eK]; exact Nat.mul_pos (Nat.two_pow_pos _) (by omega)), fun i _ => rfl, s0, s0 + 2 * t + 1, ha, Nat.le_refl _, by rw [← eK]; exact Nat.mul_le_mul_right _ (Nat.pow_le_pow_right (by decide) (show a.length + 1 - b.length ≤ a.length - b.length + 1 by omega))⟩, a.length, Nat.le_refl _, rfl⟩ (Wk.of [6] (by decide) ?_) ?_
    · simp only [go_sem]
    · rintro ⟨⟨f, q, r⟩, hf, hI, n, hn, hdm⟩
      simp only at hf hI hn hdm
      by_cases hlt : b.length ≤ r.length
      · obtain ⟨hI', hlen, s, ⟨hrs, hqc⟩, hk1, hk2⟩ := dm_one cb b0 hb hI hlt
        have c1 : (b.length : Int) ≤ (r.length : Int) := by omega
        have r0 : r ≠ [] := fun e => by rw [e] at hlt; simp only [List.length_nil] at hlt; omega
        have lr := lead_ne hI.cr r0
        have lb := lead_ne cb b0
        have cne : lead r / lead b ≠ 0 := by grind
        have f1 : lead r * (1 / lead b) = lead r / lead b := by grind
        have f2 : (r.length : Int) - (b.length : Int) = ((r.length - b.length : Nat) : Int) := by omega
        have f3 := tr_mon (r.length - b.length) cne
        have f4 := hI.lr
        have f5 := hI.lq
        have q1 : qs (lead r) ≤ 5000000000000 := Nat.le_trans (hrs _) (by omega)
        have q2 : qs (lead b) ≤ 5000000000000 := Nat.le_trans (hb _) (by omega)
        have q3 : qs (1 / lead b) ≤ 5000000000000 := Nat.le_trans (qs_inv1 _ (hb _)) (by omega)
        have m0 : r.length ≤ 1000000 := by omega
        have m1 : b.length ≤ 1000000 := by omega
        have m2 : q.length ≤ 1000000 := by omega
        have pm := mon_PB (k := r.length - b.length) hqc (by have := hrs.pos; omega)
        have m3 : (mon (lead r / lead b) (r.length - b.length)).length ≤ 1000000 := by rw [mon_len]; omega
        have m4 : PB (mon (lead r / lead b) (r.length - b.length)) 5000000000000 := pm.mono (by omega)
        have m5 : PB q 5000000000000 := hI.pq.mono (by omega)
        have m6 : PB r 5000000000000 := hrs.mono (by omega)
        have m7 : PB b 5000000000000 := hb.mono (by omega)
        have m8 : ∃ j k, (PB (mon (lead r / lead b) (r.length - b.length)) j ∧ PB b k) ∧ (mon (lead r / lead b) (r.length - b.length)).length * (j + k + 1) ≤ 4999999999999 := ⟨s + t, t, ⟨pm, hb⟩, by rw [mon_len]; omega⟩
        have m9 : PB (pMul (mon (lead r / lead b) (r.length - b.length)) b) 5000000000000 := fun i => by
          unfold pMul
          rw [cf_tr]
          have h1 := mulL_PB hb pm i
          rw [mon_len] at h1
          omega
        have m10 : (pMul (mon (lead r / lead b) (r.length - b.length)) b).length ≤ 1000000 := Nat.le_trans (len_pMul_le _ _) (by rw [mon_len]; omega)
        have m11 : (mon (lead r / lead b) (r.length - b.length)).length + b.length ≤ 1000000 := by rw [mon_len]; omega
        have f6 : ((r.length - b.length : Nat) : Int).toNat = r.length - b.length := Int.toNat_natCast _
        have f7 : (0 : Int) ≤ ((r.length - b.length : Nat) : Int) ∧ ((r.length - b.length : Nat) : Int) ≤ 1000000 := by omega
        have nx : ∃ n, (pSub r (pMul (mon (lead r / lead b) (r.length - b.length)) b)).length ≤ n ∧ dmF n (pAdd q (mon (lead r / lead b) (r.length - b.length))) (pSub r (pMul (mon (lead r / lead b) (r.length - b.length)) b)) b = (pDiv a b, pMod a b) := by
          rcases n with _ | n
          · omega
          · refine ⟨n, by omega, ?_⟩
            rw [← hdm]
            exact (if_neg (by omega)).symm
        obtain ⟨c, ec⟩ : ∃ c, lead r / lead b = c := ⟨_, rfl⟩
        obtain ⟨k, ek⟩ : ∃ k, r.length - b.length = k := ⟨_, rfl⟩
        rw [ec] at f1 f3 m3 m4 m8 m9 m10 m11 nx hI' hlen
        rw [ek] at f2 f3 f6 f7 m3 m4 m8 m9 m10 m11 nx hI' hlen
        obtain ⟨m, em⟩ : ∃ m, mon c k = m := ⟨_, rfl⟩
        rw [em] at f3 m3 m4 m8 m9 m10 m11 nx hI' hlen
        have f3' : tr (mon c k) = m := by rw [em]; exact f3
        cases f with
        | true =>
          have q0 : q = [] := hf rfl
          subst q0
          refine vc_at (tabs mixed (tbl_cons rLead_C (tbl_cons rInv_C (tbl_cons r2Mul_C (tbl_cons rPower_C (tbl_cons rAdd_C (tbl_cons rSub_C (tbl_cons rPMul_C tbl_nil)))))))) ?_
          simp only [go_sem, c1, f1, f2, f3', f6, f7, q1, q2, q3, m0, m1, m2, m3, m4, m5, m6, m7, m8, m9, m10, m11]
          refine ⟨⟨by omega, by omega⟩, ⟨(false, pAdd [] m, pSub r (pMul m b)), fun e => (by cases e), hI', nx⟩, Wk.of [] (by decide) ?_, hlen⟩
          simp only [go_sem]
        | false =>
          refine vc_at (tabs mixed (tbl_cons rLead_C (tbl_cons rInv_C (tbl_cons r2Mul_C (tbl_cons rPower_C (tbl_cons rAdd_C (tbl_cons rSub_C (tbl_cons rPMul_C tbl_nil)))))))) ?_
          simp only [go_sem, c1, f1, f2, f3', f6, f7, q1, q2, q3, m0, m1, m2, m3, m4, m5, m6, m7, m8, m9, m10, m11]
          refine ⟨⟨by omega, by omega⟩, ⟨(false, pAdd q m, pSub r (pMul m b)), fun e => (by cases e), hI', nx⟩, Wk.of [] (by decide) ?_, hlen⟩
          simp only [go_sem]
      · have c1 : ¬ (b.length : Int) ≤ (r.length : Int) := by omega
        have e2 : (q, r) = (pDiv a b, pMod a b) := by
          rw [← hdm]
          rcases n with _ | n
          · rfl
          · exact (if_pos (by omega)).symm
        injection e2 with e3 e4
        cases f with
        | true =>
          have q0 : q = [] := hf rfl
          subst q0
          refine vc_at (tabs mixed (tbl_cons rLead_C (tbl_cons rInv_C (tbl_cons r2Mul_C (tbl_cons rPower_C (tbl_cons rAdd_C (tbl_cons rSub_C (tbl_cons rPMul_C tbl_nil)))))))) ?_
          simp only [go_sem, c1, ← e3, ← e4]
          exact .refl _
        | false =>
          refine vc_at (tabs mixed (tbl_cons rLead_C (tbl_cons rInv_C (tbl_cons r2Mul_C (tbl_cons rPower_C (tbl_cons rAdd_C (tbl_cons rSub_C (tbl_cons rPMul_C tbl_nil)))))))) ?_
          simp only [go_sem, c1, ← e3, ← e4]
def kRest : Con := con2 pR pR fun a b => (DvOk a b ∧ b ≠ [], .lst (V.rats (pMod a b)))
attribute [go_sem ↓, go_sem] kRest
theorem rRest_C : Ctr Tryz.prog 60 kRest := Ctr.c2 (by kernel_rfl) fun a b h => by
  obtain ⟨hd, b0⟩ := h
  show PCall _ _ _ (.lst (V.rats (pMod a b)))
  have e1 : dmP a b = .tup [.lst (V.rats (pDiv a b)), .lst (V.rats (pMod a b)), .raw (.int .i64 0)] := if_neg b0
  refine PCall.of_vc (tabs mixed (tbl_cons rDM_C tbl_nil)) Tryz.func60 rfl Tryz.ntmps60 Tryz.results60 (by simp) ?_
  simp only [go_sem, e1, hd]
theorem rGcd_C : Ctr Tryz.prog 17 kPGcd := Ctr.c2 (by kernel_rfl) fun a b h => by
  obtain ⟨n, hn⟩ := h
  show PCall _ _ _ (.lst (V.rats (pGcd a b)))
  refine PCall.of_vc (tabs mixed (tbl_cons rRest_C (tbl_cons rMonic_C tbl_nil))) Tryz.func17 rfl Tryz.ntmps17 Tryz.results17 (by simp) ?_
  simp only [go_sem]
  refine AWp.loops (X := { p : Nat × List Rat × List Rat // GcOk p.1 p.2.1 p.2.2 ∧ pGcd p.2.1 p.2.2 = pGcd a b })
    (fun p => mkSt [(0, .lst (V.rats p.1.2.1)), (1, .lst (V.rats p.1.2.2)), (4, .raw (.slice none 0 0))] [] 0 16)
    (fun p => p.1.1) ⟨(n, a, b), hn, rfl⟩ (Wk.of [] (by decide) ?_) ?_
  · simp only [go_sem]
  · rintro ⟨⟨m, x, y⟩, hm, he⟩
    simp only at hm he
    refine vc_at (tabs mixed (tbl_cons rRest_C (tbl_cons rMonic_C tbl_nil))) ?_
    rcases m with _ | m
    · exact hm.elim
    · obtain ⟨hd, hm⟩ := hm
      by_cases y0 : y = []
      · subst y0
        rw [if_pos rfl] at hm
        obtain ⟨s, h1, h2⟩ := hm
        have hc : Can x := hd.1.1
        have hl : x.length ≤ 1000000 := by have := hd.2.1; omega
        have e0 : pMonic x = pGcd a b := by rw [← he]; rfl
        have w : ∃ s, PB x s ∧ s ≤ 2500000000000 := ⟨s, h1, h2⟩
        simp only [go_sem, hc, hl, w, e0, List.length_nil, Int.natCast_zero]
      · rw [if_neg y0] at hm
        have c1 : (0 : Int) < (y.length : Int) := (len0 y).2 y0
        have e2 : pGcd y (pMod x y) = pGcd a b := by
          rw [← he]
          show pMonic (pG y (pMod x y)) = pMonic (pG x y)
          rw [pG_step hd.1.1 hd.1.2 y0]
        simp only [go_sem, c1, hd, y0]
        refine ⟨⟨(m, y, pMod x y), hm, e2⟩, Wk.of [] (by decide) ?_, Nat.lt_succ_self m⟩
        simp only [go_sem]
end Go.Proofs.YthhpmapbhdebeaaGreat


/- Sizes of the squarefree part of a small polynomial. No program in sight. -/
namespace Go.Proofs.YthhpmapbhdebeaaGreat
set_option linter.unusedSimpArgs false
set_option linter.unusedVariables false
open Go.RowKit

theorem len_pDiff {a : List Rat} (ha : Can a) : (pDiff a).length = a.length - 1 := by
  have hc := can_pDiff a
  by_cases h : a.length ≤ 1
  · have : pDiff a = [] := ev_inj hc Can_nil fun x => by
      rw [ev_pDiff]
      match a, h with
      | [], _ => rfl
      | [c], _ =>
        rw [show dL [c] = dL [c] from rfl, ev_dL_cons]
        show 0 + x * 0 = 0
        grind
    rw [this]
    show 0 = _
    omega
  · have h1 : ¬ (pDiff a).length < a.length - 1 := fun hlt => by
      have e1 := cf_pDiff a (a.length - 2)
      rw [cf_ge (l := pDiff a) (by omega), show a.length - 2 + 1 = a.length - 1 from by omega] at e1
      have e2 := ha (fun e => by rw [e] at h; simp at h)
      have e3 : ((a.length - 1 : Nat) : Rat) ≠ 0 := fun e => by
        have : a.length - 1 = 0 := by exact_mod_cast e
        omega
      rcases Rat.mul_eq_zero.1 e1.symm with e | e
      · exact e3 e
      · exact e2 e
    have h2 : ¬ a.length - 1 < (pDiff a).length := fun hlt => by
      have h3 := hc (fun e => by rw [e] at hlt; simp at hlt)
      rw [cf_pDiff, cf_ge (l := a) (by omega), Rat.mul_zero] at h3
      exact h3 rfl
    omega
theorem pMonic_one {g : List Rat} (hg : Can g) (h : g.length = 1) : pMonic g = [1] := by
  have g0 : g ≠ [] := fun e => by rw [e] at h; simp at h
  match g, h with
  | [c], _ =>
    have hc : c ≠ 0 := hg g0
    refine ev_inj (can_pMonic _) can_one fun x => ?_
    rw [ev_pMonic g0]
    show 1 / c * (c + x * 0) = 1 + x * 0
    grind
theorem pDiv_one {a : List Rat} (ha : Can a) : pDiv a [1] = a := (dm_eq ha can_one ha Can_nil (by decide) fun x => by
  show ev a x * (1 + x * 0) + 0 = ev a x
  grind).1
end Go.Proofs.YthhpmapbhdebeaaGreat


/- Sizes along Euclid's algorithm, by computation over all lengths. No program in sight. -/
namespace Go.Proofs.YthhpmapbhdebeaaGreat
set_option linter.unusedSimpArgs false
set_option linter.unusedVariables false
open Go.RowKit

/-- The size of a remainder. -/
def rmB (la sa lb sb : Nat) : Nat := 2 ^ (la - lb + 1) * (sa + 2 * sb + 1) - (2 * sb + 1)
def dvC (la sa lb sb : Nat) : Bool := decide (la + lb ≤ 1000000) && decide (2 ^ (la - lb + 1) * (sa + 2 * sb + 1) ≤ 2500000000000)
theorem dvC_ok {la sa lb sb : Nat} {a b : List Rat} (h : dvC la sa lb sb = true) (ha : Can a) (hb : Can b) (la' : a.length ≤ la) (lb' : b.length = lb) (pa : PB a sa) (pb : PB b sb) : DvOk a b := by
  simp only [dvC, Bool.and_eq_true, decide_eq_true_eq] at h
  subst lb'
  exact ⟨⟨ha, hb⟩, by omega, sa, sb, ⟨pa, pb⟩, Nat.le_trans (Nat.mul_le_mul_right _ (Nat.pow_le_pow_right (by decide) (by omega))) h.2⟩
theorem rm_PB {a b : List Rat} {sa sb : Nat} (ha : Can a) (hb : Can b) (b0 : b ≠ []) (pa : PB a sa) (pb : PB b sb) : PB (pMod a b) (rmB a.length sa b.length sb) := mod_PB ha hb b0 pa pb (Nat.le_refl _)
/-- Whether all lengths below a bound pass. -/
def allB : Nat → (Nat → Bool) → Bool
  | 0, _ => true
  | n + 1, f => f n && allB n f
theorem allB_ok : ∀ {n : Nat} {f : Nat → Bool}, allB n f = true → ∀ i, i < n → f i = true
  | n + 1, f, h, i, hi => by
    simp only [allB, Bool.and_eq_true] at h
    by_cases e : i = n
    · rw [e]; exact h.1
    · exact allB_ok h.2 i (by omega)
def mxB : Nat → (Nat → Nat) → Nat
  | 0, _ => 0
  | n + 1, f => max (f n) (mxB n f)
theorem mxB_ok : ∀ {n : Nat} {f : Nat → Nat}, ∀ i, i < n → f i ≤ mxB n f
  | n + 1, f, i, hi => by
    simp only [mxB]
    by_cases e : i = n
    · rw [e]; omega
    · have := mxB_ok (f := f) i (show i < n by omega); omega
end Go.Proofs.YthhpmapbhdebeaaGreat


/- Polynomials over the rational numbers: residues. No program in sight. -/
namespace Go.Proofs.YthhpmapbhdebeaaGreat
set_option linter.unusedSimpArgs false
set_option linter.unusedVariables false
open Go.RowKit

end Go.Proofs.YthhpmapbhdebeaaGreat

