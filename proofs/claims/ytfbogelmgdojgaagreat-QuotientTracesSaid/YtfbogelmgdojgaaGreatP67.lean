/- Texts H8 in one. -/
import Derived.Test.YtfbogelmgdojgaaGreatP66
/- Contracts: the reference of package poly, products and values. -/
namespace Go.Proofs.YtfbogelmgdojgaaGreat
set_option linter.unusedSimpArgs false
set_option linter.unusedVariables false
open Go.RowKit

/-- The first terms of a coefficient of a product. -/
def cvS (a b : List Rat) (k : Nat) : Nat → Rat
  | 0 => 0
  | j + 1 => cvS a b k j + cf a j * cf b (k - j)
theorem cvS_nil (b : List Rat) (k : Nat) : ∀ j, cvS [] b k j = 0
  | 0 => rfl
  | j + 1 => by
    show cvS [] b k j + 0 * cf b (k - j) = 0
    rw [cvS_nil b k j]; grind
theorem cvS_cons (x : Rat) (a b : List Rat) (k : Nat) : ∀ j, cvS (x :: a) b (k + 1) (j + 1) = x * cf b (k + 1) + cvS a b k j
  | 0 => by
    show 0 + x * cf b (k + 1) = x * cf b (k + 1) + 0
    grind
  | j + 1 => by
    have ih := cvS_cons x a b k j
    show cvS (x :: a) b (k + 1) (j + 1) + cf a j * cf b (k + 1 - (j + 1)) = x * cf b (k + 1) + (cvS a b k j + cf a j * cf b (k - j))
    rw [ih, show k + 1 - (j + 1) = k - j from by omega]; grind
theorem cvS_mul : ∀ (a b : List Rat) (k : Nat), cvS a b k (k + 1) = cf (mulL a b) k
  | [], b, k => by rw [cvS_nil]; rfl
  | x :: a, b, 0 => by
    rw [cf_mulL_cons]
    show 0 + x * cf b 0 = x * cf b 0 + 0
    grind
  | x :: a, b, k + 1 => by
    rw [cvS_cons, cf_mulL_cons, cvS_mul a b k, if_neg (by omega), Nat.add_sub_cancel]
theorem cvS_qs {a b : List Rat} {j k : Nat} (ha : PB a j) (hb : PB b k) (m : Nat) : ∀ i, qs (cvS a b m i) ≤ min i a.length * (j + k + 1) + 1
  | 0 => Nat.le_trans qs_0 (by omega)
  | i + 1 => by
    have ih := cvS_qs ha hb m i
    show qs (cvS a b m i + cf a i * cf b (m - i)) ≤ _
    by_cases hi : i < a.length
    · have h1 := qs_add (cvS a b m i) (cf a i * cf b (m - i))
      have h2 := qs_mul (cf a i) (cf b (m - i))
      have h3 := ha i
      have h4 := hb (m - i)
      rw [show min (i + 1) a.length = i + 1 from by omega, Nat.add_mul]
      rw [show min i a.length = i from by omega] at ih
      omega
    · rw [cf_ge (l := a) (by omega), Rat.zero_mul, Rat.add_zero, show min (i + 1) a.length = min i a.length from by omega]
      exact ih
theorem mul_list (a b : List Rat) : tr (rg (fun k => cvS a b k (k + 1)) (a.length + b.length - 1)) = pMul a b := tr_of_cf fun i => by
  rw [cf_rg]
  split
  · exact cvS_mul a b i
  · rename_i h
    by_cases b0 : b = []
    · subst b0
      have e : cf (pMul a []) i = cf (mulL a []) i := by unfold pMul; rw [cf_tr]
      have e2 : pMul a [] = [] := ev_inj (can_pMul _ _) Can_nil fun x => by rw [ev_pMul]; show ev a x * 0 = 0; grind
      rw [← e, e2]; rfl
    · have := len_mulL a b b0
      by_cases a0 : a = []
      · subst a0; rfl
      · rw [if_neg a0] at this
        rw [cf_ge (by omega)]
def kPRMul : Con := con2 pR pR fun a b => ((a.length + b.length ≤ 1000000 ∧ PB a 10000000000 ∧ PB b 10000000000) ∧ ∃ j k, (PB a j ∧ PB b k) ∧ a.length * (j + k + 1) ≤ 9999999999, .lst (V.rats (pMul a b)))
attribute [go_sem ↓, go_sem] kPRMul
set_option maxRecDepth 4000 in
theorem rPMul_C : Ctr Tryz.prog 32 kPRMul := Ctr.c2 (by kernel_rfl) fun a b h => by
  obtain ⟨⟨hl, pa, pb⟩, j, k', ⟨ha, hb⟩, hs⟩ := h
  show PCall _ _ _ (.lst (V.rats (pMul a b)))
  rw [← mul_list]
  obtain ⟨F, hF⟩ : ∃ F : Nat → Rat, F = fun k => cvS a b k (k + 1) := ⟨_, rfl⟩
  rw [← hF]
  have mx : maxLen = 9223372036854775807 := by decide
  refine PCall.of_vc (tabs mixed (tbl_cons rTrim_C (tbl_cons rZero_C (tbl_cons rAt_C (tbl_cons r2Mul_C (tbl_cons r2Add_C tbl_nil)))))) Tryz.func32 rfl Tryz.ntmps32 Tryz.results32 (by simp) ?_
  simp only [go_sem]
  refine AWp.loops (X := { k : Nat // k ≤ a.length + b.length - 1 }) (fun k => mkSt [(0, .lst (V.rats a)), (1, .lst (V.rats b)), (4, .raw (.slice none 0 0)), (5, .sl 0 4 0 k.1), (6, .raw (.int .i64 (k.1 : Nat)))] [(0, true, ⟨45, 4, V.rats (rg F k.1)⟩)] 1 43) (fun k => a.length + b.length - k.1) ⟨0, Nat.zero_le _⟩ (Wk.of [1] (by decide) ?_) ?_
  · simp only [go_sem, rg_0, rats_0, Int.natCast_zero]
  · rintro ⟨k, hk⟩
    refine vc_at (tabs mixed (tbl_cons rTrim_C (tbl_cons rZero_C (tbl_cons rAt_C (tbl_cons r2Mul_C (tbl_cons r2Add_C tbl_nil)))))) ?_
    have c3 : (k : Int) + 1 = ((k + 1 : Nat) : Int) := by omega
    have c5 : (a.length : Int) + (b.length : Int) = ((a.length + b.length : Nat) : Int) := by omega
    have r1 : -9223372036854775808 ≤ ((k + 1 : Nat) : Int) ∧ ((k + 1 : Nat) : Int) ≤ 9223372036854775807 := by omega
    have r2 : -9223372036854775808 ≤ ((a.length + b.length : Nat) : Int) ∧ ((a.length + b.length : Nat) : Int) ≤ 9223372036854775807 := by omega
    by_cases hin : k + 1 < a.length + b.length
    · have c1 : ((k + 1 : Nat) : Int) < ((a.length + b.length : Nat) : Int) := by omega
      simp only [go_sem, c1, c3, c5, r1, r2]
      refine AWp.loops (X := { i : Nat // i ≤ k + 1 }) (fun i => mkSt [(0, .lst (V.rats a)), (1, .lst (V.rats b)), (4, .raw (.slice none 0 0)), (5, .sl 0 4 0 k), (6, .raw (.int .i64 (k : Nat))), (7, .ptr 1 4 0 0), (8, .raw (.int .i64 (i.1 : Nat)))] [(0, true, ⟨45, 4, V.rats (rg F k)⟩), (1, false, ⟨45, 4, [.Q (cvS a b k i.1)]⟩)] 2 43) (fun i => k + 1 - i.1) ⟨0, Nat.zero_le _⟩ (Wk.of [0, 10] (by decide) ?_) ?_
      · simp only [go_sem, Int.natCast_zero]
        exact renV_pure rfl
      · rintro ⟨i, hi⟩
        refine vc_at (tabs mixed (tbl_cons rTrim_C (tbl_cons rZero_C (tbl_cons rAt_C (tbl_cons r2Mul_C (tbl_cons r2Add_C tbl_nil)))))) ?_
        by_cases hik : i ≤ k
        · have d1 : (i : Int) ≤ (k : Int) := by omega
          have d2 : (k : Int) - (i : Int) = ((k - i : Nat) : Int) := by omega
          have d3 : (i : Int) + 1 = ((i + 1 : Nat) : Int) := by omega
          have l0 := lt0 i
          have l1 := lt0 (k - i)
          have q1 := pa i
          have q2 := pb (k - i)
          have q3 : qs (cvS a b k i) ≤ 10000000000 := by
            have h1 := cvS_qs ha hb k i
            have h2 := Nat.mul_le_mul_right (j + k' + 1) (show min i a.length ≤ a.length by omega)
            omega
          have q4 : qs (cf a i * cf b (k - i)) ≤ 10000000000 := by
            by_cases hia : i < a.length
            · have h1 := qs_mul (cf a i) (cf b (k - i))
              have h2 := ha i
              have h3 := hb (k - i)
              have h4 := Nat.mul_le_mul_right (j + k' + 1) (show 1 ≤ a.length by omega)
              omega
            · rw [cf_ge (l := a) (by omega), Rat.zero_mul]
              exact Nat.le_trans qs_0 (by decide)
          simp only [go_sem, d1, d2, d3, l0, l1, q1, q2, q3, q4, Int.toNat_natCast]
          refine ⟨⟨by omega, by omega⟩, by rfl, ⟨by omega, by omega⟩, ⟨i + 1, by omega⟩, Wk.of [0, 1] (by decide) ?_, by simp only; omega⟩
          have f2 : cvS a b k (i + 1) = cvS a b k i + cf a i * cf b (k - i) := rfl
          simp only [go_sem, f2]
          exact renV_pure rfl
        · obtain rfl : i = k + 1 := by omega
          have d1 : ¬ ((k + 1 : Nat) : Int) ≤ (k : Int) := by omega
          have f1 : cvS a b k (k + 1) = F k := by rw [hF]
          simp only [go_sem, d1, c3, f1, rg_snoc, mx]
          refine ⟨⟨by omega, by omega⟩, ⟨by omega, by omega⟩, ⟨k + 1, by omega⟩, Wk.of [8] (by decide) ?_, by simp only; omega⟩
          simp only [go_sem]
    · obtain rfl : k = a.length + b.length - 1 := by omega
      have c1 : ¬ ((a.length + b.length - 1 + 1 : Nat) : Int) < ((a.length + b.length : Nat) : Int) := by omega
      have c6 : ((a.length + b.length - 1 : Nat) : Int) + 1 = ((a.length + b.length - 1 + 1 : Nat) : Int) := by omega
      simp only [go_sem, c1, c5, c6, r1, r2]
      omega
theorem rEval_C : Ctr Tryz.prog 43 kPEval := Ctr.c2 (by kernel_rfl) fun a x h => by
  obtain ⟨⟨hl, hb, hx⟩, he⟩ := h
  show PCall _ _ _ (.Q (ev a x))
  refine PCall.of_vc (tabs mixed (tbl_cons rZero_C (tbl_cons r2Mul_C (tbl_cons r2Add_C tbl_nil)))) Tryz.func43 rfl Tryz.ntmps43 Tryz.results43 (by simp) ?_
  simp only [go_sem]
  refine ⟨⟨by omega, by omega⟩, ?_⟩
  refine AWp.loops (X := { n : Nat // n ≤ a.length }) (fun n => mkSt [(0, .lst (V.rats a)), (3, .ptr 0 4 0 0), (4, .ptr 1 4 0 0), (5, .ptr 2 4 0 0), (6, .raw (.int .i64 ((a.length : Int) - 1 - (n.1 : Nat))))] [(0, false, ⟨45, 4, [.Q x]⟩), (1, false, ⟨45, 4, [.agg [.raw (.bool false), .raw (.slice none 0 0), .raw (.bool false), .raw (.slice none 0 0)]]⟩), (2, false, ⟨45, 4, [.Q (ev (a.drop (a.length - n.1)) x)]⟩)] 3 24) (fun n => a.length - n.1) ⟨0, Nat.zero_le _⟩ (Wk.of [0, 1, 3] (by decide) ?_) ?_
  · have e0 : ev (List.drop (a.length - 0) a) x = 0 := by simp [ev]
    simp only [go_sem, e0, Int.natCast_zero, Int.sub_zero]
    refine ⟨renV_pure rfl, renV_pure rfl, ?_⟩
    rw [show List.drop a.length a = List.drop (a.length - 0) a from rfl, e0]
    exact renV_pure rfl
  · rintro ⟨n, hn⟩
    refine vc_at (tabs mixed (tbl_cons rZero_C (tbl_cons r2Mul_C (tbl_cons r2Add_C tbl_nil)))) ?_
    by_cases hlt : n < a.length
    · have e1 : (a.length : Int) - 1 - (n : Nat) = ((a.length - 1 - n : Nat) : Int) := by omega
      have e2 : (0 : Int) ≤ ((a.length - 1 - n : Nat) : Int) := by omega
      have f1 := he (a.length - n)
      have f2 := hb (a.length - 1 - n)
      simp only [go_sem, e1, e2, f1.1, f1.2, f2, hx]
      have e3 : ev (a.drop (a.length - (n + 1))) x = ev (a.drop (a.length - n)) x * x + cf a (a.length - 1 - n) := by
        rw [ev_drop a x (n := a.length - (n + 1)) (by omega), show a.length - (n + 1) + 1 = a.length - n from by omega, show a.length - (n + 1) = a.length - 1 - n from by omega]
      have e4 : ((a.length - 1 - n : Nat) : Int) - 1 = (a.length : Int) - 1 - ((n + 1 : Nat) : Int) := by omega
      refine ⟨by omega, by omega, by rfl, ⟨by omega, by omega⟩, ⟨n + 1, hlt⟩, Wk.of [0, 1, 2] (by decide) ?_, by simp only; omega⟩
      simp only [go_sem, e3, e4]
      exact ⟨renV_pure rfl, renV_pure rfl, renV_pure rfl⟩
    · obtain rfl : n = a.length := by omega
      have e0 : ¬ (0 : Int) ≤ (a.length : Int) - 1 - (a.length : Nat) := by omega
      have e3 : a.length - a.length = 0 := by omega
      simp only [go_sem, e0, e3, List.drop_zero]
end Go.Proofs.YtfbogelmgdojgaaGreat
