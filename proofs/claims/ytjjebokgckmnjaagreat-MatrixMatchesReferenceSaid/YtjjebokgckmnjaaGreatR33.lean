/- Texts MR1 MR2 MR3 in one. -/
import Derived.Test.YtjjebokgckmnjaaGreatR32
/- Contracts: the reference's rows. -/
namespace Go.Proofs.YtjjebokgckmnjaaGreat
set_option linter.unusedSimpArgs false
set_option linter.unusedVariables false
open Go.RowKit

theorem r2Over_V (a b : Rat) (h1 : qs a ≤ 5000000000000) (h2 : qs b ≤ 5000000000000) (h0 : b ≠ 0) : PCall Tryz.prog 57 [.Q a, .Q b] (.Q (a / b)) := by
  have e1 : divR a b = .tup [.Q (a / b), .raw (.int .i64 0)] := if_neg h0
  refine PCall.of_vc (tabs mixed (tbl_cons r2Div_C tbl_nil)) Tryz.func57 rfl Tryz.ntmps57 Tryz.results57 (by simp) ?_
  simp only [go_sem, h1, h2, e1]
def kR2Over : Con := con2 pQ pQ fun a b => (qs a ≤ 5000000000000 ∧ qs b ≤ 5000000000000 ∧ b ≠ 0, .Q (a / b))
attribute [go_sem ↓, go_sem] kR2Over
theorem r2Over_C : Ctr Tryz.prog 57 kR2Over := Ctr.c2 (by kernel_rfl) fun a b h => r2Over_V a b h.1 h.2.1 h.2.2
def kCols5 : Con := con1 pMt fun M => (M.length ≤ 1000000, .raw (.int .i64 (wdt M : Nat)))
attribute [go_sem ↓, go_sem] kCols5
theorem cols5_C : Ctr Tryz.prog 26 kCols5 := Ctr.c1 (by kernel_rfl) fun M hl => by
  have hl : M.length ≤ 1000000 := hl
  refine PCall.of_vc (tabs mixed tbl_nil) Tryz.func26 rfl Tryz.ntmps26 Tryz.results26 (by simp) ?_
  by_cases h0 : M.length = 0
  · have d1 : ((M.length : Int) == 0) = true := by simp [h0]
    have e0 : wdt M = 0 := by rw [List.eq_nil_of_length_eq_zero h0]; rfl
    simp only [go_sem, d1, e0, Int.natCast_zero]
  · have d1 : ((M.length : Int) == 0) = false := by rw [beq_eq_false_iff_ne]; omega
    have h1 : 0 < M.length := by omega
    have e0 : (M.getD 0 []).length = wdt M := rfl
    simp only [go_sem, d1, h1, e0]
    omega
def kMinus5 : Con := con3 pR pR pQ fun a b c => ((a.length ≤ 1000000 ∧ a.length ≤ b.length) ∧ qs c ≤ 1000000000000 ∧ (∀ k, qs (cf a k) ≤ 1000000000000) ∧ ∀ k, qs (cf b k) ≤ 1000000000000, .lst (V.rats (rw2 a b c)))
attribute [go_sem ↓, go_sem] kMinus5
theorem minus5_C : Ctr Tryz.prog 46 kMinus5 := Ctr.c3 (by kernel_rfl) fun a b c h => by
  obtain ⟨⟨hl, hab⟩, hc, ha, hb⟩ := h
  have T := (tabs mixed (tbl_cons r2Mul_C (tbl_cons r2Sub_C tbl_nil)))
  have mx : maxLen = 9223372036854775807 := by decide
  show PCall _ _ _ (.lst (V.rats (rw2 a b c)))
  refine PCall.of_vc T Tryz.func46 rfl Tryz.ntmps46 Tryz.results46 (by simp) ?_
  unfold rw2
  obtain ⟨F, eF⟩ : ∃ F : Nat → Rat, F = fun k => cf a k - c * cf b k := ⟨_, rfl⟩
  rw [← eF]
  simp only [go_sem]
  refine AWp.loops (X := { i : Nat // i ≤ a.length }) (fun i => mkSt [(0, .lst (V.rats a)), (1, .lst (V.rats b)), (5, .ptr 1 4 0 0), (6, .raw (.slice none 0 0)), (7, .sl 0 4 0 i.1), (8, .raw (.int .i64 (i.1 : Nat)))] [(0, true, ⟨36, 4, V.rats (mkr F i.1)⟩), (1, true, ⟨36, 4, [.Q c]⟩)] 2 31) (fun i => a.length - i.1) ⟨0, Nat.zero_le _⟩ (Wk.of [2, 0] (by decide) ?_) ?_
  · have e0 : V.rats (mkr F 0) = [] := rfl
    simp only [go_sem, e0, Int.natCast_zero]
  rintro ⟨i, hi⟩
  refine vc_at T ?_
  have li : (mkr F i).length = i := mkr_len _ _
  by_cases hin : i < a.length
  · have d1 : (i : Int) < (a.length : Int) := by omega
    have d2 : (i : Int) + 1 = ((i + 1 : Nat) : Int) := by omega
    have d3 : 0 ≤ (i : Int) := by omega
    have d4 : (i : Int) < (b.length : Int) := by omega
    have hib : i < b.length := by omega
    have s1 : qs (cf a i) ≤ 5000000000000 := Nat.le_trans (ha i) (by decide)
    have s2 : qs (cf b i) ≤ 5000000000000 := Nat.le_trans (hb i) (by decide)
    have s3 : qs c ≤ 5000000000000 := by omega
    have s4 : qs (c * cf b i) ≤ 5000000000000 := by
      have := qs_mul c (cf b i)
      have := hb i
      omega
    have g : cf a i - c * cf b i = F i := by rw [eF]
    have f5 : V.rats (mkr F i) ++ [.Q (F i)] = V.rats (mkr F (i + 1)) := mkr_snoc _ _
    have f6 : mkr F i ++ [F i] = mkr F (i + 1) := mkr_snoc' _ _
    simp only [go_sem, d1, d2, d3, d4, hin, hib, s1, s2, s3, s4, g, li, mx, mkr_take, f5, f6]
    refine ⟨⟨by omega, by omega⟩, by rfl, ⟨by omega, by omega⟩, ⟨i + 1, hin⟩, Wk.of [19, 1] (by decide) ?_, by simp only; omega⟩
    simp only [go_sem]
  · obtain rfl : i = a.length := by omega
    have d1 : ¬ (a.length : Int) < (a.length : Int) := by omega
    have mm : a.length ≤ a.length := Nat.le_refl _
    simp only [go_sem, d1, li, mkr_take, mm]
def kScaled5 : Con := con2 pR pQ fun a c => (a.length ≤ 1000000 ∧ c ≠ 0 ∧ qs c ≤ 1000000000000 ∧ ∀ k, qs (cf a k) ≤ 1000000000000, .lst (V.rats (rw1 a (1 / c))))
attribute [go_sem ↓, go_sem] kScaled5
theorem scaled5_C : Ctr Tryz.prog 37 kScaled5 := Ctr.c2 (by kernel_rfl) fun a c h => by
  obtain ⟨hl, h0, hc, ha⟩ := h
  have T := (tabs mixed (tbl_cons r2Over_C tbl_nil))
  have mx : maxLen = 9223372036854775807 := by decide
  show PCall _ _ _ (.lst (V.rats (rw1 a (1 / c))))
  refine PCall.of_vc T Tryz.func37 rfl Tryz.ntmps37 Tryz.results37 (by simp) ?_
  unfold rw1
  obtain ⟨F, eF⟩ : ∃ F : Nat → Rat, F = fun k => cf a k * (1 / c) := ⟨_, rfl⟩
  rw [← eF]
  simp only [go_sem]
  refine AWp.loops (X := { i : Nat // i ≤ a.length }) (fun i => mkSt [(0, .lst (V.rats a)), (3, .ptr 1 4 0 0), (4, .raw (.slice none 0 0)), (5, .sl 0 4 0 i.1), (6, .raw (.int .i64 (i.1 : Nat)))] [(0, true, ⟨36, 4, V.rats (mkr F i.1)⟩), (1, true, ⟨36, 4, [.Q c]⟩)] 2 24) (fun i => a.length - i.1) ⟨0, Nat.zero_le _⟩ (Wk.of [2, 0] (by decide) ?_) ?_
  · have e0 : V.rats (mkr F 0) = [] := rfl
    simp only [go_sem, e0, Int.natCast_zero]
  rintro ⟨i, hi⟩
  refine vc_at T ?_
  have li : (mkr F i).length = i := mkr_len _ _
  by_cases hin : i < a.length
  · have d1 : (i : Int) < (a.length : Int) := by omega
    have d2 : (i : Int) + 1 = ((i + 1 : Nat) : Int) := by omega
    have d3 : 0 ≤ (i : Int) := by omega
    have s1 : qs (cf a i) ≤ 5000000000000 := Nat.le_trans (ha i) (by decide)
    have s3 : qs c ≤ 5000000000000 := by omega
    have g : cf a i / c = F i := by rw [eF]; grind
    have f5 : V.rats (mkr F i) ++ [.Q (F i)] = V.rats (mkr F (i + 1)) := mkr_snoc _ _
    have f6 : mkr F i ++ [F i] = mkr F (i + 1) := mkr_snoc' _ _
    simp only [go_sem, d1, d2, d3, hin, s1, s3, h0, g, li, mx, mkr_take, f5, f6]
    refine ⟨⟨by omega, by omega⟩, by rfl, ⟨by omega, by omega⟩, ⟨i + 1, hin⟩, Wk.of [14, 1] (by decide) ?_, by simp only; omega⟩
    simp only [go_sem]
  · obtain rfl : i = a.length := by omega
    have d1 : ¬ (a.length : Int) < (a.length : Int) := by omega
    have mm : a.length ≤ a.length := Nat.le_refl _
    simp only [go_sem, d1, li, mkr_take, mm]
/-- What search gives. -/
def srZ (M : List (List Rat)) (n c : Nat) : Int := match srF M n c with
  | some a => (a : Int)
  | none => -1
def SrOk (M : List (List Rat)) (n c : Int) : Prop := M.length ≤ 1000000 ∧ (0 ≤ n ∧ n ≤ M.length) ∧ 0 ≤ c ∧ ∀ i, i < M.length → c < ((M.getD i []).length : Nat)
def kSearch5 : Con := con3 pMt (pN .i64) (pN .i64) fun M n c => (SrOk M n c, .raw (.int .i64 (srZ M n.toNat c.toNat)))
attribute [go_sem ↓, go_sem] kSearch5
theorem search5_C : Ctr Tryz.prog 45 kSearch5 := Ctr.c3 (by kernel_rfl) fun M n c h => by
  obtain ⟨hl, ⟨hn, hn2⟩, hc, hw⟩ := h
  obtain ⟨n, rfl⟩ : ∃ m : Nat, n = m := ⟨n.toNat, by omega⟩
  obtain ⟨c, rfl⟩ : ∃ m : Nat, c = m := ⟨c.toNat, by omega⟩
  have T := (tabs mixed (tbl_cons r2Sign_C tbl_nil))
  show PCall _ _ [.lst (V.mat M), .raw (.int .i64 (n : Nat)), .raw (.int .i64 (c : Nat))] (.raw (.int .i64 (srZ M n c)))
  refine PCall.of_vc T Tryz.func45 rfl Tryz.ntmps45 Tryz.results45 (by simp) ?_
  simp only [go_sem]
  refine AWp.loops (X := { i : Nat // (n ≤ i ∧ i ≤ M.length) ∧ ∀ j, n ≤ j → j < i → ent M j c = 0 }) (fun i => mkSt [(0, .lst (V.mat M)), (1, .raw (.int .i64 (n : Nat))), (2, .raw (.int .i64 (c : Nat))), (6, .raw (.int .i64 0)), (7, .raw (.int .i64 (i.1 : Nat)))] [] 0 25) (fun i => M.length - i.1) ⟨n, ⟨Nat.le_refl _, by omega⟩, fun j h1 h2 => by omega⟩ (Wk.of [] (by decide) ?_) ?_
  · simp only [go_sem]
  rintro ⟨i, ⟨hni, hi⟩, inv⟩
  refine vc_at T ?_
  by_cases hin : i < M.length
  · have d1 : (i : Int) < (M.length : Int) := by omega
    have d2 : (i : Int) + 1 = ((i + 1 : Nat) : Int) := by omega
    have d3 : 0 ≤ (i : Int) := by omega
    have d5 : c < (M.getD i []).length := by have := hw i hin; omega
    have d6 : 0 ≤ (c : Int) := by omega
    have d7 : (c : Int) < ((M.getD i []).length : Int) := by omega
    obtain ⟨q, eq⟩ : ∃ q, cf (M.getD i []) c = q := ⟨_, rfl⟩
    by_cases h0 : q = 0
    · have d4 : (sgI q.num != 0) = false := by rw [sgI_z, h0]; rfl
      simp only [go_sem, d1, d2, d3, d4, d5, d6, d7, eq, hin]
      refine ⟨⟨by omega, by omega⟩, ⟨i + 1, ⟨by omega, hin⟩, fun j h1 h2 => ?_⟩, Wk.of [] (by decide) ?_, by simp only; omega⟩
      · by_cases e : j = i
        · rw [e]; exact eq.trans h0
        · exact inv j h1 (by omega)
      · simp only [go_sem]
    · have d4 : (sgI q.num != 0) = true := by rw [sgI_z]; simp [h0]
      have e1 : srZ M n c = (i : Int) := by
        unfold srZ
        rw [srF_is hni hin (by show cf (M.getD i []) c ≠ 0; rw [eq]; exact h0) inv]
      simp only [go_sem, d1, d2, d3, d4, d5, d6, d7, eq, hin, e1]
  · obtain rfl : i = M.length := by omega
    have d1 : ¬ (M.length : Int) < (M.length : Int) := by omega
    have e1 : srZ M n c = -1 := by
      unfold srZ
      rw [srF_no inv]
    simp only [go_sem, d1, e1]
def kCopied : FCon := con1 pMt fun M => (M.length ≤ 1000 ∧ ∀ i, (M.getD i []).length ≤ 1000, ⟨40, 1, V.mat M⟩)
theorem copied_V (M : List (List Rat)) (hl : M.length ≤ 1000) (hr : ∀ i, (M.getD i []).length ≤ 1000) : FCall Tryz.prog 44 [.lst (V.mat M)] ⟨40, 1, V.mat M⟩ := by
  have T := (tabs mixed tbl_nil)
  have mx : maxLen = 9223372036854775807 := by decide
  refine FCall.of_vc T Tryz.func44 rfl Tryz.ntmps44 Tryz.results44 (by simp) ?_
  simp only [go_sem]
  refine AWp.loops (X := { i : Nat // i ≤ M.length }) (fun i => mkSt [(0, .lst (V.mat M)), (2, .raw (.slice none 0 0)), (3, .sl 0 1 0 i.1), (4, .raw (.int .i64 (i.1 : Nat)))] [(0, true, ⟨40, 1, V.mat (M.take i.1)⟩)] 1 22) (fun i => M.length - i.1) ⟨0, Nat.zero_le _⟩ (Wk.of [1] (by decide) ?_) ?_
  · have e0 : V.mat [] = [] := rfl
    simp only [go_sem, List.take_zero, e0, Int.natCast_zero]
  rintro ⟨i, hi⟩
  refine AWp.endFrz 3 ?_
  refine vc_at T ?_
  have lt : (M.take i).length = i := by rw [List.length_take]; omega
  by_cases hin : i < M.length
  · have d1 : (i : Int) < (M.length : Int) := by omega
    have d2 : (i : Int) + 1 = ((i + 1 : Nat) : Int) := by omega
    have d3 : 0 ≤ (i : Int) := by omega
    obtain ⟨r, er⟩ : ∃ r, M.getD i [] = r := ⟨_, rfl⟩
    have lr : r.length ≤ 1000 := by rw [← er]; exact hr i
    have f3 : M.take i ++ [r] = M.take (i + 1) := by
      rw [List.take_add_one, List.getElem?_eq_getElem hin, ← er, gd_lt hin]; rfl
    have tt : (M.take i).take i = M.take i := List.take_of_length_le (by omega)
    have tr : r.take r.length = r := List.take_length
    have mm : r.length ≤ r.length := Nat.le_refl _
    simp only [go_sem, d1, d2, d3, hin, er, mx, lt, mm, tr, tt, Nat.min_self, ev_frzT_n, frz_mat_snocA, mat_snoc, f3]
    refine ⟨⟨by omega, by omega⟩, ⟨by omega, by omega⟩, ⟨by omega, by omega⟩, ⟨i + 1, hin⟩, Wk.of [13] (by decide) ?_, by simp only; omega⟩
    simp only [go_sem]
  · obtain rfl : i = M.length := by omega
    have d1 : ¬ (M.length : Int) < (M.length : Int) := by omega
    have tM : M.take M.length = M := List.take_length
    simp only [go_sem, d1, tM]
    exact ⟨0, rfl, rfl⟩
attribute [go_sem ↓, go_sem] kCopied
theorem copied_C : FCtr Tryz.prog 44 kCopied := FCtr.c1 (by kernel_rfl) fun M h => copied_V M h.1 h.2
end Go.Proofs.YtjjebokgckmnjaaGreat


/- Contracts: the reference's elimination. -/
namespace Go.Proofs.YtjjebokgckmnjaaGreat
set_option linter.unusedSimpArgs false
set_option linter.unusedVariables false
open Go.RowKit

theorem pvI_gn {M : List (List Rat)} {n c i : Nat} (hn : n < M.length) : (pvI M n c i).getD n [] = pvR M n c := by rw [pvI_get hn, if_pos rfl]
theorem pvI_gi {M : List (List Rat)} {n c i : Nat} (hi : i < M.length) (hne : i ≠ n) : (pvI M n c i).getD i [] = M.getD i [] := by rw [pvI_get hi, if_neg hne, if_neg (Nat.lt_irrefl i)]
def kElim : Con := con2 pMt (pN .i64) fun M z => (RedOk M z, .tup [.lst (V.mat (elm M z.toNat).M), .lst (V.nats (elm M z.toNat).p)])
attribute [go_sem ↓, go_sem] kElim
set_option maxRecDepth 8000 in
set_option maxHeartbeats 4000000 in
theorem elim_C : Ctr Tryz.prog 25 kElim := Ctr.c2 (by kernel_rfl) fun M z h => by
  obtain ⟨⟨hm, hz⟩, w, S, ⟨hW, hw, hzw⟩, hS, hS1, _⟩ := h
  obtain ⟨n, rfl⟩ : ∃ n : Nat, z = n := ⟨z.toNat, by omega⟩
  rw [Int.toNat_natCast] at hS1
  have T := (tabsX mixed (tbl_cons search5_C (tbl_cons minus5_C (tbl_cons scaled5_C tbl_nil))) (xtb_cons copied_C xtb_nil))
  have mx : maxLen = 9223372036854775807 := by decide
  show PCall _ _ [.lst (V.mat M), .raw (.int .i64 (n : Nat))] (.tup [.lst (V.mat (elm M n).M), .lst (V.nats (elm M n).p)])
  refine PCall.of_vc T Tryz.func25 rfl Tryz.ntmps25 Tryz.results25 (by simp) ?_
  have hr : ∀ i, (M.getD i []).length ≤ 1000 := fun i => by
    by_cases hi : i < M.length
    · rw [hW i hi]; exact hw
    · rw [gd_ge (by omega)]; simp
  obtain ⟨m, em⟩ : ∃ m, M.length = m := ⟨_, rfl⟩
  rw [em] at hm
  have cc : (m ≤ 1000 ∧ ∀ i, (M.getD i []).length ≤ 1000) = True := eq_true ⟨by omega, hr⟩
  simp only [go_sem, cc, em]
  refine AWp.loops (X := { c : Nat // c ≤ n }) (fun c => mkSt [(1, .raw (.int .i64 (n : Nat))), (4, .raw (.slice none 0 0)), (5, .raw (.slice none 0 0)), (6, .sl 0 1 0 m), (7, .sl 1 1 0 (elm M c.1).p.length), (8, .raw (.int .i64 (c.1 : Nat)))] [(0, true, ⟨40, 1, V.mat (elm M c.1).M⟩), (1, true, ⟨3, 1, V.nats (elm M c.1).p⟩)] 2 91) (fun c => n - c.1) ⟨0, Nat.zero_le _⟩ (Wk.of [3, 4] (by decide) ?_) ?_
  · have e0 : (elm M 0).M = M := rfl
    have e1 : (elm M 0).p = [] := rfl
    have e2 : V.nats [] = [] := rfl
    simp only [go_sem, e0, e1, e2, Int.natCast_zero, List.length_nil]
  rintro ⟨c, hc⟩
  refine vc_at T ?_
  have hE := elm_EI hW c
  have lZ := hE.len
  have np := hE.n
  have wZ := hE.wid
  rw [em] at lZ np
  by_cases hcn : c < n
  · have d1 : (c : Int) < (n : Int) := by omega
    have d2 : (c : Int) + 1 = ((c + 1 : Nat) : Int) := by omega
    have d3 : 0 ≤ (c : Int) := by omega
    have z0 := (elm_sz hW hS c).1
    have z1 : sS S c ≤ 1000000000000 := Nat.le_trans (sS_mono S (by omega)) hS1
    have zz : sS S (c + 1) ≤ 1000000000000 := Nat.le_trans (sS_mono S (by omega)) hS1
    have z2 := (elm_sz hW hS (c + 1)).1
    have enx : elm M (c + 1) = stp (elm M c) c := rfl
    obtain ⟨Z, ps, dd, es⟩ : ∃ Z ps dd, elm M c = ES.mk Z ps dd := ⟨_, _, _, rfl⟩
    rw [es] at lZ np wZ z0 enx
    simp only at lZ np wZ z0
    have so : SrOk Z ((ps.length : Nat) : Int) ((c : Nat) : Int) = True := eq_true ⟨by omega, ⟨by omega, by omega⟩, by omega, fun i hi => by rw [wZ i hi]; omega⟩
    have tZ : Z.take m = Z := List.take_of_length_le (by omega)
    simp only [es]
    rcases hF : srF Z ps.length c with _ | a
    · have e1 : srZ Z ps.length c = -1 := by unfold srZ; rw [hF]
      have e2 : elm M (c + 1) = ES.mk Z ps dd := by
        rw [enx]
        unfold stp
        rw [show srF (ES.mk Z ps dd).M (ES.mk Z ps dd).p.length c = none from hF]
      have c1 : (-1 : Int) < 0 := by decide
      simp only [go_sem, d1, d2, so, e1, c1, lZ, tZ, Int.toNat_natCast]
      refine ⟨⟨by omega, by omega⟩, ⟨c + 1, hcn⟩, Wk.of [0, 1] (by decide) ?_, by simp only; omega⟩
      simp only [go_sem, e2]
    · obtain ⟨⟨f1, f2⟩, f3⟩ := srF_some hF
      have f2 : a < m := by omega
      have hnm : ps.length < m := by omega
      have e1 : srZ Z ps.length c = (a : Int) := by unfold srZ; rw [hF]
      obtain ⟨k, ek⟩ : ∃ k, ps.length = k := ⟨_, rfl⟩
      rw [ek] at f1 hnm so e1 np
      have e2 : elm M (c + 1) = stA (ES.mk Z ps dd) a c := by
        rw [enx]
        unfold stp
        rw [show srF (ES.mk Z ps dd).M (ES.mk Z ps dd).p.length c = some a from hF]
      rw [e2] at z2
      have e3 : (stA (ES.mk Z ps dd) a c).M = pvt (swM Z k a) k c := by
        show pvt (swM Z ps.length a) ps.length c = _
        rw [ek]
      rw [e3] at z2
      have e4 : (stA (ES.mk Z ps dd) a c).p = ps ++ [c] := rfl
      have hsw := sw_eq (Z := Z) (n := k) (a := a) (by omega) (by omega)
      obtain ⟨Y, eY⟩ : ∃ Y, swM Z k a = Y := ⟨_, rfl⟩
      rw [eY] at hsw e3 z2
      have lY : Y.length = m := by rw [← eY, swM_len]; exact lZ
      have wY : Wid w Y := by rw [← eY]; exact swM_wid wZ (by omega) (by omega)
      have yz : ∀ i k, qs (ent Y i k) ≤ 1000000000000 := fun i k => by
        rw [← eY]
        exact Nat.le_trans (swM_sz (by omega) (by omega) z0 i k) z1
      have y0 : ent Y k c ≠ 0 := by rw [← eY, ent_swM (by omega) (by omega), if_pos rfl]; exact f3
      have pz : ∀ j, qs (cf (pvR Y k c) j) ≤ 1000000000000 := fun j => by
        have := z2 k j
        have e : ent (pvt Y k c) k j = cf (pvR Y k c) j := by
          show cf ((pvI Y k c Y.length).getD k []) j = _
          rw [pvI_gn (by omega)]
        rw [e] at this
        omega
      have c1 : ¬ (a : Int) < 0 := by omega
      have c2 : 0 ≤ (a : Int) := by omega
      have c3 : 0 ≤ (k : Int) := by omega
      have c4 : (a : Int) < (m : Int) := by omega
      have c5 : (k : Int) < (m : Int) := by omega
      have hkm : k < m := hnm
      have rowk : (Y.getD k []).length = w := wY k (by omega)
      obtain ⟨yk, eyk⟩ : ∃ yk, Y.getD k [] = yk := ⟨_, rfl⟩
      rw [eyk] at rowk
      have c6 : (c : Int) < (w : Int) := by omega
      have c7 : c < w := by omega
      obtain ⟨q, eq⟩ : ∃ q, cf yk c = q := ⟨_, rfl⟩
      have q0 : q ≠ 0 := by rw [← eq, ← eyk]; exact y0
      have qz : qs q ≤ 1000000000000 := by rw [← eq, ← eyk]; exact yz k c
      have ykz : ∀ j, qs (cf yk j) ≤ 1000000000000 := fun j => by rw [← eyk]; exact yz k j
      have epv : rw1 yk (1 / q) = pvR Y k c := by
        unfold pvR
        rw [eyk]
        show _ = rw1 yk (1 / cf (Y.getD k []) c)
        rw [eyk, eq]
      have so2 : (yk.length ≤ 1000000 ∧ q ≠ 0 ∧ qs q ≤ 1000000000000 ∧ ∀ k, qs (cf yk k) ≤ 1000000000000) = True := eq_true ⟨by omega, q0, qz, ykz⟩
      have hset : Y.set k (pvR Y k c) = pvI Y k c 0 := (pvI_zero c (by omega)).symm
      simp only [go_sem, d1, d2, d3, so, e1, tZ, c1, c2, c3, c4, c5, c6, c7, f2, hkm, hsw, lZ, lY, ek, eyk, eq, rowk, so2, epv, hset, Int.toNat_natCast, List.length_set]
      refine ⟨by rfl, ⟨by omega, q0, qz, ykz⟩, by rfl, ?_⟩
      refine AWp.loops (X := { i : Nat // i ≤ m }) (fun i => mkSt [(1, .raw (.int .i64 (n : Nat))), (4, .raw (.slice none 0 0)), (5, .raw (.slice none 0 0)), (6, .sl 0 1 0 m), (7, .sl 1 1 0 k), (8, .raw (.int .i64 (c : Nat))), (9, .raw (.int .i64 (k : Nat))), (11, .raw (.int .i64 (i.1 : Nat)))] [(0, true, ⟨40, 1, V.mat (pvI Y k c i.1)⟩), (1, true, ⟨3, 1, V.nats ps⟩)] 2 91) (fun i => m - i.1) ⟨0, Nat.zero_le _⟩ (Wk.of [0, 1] (by decide) ?_) ?_
      · simp only [go_sem, Int.natCast_zero]
      rintro ⟨i, hi⟩
      refine vc_at T ?_
      have lP : (pvI Y k c i).length = m := by rw [pvI_len, lY]
      by_cases him : i < m
      · have g1 : (i : Int) < (m : Int) := by omega
        have g2 : (i : Int) + 1 = ((i + 1 : Nat) : Int) := by omega
        have g3 : 0 ≤ (i : Int) := by omega
        by_cases hik : i = k
        · have g4 : ((i : Int) != (k : Int)) = false := by rw [hik]; simp
          have g5 : pvI Y k c (i + 1) = pvI Y k c i := by rw [hik]; exact pvI_self
          simp only [go_sem, g1, g2, g3, g4, lP]
          refine ⟨⟨by omega, by omega⟩, ⟨i + 1, him⟩, Wk.of [0, 1] (by decide) ?_, by simp only; omega⟩
          simp only [go_sem, g5]
        · have g4 : ((i : Int) != (k : Int)) = true := by rw [bne_iff_ne]; omega
          have g5 : (pvI Y k c i).getD k [] = pvR Y k c := pvI_gn (by omega)
          have g6 : (pvI Y k c i).getD i [] = Y.getD i [] := pvI_gi (by omega) hik
          obtain ⟨y, ey⟩ : ∃ y, Y.getD i [] = y := ⟨_, rfl⟩
          have ly : y.length = w := by rw [← ey]; exact wY i (by omega)
          have lr : (pvR Y k c).length = w := by unfold pvR; rw [rw1_len, eyk]; exact rowk
          obtain ⟨f, ef⟩ : ∃ f, cf y c = f := ⟨_, rfl⟩
          have yz2 : ∀ j, qs (cf y j) ≤ 1000000000000 := fun j => by rw [← ey]; exact yz i j
          have g7 : (pvI Y k c i).set i (rw2 y (pvR Y k c) f) = pvI Y k c (i + 1) := by
            rw [pvI_succ c (by omega) hik, ey, ← ef, ← ey]
          have g8 : ((w ≤ 1000000 ∧ w ≤ w) ∧ qs f ≤ 1000000000000 ∧ (∀ k, qs (cf y k) ≤ 1000000000000) ∧ ∀ j, qs (cf (pvR Y k c) j) ≤ 1000000000000) = True := eq_true ⟨⟨by omega, Nat.le_refl _⟩, by rw [← ef]; exact yz2 c, yz2, pz⟩
          simp only [go_sem, g1, g2, g3, g4, g5, g6, g7, g8, c3, c5, c6, c7, d3, hkm, him, ey, ef, ly, lr, lP]
          refine ⟨⟨by omega, by rw [← ef]; exact yz2 c, yz2, pz⟩, by rfl, ⟨by omega, by omega⟩, ⟨i + 1, him⟩, Wk.of [0, 1] (by decide) ?_, by simp only; omega⟩
          simp only [go_sem]
      · obtain rfl : i = m := by omega
        have g1 : ¬ (i : Int) < (i : Int) := by omega
        have tk : V.nats ps ++ [.raw (.int .i64 (c : Nat))] = V.nats (ps ++ [c]) := by
          unfold V.nats
          rw [List.map_append]; rfl
        have tp : ps.take k = ps := List.take_of_length_le (by omega)
        have lx : (ps ++ [c]).length = k + 1 := by rw [List.length_append, ek]; rfl
        have e5 : pvt Y k c = pvI Y k c i := by unfold pvt; rw [lY]
        simp only [go_sem, g1, d2, mx, tk, tp, ek, lP]
        refine ⟨⟨by omega, by omega⟩, ⟨by omega, by omega⟩, ⟨c + 1, hcn⟩, Wk.of [0, 9] (by decide) ?_, by simp only; omega⟩
        simp only [go_sem, e2, e3, e4, e5, lx]
  · obtain rfl : c = n := by omega
    have d1 : ¬ (c : Int) < (c : Int) := by omega
    have tZ : (elm M c).M.take m = (elm M c).M := List.take_of_length_le (by omega)
    have tp : (elm M c).p.take (elm M c).p.length = (elm M c).p := List.take_length
    have mm : m ≤ m := Nat.le_refl _
    have pp : (elm M c).p.length ≤ (elm M c).p.length := Nat.le_refl _
    simp only [go_sem, d1, lZ, tZ, tp, mm, pp]
end Go.Proofs.YtjjebokgckmnjaaGreat


/- Contracts: Rref and Null of the reference. -/
namespace Go.Proofs.YtjjebokgckmnjaaGreat
set_option linter.unusedSimpArgs false
set_option linter.unusedVariables false
open Go.RowKit

def kRref5 : Con := con1 pMt fun M => (RedOk M (wdt M : Nat), .tup [.lst (V.mat (rre M (wdt M))), .lst (V.nats (elm M (wdt M)).p)])
attribute [go_sem ↓, go_sem] kRref5
theorem rref5_C : Ctr Tryz.prog 7 kRref5 := Ctr.c1 (by kernel_rfl) fun M h => by
  have h' : RedOk M ((wdt M : Nat) : Int) = True := eq_true h
  obtain ⟨r1, r2, r3⟩ := red_p h
  have r4 : M.length ≤ 1000000 := by omega
  show PCall _ _ _ (.tup [.lst (V.mat (rre M (wdt M))), .lst (V.nats (elm M (wdt M)).p)])
  refine PCall.of_vc (tabs mixed (tbl_cons cols5_C (tbl_cons elim_C tbl_nil))) Tryz.func7 rfl Tryz.ntmps7 Tryz.results7 (by simp) ?_
  unfold rre
  simp only [go_sem, h', r2, r4, Int.toNat_natCast]
  exact ⟨by omega, by omega⟩
/-- Zeros that are appended. -/
def zrA (n : Nat) : List Rat := mkr (fun _ => 0) n
theorem zrA_eq (n : Nat) : zrA n = List.replicate n 0 := mkr_eq (by simp) fun k hk => by
  unfold cf
  rw [List.getD_eq_getElem?_getD, List.getElem?_replicate, if_pos hk]; rfl
def kNull5 : Con := con2 pMt (pN .i64) fun M z => ((NulOk M z ∧ ∀ i k, qs (ent (rre M (wdt M)) i k) ≤ 1000000000000), .lst (V.mat (nulP (elm M (wdt M)).p (rre M (wdt M)) z.toNat z.toNat)))
attribute [go_sem ↓, go_sem] kNull5
set_option maxRecDepth 8000 in
set_option maxHeartbeats 4000000 in
theorem null5_C : Ctr Tryz.prog 17 kNull5 := Ctr.c2 (by kernel_rfl) fun M z h => by
  obtain ⟨⟨⟨h1, hz, hz2⟩, hzw⟩, hq⟩ := h
  obtain ⟨n, rfl⟩ : ∃ n : Nat, z = n := ⟨z.toNat, by omega⟩
  show PCall _ _ [.lst (V.mat M), .raw (.int .i64 (n : Nat))] (.lst (V.mat (nulP (elm M (wdt M)).p (rre M (wdt M)) n n)))
  obtain ⟨r1, r2, r3⟩ := red_p h1
  have mx : maxLen = 9223372036854775807 := by decide
  have e1r : ((1 : Int) : Rat) = 1 := rfl
  have e0r : ((0 : Int) : Rat) = 0 := rfl
  have T := (tabs mixed (tbl_cons rref5_C (tbl_cons r2Whole_C (tbl_cons r2Neg_C tbl_nil))))
  have hp : ∀ i, i < (elm M (wdt M)).p.length → pv (elm M (wdt M)).p i < n := fun i hi => by
    have h1 := h1
    obtain ⟨_, w, S, ⟨hW, _⟩, _⟩ := h1
    have hE := elm_EI hW (wdt M)
    have l1 := hE.lt i hi
    have l2 := hE.n
    by_cases hM : M = []
    · have l0 : M.length = 0 := by rw [hM]; rfl
      omega
    · have := hzw hM; omega
  have hinc : ∀ i j, i < j → j < (elm M (wdt M)).p.length → pv (elm M (wdt M)).p i < pv (elm M (wdt M)).p j := by
    obtain ⟨_, w, S, ⟨hW, _⟩, _⟩ := h1
    exact (elm_EI hW (wdt M)).inc
  have hA : ∀ i, i < (elm M (wdt M)).p.length → i < (rre M (wdt M)).length ∧ ∀ c, c < n → c < ((rre M (wdt M)).getD i []).length := fun i hi => by
    have h1 := h1
    obtain ⟨_, w, S, ⟨hW, _, hwz⟩, _⟩ := h1
    have hE := elm_EI hW (wdt M)
    have l2 := hE.n
    have l3 := hE.len
    have hll : (rre M (wdt M)).length = (elm M (wdt M)).p.length := by unfold rre; rw [List.length_take]; omega
    refine ⟨by omega, fun c hc => ?_⟩
    unfold rre
    rw [gd_take, if_pos hi, hE.wid i (by omega)]
    by_cases hM : M = []
    · have l0 : M.length = 0 := by rw [hM]; rfl
      omega
    · have := hzw hM; omega
  have h1' : RedOk M ((wdt M : Nat) : Int) = True := eq_true h1
  refine PCall.of_vc T Tryz.func17 rfl Tryz.ntmps17 Tryz.results17 (by simp) ?_
  simp only [go_sem, h1']
  generalize rre M (wdt M) = A at hA hq ⊢
  generalize (elm M (wdt M)).p = p at hp hinc hA r1 ⊢
  have lp : p.length ≤ 1000000 := by omega
  refine AWp.loops (X := { c : Nat // c ≤ n }) (fun c => mkSt [(1, .raw (.int .i64 (n : Nat))), (4, .raw (.slice none 0 0)), (5, .lst (V.mat A)), (6, .lst (V.nats p)), (7, .sl 0 1 0 (nulP p A n c.1).length), (8, .raw (.int .i64 (cntP p c.1 : Nat))), (9, .raw (.int .i64 (c.1 : Nat)))] [(0, true, ⟨40, 1, V.mat (nulP p A n c.1)⟩)] 1 77) (fun c => n - c.1) ⟨0, Nat.zero_le _⟩ (Wk.of [8] (by decide) ?_) ?_
  · have e0 : V.mat (nulP p A n 0) = [] := rfl
    have e1 : (nulP p A n 0).length = 0 := rfl
    have e2 : cntP p 0 = 0 := rfl
    simp only [go_sem, e0, e1, e2, Int.natCast_zero]
  rintro ⟨c, hc⟩
  refine AWp.endFrz 7 ?_
  refine vc_at T ?_
  obtain ⟨N, eN⟩ : ∃ N, nulP p A n c = N := ⟨_, rfl⟩
  have lN : N.length ≤ c := by rw [← eN]; exact nulP_len p A n c
  simp only [eN]
  by_cases hcn : c < n
  · have d1 : (c : Int) < (n : Int) := by omega
    have d2 : (c : Int) + 1 = ((c + 1 : Nat) : Int) := by omega
    have d3 : 0 ≤ (c : Int) := by omega
    have f3 : ((cntP p c : Nat) : Int) + 1 = ((cntP p c + 1 : Nat) : Int) := by omega
    have f4 : 0 ≤ ((cntP p c : Nat) : Int) := by omega
    have lk := (cntP_ok hinc c).1
    by_cases hcp : c ∈ p
    · obtain ⟨h1, h2⟩ := cntP_in hinc hcp
      have g1 : ((cntP p c : Nat) : Int) < (p.length : Int) := by omega
      have g2 : (((pv p (cntP p c) : Nat) : Int) == (c : Int)) = true := by rw [h2]; simp
      have x1 : cntP p (c + 1) = cntP p c + 1 := by rw [cntP_succ, if_pos hcp]
      have enx : nulP p A n (c + 1) = N := by rw [nulP, if_pos hcp, eN]
      simp only [go_sem, d1, d2, f3, f4, g1, g2, h1, ev_frzT_n]
      refine ⟨⟨by omega, by omega⟩, ⟨by omega, by omega⟩, ⟨c + 1, hcn⟩, Wk.of [0] (by decide) ?_, by simp only; omega⟩
      simp only [go_sem, x1, enx]
    · have x1 : cntP p (c + 1) = cntP p c := by rw [cntP_succ, if_neg hcp]
      have enx : nulP p A n (c + 1) = N ++ [nulR p A n c] := by rw [nulP, if_neg hcp, eN]
      by_cases h1 : cntP p c < p.length
      all_goals
        first
        | (have g1 : ((cntP p c : Nat) : Int) < (p.length : Int) := by omega
           have g2 : (((pv p (cntP p c) : Nat) : Int) == (c : Int)) = false := by
             rw [beq_eq_false_iff_ne]
             exact fun e => hcp (mem_pv.2 ⟨_, h1, by omega⟩)
           simp only [go_sem, d1, f4, g1, g2, h1])
        | (have g1 : ¬ ((cntP p c : Nat) : Int) < (p.length : Int) := by omega
           simp only [go_sem, d1, f4, g1])
      all_goals
        refine AWp.loops (X := { j : Nat // j ≤ n }) (fun j => mkSt [(1, .raw (.int .i64 (n : Nat))), (4, .raw (.slice none 0 0)), (5, .lst (V.mat A)), (6, .lst (V.nats p)), (7, .sl 0 1 0 N.length), (8, .raw (.int .i64 (cntP p c : Nat))), (9, .raw (.int .i64 (c : Nat))), (10, .sl 1 4 0 j.1), (11, .raw (.int .i64 (j.1 : Nat)))] [(0, true, ⟨40, 1, V.mat N⟩), (1, true, ⟨36, 4, V.rats (zrA j.1)⟩)] 2 77) (fun j => n - j.1) ⟨0, Nat.zero_le _⟩ (Wk.of [0, 16] (by decide) ?_) ?_
        · have e0 : V.rats (zrA 0) = [] := rfl
          simp only [go_sem, e0, Int.natCast_zero]
        rintro ⟨j, hj⟩
        refine vc_at T ?_
        have lj : (zrA j).length = j := mkr_len _ _
        by_cases hjn : j < n
        · have k1 : (j : Int) < (n : Int) := by omega
          have k2 : (j : Int) + 1 = ((j + 1 : Nat) : Int) := by omega
          have f5 : V.rats (zrA j) ++ [.Q 0] = V.rats (zrA (j + 1)) := mkr_snoc _ _
          have f6 : zrA j ++ [0] = zrA (j + 1) := mkr_snoc' _ _
          have tj : (zrA j).take j = zrA j := List.take_of_length_le (by omega)
          simp only [go_sem, k1, k2, lj, mx, e0r, tj, f5, f6]
          refine ⟨⟨by omega, by omega⟩, ⟨by omega, by omega⟩, ⟨j + 1, hjn⟩, Wk.of [0, 8] (by decide) ?_, by simp only; omega⟩
          simp only [go_sem]
        · obtain rfl : j = n := by omega
          have k1 : ¬ (j : Int) < (j : Int) := by omega
          have s0 : (zrA j).set c 1 = nrS p A j c 0 := by rw [zrA_eq]; rfl
          simp only [go_sem, k1, lj, e1r, d3, d1, hcn, s0]
          refine AWp.loops (X := { i : Nat // i ≤ p.length }) (fun i => mkSt [(1, .raw (.int .i64 (j : Nat))), (4, .raw (.slice none 0 0)), (5, .lst (V.mat A)), (6, .lst (V.nats p)), (7, .sl 0 1 0 N.length), (8, .raw (.int .i64 (cntP p c : Nat))), (9, .raw (.int .i64 (c : Nat))), (10, .sl 1 4 0 j), (12, .raw (.int .i64 (i.1 : Nat)))] [(0, true, ⟨40, 1, V.mat N⟩), (1, true, ⟨36, 4, V.rats (nrS p A j c i.1)⟩)] 2 77) (fun i => p.length - i.1) ⟨0, Nat.zero_le _⟩ (Wk.of [0, 1] (by decide) ?_) ?_
          · simp only [go_sem, Int.natCast_zero]
          rintro ⟨i, hi⟩
          refine vc_at T ?_
          have li : (nrS p A j c i).length = j := nrS_len _ _ _ _ _
          by_cases hip : i < p.length
          · have m1 : (i : Int) < (p.length : Int) := by omega
            have m2 : (i : Int) + 1 = ((i + 1 : Nat) : Int) := by omega
            have m3 : 0 ≤ (i : Int) := by omega
            have m4 : 0 ≤ ((pv p i : Nat) : Int) := by omega
            have m5 : pv p i < j := hp i hip
            have m6 : ((pv p i : Nat) : Int) < (j : Int) := by omega
            obtain ⟨ha1, ha2⟩ := hA i hip
            have ha2 := ha2 c hcn
            have ha3 : (i : Int) < (A.length : Int) := by omega
            have ha4 : (c : Int) < ((A.getD i []).length : Int) := by omega
            have hqq : qs (cf (A.getD i []) c) ≤ 12000000000000 := Nat.le_trans (hq i c) (by decide)
            have s1 : (nrS p A j c i).set (pv p i) (-cf (A.getD i []) c) = nrS p A j c (i + 1) := rfl
            simp only [go_sem, m1, m2, m3, m4, m5, m6, ha1, ha2, ha3, ha4, hqq, s1, d3, hip, li]
            refine ⟨by rfl, ⟨by omega, by omega⟩, ⟨i + 1, hip⟩, Wk.of [0, 1] (by decide) ?_, by simp only; omega⟩
            simp only [go_sem]
          · obtain rfl : i = p.length := by omega
            have m1 : ¬ (p.length : Int) < (p.length : Int) := by omega
            have lr : (nulR p A j c).length = j := nrS_len _ _ _ _ _
            have e5 : nrS p A j c p.length = nulR p A j c := rfl
            have tr : (nulR p A j c).take j = nulR p A j c := List.take_of_length_le (by omega)
            have tN : N.take N.length = N := List.take_length
            have nn : N.length ≤ N.length := Nat.le_refl _
            have jj : j ≤ j := Nat.le_refl _
            have lx : (N ++ [nulR p A j c]).length = N.length + 1 := by rw [List.length_append]; rfl
            simp only [go_sem, m1, d2, mx, e5, lr, tr, tN, nn, jj, ev_frzT_n, frz_mat_snocA, mat_snoc]
            refine ⟨⟨by omega, by omega⟩, ⟨by omega, by omega⟩, ⟨c + 1, hcn⟩, Wk.of [9] (by decide) ?_, by simp only; omega⟩
            simp only [go_sem, x1, enx, lx]
  · obtain rfl : c = n := by omega
    have d1 : ¬ (c : Int) < (c : Int) := by omega
    have mm : N.length ≤ N.length := Nat.le_refl _
    have tk : N.take N.length = N := List.take_length
    simp only [go_sem, d1, mm, tk, eN]
end Go.Proofs.YtjjebokgckmnjaaGreat

