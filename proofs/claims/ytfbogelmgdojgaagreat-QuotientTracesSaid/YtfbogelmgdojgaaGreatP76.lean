/- Texts J5 in one. -/
import Derived.Test.YtfbogelmgdojgaaGreatP75
import Derived.Test.YtfbogelmgdojgaaGreatP61
/- Contracts: the minimal polynomial. -/
namespace Go.Proofs.YtfbogelmgdojgaaGreat
set_option linter.unusedSimpArgs false
set_option linter.unusedVariables false
open Go.RowKit

/-- The sums of Newton's identities. -/
def mnS (d t : List Rat) (k : Nat) : Nat → Rat
  | 0 => ((0 : Int) : Rat)
  | i + 1 => mnS d t k i + cf d i * cf t (k - i)
def mnL (t : List Rat) : Nat → List Rat
  | 0 => [((1 : Int) : Rat)]
  | k + 1 => mnL t k ++ [-(mnS (mnL t k) t (k + 1) (k + 1)) / (((k + 1 : Nat) : Int) : Rat)]
theorem mnL_len (t : List Rat) : ∀ k, (mnL t k).length = k + 1
  | 0 => rfl
  | k + 1 => by rw [mnL, List.length_append, mnL_len t k]; rfl
/-- The traces of the first powers. -/
def trs (q r : List Rat) (i : Nat) : List Rat := (((q.length - 1 : Nat) : Int) : Rat) :: (List.range i).map (fun j => trQ q (pwE q r j))
theorem trs_len (q r : List Rat) (i : Nat) : (trs q r i).length = i + 1 := by simp [trs]
theorem trs_snoc (q r : List Rat) (i : Nat) : trs q r i ++ [trQ q (pwE q r i)] = trs q r (i + 1) := by unfold trs; rw [List.range_succ, List.map_append]; rfl
/-- The product of the factors. -/
def prd (fs : List (List Rat × Nat)) : Nat → List Rat
  | 0 => [((1 : Int) : Rat)]
  | i + 1 => pMul (prd fs i) (fs.getD i ([], 0)).1
structure MnOk (q a : List Rat) (K : Nat) (fs : List (List Rat × Nat)) : Prop where
  two : 2 ≤ q.length ∧ q.length ≤ 1000
  red : DvOk a q ∧ q ≠ []
  pws : PwsOk q (pMod a q) ((q.length - 1 : Nat) : Int)
  trc : ∀ i, i < q.length - 1 → TrOk q (pwE q (pMod a q) i)
  tpb : PB (trs q (pMod a q) (q.length - 1)) 10000000000
  sms : ∀ k, k < q.length - 1 → PB (mnL (trs q (pMod a q) (q.length - 1)) k) 10000000000 ∧ ∀ i, i ≤ k + 1 → qs (mnS (mnL (trs q (pMod a q) (q.length - 1)) k) (trs q (pMod a q) (q.length - 1)) (k + 1) i) ≤ 10000000000 ∧
    qs (cf (mnL (trs q (pMod a q) (q.length - 1)) k) i * cf (trs q (pMod a q) (q.length - 1)) (k + 1 - i)) ≤ 10000000000
  sqf : pSqf K (tr (mnL (trs q (pMod a q) (q.length - 1)) (q.length - 1)).reverse) = some fs ∧ SfOk K (tr (mnL (trs q (pMod a q) (q.length - 1)) (q.length - 1)).reverse)
  prs : fs.length ≤ 1000000 ∧ ∀ i, i < fs.length → (prd fs i).length + (fs.getD i ([], 0)).1.length ≤ 1000000 ∧ ∃ j k, (PB (prd fs i) j ∧ PB (fs.getD i ([], 0)).1 k) ∧ (prd fs i).length * (j + k + 1) ≤ 9999999999
def kOne6 : Con := con0 (True, .Q ((1 : Int) : Rat))
attribute [go_sem ↓, go_sem] kOne6
theorem one6_C : Ctr Tryz.prog 65 kOne6 := Ctr.c0 (by kernel_rfl) fun _ => by
  refine PCall.of_vc (tabs mixed (tbl_cons whole_C tbl_nil)) Tryz.func65 rfl Tryz.ntmps65 Tryz.results65 (by simp) ?_
  simp only [go_sem]
theorem mn_get {l : List Rat} {m i : Nat} (h : i < l.length) : (List.replicate m z0 ++ V.rats l.reverse)[m + (l.length - 1 - i)]? = some (.Q (cf l i)) := by
  rw [List.getElem?_append_right (by simp), List.length_replicate, Nat.add_sub_cancel_left, rats_get (by simp; omega)]
  unfold cf
  rw [List.getD_eq_getElem?_getD, List.getD_eq_getElem?_getD, List.getElem?_reverse (by omega), show l.length - 1 - (l.length - 1 - i) = i from by omega]
theorem mn_set (i : Nat) (c : Rat) (l : List Rat) : (List.replicate (i + 1) z0 ++ V.rats l.reverse).set i (.Q c) = List.replicate i z0 ++ V.rats (l ++ [c]).reverse := by
  rw [zq_set, List.reverse_append]
  rfl
def kMin (K : Nat) (fs : List (List Rat × Nat)) : Con := con2 pR pR fun q a => (MnOk q a K fs, .lst (V.rats (prd fs fs.length)))
attribute [go_sem ↓, go_sem] kMin
set_option maxRecDepth 8000 in
set_option maxHeartbeats 1000000 in
theorem min_C (K : Nat) (fs : List (List Rat × Nat)) : Ctr Tryz.prog 27 (kMin K fs) := Ctr.c2 (by kernel_rfl) fun q a h => by
  obtain ⟨⟨h2, h3⟩, ⟨hd, q0⟩, hpw, htr, htp, hsm, hsq, hfl, hpr⟩ := h
  show PCall _ _ _ (.lst (V.rats (prd fs fs.length)))
  obtain ⟨r, er⟩ : ∃ r, pMod a q = r := ⟨_, rfl⟩
  obtain ⟨n, en⟩ : ∃ n, q.length - 1 = n := ⟨_, rfl⟩
  rw [er, en] at hpw htp hsm hsq
  rw [er, en] at htr
  obtain ⟨t, et⟩ : ∃ t, trs q r n = t := ⟨_, rfl⟩
  rw [et] at htp hsm hsq
  have lt : t.length = n + 1 := by rw [← et, trs_len]
  have n1 : (q.length : Int) - 1 = (n : Nat) := by omega
  have T := (tabs mixed (tbl_cons whole_C (tbl_cons qRed_C (tbl_cons pows_C (tbl_cons trace_C (tbl_cons one6_C (tbl_cons qMul_C (tbl_cons qAdd_C (tbl_cons qNeg_C (tbl_cons qDiv_C (tbl_cons trim_C (tbl_cons (sqf_C K fs) (tbl_cons pMul_C tbl_nil)))))))))))))
  have mx : maxLen = 9223372036854775807 := by decide
  refine PCall.of_vc (tabs mixed (tbl_cons whole_C (tbl_cons qRed_C (tbl_cons pows_C (tbl_cons trace_C (tbl_cons one6_C (tbl_cons qMul_C (tbl_cons qAdd_C (tbl_cons qNeg_C (tbl_cons qDiv_C (tbl_cons trim_C (tbl_cons (sqf_C K fs) (tbl_cons pMul_C tbl_nil))))))))))))) Tryz.func27 rfl Tryz.ntmps27 Tryz.results27 (by simp) ?_
  have n2 : ((n : Int) - 1).toNat + 1 = n := by omega
  obtain ⟨ps, eps⟩ : ∃ ps, pwsL q r ((n : Int) - 1).toNat = ps := ⟨_, rfl⟩
  have lps : ps.length = n := by rw [← eps, pwsL_len]; exact n2
  simp only [app_cons, app_nil]
  simp (maxSteps := 2000000) only [go_sem, hd, q0, er, n1, hpw, eps, lps]
  refine ⟨⟨by omega, by omega⟩, ⟨by omega, by omega⟩, ?_⟩
  -- the traces
  refine AWp.loops (X := { i : Nat // i ≤ n }) (fun i => mkSt [(0, .lst (V.rats q)), (4, .raw (.slice none 0 0)), (5, .raw (.int .i64 (n : Nat))), (7, .sl 0 4 0 (i.1 + 1)), (31, .lst (V.pls ps)), (32, .raw (.int .i64 (n : Nat))), (33, .raw (.int .i64 (i.1 : Nat)))] [(0, true, ⟨45, 4, V.rats (trs q r i.1)⟩)] 1 106) (fun i => n - i.1) ⟨0, Nat.zero_le _⟩ (Wk.of [11] (by decide) ?_) ?_
  · have e0 : V.rats (trs q r 0) = [.Q (((q.length - 1 : Nat) : Int) : Rat)] := rfl
    rw [en] at e0
    simp only [go_sem, e0]
  rintro ⟨i, hi⟩
  refine vc_at T ?_
  by_cases hin : i < n
  · have c1 : (i : Int) < (n : Nat) := by omega
    have c2 : (i : Int) + 1 = ((i + 1 : Nat) : Int) := by omega
    have c3 : ps.getD i [] = pwE q r i := by rw [← eps]; exact pwsL_get q r (by omega)
    have c4 := htr i hin
    have c5 : i < ps.length := by omega
    have e3 : (V.rats (trs q r i)).take (i + 1) = V.rats (trs q r i) := List.take_of_length_le (by rw [rats_len, trs_len]; exact Nat.le_refl _)
    simp (maxSteps := 2000000) only [go_sem, c1, c2, c3, c4, c5, e3, mx, trs_len, trs_snoc]
    refine ⟨⟨by omega, by omega⟩, ⟨by omega, by omega⟩, ⟨by omega, by omega⟩, ⟨i + 1, hin⟩, Wk.of [10] (by decide) ?_, by simp only; omega⟩
    simp only [go_sem]
  obtain rfl : i = n := by omega
  have c1 : ¬ (i : Int) < (i : Nat) := by omega
  have c2 : (i : Int) + 1 = ((i + 1 : Nat) : Int) := by omega
  have g1 : (List.replicate (i + 1) (V.agg [.raw (.bool false), .raw (.slice none 0 0), .raw (.bool false), .raw (.slice none 0 0)]))[i]? = some (V.agg [.raw (.bool false), .raw (.slice none 0 0), .raw (.bool false), .raw (.slice none 0 0)]) := by rw [List.getElem?_replicate, if_pos (by omega)]
  have g2 : (List.replicate (i + 1) (V.agg [.raw (.bool false), .raw (.slice none 0 0), .raw (.bool false), .raw (.slice none 0 0)])).set i (.Q ((1 : Int) : Rat)) = List.replicate i z0 ++ V.rats (mnL t 0).reverse := by
    have := zq_set i ((1 : Int) : Rat) []
    rw [show V.rats [] = [] from rfl, List.append_nil] at this
    exact this
  have e3 : (V.rats t).take (i + 1) = V.rats t := List.take_of_length_le (by rw [rats_len, lt]; exact Nat.le_refl _)
  simp (maxSteps := 2000000) only [go_sem, c1, c2, g1, g2, et]
  refine ⟨⟨by omega, by omega⟩, ⟨by omega, by omega, by omega, by omega⟩, ⟨by omega, by omega⟩, ?_⟩
  refine AWp.frzS 7 ?_
  simp only [go_sem, e3, lt]
  refine AWp.loops (X := { k : Nat // k ≤ i }) (fun k => mkSt [(4, .raw (.slice none 0 0)), (5, .raw (.int .i64 (i : Nat))), (7, .lst (V.rats t)), (10, .sl 0 4 0 (i + 1)), (11, .raw (.int .i64 ((k.1 + 1 : Nat) : Int)))] [(0, true, ⟨45, 4, List.replicate (i - k.1) z0 ++ V.rats (mnL t k.1).reverse⟩)] 1 106) (fun k => i - k.1) ⟨0, Nat.zero_le _⟩ (Wk.of [4] (by decide) ?_) ?_
  · simp only [go_sem, Nat.sub_zero, Nat.zero_add, Int.natCast_one]
    exact of_eq_true (eq_true (zq_pure _ _))
  rintro ⟨k, hk⟩
  refine vc_at T ?_
  by_cases hlt : k < i
  · obtain ⟨m, em⟩ : ∃ m, i - k = m + 1 := ⟨i - k - 1, by omega⟩
    obtain ⟨b1, b2⟩ := hsm k hlt
    have d1 : ((k + 1 : Nat) : Int) ≤ (i : Nat) := by omega
    simp (maxSteps := 2000000) only [go_sem, d1]
    obtain ⟨d, ed⟩ : ∃ d, mnL t k = d := ⟨_, rfl⟩
    have ld : d.length = k + 1 := by rw [← ed, mnL_len]
    rw [ed] at b1 b2 ⊢
    refine AWp.loops (X := { j : Nat // j ≤ k + 1 }) (fun j => mkSt [(4, .raw (.slice none 0 0)), (5, .raw (.int .i64 (i : Nat))), (7, .lst (V.rats t)), (10, .sl 0 4 0 (i + 1)), (11, .raw (.int .i64 ((k + 1 : Nat) : Int))), (12, .ptr 1 4 0 0), (57, .raw (.int .i64 ((k + 1 : Nat) : Int))), (58, .raw (.int .i64 (j.1 : Nat)))] [(0, true, ⟨45, 4, List.replicate (i - k) z0 ++ V.rats d.reverse⟩), (1, true, ⟨45, 4, [.Q (mnS d t (k + 1) j.1)]⟩)] 2 106) (fun j => k + 1 - j.1) ⟨0, Nat.zero_le _⟩ (Wk.of [0, 5] (by decide) ?_) ?_
    · simp only [go_sem, mnS, Int.natCast_zero]
      exact zq_pure _ _
    rintro ⟨j, hj⟩
    refine vc_at T ?_
    by_cases hjk : j < k + 1
    · have f1 : (j : Int) < ((k + 1 : Nat) : Int) := by omega
      have f2 : (i : Int) - (j : Nat) = ((i - j : Nat) : Int) := by omega
      have f3 : ((k + 1 : Nat) : Int) - (j : Nat) = ((k + 1 - j : Nat) : Int) := by omega
      have f4 : (List.replicate (i - k) z0 ++ V.rats d.reverse)[i - j]? = some (.Q (cf d j)) := by
        have := mn_get (l := d) (m := i - k) (i := j) (by omega)
        rw [show i - k + (d.length - 1 - j) = i - j from by omega] at this
        exact this
      have f5 : k + 1 - j < t.length := by omega
      have f6 : (j : Int) + 1 = ((j + 1 : Nat) : Int) := by omega
      have f7 := b1 j
      have f8 := htp (k + 1 - j)
      obtain ⟨f9, f10⟩ := b2 j hj
      simp (maxSteps := 2000000) only [go_sem, f1, f2, f3, f4, f5, f6, f7, f8, f9, f10]
      refine ⟨⟨by omega, by omega⟩, ⟨by omega, by omega⟩, ⟨by omega, by omega⟩, ⟨by omega, by omega⟩, by rfl, ⟨by omega, by omega⟩, ⟨j + 1, hjk⟩, Wk.of [0, 1] (by decide) ?_, by simp only; omega⟩
      simp only [go_sem, mnS]
      exact zq_pure _ _
    · obtain rfl : j = k + 1 := by omega
      have f1 : ¬ ((k + 1 : Nat) : Int) < ((k + 1 : Nat) : Int) := by omega
      have f2 : (i : Int) - ((k + 1 : Nat) : Int) = (m : Nat) := by omega
      have dv : divR (-(mnS d t (k + 1) (k + 1))) (((k + 1 : Nat) : Int) : Rat) = .tup [.Q (-(mnS d t (k + 1) (k + 1)) / (((k + 1 : Nat) : Int) : Rat)), .raw (.int .i64 0)] := by
        unfold divR
        rw [if_neg (fun e => by have : ((k + 1 : Nat) : Int) = 0 := by exact_mod_cast e
                                omega)]
        rfl
      have f3 : qs (((k + 1 : Nat) : Int) : Rat) ≤ 10000000000 := Nat.le_trans (qs_nat (z := k + 1) (by omega)) (by decide)
      have f4 : qs (-(mnS d t (k + 1) (k + 1))) ≤ 10000000000 := by rw [qs_neg]; exact (b2 (k + 1) (Nat.le_refl _)).1
      have f5 : ((k + 1 : Nat) : Int) + 1 = ((k + 1 + 1 : Nat) : Int) := by omega
      simp (maxSteps := 2000000) only [go_sem, f1, f2, dv, f3, f4, f5, em, zq_at, z0_w, mn_set]
      refine ⟨⟨by omega, by omega⟩, ⟨by omega, by omega⟩, ⟨by omega, by omega⟩, ⟨by omega, by omega⟩, ⟨k + 1, hlt⟩, Wk.of [0] (by decide) ?_, by simp only; omega⟩
      have e5 : i - (k + 1) = m := by omega
      have e6 : mnL t (k + 1) = d ++ [-mnS d t (k + 1) (k + 1) / (((k + 1 : Nat) : Int) : Rat)] := by rw [mnL, ed]
      simp only [go_sem, e5, e6]
      exact zq_pure _ _
  · obtain rfl : k = i := by omega
    have d1 : ¬ ((k + 1 : Nat) : Int) ≤ (k : Nat) := by omega
    have gR : List.replicate (k - k) z0 ++ V.rats (mnL t k).reverse = V.rats (mnL t k).reverse := by rw [Nat.sub_self]; rfl
    have gL : (mnL t k).reverse.length = k + 1 := by rw [List.length_reverse, mnL_len]
    have e4 : (V.rats (mnL t k).reverse).take (k + 1) = V.rats (mnL t k).reverse := List.take_of_length_le (by rw [rats_len, gL]; exact Nat.le_refl _)
    have h9 : k + 1 ≤ 1000000000 := by omega
    simp (maxSteps := 2000000) only [go_sem, d1, gR, gL, e4, hsq, h9]
    refine AWp.frzS 14 ?_
    simp only [go_sem]
    refine AWp.loops (X := { j : Nat // j ≤ fs.length }) (fun j => mkSt [(4, .raw (.slice none 0 0)), (14, .lst (V.rats (prd fs j.1))), (94, .lst (V.facs fs)), (95, .raw (.int .i64 (fs.length : Nat))), (96, .raw (.int .i64 (j.1 : Nat)))] [] 0 106) (fun j => fs.length - j.1) ⟨0, Nat.zero_le _⟩ (Wk.of [] (by decide) ?_) ?_
    · have e0 : V.rats (prd fs 0) = [.Q ((1 : Int) : Rat)] := rfl
      simp only [go_sem, e0]
    rintro ⟨j, hj⟩
    refine vc_at T ?_
    by_cases hjk : j < fs.length
    · have f1 : (j : Int) < (fs.length : Nat) := by omega
      have f2 : (j : Int) + 1 = ((j + 1 : Nat) : Int) := by omega
      obtain ⟨f3, f4⟩ := hpr j hjk
      have f5 : (V.facs fs)[j]? = some (.agg [.lst (V.rats (fs.getD j ([], 0)).1), .raw (.int .i64 ((fs.getD j ([], 0)).2 : Nat))]) := by
        unfold V.facs
        rw [List.getElem?_map, List.getD_eq_getElem?_getD, List.getElem?_eq_getElem hjk]
        rfl
      simp (maxSteps := 2000000) only [go_sem, f1, f2, f3, f4, f5, hjk]
      refine ⟨by omega, ⟨by omega, by omega⟩, ⟨j + 1, hjk⟩, Wk.of [] (by decide) ?_, by simp only; omega⟩
      have e0 : prd fs (j + 1) = pMul (prd fs j) (fs.getD j ([], 0)).1 := rfl
      simp only [go_sem, e0]
    · obtain rfl : j = fs.length := by omega
      have f1 : ¬ (fs.length : Int) < (fs.length : Nat) := by omega
      simp (maxSteps := 2000000) only [go_sem, f1]
end Go.Proofs.YtfbogelmgdojgaaGreat
