/- Texts J5 J6 J7 LQ1 LQ2 in one. -/
import Derived.Test.YtfbogelmgdojgaaGreatR28
import Derived.Test.YtfbogelmgdojgaaGreatR26
import Derived.Test.YtfbogelmgdojgaaGreatR27
import Derived.Test.YtfbogelmgdojgaaGreatR20
import Derived.Test.YtfbogelmgdojgaaGreatR23
/- Contracts: the minimal polynomial. -/
namespace Go.Proofs.YtfbogelmgdojgaaGreat
set_option linter.unusedSimpArgs false
set_option linter.unusedVariables false
open Go.RowKit

def mnS (d t : List Rat) (k : Nat) : Nat → Rat
 | 0 => ((0 : Int) : Rat)
 | i + 1 => mnS d t k i + cf d i * cf t (k - i)
def mnL (t : List Rat) : Nat → List Rat
 | 0 => [((1 : Int) : Rat)]
 | k + 1 => mnL t k ++ [-(mnS (mnL t k) t (k + 1) (k + 1)) / (((k + 1 : Nat) : Int) : Rat)]
theorem mnL_len (t : List Rat) : ∀ k, (mnL t k).length = k + 1
 | 0 => rfl
 | k + 1 => by rw [mnL, List.length_append, mnL_len t k]; rfl
def trs (q r : List Rat) (i : Nat) : List Rat := (((q.length - 1 : Nat) : Int) : Rat) :: (List.range i).map (fun j => trQ q (pwE q r j))
theorem trs_len (q r : List Rat) (i : Nat) : (trs q r i).length = i + 1 := by simp [trs]
theorem trs_snoc (q r : List Rat) (i : Nat) : trs q r i ++ [trQ q (pwE q r i)] = trs q r (i + 1) := by unfold trs; rw [List.range_succ, List.map_append]; rfl
def prd (fs : List (List Rat × Nat)) : Nat → List Rat
 | 0 => [((1 : Int) : Rat)]
 | i + 1 => pMul (prd fs i) (fs.getD i ([], 0)).1
structure MnOk (q a : List Rat) (K : Nat) (fs : List (List Rat × Nat)) : Prop where
 two : 2 ≤ q.length ∧ q.length ≤ 1000
 red : DvOk a q ∧ q ≠ []
 pws : PwsOk q (pMod a q) ((q.length - 1 : Nat) : Int)
 trc : ∀ i, i < q.length - 1 → TrOk q (pwE q (pMod a q) i)
 tpb : PB (trs q (pMod a q) (q.length - 1)) 5000000000000
 sms : ∀ k, k < q.length - 1 → PB (mnL (trs q (pMod a q) (q.length - 1)) k) 5000000000000 ∧ ∀ i, i ≤ k + 1 → qs (mnS (mnL (trs q (pMod a q) (q.length - 1)) k) (trs q (pMod a q) (q.length - 1)) (k + 1) i) ≤ 5000000000000 ∧
  qs (cf (mnL (trs q (pMod a q) (q.length - 1)) k) i * cf (trs q (pMod a q) (q.length - 1)) (k + 1 - i)) ≤ 5000000000000
 sqf : pSqf K (tr (mnL (trs q (pMod a q) (q.length - 1)) (q.length - 1)).reverse) = some fs ∧ SfOk K (tr (mnL (trs q (pMod a q) (q.length - 1)) (q.length - 1)).reverse)
 prs : fs.length ≤ 1000000 ∧ ∀ i, i < fs.length → (prd fs i).length + (fs.getD i ([], 0)).1.length ≤ 1000000 ∧ ∃ j k, (PB (prd fs i) j ∧ PB (fs.getD i ([], 0)).1 k) ∧ (prd fs i).length * (j + k + 1) ≤ 4999999999999
def kOne6 : Con := con0 (True, .Q ((1 : Int) : Rat))
attribute [go_sem ↓, go_sem] kOne6
theorem one6_C : Ctr Tryz.prog 65 kOne6 := Ctr.c0 (by kernel_rfl) fun _ => by
 refine PCall.of_vc (tabs mixed (tbl_cons whole_C tbl_nil)) Tryz.func65 rfl Tryz.ntmps65 Tryz.results65 (by simp) ?_
 simp only [go_sem]
theorem mn_get {l : List Rat} {m i : Nat} (h : i < l.length) : (List.replicate m z0 ++ V.rats l.reverse)[m + (l.length - 1 - i)]? = some (.Q (cf l i)) := by
 rw [List.getElem?_append_right (by simp), List.length_replicate, Nat.add_sub_cancel_left, rats_get (by simp; omega)]
 unfold cf
 rw [List.getD_eq_getElem?_getD, List.getD_eq_getElem?_getD, List.getElem?_reverse (by omega), show l.length - 1 - (l.length - 1 - i) = i from by omega]
theorem mn_set (i : Nat) (c : Rat) (l : List Rat) : (List.replicate (i + 1) z0 ++ V.rats l.reverse).set i (.Q c) = List.replicate i z0 ++ V.rats (l ++ [c]).reverse := by
 rw [zq_set, List.reverse_append]
 rfl
def kMin (K : Nat) (fs : List (List Rat × Nat)) : Con := con2 pR pR fun q a => (MnOk q a K fs, .lst (V.rats (prd fs fs.length)))
attribute [go_sem ↓, go_sem] kMin
set_option maxRecDepth 8000 in
set_option maxHeartbeats 1000000 in
theorem min_C (K : Nat) (fs : List (List Rat × Nat)) : Ctr Tryz.prog 27 (kMin K fs) := Ctr.c2 (by kernel_rfl) fun q a h => by
 obtain ⟨⟨h2, h3⟩, ⟨hd, q0⟩, hpw, htr, htp, hsm, hsq, hfl, hpr⟩ := h
 show PCall _ _ _ (.lst (V.rats (prd fs fs.length)))
 obtain ⟨r, er⟩ : ∃ r, pMod a q = r := ⟨_, rfl⟩
 obtain ⟨n, en⟩ : ∃ n, q.length - 1 = n := ⟨_, rfl⟩
 rw [er, en] at hpw htp hsm hsq
 rw [er, en] at htr
 obtain ⟨t, et⟩ : ∃ t, trs q r n = t := ⟨_, rfl⟩
 rw [et] at htp hsm hsq
 have lt : t.length = n + 1 := by rw [← et, trs_len]
 have n1 : (q.length : Int) - 1 = (n : Nat) := by omega
 have T := (tabs mixed (tbl_cons whole_C (tbl_cons qRed_C (tbl_cons pows_C (tbl_cons trace_C (tbl_cons one6_C (tbl_cons qMul_C (tbl_cons qAdd_C (tbl_cons qNeg_C (tbl_cons qDiv_C (tbl_cons trim_C (tbl_cons (sqf_C K fs) (tbl_cons pMul_C tbl_nil)))))))))))))
 have mx : maxLen = 9223372036854775807 := by decide
 refine PCall.of_vc (tabs mixed (tbl_cons whole_C (tbl_cons qRed_C (tbl_cons pows_C (tbl_cons trace_C (tbl_cons one6_C (tbl_cons qMul_C (tbl_cons qAdd_C (tbl_cons qNeg_C (tbl_cons qDiv_C (tbl_cons trim_C (tbl_cons (sqf_C K fs) (tbl_cons pMul_C tbl_nil))))))))))))) Tryz.func27 rfl Tryz.ntmps27 Tryz.results27 (by simp) ?_
 have n2 : ((n : Int) - 1).toNat + 1 = n := by omega
 obtain ⟨ps, eps⟩ : ∃ ps, pwsL q r ((n : Int) - 1).toNat = ps := ⟨_, rfl⟩
 have lps : ps.length = n := by rw [← eps, pwsL_len]; exact n2
 simp only [app_cons, app_nil]
 simp (maxSteps := 2000000) only [go_sem, hd, q0, er, n1, hpw, eps, lps]
 refine ⟨⟨by omega, by omega⟩, ⟨by omega, by omega⟩, ?_⟩
 -- the traces
 refine AWp.loops (X := { i : Nat // i ≤ n }) (fun i => mkSt [(0, .lst (V.rats q)), (4, .raw (.slice none 0 0)), (5, .raw (.int .i64 (n : Nat))), (7, .sl 0 4 0 (i.1 + 1)), (31, .lst (V.pls ps)), (32, .raw (.int .i64 (n : Nat))), (33, .raw (.int .i64 (i.1 : Nat)))] [(0, true, ⟨45, 4, V.rats (trs q r i.1)⟩)] 1 106) (fun i => n - i.1) ⟨0, Nat.zero_le _⟩ (Wk.of [11] (by decide) ?_) ?_
 ·have e0 : V.rats (trs q r 0) = [.Q (((q.length - 1 : Nat) : Int) : Rat)] := rfl
  rw [en] at e0
  simp only [go_sem, e0]
 rintro ⟨i, hi⟩
 refine vc_at T ?_
 by_cases hin : i < n
 ·have c1 : (i : Int) < (n : Nat) := by omega
  have c2 : (i : Int) + 1 = ((i + 1 : Nat) : Int) := by omega
  have c3 : ps.getD i [] = pwE q r i := by rw [← eps]; exact pwsL_get q r (by omega)
  have c4 := htr i hin
  have c5 : i < ps.length := by omega
  have e3 : (V.rats (trs q r i)).take (i + 1) = V.rats (trs q r i) := List.take_of_length_le (by rw [rats_len, trs_len]; exact Nat.le_refl _)
  simp (maxSteps := 2000000) only [go_sem, c1, c2, c3, c4, c5, e3, mx, trs_len, trs_snoc]
  refine ⟨⟨by omega, by omega⟩, ⟨by omega, by omega⟩, ⟨by omega, by omega⟩, ⟨i + 1, hin⟩, Wk.of [10] (by decide) ?_, by simp only; omega⟩
  simp only [go_sem]
 obtain rfl : i = n := by omega
 have c1 : ¬ (i : Int) < (i : Nat) := by omega
 have c2 : (i : Int) + 1 = ((i + 1 : Nat) : Int) := by omega
 have g1 : (List.replicate (i + 1) (V.agg [.raw (.bool false), .raw (.slice none 0 0), .raw (.bool false), .raw (.slice none 0 0)]))[i]? = some (V.agg [.raw (.bool false), .raw (.slice none 0 0), .raw (.bool false), .raw (.slice none 0 0)]) := by rw [List.getElem?_replicate, if_pos (by omega)]
 have g2 : (List.replicate (i + 1) (V.agg [.raw (.bool false), .raw (.slice none 0 0), .raw (.bool false), .raw (.slice none 0 0)])).set i (.Q ((1 : Int) : Rat)) = List.replicate i z0 ++ V.rats (mnL t 0).reverse := by
  have := zq_set i ((1 : Int) : Rat) []
  rw [show V.rats [] = [] from rfl, List.append_nil] at this
  exact this
 have e3 : (V.rats t).take (i + 1) = V.rats t := List.take_of_length_le (by rw [rats_len, lt]; exact Nat.le_refl _)
 simp (maxSteps := 2000000) only [go_sem, c1, c2, g1, g2, et]
 refine ⟨⟨by omega, by omega⟩, ⟨by omega, by omega, by omega, by omega⟩, ⟨by omega, by omega⟩, ?_⟩
 refine AWp.frzS 7 ?_
 simp only [go_sem, e3, lt]
 refine AWp.loops (X := { k : Nat // k ≤ i }) (fun k => mkSt [(4, .raw (.slice none 0 0)), (5, .raw (.int .i64 (i : Nat))), (7, .lst (V.rats t)), (10, .sl 0 4 0 (i + 1)), (11, .raw (.int .i64 ((k.1 + 1 : Nat) : Int)))] [(0, true, ⟨45, 4, List.replicate (i - k.1) z0 ++ V.rats (mnL t k.1).reverse⟩)] 1 106) (fun k => i - k.1) ⟨0, Nat.zero_le _⟩ (Wk.of [4] (by decide) ?_) ?_
 ·simp only [go_sem, Nat.sub_zero, Nat.zero_add, Int.natCast_one]
  exact of_eq_true (eq_true (zq_pure _ _))
 rintro ⟨k, hk⟩
 refine vc_at T ?_
 by_cases hlt : k < i
 ·obtain ⟨m, em⟩ : ∃ m, i - k = m + 1 := ⟨i - k - 1, by omega⟩
  obtain ⟨b1, b2⟩ := hsm k hlt
  have d1 : ((k + 1 : Nat) : Int) ≤ (i : Nat) := by omega
  simp (maxSteps := 2000000) only [go_sem, d1]
  obtain ⟨d, ed⟩ : ∃ d, mnL t k = d := ⟨_, rfl⟩
  have ld : d.length = k + 1 := by rw [← ed, mnL_len]
  rw [ed] at b1 b2 ⊢
  refine AWp.loops (X := { j : Nat // j ≤ k + 1 }) (fun j => mkSt [(4, .raw (.slice none 0 0)), (5, .raw (.int .i64 (i : Nat))), (7, .lst (V.rats t)), (10, .sl 0 4 0 (i + 1)), (11, .raw (.int .i64 ((k + 1 : Nat) : Int))), (12, .ptr 1 4 0 0), (57, .raw (.int .i64 ((k + 1 : Nat) : Int))), (58, .raw (.int .i64 (j.1 : Nat)))] [(0, true, ⟨45, 4, List.replicate (i - k) z0 ++ V.rats d.reverse⟩), (1, true, ⟨45, 4, [.Q (mnS d t (k + 1) j.1)]⟩)] 2 106) (fun j => k + 1 - j.1) ⟨0, Nat.zero_le _⟩ (Wk.of [0, 5] (by decide) ?_) ?_
  ·simp only [go_sem, mnS, Int.natCast_zero]
   exact zq_pure _ _
  rintro ⟨j, hj⟩
  refine vc_at T ?_
  by_cases hjk : j < k + 1
  ·have f1 : (j : Int) < ((k + 1 : Nat) : Int) := by omega
   have f2 : (i : Int) - (j : Nat) = ((i - j : Nat) : Int) := by omega
   have f3 : ((k + 1 : Nat) : Int) - (j : Nat) = ((k + 1 - j : Nat) : Int) := by omega
   have f4 : (List.replicate (i - k) z0 ++ V.rats d.reverse)[i - j]? = some (.Q (cf d j)) := by
    have := mn_get (l := d) (m := i - k) (i := j) (by omega)
    rw [show i - k + (d.length - 1 - j) = i - j from by omega] at this
    exact this
   have f5 : k + 1 - j < t.length := by omega
   have f6 : (j : Int) + 1 = ((j + 1 : Nat) : Int) := by omega
   have f7 := b1 j
   have f8 := htp (k + 1 - j)
   obtain ⟨f9, f10⟩ := b2 j hj
   simp (maxSteps := 2000000) only [go_sem, f1, f2, f3, f4, f5, f6, f7, f8, f9, f10]
   refine ⟨⟨by omega, by omega⟩, ⟨by omega, by omega⟩, ⟨by omega, by omega⟩, ⟨by omega, by omega⟩, by rfl, ⟨by omega, by omega⟩, ⟨j + 1, hjk⟩, Wk.of [0, 1] (by decide) ?_, by simp only; omega⟩
   simp only [go_sem, mnS]
   exact zq_pure _ _
  ·obtain rfl : j = k + 1 := by omega
   have f1 : ¬ ((k + 1 : Nat) : Int) < ((k + 1 : Nat) : Int) := by omega
   have f2 : (i : Int) - ((k + 1 : Nat) : Int) = (m : Nat) := by omega
   have dv : divR (-(mnS d t (k + 1) (k + 1))) (((k + 1 : Nat) : Int) : Rat) = .tup [.Q (-(mnS d t (k + 1) (k + 1)) / (((k + 1 : Nat) : Int) : Rat)), .raw (.int .i64 0)] := by
    unfold divR
    rw [if_neg (fun e => by have : ((k + 1 : Nat) : Int) = 0 := by exact_mod_cast e
                            omega)]
    rfl
   have f3 : qs (((k + 1 : Nat) : Int) : Rat) ≤ 5000000000000 := Nat.le_trans (qs_nat (z := k + 1) (by omega)) (by decide)
   have f4 : qs (-(mnS d t (k + 1) (k + 1))) ≤ 5000000000000 := by rw [qs_neg]; exact (b2 (k + 1) (Nat.le_refl _)).1
   have f5 : ((k + 1 : Nat) : Int) + 1 = ((k + 1 + 1 : Nat) : Int) := by omega
   simp (maxSteps := 2000000) only [go_sem, f1, f2, dv, f3, f4, f5, em, zq_at, z0_w, mn_set]
   refine ⟨⟨by omega, by omega⟩, ⟨by omega, by omega⟩, ⟨by omega, by omega⟩, ⟨by omega, by omega⟩, ⟨k + 1, hlt⟩, Wk.of [0] (by decide) ?_, by simp only; omega⟩
   have e5 : i - (k + 1) = m := by omega
   have e6 : mnL t (k + 1) = d ++ [-mnS d t (k + 1) (k + 1) / (((k + 1 : Nat) : Int) : Rat)] := by rw [mnL, ed]
   simp only [go_sem, e5, e6]
   exact zq_pure _ _
 ·obtain rfl : k = i := by omega
  have d1 : ¬ ((k + 1 : Nat) : Int) ≤ (k : Nat) := by omega
  have gR : List.replicate (k - k) z0 ++ V.rats (mnL t k).reverse = V.rats (mnL t k).reverse := by rw [Nat.sub_self]; rfl
  have gL : (mnL t k).reverse.length = k + 1 := by rw [List.length_reverse, mnL_len]
  have e4 : (V.rats (mnL t k).reverse).take (k + 1) = V.rats (mnL t k).reverse := List.take_of_length_le (by rw [rats_len, gL]; exact Nat.le_refl _)
  have h9 : k + 1 ≤ 1000000000 := by omega
  simp (maxSteps := 2000000) only [go_sem, d1, gR, gL, e4, hsq, h9]
  refine AWp.frzS 14 ?_
  simp only [go_sem]
  refine AWp.loops (X := { j : Nat // j ≤ fs.length }) (fun j => mkSt [(4, .raw (.slice none 0 0)), (14, .lst (V.rats (prd fs j.1))), (94, .lst (V.facs fs)), (95, .raw (.int .i64 (fs.length : Nat))), (96, .raw (.int .i64 (j.1 : Nat)))] [] 0 106) (fun j => fs.length - j.1) ⟨0, Nat.zero_le _⟩ (Wk.of [] (by decide) ?_) ?_
  ·have e0 : V.rats (prd fs 0) = [.Q ((1 : Int) : Rat)] := rfl
   simp only [go_sem, e0]
  rintro ⟨j, hj⟩
  refine vc_at T ?_
  by_cases hjk : j < fs.length
  ·have f1 : (j : Int) < (fs.length : Nat) := by omega
   have f2 : (j : Int) + 1 = ((j + 1 : Nat) : Int) := by omega
   obtain ⟨f3, f4⟩ := hpr j hjk
   have f5 : (V.facs fs)[j]? = some (.agg [.lst (V.rats (fs.getD j ([], 0)).1), .raw (.int .i64 ((fs.getD j ([], 0)).2 : Nat))]) := by
    unfold V.facs
    rw [List.getElem?_map, List.getD_eq_getElem?_getD, List.getElem?_eq_getElem hjk]
    rfl
   simp (maxSteps := 2000000) only [go_sem, f1, f2, f3, f4, f5, hjk]
   refine ⟨by omega, ⟨by omega, by omega⟩, ⟨j + 1, hjk⟩, Wk.of [] (by decide) ?_, by simp only; omega⟩
   have e0 : prd fs (j + 1) = pMul (prd fs j) (fs.getD j ([], 0)).1 := rfl
   simp only [go_sem, e0]
  ·obtain rfl : j = fs.length := by omega
   have f1 : ¬ (fs.length : Int) < (fs.length : Nat) := by omega
   simp (maxSteps := 2000000) only [go_sem, f1]
end Go.Proofs.YtfbogelmgdojgaaGreat


/- The law of quotients: the fixed examples. -/
namespace Go.Proofs.YtfbogelmgdojgaaGreat
set_option linter.unusedSimpArgs false
set_option linter.unusedVariables false
open Go.RowKit

theorem smq_le {q : Rat} (h : smq q = true) : qs q ≤ 5000000000000 := smq_ok h (by decide)
theorem smL_le {l : List Rat} (h : smL l = true) : PB l 5000000000000 := smL_PB h (by decide)
def nwB (q : List Rat) (L : Nat) : Bool := (smL q && decide (L ≤ 1000)) && allB (L + 1) fun k => smL (nwL q k) && allB (q.length + 1) fun i => smq (nwN q k (nwL q k) i) && smq (cf q (q.length - 1 - (i + 1)) * nwBy k (nwL q k) (i + 1))
theorem nwB_ok {q : List Rat} {L : Nat} (h : nwB q L = true) : NwOk q L := by
 simp only [nwB, Bool.and_eq_true, decide_eq_true_eq] at h
 obtain ⟨⟨h1, h2⟩, h3⟩ := h
 refine ⟨⟨Nat.le_trans (smL_len h1) (by decide), smL_le h1, by omega⟩, fun k hk => ?_⟩
 have h4 := allB_ok h3 k (by omega)
 simp only [Bool.and_eq_true] at h4
 refine ⟨smL_le h4.1, fun i hi => ?_⟩
 have h5 := allB_ok h4.2 i (by omega)
 simp only [Bool.and_eq_true] at h5
 exact ⟨smq_le h5.1, smq_le h5.2⟩
def poB (q : List Rat) (n : Nat) : Bool := (cnB q && smL q) && ((decide (1 ≤ (pMonic q).length) && smL (pMonic q)) && nwB (pMonic q) n)
theorem poB_ok {q : List Rat} {n : Nat} (h : poB q n = true) : PoOk q n := by
 simp only [poB, Bool.and_eq_true, decide_eq_true_eq] at h
 obtain ⟨⟨h1, h2⟩, ⟨h3, h4⟩, h5⟩ := h
 exact ⟨⟨cnB_ok h1, Nat.le_trans (smL_len h2) (by decide), 1, smL_PB h2 (Nat.le_refl _), by decide⟩, ⟨h3, Nat.le_trans (smL_len h4) (by decide)⟩, nwB_ok h5⟩
def trB (q a : List Rat) : Bool := (dvB a q && !decide (q = [])) && ((decide ((pMod a q).length = 0) || poB q (pMod a q).length) && ((smL (pMod a q) && smL (nwR (pMonic q) (pMod a q).length)) &&
 allB (pMod a q).length fun i => smq (trF (pMod a q) (nwR (pMonic q) (pMod a q).length) i) && smq (cf (pMod a q) i * cf (nwR (pMonic q) (pMod a q).length) i)))
theorem trB_ok {q a : List Rat} (h : trB q a = true) : TrOk q a := by
 simp only [trB, Bool.and_eq_true, Bool.or_eq_true, Bool.not_eq_true', decide_eq_true_eq, decide_eq_false_iff_not] at h
 obtain ⟨⟨h1, h2⟩, h3, ⟨h4, h5⟩, h6⟩ := h
 refine ⟨⟨dvB_ok h1, h2⟩, fun h0 => ?_, smL_le h4, smL_le h5, fun i hi => ?_⟩
 ·rcases h3 with h3 | h3
  ·omega
  ·exact poB_ok h3
 ·have h7 := allB_ok h6 i hi
  simp only [Bool.and_eq_true] at h7
  exact ⟨smq_le h7.1, smq_le h7.2⟩
def mlB (a b : List Rat) : Bool := smL a && smL b
theorem mlB_ok {a b : List Rat} (h : mlB a b = true) : a.length + b.length ≤ 1000000 ∧ ∃ j k, (PB a j ∧ PB b k) ∧ a.length * (j + k + 1) ≤ 4999999999999 := by
 simp only [mlB, Bool.and_eq_true] at h
 have h1 := smL_len h.1
 have h2 := smL_len h.2
 exact ⟨by omega, 1, 1, ⟨smL_PB h.1 (Nat.le_refl _), smL_PB h.2 (Nat.le_refl _)⟩, by omega⟩
def mqB (q a b : List Rat) : Bool := mlB a b && (dvB (pMul a b) q && !decide (q = []))
theorem mqB_ok {q a b : List Rat} (h : mqB q a b = true) : MqOk q a b := by
 simp only [mqB, Bool.and_eq_true, Bool.not_eq_true', decide_eq_false_iff_not] at h
 exact ⟨mlB_ok h.1, dvB_ok h.2.1, h.2.2⟩
def mnB (q a : List Rat) (K : Nat) (fs : List (List Rat × Nat)) : Bool :=
 (decide (2 ≤ q.length) && decide (q.length ≤ 100)) && ((dvB a q && !decide (q = [])) && ((allB (q.length - 2) fun i => mqB q (pwE q (pMod a q) i) (pMod a q)) && ((allB (q.length - 1) fun i => trB q (pwE q (pMod a q) i)) &&
 (smL (trs q (pMod a q) (q.length - 1)) && ((allB (q.length - 1) fun k => smL (mnL (trs q (pMod a q) (q.length - 1)) k) && allB (k + 2) fun i => smq (mnS (mnL (trs q (pMod a q) (q.length - 1)) k) (trs q (pMod a q) (q.length - 1)) (k + 1) i) && smq (cf (mnL (trs q (pMod a q) (q.length - 1)) k) i * cf (trs q (pMod a q) (q.length - 1)) (k + 1 - i))) &&
 ((decide (pSqf K (tr (mnL (trs q (pMod a q) (q.length - 1)) (q.length - 1)).reverse) = some fs) && sfB K (tr (mnL (trs q (pMod a q) (q.length - 1)) (q.length - 1)).reverse)) && (decide (fs.length ≤ 100) && allB fs.length fun i => mlB (prd fs i) (fs.getD i ([], 0)).1)))))))
theorem mnB_ok {q a : List Rat} {K : Nat} {fs : List (List Rat × Nat)} (h : mnB q a K fs = true) : MnOk q a K fs := by
 simp only [mnB, Bool.and_eq_true, Bool.not_eq_true', decide_eq_true_eq, decide_eq_false_iff_not] at h
 obtain ⟨⟨h1, h2⟩, ⟨h3, h4⟩, h5, h6, h7, h8, ⟨h9, h10⟩, h11, h12⟩ := h
 refine ⟨⟨h1, by omega⟩, ⟨dvB_ok h3, h4⟩, ⟨by omega, fun i hi => mqB_ok (allB_ok h5 i (by omega))⟩, fun i hi => trB_ok (allB_ok h6 i hi), smL_le h7, fun k hk => ?_, ⟨h9, sfB_ok h10⟩, by omega, fun i hi => mlB_ok (allB_ok h12 i hi)⟩
 have h13 := allB_ok h8 k hk
 simp only [Bool.and_eq_true] at h13
 refine ⟨smL_le h13.1, fun i hi => ?_⟩
 have h14 := allB_ok h13.2 i (by omega)
 simp only [Bool.and_eq_true] at h14
 exact ⟨smq_le h14.1, smq_le h14.2⟩
end Go.Proofs.YtfbogelmgdojgaaGreat


/- The law of quotients: the fixed examples. -/
namespace Go.Proofs.YtfbogelmgdojgaaGreat
set_option linter.unusedSimpArgs false
set_option linter.unusedVariables false
open Go.RowKit

set_option maxRecDepth 20000 in
set_option maxHeartbeats 2000000 in
theorem sanity6_V : PCall Tryz.prog 9 [] (.raw (.bool true)) := by
 obtain ⟨p1, hp1⟩ : ∃ p : List Rat, p = [-2, 0, 1] := ⟨_, rfl⟩
 obtain ⟨p2, hp2⟩ : ∃ p : List Rat, p = [0, 1] := ⟨_, rfl⟩
 obtain ⟨p3, hp3⟩ : ∃ p : List Rat, p = [0, -1, 1] := ⟨_, rfl⟩
 obtain ⟨p4, hp4⟩ : ∃ p : List Rat, p = [1, 1] := ⟨_, rfl⟩
 obtain ⟨p5, hp5⟩ : ∃ p : List Rat, p = [-2, 1] := ⟨_, rfl⟩
 obtain ⟨p6, hp6⟩ : ∃ p : List Rat, p = [0, 0, 1] := ⟨_, rfl⟩
 obtain ⟨p7, hp7⟩ : ∃ p : List Rat, p = [2, 0, 4] := ⟨_, rfl⟩
 have zp1 : zsL [-2, 0, 1] 3 = p1 := by rw [hp1]; decide +kernel
 have wp1 : (∀ z ∈ ([-2, 0, 1] : List Int), B8 z) = True := eq_true (b8 _ (by decide))
 have zp2 : zsL [0, 1] 2 = p2 := by rw [hp2]; decide +kernel
 have wp2 : (∀ z ∈ ([0, 1] : List Int), B8 z) = True := eq_true (b8 _ (by decide))
 have zp3 : zsL [0, -1, 1] 3 = p3 := by rw [hp3]; decide +kernel
 have wp3 : (∀ z ∈ ([0, -1, 1] : List Int), B8 z) = True := eq_true (b8 _ (by decide))
 have zp4 : zsL [1, 1] 2 = p4 := by rw [hp4]; decide +kernel
 have wp4 : (∀ z ∈ ([1, 1] : List Int), B8 z) = True := eq_true (b8 _ (by decide))
 have zp5 : zsL [-2, 1] 2 = p5 := by rw [hp5]; decide +kernel
 have wp5 : (∀ z ∈ ([-2, 1] : List Int), B8 z) = True := eq_true (b8 _ (by decide))
 have i1 : invR p1 p2 = .tup [.lst (V.rats [((0 : Int) : Rat), mdQ 1 2]), .raw (.int .i64 0)] := by
  rw [hp1, hp2]
  unfold invR
  rw [if_pos (by decide +kernel), show pMod (pExt (pMod [0, 1] [-2, 0, 1]) [-2, 0, 1]).2.1 [-2, 0, 1] = [((0 : Int) : Rat), mdQ 1 2] from by decide +kernel]
 have i2 : invR p3 p2 = .tup [.lst (V.rats []), .raw (.int .i64 60)] := by
  rw [hp3, hp2]
  exact if_neg (by decide +kernel)
 have a1 : DvOk p2 p1 ∧ p1 ≠ [] := by rw [hp1, hp2]; exact ⟨dvB_ok (by decide +kernel), by decide⟩
 have a2 : DvOk p2 p3 ∧ p3 ≠ [] := by rw [hp3, hp2]; exact ⟨dvB_ok (by decide +kernel), by decide⟩
 have a3 : ∃ n, ExOk n (pMod p2 p1) p1 [1] [] [] [1] := ⟨10, by rw [hp1, hp2]; exact exB_ok (by decide +kernel)⟩
 have a4 : ∃ n, ExOk n (pMod p2 p3) p3 [1] [] [] [1] := ⟨10, by rw [hp3, hp2]; exact exB_ok (by decide +kernel)⟩
 have a5 : ((pExt (pMod p2 p1) p1).1.length = 1 → DvOk (pExt (pMod p2 p1) p1).2.1 p1) = True := eq_true fun _ => by rw [hp1, hp2]; exact dvB_ok (by decide +kernel)
 have a6 : ((pExt (pMod p2 p3) p3).1.length = 1 → DvOk (pExt (pMod p2 p3) p3).2.1 p3) = True := eq_true fun h => absurd h (by rw [hp3, hp2]; decide +kernel)
 have b1 : nwR (pMonic p1) 3 = p7 := by rw [hp1, hp7]; decide +kernel
 have b2 : nwR (pMonic p1) (-1) = [] := by rw [hp1]; decide +kernel
 have b3 : PoOk p1 3 := by rw [hp1]; exact poB_ok (by decide +kernel)
 have b4 : p7.length = 3 := by rw [hp7]; rfl
 have b50 : cf p7 0 = ((2 : Int) : Rat) := by rw [hp7]; decide +kernel
 have b51 : cf p7 1 = ((0 : Int) : Rat) := by rw [hp7]; decide +kernel
 have b52 : cf p7 2 = ((4 : Int) : Rat) := by rw [hp7]; decide +kernel
 have c1 : trQ p1 p4 = ((2 : Int) : Rat) := by rw [hp1, hp4]; decide +kernel
 have c2 : TrOk p1 p4 := by rw [hp1, hp4]; exact trB_ok (by decide +kernel)
 have d1 : pRes (pMonic p1) (pMod p4 p1) = ((-1 : Int) : Rat) := by rw [hp1, hp4]; decide +kernel
 have d2 : Can p1 ∧ p1.length ≤ 1000000 ∧ ∃ s, PB p1 s ∧ s ≤ 2500000000000 := by rw [hp1]; exact ⟨cnB_ok (by decide +kernel), by decide, 1, smL_PB (by decide +kernel) (Nat.le_refl _), by decide⟩
 have d3 : DvOk p4 p1 := by rw [hp1, hp4]; exact dvB_ok (by decide +kernel)
 have d4 : ∃ n, ReOk n 1 (pMonic p1) (pMod p4 p1) := ⟨10, by rw [hp1, hp4]; exact reB_ok (by decide +kernel)⟩
 have e1 : pMul p2 p2 = p6 := by rw [hp2, hp6]; decide +kernel
 have e2 : MnOk p1 p6 5 [([-2, 1], 2)] := by rw [hp1, hp6]; exact mnB_ok (by decide +kernel)
 have e3 : prd [([-2, 1], 2)] 1 = p5 := by rw [hp5]; decide +kernel
 have f1 : validQ3 p1 = true := by rw [hp1]; decide +kernel
 have f2 : validQ3 p6 = false := by rw [hp6]; decide +kernel
 have f3 : validQ3 [((1 : Int) : Rat)] = false := by decide +kernel
 have f4 : ∃ n, GcOk n p1 (pDiff p1) := ⟨20, by rw [hp1]; exact gcB_ok (by decide +kernel)⟩
 have f5 : ∃ n, GcOk n p6 (pDiff p6) := ⟨20, by rw [hp6]; exact gcB_ok (by decide +kernel)⟩
 have g0 : ∀ a : Rat, cmpQ a a = 0 := fun a => by
  have := cmpQ_eq0 a a
  simpa using this
 have g1 : ∀ l : List Rat, decide (l = l) = true := fun l => decide_eq_true rfl
 have sm : ∀ l : List Rat, smL l = true → l.length ≤ 1000000 ∧ PB l 5000000000000 := fun l h => ⟨Nat.le_trans (smL_len h) (by decide), smL_PB h (by decide)⟩
 have mp1 : p1.length ≤ 1000000 ∧ PB p1 5000000000000 := sm p1 (by rw [hp1]; decide +kernel)
 have mp2 : p2.length ≤ 1000000 ∧ PB p2 5000000000000 := sm p2 (by rw [hp2]; decide +kernel)
 have mp4 : p4.length ≤ 1000000 ∧ PB p4 5000000000000 := sm p4 (by rw [hp4]; decide +kernel)
 have mp5 : p5.length ≤ 1000000 ∧ PB p5 5000000000000 := sm p5 (by rw [hp5]; decide +kernel)
 have mp6 : p6.length ≤ 1000000 ∧ PB p6 5000000000000 := sm p6 (by rw [hp6]; decide +kernel)
 have mp7 : p7.length ≤ 1000000 ∧ PB p7 5000000000000 := sm p7 (by rw [hp7]; decide +kernel)
 have m8 : ([((0 : Int) : Rat), mdQ 1 2] : List Rat).length ≤ 1000000 ∧ PB [((0 : Int) : Rat), mdQ 1 2] 5000000000000 := sm _ (by decide +kernel)
 have m9 : ([((1 : Int) : Rat)] : List Rat).length ≤ 1000000 ∧ PB [((1 : Int) : Rat)] 5000000000000 := sm _ (by decide +kernel)
 have m10 : p2.length + p2.length ≤ 1000000 ∧ ∃ j k, (PB p2 j ∧ PB p2 k) ∧ p2.length * (j + k + 1) ≤ 4999999999999 := by rw [hp2]; exact mlB_ok (by decide +kernel)
 have q2 : qs ((2 : Int) : Rat) ≤ 5000000000000 := smq_le (by decide +kernel)
 have q0 : qs ((0 : Int) : Rat) ≤ 5000000000000 := smq_le (by decide +kernel)
 have q4 : qs ((4 : Int) : Rat) ≤ 5000000000000 := smq_le (by decide +kernel)
 have qm1 : qs ((-1 : Int) : Rat) ≤ 5000000000000 := smq_le (by decide +kernel)
 refine PCall.of_awp Tryz.func9 rfl Tryz.ntmps9 Tryz.results9 (by simp) ?_
 have T1 := (tabs mixed (tbl_cons rInts_C (tbl_cons qInv_C (tbl_cons power6_C tbl_nil))))
 refine AWp.seq (vc_ok T1 _ _ _ ?_)
 simp only [go_sem, zp1, wp1, zp2, wp2, zp3, wp3, zp4, wp4, zp5, wp5, i1, i2, a1, a2, a3, a4, a5, a6, b1, b2, b3, b4, b50, b51, b52, c1, c2, d1, d2, d3, d4, e1, e2, e3, f1, f2, f3, f4, f5, g0, g1, mp1, mp2, mp4, mp5, mp6, mp7, m8, m9, m10, q2, q0, q4, qm1]
 refine AWp.seq (vc_ok T1 _ _ _ ?_)
 simp only [go_sem, zp1, wp1, zp2, wp2, zp3, wp3, zp4, wp4, zp5, wp5, i1, i2, a1, a2, a3, a4, a5, a6, b1, b2, b3, b4, b50, b51, b52, c1, c2, d1, d2, d3, d4, e1, e2, e3, f1, f2, f3, f4, f5, g0, g1, mp1, mp2, mp4, mp5, mp6, mp7, m8, m9, m10, q2, q0, q4, qm1]
 refine AWp.seq (vc_ok T1 _ _ _ ?_)
 simp only [go_sem, zp1, wp1, zp2, wp2, zp3, wp3, zp4, wp4, zp5, wp5, i1, i2, a1, a2, a3, a4, a5, a6, b1, b2, b3, b4, b50, b51, b52, c1, c2, d1, d2, d3, d4, e1, e2, e3, f1, f2, f3, f4, f5, g0, g1, mp1, mp2, mp4, mp5, mp6, mp7, m8, m9, m10, q2, q0, q4, qm1]
 refine AWp.seq (vc_ok T1 _ _ _ ?_)
 simp only [go_sem, zp1, wp1, zp2, wp2, zp3, wp3, zp4, wp4, zp5, wp5, i1, i2, a1, a2, a3, a4, a5, a6, b1, b2, b3, b4, b50, b51, b52, c1, c2, d1, d2, d3, d4, e1, e2, e3, f1, f2, f3, f4, f5, g0, g1, mp1, mp2, mp4, mp5, mp6, mp7, m8, m9, m10, q2, q0, q4, qm1]
 refine AWp.seq (vc_ok T1 _ _ _ ?_)
 simp only [go_sem, zp1, wp1, zp2, wp2, zp3, wp3, zp4, wp4, zp5, wp5, i1, i2, a1, a2, a3, a4, a5, a6, b1, b2, b3, b4, b50, b51, b52, c1, c2, d1, d2, d3, d4, e1, e2, e3, f1, f2, f3, f4, f5, g0, g1, mp1, mp2, mp4, mp5, mp6, mp7, m8, m9, m10, q2, q0, q4, qm1]
 refine AWp.seq (vc_ok T1 _ _ _ ?_)
 simp only [go_sem, zp1, wp1, zp2, wp2, zp3, wp3, zp4, wp4, zp5, wp5, i1, i2, a1, a2, a3, a4, a5, a6, b1, b2, b3, b4, b50, b51, b52, c1, c2, d1, d2, d3, d4, e1, e2, e3, f1, f2, f3, f4, f5, g0, g1, mp1, mp2, mp4, mp5, mp6, mp7, m8, m9, m10, q2, q0, q4, qm1]
 refine AWp.seq (vc_ok T1 _ _ _ ?_)
 simp only [go_sem, zp1, wp1, zp2, wp2, zp3, wp3, zp4, wp4, zp5, wp5, i1, i2, a1, a2, a3, a4, a5, a6, b1, b2, b3, b4, b50, b51, b52, c1, c2, d1, d2, d3, d4, e1, e2, e3, f1, f2, f3, f4, f5, g0, g1, mp1, mp2, mp4, mp5, mp6, mp7, m8, m9, m10, q2, q0, q4, qm1]
 refine AWp.seq (vc_ok T1 _ _ _ ?_)
 simp only [go_sem, zp1, wp1, zp2, wp2, zp3, wp3, zp4, wp4, zp5, wp5, i1, i2, a1, a2, a3, a4, a5, a6, b1, b2, b3, b4, b50, b51, b52, c1, c2, d1, d2, d3, d4, e1, e2, e3, f1, f2, f3, f4, f5, g0, g1, mp1, mp2, mp4, mp5, mp6, mp7, m8, m9, m10, q2, q0, q4, qm1]
 have T2 := (tabs mixed (tbl_cons rInts_C (tbl_cons r2Made_C (tbl_cons rPEq_C (tbl_cons (min_C 5 [([-2, 1], 2)]) (tbl_cons trace_C (tbl_cons qNorm_C (tbl_cons r2Whole_C (tbl_cons r2Cmp_C (tbl_cons rPMul_C (tbl_cons qVal_C (tbl_cons power6_C tbl_nil))))))))))))
 refine AWp.from (Wk.of (ss := [(1, .lst (V.rats p1)), (2, .lst (V.rats p2)), (3, .lst (V.rats [((0 : Int) : Rat), mdQ 1 2])), (4, .raw (.int .i64 0)), (6, .raw (.int .i64 60)), (7, .lst (V.rats p4)), (8, .lst (V.rats p7))]) (hs := []) (n := 0) (N := 119) [] (by decide) ?_) (vc_at T2 ?_)
 ·simp only [go_sem]
 simp only [app_cons, app_nil]
 simp (maxSteps := 2000000) only [go_sem, zp1, wp1, zp2, wp2, zp3, wp3, zp4, wp4, zp5, wp5, i1, i2, a1, a2, a3, a4, a5, a6, b1, b2, b3, b4, b50, b51, b52, c1, c2, d1, d2, d3, d4, e1, e2, e3, f1, f2, f3, f4, f5, g0, g1, mp1, mp2, mp4, mp5, mp6, mp7, m8, m9, m10, q2, q0, q4, qm1]
 rfl
def kSanity6 : Con := con0 (True, .raw (.bool true))
attribute [go_sem ↓, go_sem] kSanity6
theorem sanity6_C : Ctr Tryz.prog 9 kSanity6 := Ctr.c0 (by kernel_rfl) fun _ => sanity6_V
end Go.Proofs.YtfbogelmgdojgaaGreat


/- The argument of the laws of quotients. -/
namespace Go.Proofs.YtfbogelmgdojgaaGreat
set_option linter.unusedSimpArgs false
set_option linter.unusedVariables false
open Go.RowKit

structure Cs where
 Q : List Int
 A : List (Int × Int)
 B : List (Int × Int)
 X : Int × Int
def Cs.v (x : Cs) : V := .agg [.lst (V.i8s x.Q), .lst (V.prs x.A), .lst (V.prs x.B), .agg [.raw (.int .i8 x.X.1), .raw (.int .i8 x.X.2)]]
def Cs.Ok (x : Cs) : Prop := ((x.Q.length ≤ 9223372036854775807 ∧ ∀ z ∈ x.Q, B8 z) ∧ P8 x.A ∧ P8 x.B) ∧ B8 x.X.1 ∧ B8 x.X.2
def pCs : Pat Cs where
 p
  | .agg [.lst q, .lst a, .lst b, .agg [.raw (.int .i8 x), .raw (.int .i8 y)]] => (uni8 q).bind fun q => (unprs a).bind fun a => (unprs b).map fun b => (True, ⟨q, a, b, (x, y)⟩)
  | _ => none
 val := Cs.v
 ok x c a h hc := by
  split at h
  ·rename_i q a b x y
   rcases hq : uni8 q with _ | q' <;> simp only [hq, bind_none, bind_some] at h
   ·cases h
   ·rcases ha : unprs a with _ | a' <;> simp only [ha, bind_none, bind_some] at h
    ·cases h
    ·rcases hb : unprs b with _ | b' <;> rw [hb] at h
     ·cases h
     ·injection h with h; injection h with h1 h2; subst h2
      rw [uni8_ok _ _ hq, unprs_ok _ _ ha, unprs_ok _ _ hb]; exact .refl _
  ·cases h
@[go_sem ↓, go_sem] theorem ev_pCs {q a b : List V} {x y : Int} : pCs.p (.agg [.lst q, .lst a, .lst b, .agg [.raw (.int .i8 x), .raw (.int .i8 y)]]) = (uni8 q).bind fun q => (unprs a).bind fun a => (unprs b).map fun b => (True, ⟨q, a, b, (x, y)⟩) := rfl
@[go_sem ↓, go_sem] theorem ev_pCs_mk {z : Cs} : pCs.val z = .agg [.lst (V.i8s z.Q), .lst (V.prs z.A), .lst (V.prs z.B), .agg [.raw (.int .i8 z.X.1), .raw (.int .i8 z.X.2)]] := rfl
def kMade : Con := con1 pCs fun z => ((z.Q.length ≤ 9223372036854775807 ∧ ∀ x ∈ z.Q, B8 x) ∧ P8 z.A ∧ P8 z.B, .tup [.lst (V.rats (mod6 z.Q)), .lst (V.rats (psL z.A 6)), .lst (V.rats (psL z.B 6))])
attribute [go_sem ↓, go_sem] kMade
theorem made6_C : Ctr Tryz.prog 10 kMade := Ctr.c1 (by kernel_rfl) fun z h => by
 obtain ⟨⟨h0, h0'⟩, h1, h2⟩ := h
 refine PCall.of_vc (tabs mixed (tbl_cons rPolyMade_C (tbl_cons rMade6_C tbl_nil))) Tryz.func10 rfl Tryz.ntmps10 Tryz.results10 (by simp) ?_
 simp only [go_sem]
 exact ⟨⟨h0, h0'⟩, h1, h2, by rfl⟩
set_option maxRecDepth 20000 in
theorem fits_case {X : V} (h : Fits Tryz.prog 6 27 X) : ∃ x : Cs, X = x.v ∧ x.Ok := by
 have u1 : Tryz.prog.underlying 23 = some (.slice 25) := by kernel_rfl
 have u2 : Tryz.prog.underlying 25 = some (.array 2 24) := by kernel_rfl
 have u3 : Tryz.prog.underlying 24 = some (.int .i8) := by kernel_rfl
 have u4 : Tryz.prog.underlying 22 = some (.slice 24) := by kernel_rfl
 obtain ⟨l, rfl, hl⟩ := fits_struct Tryz.underlying27 h
 obtain ⟨x1, m, rfl, g1, hl⟩ := fitL_cons hl
 obtain ⟨x2, m, rfl, g2, hl⟩ := fitL_cons hl
 obtain ⟨x3, m, rfl, g3, hl⟩ := fitL_cons hl
 obtain ⟨x4, m, rfl, g4, hl⟩ := fitL_cons hl
 have := fitL_nil hl
 subst this
 obtain ⟨Q, rfl, hQl, hQ⟩ := fits_ints u4 u3 g1
 obtain ⟨A, rfl, hA⟩ := fits_prs u1 u2 u3 g2
 obtain ⟨B, rfl, hB⟩ := fits_prs u1 u2 u3 g3
 obtain ⟨z, rfl, hz⟩ := fits_pr u2 u3 g4
 exact ⟨⟨Q, A, B, z⟩, rfl, ⟨⟨hQl, fun z hz => wf_i8 (hQ z hz)⟩, hA, hB⟩, hz⟩
end Go.Proofs.YtfbogelmgdojgaaGreat


/- The law of the ring of residues. -/
namespace Go.Proofs.YtfbogelmgdojgaaGreat
set_option linter.unusedSimpArgs false
set_option linter.unusedVariables false
open Go.RowKit

theorem Md0.rm {q a : List Rat} {n k m j : Nat} (hq : Md0 q n k) (ha : Sz a m j) (hm : 2 ≤ m) : Sz (pMod a q) 4 (2 ^ (m - 1) * (j + 11009)) := by
 have h2 := hq.two
 have hs := hq.sz
 obtain ⟨⟨_, cr⟩, hr, _⟩ := dm_ok ha.can hs.can hq.ne
 refine ⟨by have := hs.len; omega, ?_, cr⟩
 refine ((div_PB (S := j + 11009) ha.can hs.can hq.ne ha.pb hs.pb (by omega)).2).mono (Nat.mul_le_mul_right _ (Nat.pow_le_pow_right (by decide) ?_))
 have := ha.len
 omega
theorem Md0.dv {q a : List Rat} {n k m j : Nat} (hq : Md0 q n k) (ha : Sz a m j) (h : (2 ≤ m ∧ m ≤ 1000) ∧ 2 ^ (m - 1) * (j + 11009) ≤ 2500000000000) : DvOk a q ∧ q ≠ [] := by
 have h2 := hq.two
 have hs := hq.sz
 refine ⟨⟨⟨ha.can, hs.can⟩, by have := ha.len; have := hs.len; omega, j, 5504, ⟨ha.pb, hs.pb⟩, ?_⟩, hq.ne⟩
 refine Nat.le_trans (Nat.mul_le_mul_right _ (Nat.pow_le_pow_right (by decide) (show a.length - q.length + 1 ≤ m - 1 by have := ha.len; omega))) ?_
 rw [show j + 2 * 5504 + 1 = j + 11009 from by omega]
 exact h.2
theorem Md0.mu {q a b : List Rat} {n k m j m' j' : Nat} (hq : Md0 q n k) (ha : Sz a m j) (hb : Sz b m' j') (h : ((2 ≤ m + m' - 1 ∧ m + m' - 1 ≤ 1000) ∧ 2 ^ (m + m' - 1 - 1) * (m * (j + j' + 1) + 1 + 11009) ≤ 2500000000000) ∧ m + m' ≤ 1000000 ∧ m * (j + j' + 1) + 1 ≤ 5000000000000) :
 (a.length + b.length ≤ 1000000 ∧ ∃ j k, (PB a j ∧ PB b k) ∧ a.length * (j + k + 1) ≤ 4999999999999) ∧ DvOk (pMul a b) q ∧ q ≠ [] := ⟨Sz.cm ha hb h.2, hq.dv (ha.mul hb) h.1⟩
end Go.Proofs.YtfbogelmgdojgaaGreat

