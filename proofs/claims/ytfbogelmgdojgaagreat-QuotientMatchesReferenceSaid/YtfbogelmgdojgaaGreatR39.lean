/- Texts H16 H17 H18 H18b in one. -/
import Derived.Test.YtfbogelmgdojgaaGreatR38
import Derived.Test.YtfbogelmgdojgaaGreatR36
/- Contracts: the reference of package quotient: numbers, validity, lists of numbers. -/
namespace Go.Proofs.YtfbogelmgdojgaaGreat
set_option linter.unusedSimpArgs false
set_option linter.unusedVariables false
open Go.RowKit

theorem r2Ovr_V (a b : Rat) (h1 : qs a ≤ 5000000000000) (h2 : qs b ≤ 5000000000000) (h0 : b ≠ 0) : PCall Tryz.prog 53 [.Q a, .Q b] (.Q (a / b)) := by
 have e1 : divR a b = .tup [.Q (a / b), .raw (.int .i64 0)] := if_neg h0
 refine PCall.of_vc (tabs mixed (tbl_cons r2Div_C tbl_nil)) Tryz.func53 rfl Tryz.ntmps53 Tryz.results53 (by simp) ?_
 simp only [go_sem, h1, h2, e1]
def kR2Ovr : Con := con2 pQ pQ fun a b => (qs a ≤ 5000000000000 ∧ qs b ≤ 5000000000000 ∧ b ≠ 0, .Q (a / b))
attribute [go_sem ↓, go_sem] kR2Ovr
theorem r2Ovr_C : Ctr Tryz.prog 53 kR2Ovr := Ctr.c2 (by kernel_rfl) fun a b h => r2Ovr_V a b h.1 h.2.1 h.2.2
def kPVal3 : Con := con1 pR fun q => (Can q ∧ q.length ≤ 1000000 ∧ PB q 5000000000000, .raw (.bool true))
attribute [go_sem ↓, go_sem] kPVal3
theorem rPVal_C : Ctr Tryz.prog 75 kPVal3 := Ctr.c1 (by kernel_rfl) fun q h => by
 obtain ⟨cq, hl, hb⟩ := h
 show PCall _ _ _ (.raw (.bool true))
 have T := (tabs mixed (tbl_cons r2Valid_C (tbl_cons r2Sign_C tbl_nil)))
 refine PCall.of_vc T Tryz.func75 rfl Tryz.ntmps75 Tryz.results75 (by simp) ?_
 simp only [go_sem]
 refine AWp.loops (X := { i : Nat // i ≤ q.length }) (fun i => mkSt [(0, .lst (V.rats q)), (2, .raw (.bool false)), (3, .raw (.int .i64 (i.1 : Nat)))] [] 0 31) (fun i => q.length - i.1) ⟨0, Nat.zero_le _⟩ (Wk.of [] (by decide) ?_) ?_
 ·simp only [go_sem, Int.natCast_zero]
 rintro ⟨i, hi⟩
 refine vc_at T ?_
 by_cases hin : i < q.length
 ·have c1 : (i : Int) < (q.length : Int) := by omega
  have c2 : (i : Int) + 1 = ((i + 1 : Nat) : Int) := by omega
  have c3 : 0 ≤ (i : Int) := by omega
  have q1 := hb i
  have e1 := validQ_Q (cf q i)
  have l1 := dg_lim (cf q i).num.natAbs
  have l2 := dg_lim ((cf q i).den : Int).natAbs
  have l3 := szLN q1 (show 5000000000000 ≤ 12000000000000 by decide)
  have l4 := szLD q1 (show 5000000000000 ≤ 12000000000000 by decide)
  simp only [go_sem, hin, c1, c2, c3, e1, l1, l2, l3, l4]
  refine ⟨⟨by omega, by omega⟩, ⟨i + 1, hin⟩, Wk.of [] (by decide) ?_, by simp only; omega⟩
  simp only [go_sem]
 ·obtain rfl : i = q.length := by omega
  have c1 : ¬ (q.length : Int) < (q.length : Int) := by omega
  by_cases h0 : q.length = 0
  ·have c2 : ((q.length : Int) == 0) = true := by rw [h0]; rfl
   simp only [go_sem, c1, c2]
  ·have c2 : ((q.length : Int) == 0) = false := by rw [beq_eq_false_iff_ne]; omega
   have c3 : (q.length : Int) - 1 = ((q.length - 1 : Nat) : Int) := by omega
   have c4 : q.length - 1 < q.length := by omega
   have c5 : (sgI (cf q (q.length - 1)).num != 0) = true := by
    have h1 : (sgI (cf q (q.length - 1)).num == 0) = false := by
     rw [sgn_numQ]
     exact decide_eq_false (cq fun e => h0 (by rw [e]; rfl))
    unfold bne; rw [h1]; rfl
   have c6 : 0 ≤ ((q.length - 1 : Nat) : Int) := by omega
   simp only [go_sem, c1, c2, c3, c4, c5, c6]
   omega
def kM6Val : Con := con1 pR fun q => ((Can q ∧ q.length ≤ 1000000 ∧ PB q 5000000000000) ∧ (1 < q.length → ∃ n, GcOk n q (pDiff q)), .raw (.bool (validQ3 q)))
attribute [go_sem ↓, go_sem] kM6Val
theorem m6Val_C : Ctr Tryz.prog 30 kM6Val := Ctr.c1 (by kernel_rfl) fun q h => by
 obtain ⟨⟨cq, hl, hp⟩, hg⟩ := h
 show PCall _ _ _ (.raw (.bool (validQ3 q)))
 have hv : (((tr q).length : Int) == (q.length : Int)) = true := by rw [tr_of_can cq]; simp
 refine PCall.of_vc (tabs mixed (tbl_cons rPVal_C (tbl_cons rDiff_C (tbl_cons rGcd_C tbl_nil)))) Tryz.func30 rfl Tryz.ntmps30 Tryz.results30 (by simp) ?_
 unfold validQ3
 by_cases h1 : 1 < q.length
 ·have c1 : (1 : Int) < (q.length : Int) := by omega
  have hg := hg h1
  by_cases h2 : (pGcd q (pDiff q)).length = 1
  ·have c2 : (((pGcd q (pDiff q)).length : Int) == 1) = true := by rw [h2]; rfl
   simp only [go_sem, cq, hl, hp, hv, c1, c2, hg, h1, h2, Bool.true_and, decide_true]
  ·have c2 : (((pGcd q (pDiff q)).length : Int) == 1) = false := by simp; omega
   simp only [go_sem, cq, hl, hp, hv, c1, c2, hg, h1, h2, Bool.true_and, decide_true, decide_false]
 ·have c1 : ¬ (1 : Int) < (q.length : Int) := by omega
  simp only [go_sem, cq, hl, hp, hv, c1, h1, Bool.true_and, decide_false, Bool.false_and]
def kSame6 : Con := con2 pR pR fun a b => (a = b ∧ a.length ≤ 1000000 ∧ PB a 5000000000000, .raw (.bool true))
attribute [go_sem ↓, go_sem] kSame6
theorem same6_C : Ctr Tryz.prog 24 kSame6 := Ctr.c2 (by kernel_rfl) fun a b h => by
 obtain ⟨rfl, hl, hb⟩ := h
 show PCall _ _ _ (.raw (.bool true))
 have T := (tabs mixed (tbl_cons r2Cmp_C tbl_nil))
 refine PCall.of_vc T Tryz.func24 rfl Tryz.ntmps24 Tryz.results24 (by simp) ?_
 have c0 : ((a.length : Int) != (a.length : Int)) = false := by simp
 simp only [go_sem, c0]
 refine AWp.loops (X := { i : Nat // i ≤ a.length }) (fun i => mkSt [(0, .lst (V.rats a)), (1, .lst (V.rats a)), (4, .raw (.bool false)), (5, .raw (.int .i64 (i.1 : Nat)))] [] 0 27) (fun i => a.length - i.1) ⟨0, Nat.zero_le _⟩ (Wk.of [] (by decide) ?_) ?_
 ·simp only [go_sem, Int.natCast_zero]
 rintro ⟨i, hi⟩
 refine vc_at T ?_
 by_cases hin : i < a.length
 ·have c1 : (i : Int) < (a.length : Int) := by omega
  have c2 : (i : Int) + 1 = ((i + 1 : Nat) : Int) := by omega
  have c3 : 0 ≤ (i : Int) := by omega
  have q1 := hb i
  have c4 := cmpQ_self (cf a i)
  simp only [go_sem, hin, c1, c2, c3, q1, c4]
  refine ⟨by rfl, ⟨by omega, by omega⟩, ⟨i + 1, hin⟩, Wk.of [] (by decide) ?_, by simp only; omega⟩
  simp only [go_sem]
 ·have c1 : ¬ (i : Int) < (a.length : Int) := by omega
  simp only [go_sem, c1]
end Go.Proofs.YtfbogelmgdojgaaGreat


/- Contracts: the reference's matrix, trace and norm. -/
namespace Go.Proofs.YtfbogelmgdojgaaGreat
set_option linter.unusedSimpArgs false
set_option linter.unusedVariables false
open Go.RowKit

def kM6Mx : Con := con2 pR pR fun q a => (Can a ∧ MxOk q a, .lst (V.mat (mxL q a)))
attribute [go_sem ↓, go_sem] kM6Mx
def mzR (q a : List Rat) (i j : Nat) : List V := V.rats (rg (fun c => MA q a c i) j) ++ List.replicate (q.length - 1 - j) z0
def mzL (q a : List Rat) (i j : Nat) : List (List V) := (List.range (q.length - 1)).map fun r => mzR q a r (if r < i then j + 1 else j)
theorem mzR_len (q a : List Rat) (i : Nat) {j : Nat} (h : j ≤ q.length - 1) : (mzR q a i j).length = q.length - 1 := by
 unfold mzR
 rw [List.length_append, rats_len, rg_len, List.length_replicate]; omega
theorem mzL_len (q a : List Rat) (i j : Nat) : (mzL q a i j).length = q.length - 1 := by simp [mzL]
theorem mzL_get {q a : List Rat} {i j r : Nat} (h : r < q.length - 1) : (mzL q a i j).getD r [] = mzR q a r (if r < i then j + 1 else j) := by
 unfold mzL
 rw [List.getD_eq_getElem?_getD, List.getElem?_map, List.getElem?_range h]; rfl
theorem mzR_set {q a : List Rat} {i j : Nat} (h : j < q.length - 1) : (mzR q a i j).set j (.Q (MA q a j i)) = mzR q a i (j + 1) := by
 unfold mzR
 have e : q.length - 1 - j = (q.length - 1 - (j + 1)) + 1 := by omega
 rw [e, List.replicate_succ, ← rg_snoc]
 have l : (V.rats (rg (fun c => MA q a c i) j)).length = j := by rw [rats_len, rg_len]
 rw [List.set_append_right _ _ (by omega), l, Nat.sub_self, List.set_cons_zero]
 simp [V.rats]
theorem mzR_at {q a : List Rat} {i j : Nat} (h : j < q.length - 1) : (mzR q a i j)[j]? = some z0 := by
 unfold mzR
 have l : (V.rats (rg (fun c => MA q a c i) j)).length = j := by rw [rats_len, rg_len]
 rw [List.getElem?_append_right (by omega), l, Nat.sub_self, List.getElem?_replicate, if_pos (by omega)]
theorem mzR_pure (q a : List Rat) (i j : Nat) : allPure (mzR q a i j) := fun y hy => by
 unfold mzR at hy
 rcases List.mem_append.1 hy with h | h
 ·exact of_eq_true (rats_pure _) y h
 ·rw [List.eq_of_mem_replicate h]; rfl
theorem mzL_next {q a : List Rat} {i j : Nat} (hi : i < q.length - 1) (hj : j < q.length - 1) : (mzL q a i j).set i ((mzR q a i j).set j (.Q (MA q a j i))) = mzL q a (i + 1) j := by
 refine List.ext_getElem (by rw [List.length_set, mzL_len, mzL_len]) fun r h1 h2 => ?_
 rw [List.length_set, mzL_len] at h1
 have g : ∀ i, (mzL q a i j)[r]? = some (mzR q a r (if r < i then j + 1 else j)) := fun i => by
  unfold mzL
  rw [List.getElem?_map, List.getElem?_range h1]; rfl
 refine Option.some.inj ?_
 rw [← List.getElem?_eq_getElem, ← List.getElem?_eq_getElem, g]
 by_cases e : i = r
 ·subst e
  rw [List.getElem?_set_self (by rw [mzL_len]; exact h1), mzR_set hj, if_pos (by omega)]
 ·rw [List.getElem?_set_ne e, g]
  by_cases c : r < i
  ·rw [if_pos c, if_pos (by omega)]
  ·rw [if_neg c, if_neg (by omega)]
theorem mzL_col {q a : List Rat} {j : Nat} : mzL q a (q.length - 1) j = mzL q a 0 (j + 1) := by
 unfold mzL
 refine List.map_congr_left fun r hr => ?_
 rw [if_pos (List.mem_range.1 hr), if_neg (by omega)]
theorem mzL_full {q a : List Rat} {i : Nat} (hi : i < q.length - 1) : (mzL q a 0 (q.length - 1)).getD i [] = V.rats ((mxL q a).getD i []) := by
 rw [mzL_get hi, if_neg (by omega), mxL_get hi]
 unfold mzR
 rw [Nat.sub_self]; simp
set_option maxRecDepth 8000 in
set_option maxHeartbeats 4000000 in
theorem m6Mx_C : Ctr Tryz.prog 51 kM6Mx := Ctr.c2 (by kernel_rfl) fun q a h => by
 obtain ⟨ca, ⟨h2, hl⟩, hm⟩ := h
 show PCall _ _ _ (.lst (V.mat (mxL q a)))
 have T := (tabs mixed (tbl_cons r2Whole_C (tbl_cons rPower_C (tbl_cons rM6Mul_C tbl_nil))))
 have mx : maxLen = 9223372036854775807 := by decide
 have w0 : allWid (List.replicate (q.length - 1) z0) 4 = True := eq_true fun y hy => by rw [List.eq_of_mem_replicate hy]; rfl
 refine PCall.of_vc T Tryz.func51 rfl Tryz.ntmps51 Tryz.results51 (by simp) ?_
 obtain ⟨n, en⟩ : ∃ n, q.length - 1 = n := ⟨_, rfl⟩
 have c0 : (q.length : Int) - 1 = (n : Int) := by omega
 simp only [go_sem, c0]
 refine ⟨⟨by omega, by omega⟩, ?_⟩
 obtain ⟨M0, eM0⟩ : ∃ M0, mzL q a 0 0 = M0 := ⟨_, rfl⟩
 have lM0 : M0.length = n := by rw [← eM0, mzL_len, en]
 have g0 : ∀ i, i < n → M0.getD i [] = List.replicate n z0 := fun i hi => by
  rw [← eM0, mzL_get (by omega), if_neg (by omega), ← en]; rfl
 have lt : ∀ i, i ≤ n → (M0.take i).length = i := fun i hi => by rw [List.length_take, lM0]; omega
 have lm : ∀ i, i ≤ n → min i M0.length = i := fun i hi => by rw [lM0]; omega
 refine AWp.loops (X := { i : Nat // i ≤ n }) (fun i => mkW 0 1 29 45 n [(0, .lst (V.rats q)), (1, .lst (V.rats a)), (4, .raw (.slice none 0 0)), (5, .raw (.int .i64 (n : Nat))), (6, .sl 0 1 0 i.1), (7, .raw (.int .i64 (i.1 : Nat)))] [] (M0.take i.1) 63) (fun i => n - i.1) ⟨0, Nat.zero_le _⟩ (Wk.ofW [5] (fun _ => 0) rfl (by decide) (by simp) (thR_nodup (by decide) (fun i j hi => by simp at hi) (fun x hx i hi => by simp at hi)) ?_ ?_ ?_ ?_ ?_ ?_) ?_
 ·simp only [go_sem]
 ·simp only [go_sem, Int.natCast_zero]
 ·simp only [go_sem]
 ·have e0 : V.rwG (fun _ => 0) n 0 = [] := rfl
  simp only [go_sem, List.take_zero, e0]
 ·intro i hi
  simp at hi
 ·intro i hi
  simp at hi
 rintro ⟨i, hi⟩
 refine vc_atW T ?_
 rw [lt i hi]
 by_cases hin : i < n
 ·have c1 : (i : Int) < (n : Int) := by omega
  have c2 : (i : Int) + 1 = ((i + 1 : Nat) : Int) := by omega
  simp only [go_sem, c1, c2, mx, lm i hi]
  refine ⟨⟨by omega, by omega, by omega, by omega⟩, ⟨by omega, by omega⟩, ⟨by omega, by omega⟩, ⟨i + 1, hin⟩, Wk.ofW [rid 1 i + 7] (rhoS 1 i (rid 1 i + 5)) rfl (by decide) (by simp) (thR_nodup (by simp) (fun a b ha hb e => ?_) (fun x hx a ha => ?_)) ?_ ?_ ?_ ?_ ?_ ?_, by simp only; omega⟩
  ·simp only [lt (i + 1) hin] at ha hb
   unfold rhoS rid at e
   split at e <;> split at e <;> omega
  ·simp only [lt (i + 1) hin] at ha
   unfold rhoS rid
   simp [rid] at hx
   split <;> omega
  ·simp only [go_sem]
  ·simp only [go_sem]
  ·simp only [go_sem, rid_nn, matV_lo]
  ·have e1 : (V.rwI 1 n i).take i ++ [V.sl (rid 1 i + 5) 4 0 n] = V.rwG (rhoS 1 i (rid 1 i + 5)) n (i + 1) := by
    rw [List.take_of_length_le (by rw [rwI_len]; exact Nat.le_refl _), rwI_snoc]
   simp only [go_sem, e1, lm (i + 1) hin]
   trace_state
  ·intro j hj
   simp only [lt (i + 1) hin] at hj
   have e1 : (M0.take (i + 1)).getD j [] = M0.getD j [] := by
    rw [List.getD_eq_getElem?_getD, List.getD_eq_getElem?_getD, List.getElem?_take, if_pos hj]
   rw [e1, g0 j (by omega)]
   intro y hy
   rw [List.eq_of_mem_replicate hy]; rfl
  ·intro j hj
   simp only [lt (i + 1) hin] at hj
   have e1 : (M0.take (i + 1)).getD j [] = M0.getD j [] := by
    rw [List.getD_eq_getElem?_getD, List.getD_eq_getElem?_getD, List.getElem?_take, if_pos hj]
   rw [e1]
   by_cases hji : j < i
   ·have e2 : (M0.take i).getD j [] = M0.getD j [] := by
     rw [List.getD_eq_getElem?_getD, List.getD_eq_getElem?_getD, List.getElem?_take, if_pos hji]
    have e3 : rhoS 1 i (rid 1 i + 5) j = rid 1 j := if_pos hji
    have e4 := matV_row (o := 0) (b := 1) (tO := 29) (t := 45) (w := n) (M := M0.take i) (H := fun _ => none) (i := j) (by decide) (by rw [lt i hi]; exact hji)
    rw [e2] at e4
    simp only [go_sem, e3, rid_rn, rid_rl, hji, e4]
   ·obtain rfl : j = i := by omega
    have e3 : rhoS 1 j (rid 1 j + 5) j = rid 1 j + 5 := if_neg (Nat.lt_irrefl j)
    rw [g0 j hin]
    simp only [go_sem, e3, rid_nl, rid_cc]
    rfl
 obtain rfl : n = i := by omega
 have c1 : ¬ (n : Int) < (n : Int) := by omega
 have tM : M0.take n = M0 := List.take_of_length_le (by omega)
 simp only [go_sem, c1, tM]
 have lZ : ∀ i j, (mzL q a i j).length = n := fun i j => by rw [mzL_len, en]
 have pz : ∀ i j r, r < n → allPure ((mzL q a i j).getD r []) := fun i j r hi => by
  rw [mzL_get (by omega)]; exact mzR_pure _ _ _ _
 refine AWp.loops (X := { j : Nat // j ≤ n }) (fun j => mkW 0 1 29 45 n [(0, .lst (V.rats q)), (1, .lst (V.rats a)), (4, .raw (.slice none 0 0)), (5, .raw (.int .i64 (n : Nat))), (6, .sl 0 1 0 n), (8, .raw (.int .i64 (j.1 : Nat)))] [] (mzL q a 0 j.1) 63) (fun j => n - j.1) ⟨0, Nat.zero_le _⟩ (Wk.ofW [0] (rid 1) rfl (by decide) (by simp) (thR_nodup (by decide) (fun a b ha hb e => by unfold rid at e; omega) (fun x hx a ha => by simp [rid] at hx ⊢; omega)) ?_ ?_ ?_ ?_ ?_ ?_) ?_
 ·simp only [go_sem]
 ·simp only [go_sem, Int.natCast_zero]
 ·simp only [go_sem]
 ·simp only [go_sem, lZ, lM0]
  exact rfl
 ·intro r hr
  exact pz _ _ r (by rw [lZ] at hr; exact hr)
 ·intro r hr
  rw [eM0]
  have := matV_row (o := 0) (b := 1) (tO := 29) (t := 45) (w := n) (M := M0) (H := fun _ => none) (i := r) (by decide) (by rw [lM0]; rw [lZ] at hr; exact hr)
  exact this
 rintro ⟨j, hj⟩
 refine vc_atW T ?_
 simp only [lZ]
 by_cases hjn : j < n
 ·have c1 : (j : Int) < (n : Int) := by omega
  have c2 : (j : Int) + 1 = ((j + 1 : Nat) : Int) := by omega
  have c3 : 0 ≤ (j : Int) := by omega
  have c4 : (j : Int) ≤ 1000000 := by omega
  obtain ⟨m1, m2, m3, m4⟩ := hm j (by omega)
  have pm : tr (mon ((1 : Int) : Rat) j) = mon 1 j := tr_of_can (mon_can j (by decide))
  obtain ⟨c, ec⟩ : ∃ c, pMod (pMul a (mon 1 j)) q = c := ⟨_, rfl⟩
  have cc : ∀ i, cf c i = MA q a j i := fun i => by rw [← ec, xs_mul ca]; rfl
  simp only [go_sem, c1, c2, c3, c4, pm, m1, m2, m3, m4, ec]
  refine AWp.loops (X := { i : Nat // i ≤ n }) (fun i => mkW 0 1 29 45 n [(0, .lst (V.rats q)), (1, .lst (V.rats a)), (4, .raw (.slice none 0 0)), (5, .raw (.int .i64 (n : Nat))), (6, .sl 0 1 0 n), (8, .raw (.int .i64 (j : Nat))), (9, .lst (V.rats c)), (10, .raw (.int .i64 (i.1 : Nat)))] [] (mzL q a i.1 j) 63) (fun i => n - i.1) ⟨0, Nat.zero_le _⟩ (Wk.ofW [0] (rid 1) rfl (by decide) (by simp) (thR_nodup (by decide) (fun a b ha hb e => by unfold rid at e; omega) (fun x hx a ha => by simp [rid] at hx ⊢; omega)) ?_ ?_ ?_ ?_ ?_ ?_) ?_
  ·simp only [go_sem]
  ·simp only [go_sem, Int.natCast_zero]
  ·simp only [go_sem]
  ·simp only [go_sem, lZ]
   exact rfl
  ·intro r hr
   exact pz _ _ r (by rw [lZ] at hr; exact hr)
  ·intro r hr
   have := matV_row (o := 0) (b := 1) (tO := 29) (t := 45) (w := n) (M := mzL q a 0 j) (H := fun _ => none) (i := r) (by decide) hr
   exact this
  rintro ⟨i, hi⟩
  refine vc_atW T ?_
  simp only [lZ]
  have nx : ∀ i, i ≤ n → (i < n → (mzL q a i j).set i ((mzR q a i j).set j (.Q (MA q a j i))) = mzL q a (i + 1) j) := fun i _ h => mzL_next (by omega) (by omega)
  by_cases hin : i < n
  ·have d1 : (i : Int) < (n : Int) := by omega
   have d2 : (i : Int) + 1 = ((i + 1 : Nat) : Int) := by omega
   have d3 : 0 ≤ (i : Int) := by omega
   have nx := nx i hi hin
   have gZ : (mzL q a i j).getD i [] = mzR q a i j := by rw [mzL_get (by omega), if_neg (Nat.lt_irrefl i)]
   have lR : (mzR q a i j).length = n := by rw [mzR_len q a i (by omega), en]
   have lz := lZ i j
   have at0 : (mzR q a i j)[j]? = some z0 := mzR_at (by omega)
   have wz : z0.wid = 4 := rfl
   obtain ⟨Z, eZ⟩ : ∃ Z, mzL q a i j = Z := ⟨_, rfl⟩
   obtain ⟨R, eR⟩ : ∃ R, mzR q a i j = R := ⟨_, rfl⟩
   rw [eZ, eR] at gZ nx
   rw [eZ] at lz ⊢
   rw [eR] at lR at0
   have jR : j < R.length := by omega
   have hil : i < Z.length := by omega
   have rI := matV_row (o := 0) (b := 1) (tO := 29) (t := 45) (w := n) (M := Z) (H := fun _ => none) (i := i) (by decide) hil
   rw [gZ] at rI
   have upI : ∀ l, (matV 0 1 29 45 n Z (fun _ => none)).up (rid 1 i) (some ⟨45, 4, l⟩) = matV 0 1 29 45 n (Z.set i l) (fun _ => none) := fun l => matV_up (by decide) hil l
   have rI2 : ∀ l, matV 0 1 29 45 n (Z.set i l) (fun _ => none) (rid 1 i) = some ⟨45, 4, l⟩ := fun l => by
    rw [matV_row (by decide) (by rw [List.length_set]; exact hil), List.getD_eq_getElem?_getD, List.getElem?_set_self hil]; rfl
   have upI2 : ∀ l l', (matV 0 1 29 45 n (Z.set i l) (fun _ => none)).up (rid 1 i) (some ⟨45, 4, l'⟩) = matV 0 1 29 45 n (Z.set i l') (fun _ => none) := fun l l' => by
    rw [matV_up (by decide) (by rw [List.length_set]; exact hil), List.set_set]
   have at1 : ∀ x, (R.set j x)[j]? = some x := fun x => List.getElem?_set_self jR
   have ls : ∀ l, (Z.set i l).length = n := fun l => by rw [List.length_set]; exact lz
   by_cases hic : i < c.length
   ·have d4 : (i : Int) < (c.length : Int) := by omega
    have cci := cc i
    simp only [go_sem, d1, d2, d3, d4, c1, c3, lz, ls, hin, jR, hic, rI, upI, rI2, upI2, at0, at1, wz, List.length_set, List.set_set, cci, nx]
    refine ⟨chk_map (rnm 1 n) (by simp only [List.map_cons, List.map_nil, mapF, rnm_row hin, rnm_lo, Nat.reduceLT]; rfl), chk_map (rnm 1 n) (by simp only [List.map_cons, List.map_nil, mapF, rnm_row hin, rnm_lo, Nat.reduceLT]; rfl), ⟨by omega, by omega⟩, ⟨i + 1, hin⟩, Wk.ofW [0] (rid 1) rfl (by decide) (by simp) (thR_nodup (by decide) (fun a b ha hb e => by unfold rid at e; omega) (fun x hx a ha => by simp [rid] at hx ⊢; omega)) ?_ ?_ ?_ ?_ ?_ ?_, by simp only; omega⟩
    ·simp only [go_sem]
    ·simp only [go_sem]
    ·simp only [go_sem]
    ·simp only [go_sem, lZ]
     exact rfl
    ·intro r hr
     exact pz _ _ r (by rw [lZ] at hr; exact hr)
    ·intro r hr
     have := matV_row (o := 0) (b := 1) (tO := 29) (t := 45) (w := n) (M := mzL q a (i + 1) j) (H := fun _ => none) (i := r) (by decide) hr
     exact this
   ·have d4 : ¬ (i : Int) < (c.length : Int) := by omega
    have cci : ((0 : Int) : Rat) = MA q a j i := by rw [← cc i, cf_ge (by omega)]; rfl
    simp only [go_sem, d1, d2, d3, d4, c1, c3, lz, ls, hin, jR, hic, rI, upI, rI2, upI2, at0, at1, wz, cci, nx]
    refine ⟨chk_map (rnm 1 n) (by simp only [List.map_cons, List.map_nil, mapF, rnm_row hin, rnm_lo, Nat.reduceLT]; rfl), ⟨by omega, by omega⟩, ⟨i + 1, hin⟩, Wk.ofW [0] (rid 1) rfl (by decide) (by simp) (thR_nodup (by decide) (fun a b ha hb e => by unfold rid at e; omega) (fun x hx a ha => by simp [rid] at hx ⊢; omega)) ?_ ?_ ?_ ?_ ?_ ?_, by simp only; omega⟩
    ·simp only [go_sem]
    ·simp only [go_sem]
    ·simp only [go_sem]
    ·simp only [go_sem, lZ]
     exact rfl
    ·intro r hr
     exact pz _ _ r (by rw [lZ] at hr; exact hr)
    ·intro r hr
     have := matV_row (o := 0) (b := 1) (tO := 29) (t := 45) (w := n) (M := mzL q a (i + 1) j) (H := fun _ => none) (i := r) (by decide) hr
     exact this
  ·obtain rfl : n = i := by omega
   have d1 : ¬ (n : Int) < (n : Int) := by omega
   have nc : mzL q a n j = mzL q a 0 (j + 1) := by rw [← en]; exact mzL_col
   simp only [go_sem, d1, c2, nc]
   refine ⟨⟨by omega, by omega⟩, ⟨j + 1, hjn⟩, Wk.ofW [0] (rid 1) rfl (by decide) (by simp) (thR_nodup (by decide) (fun a b ha hb e => by unfold rid at e; omega) (fun x hx a ha => by simp [rid] at hx ⊢; omega)) ?_ ?_ ?_ ?_ ?_ ?_, by simp only; omega⟩
   ·simp only [go_sem]
   ·simp only [go_sem]
   ·simp only [go_sem]
   ·simp only [go_sem, lZ]
    exact rfl
   ·intro r hr
    exact pz _ _ r (by rw [lZ] at hr; exact hr)
   ·intro r hr
    have := matV_row (o := 0) (b := 1) (tO := 29) (t := 45) (w := n) (M := mzL q a 0 (j + 1)) (H := fun _ => none) (i := r) (by decide) hr
    exact this
 ·obtain rfl : n = j := by omega
  have c1 : ¬ (n : Int) < (n : Int) := by omega
  have lX : (mxL q a).length = n := by rw [mxL_len, en]
  have rows : ∀ K : List V → List Nat → Prop, frzs (frzE (argN (matV 0 1 29 45 n (mzL q a 0 n) (fun _ => none)) 2)) (V.rwI 1 n n) K = K (V.mat (mxL q a)) ((List.range n).map (rid 1)) := fun K =>
   frzs_rwW (m := 1) (t := 45) lX fun r hr => by
    have h1 := matV_row (o := 0) (b := 1) (tO := 29) (t := 45) (w := n) (M := mzL q a 0 n) (H := fun _ => none) (i := r) (by decide) (by rw [lZ]; omega)
    have h3 := mzL_full (q := q) (a := a) (i := r) (by omega)
    rw [en] at h3
    rw [h3] at h1
    exact ⟨h1, by rw [mxL_get (by omega), rg_len, en]⟩
  have tk : (V.rwI 1 n n).take n = V.rwI 1 n n := List.take_of_length_le (by rw [rwI_len]; exact Nat.le_refl _)
  simp only [go_sem, c1, lZ, tk, rows]
end Go.Proofs.YtfbogelmgdojgaaGreat


/- Contracts: the reference's trace, norm and power sums. -/
namespace Go.Proofs.YtfbogelmgdojgaaGreat
set_option linter.unusedSimpArgs false
set_option linter.unusedVariables false
open Go.RowKit

def kM6Tr : Con := con2 pR pR fun q a => (Can a ∧ TrC q a, .Q (TrM q a))
attribute [go_sem ↓, go_sem] kM6Tr
set_option maxRecDepth 8000 in
theorem m6Tr_C : Ctr Tryz.prog 21 kM6Tr := Ctr.c2 (by kernel_rfl) fun q a h => by
 obtain ⟨ca, hm, hs, hd⟩ := h
 show PCall _ _ _ (.Q (TrM q a))
 have T := (tabs mixed (tbl_cons m6Mx_C (tbl_cons r2Whole_C (tbl_cons r2Add_C tbl_nil))))
 refine PCall.of_vc T Tryz.func21 rfl Tryz.ntmps21 Tryz.results21 (by simp) ?_
 have lM := mxL_len q a
 have cM : ∀ i, i < q.length - 1 → cf ((mxL q a).getD i []) i = MA q a i i ∧ ((mxL q a).getD i []).length = q.length - 1 := fun i hi => ⟨mxL_cf hi hi, by rw [mxL_get hi, rg_len]⟩
 have e0 : ((0 : Int) : Rat) = sm 0 fun j => MA q a j j := rfl
 obtain ⟨M, eM⟩ : ∃ M, mxL q a = M := ⟨_, rfl⟩
 obtain ⟨n, en⟩ : ∃ n, q.length - 1 = n := ⟨_, rfl⟩
 have eT : TrM q a = sm n fun j => MA q a j j := by unfold TrM; rw [en]
 obtain ⟨F, eF⟩ : ∃ F : Nat → Rat, (fun j => MA q a j j) = F := ⟨_, rfl⟩
 have cF : ∀ i, MA q a i i = F i := fun i => by rw [← eF]
 simp only [eM, en, eF, cF] at hs hd lM cM e0 eT
 rw [eT]
 have n100 : n ≤ 100 := by have := hm.1.2; omega
 have hm' : MxOk q a = True := eq_true hm
 have z0' : z0 = .agg [.raw (.bool false), .raw (.slice none 0 0), .raw (.bool false), .raw (.slice none 0 0)] := rfl
 simp only [go_sem, ca, hm', eM, e0]
 refine AWp.loops (X := { i : Nat // i ≤ n }) (fun i => mkSt [(4, .ptr 0 4 0 0), (5, .lst (V.mat M)), (6, .ptr 1 4 0 0), (7, .raw (.int .i64 (i.1 : Nat)))] [(0, true, ⟨45, 4, [z0]⟩), (1, true, ⟨45, 4, [.Q (sm i.1 F)]⟩)] 2 28) (fun i => n - i.1) ⟨0, Nat.zero_le _⟩ (Wk.of [0, 6] (by decide) ?_) ?_
 ·simp only [go_sem, Int.natCast_zero]
  exact ⟨rfl, rfl⟩
 rintro ⟨i, hi⟩
 refine vc_at T ?_
 by_cases hin : i < n
 ·have c1 : (i : Int) < (n : Int) := by omega
  have c2 : (i : Int) + 1 = ((i + 1 : Nat) : Int) := by omega
  have c3 : 0 ≤ (i : Int) := by omega
  obtain ⟨g1, g2⟩ := cM i hin
  have hiM : i < M.length := by omega
  have g3 : i < (M.getD i []).length := by omega
  have s1 := hs i hi
  have s2 := hd i hin
  simp only [go_sem, lM, c1, c2, c3, hiM, g1, g2, g3, s1, s2]
  have e1 : sm i F + F i = sm (i + 1) F := rfl
  refine ⟨hin, hin, by rfl, ⟨by omega, by omega⟩, ⟨i + 1, hin⟩, Wk.of [0, 1] (by decide) ?_, by simp only; omega⟩
  simp only [go_sem, e1]
  exact rfl
 ·obtain rfl : n = i := by omega
  have c1 : ¬ (n : Int) < (n : Int) := by omega
  simp only [go_sem, lM, c1, z0']
def kM6Norm : Con := con2 pR pR fun q a => (Can a ∧ MxOk q a ∧ DetOk (mxL q a), .Q (Nm q a))
attribute [go_sem ↓, go_sem] kM6Norm
theorem m6Norm_C : Ctr Tryz.prog 23 kM6Norm := Ctr.c2 (by kernel_rfl) fun q a h => by
 obtain ⟨ca, h1, h2⟩ := h
 show PCall _ _ _ (.Q (Nm q a))
 have e := mxL_det q a
 refine PCall.of_vc (tabs mixed (tbl_cons m6Mx_C (tbl_cons rDet_C tbl_nil))) Tryz.func23 rfl Tryz.ntmps23 Tryz.results23 (by simp) ?_
 simp only [go_sem, ca, eq_true h1, eq_true h2, e]
def kM6Pow : Con := con2 pR (pN .i64) fun q n => (Can q ∧ PwC q n.toNat ∧ n ≤ 100, .lst (V.rats (rg (fun i => TrM q (pwX q (mon 1 1) i)) n.toNat)))
attribute [go_sem ↓, go_sem] kM6Pow
set_option maxRecDepth 8000 in
theorem m6Pow_C : Ctr Tryz.prog 26 kM6Pow := Ctr.c2 (by kernel_rfl) fun q z h => by
 obtain ⟨cq, ⟨⟨h2, hl, hn⟩, hp⟩, hz⟩ := h
 show PCall _ _ _ (.lst (V.rats (rg (fun i => TrM q (pwX q (mon 1 1) i)) z.toNat)))
 have T := (tabs mixed (tbl_cons m6Tr_C (tbl_cons r2Whole_C (tbl_cons rPower_C (tbl_cons rM6Mul_C tbl_nil)))))
 have mx : maxLen = 9223372036854775807 := by decide
 obtain ⟨F, eF⟩ : ∃ F : Nat → Rat, (fun i => TrM q (pwX q (mon 1 1) i)) = F := ⟨_, rfl⟩
 have cF : ∀ i, TrM q (pwX q (mon 1 1) i) = F i := fun i => by rw [← eF]
 rw [eF]
 have cX : ∀ i, Can (pwX q (mon 1 1) i) := fun i => by rw [pwX_z cq h2]; exact (dm_ok (mon_can i (by decide)) cq (fun e => by rw [e] at h2; simp at h2)).1.2
 have x0 : pwX q (mon 1 1) 0 = [((1 : Int) : Rat)] := by
  rw [pwX_z cq h2]
  exact (dm_small (mon_can 0 (by decide)) cq (by rw [mon_len]; omega)).2
 have xs : ∀ i, pMod (pMul (pwX q (mon 1 1) i) (mon 1 1)) q = pwX q (mon 1 1) (i + 1) := fun i => rfl
 have tm : tr (mon ((1 : Int) : Rat) 1) = mon 1 1 := tr_of_can (mon_can 1 (by decide))
 obtain ⟨X, eX⟩ : ∃ X, pwX q (mon 1 1) = X := ⟨_, rfl⟩
 rw [eX] at x0
 simp only [eX] at hp cF cX xs
 obtain ⟨n, en⟩ : ∃ n, z.toNat = n := ⟨_, rfl⟩
 rw [en] at hn hp ⊢
 refine PCall.of_vc T Tryz.func26 rfl Tryz.ntmps26 Tryz.results26 (by simp) ?_
 simp only [go_sem]
 refine AWp.frzS 6 ?_
 simp only [go_sem, x0]
 refine AWp.loops (X := { i : Nat // i ≤ n }) (fun i => mkSt [(0, .lst (V.rats q)), (1, .raw (.int .i64 z)), (4, .raw (.slice none 0 0)), (5, .sl 0 4 0 i.1), (6, .lst (V.rats (X i.1))), (7, .raw (.int .i64 (i.1 : Nat)))] [(0, true, ⟨45, 4, V.rats (rg F i.1)⟩)] 1 28) (fun i => n - i.1) ⟨0, Nat.zero_le _⟩ (Wk.of [1] (by decide) ?_) ?_
 ·simp only [go_sem, x0, rg_0, rats_0, Int.natCast_zero]
  exact rfl
 rintro ⟨i, hi⟩
 refine vc_at T ?_
 by_cases hin : i < n
 ·have c1 : (i : Int) < z := by omega
  have c2 : (i : Int) + 1 = ((i + 1 : Nat) : Int) := by omega
  obtain ⟨p1, p2, p3, p4, p5⟩ := hp i hin
  have p1' := eq_true p1
  simp only [go_sem, c1, c2, cX, p1', p2, p3, p4, p5, tm, xs, cF, rg_snoc, mx]
  refine ⟨⟨by omega, by omega⟩, ⟨by omega, by omega⟩, ⟨i + 1, hin⟩, Wk.of [9] (by decide) ?_, by simp only; omega⟩
  simp only [go_sem]
 ·obtain rfl : n = i := by omega
  have c1 : ¬ (n : Int) < z := by omega
  simp only [go_sem, c1]
end Go.Proofs.YtfbogelmgdojgaaGreat


/- Contracts: the reference's inverse. -/
namespace Go.Proofs.YtfbogelmgdojgaaGreat
set_option linter.unusedSimpArgs false
set_option linter.unusedVariables false
open Go.RowKit

theorem frzs_snocW {H : Hp} {m : Nat} {x : V} : ∀ {L : List V} {kL : List V → List Nat → Prop}, frzOk L → frzs (frzE (argN H m)) (L ++ [x]) kL = frzs (frzE (argN H m)) [x] fun ys rs => kL (L ++ ys) rs
 | [], _, _ => rfl
 | y :: L, kL, h => by
   obtain ⟨h1, h2, h3⟩ := h y (by simp)
   have e : ∀ k, frzE (argN H m) y k = k y [] := fun k => by
    unfold frzE
    by_cases ha : y.isAgg = true
    ·rw [if_pos ha, if_pos h1]
    ·rw [if_neg ha]; exact argN_pure (by simpa using ha) h1 h2 h3
   show frzs _ (y :: (L ++ [x])) kL = _
   rw [frzs, e, frzs_snocW fun z hz => h z (by simp [hz])]
   rfl
theorem frz_mat_snocW {H : Hp} {m : Nat} {x : V} {l : List (List Rat)} {kL : List V → List Nat → Prop} : frzs (frzE (argN H m)) (V.mat l ++ [x]) kL = frzs (frzE (argN H m)) [x] fun ys rs => kL (V.mat l ++ ys) rs := frzs_snocW (of_eq_true (mat_frz l))
def kM6Inv : Con := con2 pR pR fun q a => (Can a ∧ IvC q a, iv6 q a)
attribute [go_sem ↓, go_sem] kM6Inv
set_option maxRecDepth 8000 in
set_option maxHeartbeats 4000000 in
theorem m6Inv_C : Ctr Tryz.prog 12 kM6Inv := Ctr.c2 (by kernel_rfl) fun q a h => by
 obtain ⟨ca, hm, hd, hc, hn⟩ := h
 show PCall _ _ _ (iv6 q a)
 have T := (tabs mixed (tbl_cons m6Mx_C (tbl_cons rDet_C (tbl_cons r2Sign_C (tbl_cons r2Whole_C (tbl_cons r2Ovr_C (tbl_cons rTrim_C tbl_nil)))))))
 have mx : maxLen = 9223372036854775807 := by decide
 refine PCall.of_vc T Tryz.func12 rfl Tryz.ntmps12 Tryz.results12 (by simp) ?_
 have hm' : MxOk q a = True := eq_true hm
 have e0 := mxL_det q a
 have lM := mxL_len q a
 have wM : ∀ i, i < q.length - 1 → ((mxL q a).getD i []).length = q.length - 1 := fun i hi => by rw [mxL_get hi, rg_len]
 have n100 : q.length - 1 ≤ 100 := by have := hm.1.2; omega
 have eI : iv6 q a = if Nm q a = 0 then .tup [.lst (V.rats []), .raw (.int .i64 60)] else .tup [.lst (V.rats (tr (rg (fun k => det (crL (mxL q a) k (q.length - 1)).length (subM 0 (crL (mxL q a) k (q.length - 1))) / Nm q a) (q.length - 1)))), .raw (.int .i64 0)] := rfl
 rw [eI]
 obtain ⟨d, ed⟩ : ∃ d, Nm q a = d := ⟨_, rfl⟩
 obtain ⟨n, en⟩ : ∃ n, q.length - 1 = n := ⟨_, rfl⟩
 obtain ⟨M, eM⟩ : ∃ M, mxL q a = M := ⟨_, rfl⟩
 rw [eM, ed] at e0
 rw [eM] at hd lM
 rw [ed] at hn
 simp only [ed, en, eM] at hc wM lM n100 hd hn ⊢
 obtain ⟨F, eF⟩ : ∃ F : Nat → Rat, F = fun k => det (crL M k n).length (subM 0 (crL M k n)) := ⟨_, rfl⟩
 have cF : ∀ k, det (crL M k n).length (subM 0 (crL M k n)) = F k := fun k => by rw [eF]
 simp only [cF] at hc ⊢
 have hd' : DetOk M = True := eq_true hd
 by_cases h0 : d = 0
 ·have s1 : (sgI d.num == 0) = true := by rw [sgn_numQ]; exact decide_eq_true h0
  rw [if_pos h0]
  simp only [go_sem, ca, hm', eM, e0, hd', s1]
  exact .inl rfl
 ·have s1 : (sgI d.num == 0) = false := by rw [sgn_numQ]; exact decide_eq_false h0
  rw [if_neg h0]
  simp only [go_sem, ca, hm', eM, e0, hd', s1]
  refine AWp.loops (X := { k : Nat // k ≤ n }) (fun k => mkSt [(4, .raw (.slice none 0 0)), (5, .raw (.int .i64 0)), (6, .lst (V.mat M)), (7, .ptr 0 4 0 0), (8, .sl 1 4 0 k.1), (9, .raw (.int .i64 (k.1 : Nat)))] [(0, true, ⟨45, 4, [.Q d]⟩), (1, true, ⟨45, 4, V.rats (rg (fun k => F k / d) k.1)⟩)] 2 64) (fun k => n - k.1) ⟨0, Nat.zero_le _⟩ (Wk.of [8, 13] (by decide) ?_) ?_
  ·simp only [go_sem, rg_0, rats_0, Int.natCast_zero]
  rintro ⟨k, hk⟩
  refine vc_at T ?_
  by_cases hkn : k < n
  ·have c1 : (k : Int) < (n : Int) := by omega
   have c2 : (k : Int) + 1 = ((k + 1 : Nat) : Int) := by omega
   simp only [go_sem, lM, c1]
   refine AWp.loops (X := { i : Nat // i ≤ n }) (fun i => mkSt [(4, .raw (.slice none 0 0)), (5, .raw (.int .i64 0)), (6, .lst (V.mat M)), (7, .ptr 0 4 0 0), (8, .sl 1 4 0 k), (9, .raw (.int .i64 (k : Nat))), (10, .sl 2 1 0 i.1), (11, .raw (.int .i64 (i.1 : Nat)))] [(0, true, ⟨45, 4, [.Q d]⟩), (1, true, ⟨45, 4, V.rats (rg (fun k => F k / d) k)⟩), (2, true, ⟨29, 1, V.mat (crL M k i.1)⟩)] 3 64) (fun i => n - i.1) ⟨0, Nat.zero_le _⟩ (Wk.of [0, 1, 6] (by decide) ?_) ?_
   ·have e0 : V.mat (crL M k 0) = [] := rfl
    simp only [go_sem, e0, Int.natCast_zero]
   rintro ⟨i, hi⟩
   refine AWp.endFrz 10 ?_
   refine vc_at T ?_
   by_cases hin : i < n
   ·have d1 : (i : Int) < (n : Int) := by omega
    have d2 : (i : Int) + 1 = ((i + 1 : Nat) : Int) := by omega
    have d3 : 0 ≤ (i : Int) := by omega
    have d4 : 0 ≤ (k : Int) := by omega
    have hiM : i < M.length := by omega
    have wi := wM i hin
    obtain ⟨r, er⟩ : ∃ r, M.getD i [] = r := ⟨_, rfl⟩
    rw [er] at wi
    have kr : k < r.length := by omega
    have kr' : (k : Int) < (r.length : Int) := by omega
    have tk : (crL M k i).take i = crL M k i := List.take_of_length_le (by rw [crL_len]; exact Nat.le_refl _)
    have lc := crL_len M k i
    have tk2 : ∀ x, List.take r.length (r.set k x) = r.set k x := fun x => List.take_of_length_le (by rw [List.length_set]; exact Nat.le_refl _)
    have rl1 : ∀ x, (r.set k x).length = r.length := fun x => List.length_set
    by_cases hi0 : i = 0
    ·have d5 : ((i : Int) == 0) = true := by rw [hi0]; rfl
     have sn : crL M k i ++ [r.set k ((1 : Int) : Rat)] = crL M k (i + 1) := by rw [← crL_snoc, er, if_pos hi0]; rfl
     simp only [go_sem, lM, d1, d2, d3, d4, d5, hiM, er, kr, kr', c1, mx, ev_frzT_n, frz_mat_snocW, lc, rl1, tk, mat_snoc, List.set_set, tk2, sn]
     refine ⟨hin, ⟨by omega, by omega⟩, ⟨by omega, by omega⟩, ⟨by omega, by omega⟩, ⟨i + 1, hin⟩, Wk.of [0, 1, 29] (by decide) ?_, by simp only; omega⟩
     simp only [go_sem]
    ·have d5 : ((i : Int) == 0) = false := by rw [beq_eq_false_iff_ne]; omega
     have sn : crL M k i ++ [r.set k ((0 : Int) : Rat)] = crL M k (i + 1) := by rw [← crL_snoc, er, if_neg hi0]; rfl
     simp only [go_sem, lM, d1, d2, d3, d4, d5, hiM, er, kr, kr', c1, mx, ev_frzT_n, frz_mat_snocW, lc, rl1, tk, mat_snoc, tk2, sn]
     refine ⟨hin, ⟨by omega, by omega⟩, ⟨by omega, by omega⟩, ⟨by omega, by omega⟩, ⟨i + 1, hin⟩, Wk.of [0, 1, 24] (by decide) ?_, by simp only; omega⟩
     simp only [go_sem]
   ·obtain rfl : n = i := by omega
    have d1 : ¬ (n : Int) < (n : Int) := by omega
    obtain ⟨hc1, hc2⟩ := hc k hkn
    have lC := crL_len M k n
    have cFk := cF k
    rw [lC] at cFk
    obtain ⟨C, eC⟩ : ∃ C, crL M k n = C := ⟨_, rfl⟩
    rw [eC] at lC cFk hc1
    have tkC : C.take n = C := List.take_of_length_le (by omega)
    have hc1' : DetOk C = True := eq_true hc1
    simp only [go_sem, lM, d1, c1, c2, eC, lC, tkC, cFk, hc1', hc2, hn, h0, rg_snoc, mx]
    refine ⟨⟨by omega, by omega⟩, by rfl, ⟨by omega, by omega⟩, ⟨k + 1, hkn⟩, Wk.of [0, 13] (by decide) ?_, by simp only; omega⟩
    simp only [go_sem]
  ·obtain rfl : n = k := by omega
   have c1 : ¬ (n : Int) < (n : Int) := by omega
   simp only [go_sem, lM, c1]
   omega
end Go.Proofs.YtfbogelmgdojgaaGreat

