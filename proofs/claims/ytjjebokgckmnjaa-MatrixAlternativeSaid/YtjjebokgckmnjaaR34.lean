/- Texts LM2 LM3 LM4 in one. -/
import Derived.Test.YtjjebokgckmnjaaR33
/- The law of the kernel. -/
namespace Go.Proofs.Ytjjebokgckmnjaa
set_option linter.unusedSimpArgs false
set_option linter.unusedVariables false
open Go.RowKit

theorem nats_snocV (l : List Nat) (n : Nat) : V.nats l ++ [.raw (.int .i64 (n : Int))] = V.nats (l ++ [n]) := by
  unfold V.nats
  rw [List.map_append]; rfl
theorem rre_sz {M : List (List Rat)} {w S : Nat} (h : SmM M w S) (i k : Nat) : qs (ent (rre M w) i k) ≤ sS S w := by
  have := (elm_sz h.wid h.sz w).1
  have sp : 1 ≤ sS S w := by
    have := this 0 0
    have := qs_pos (ent (elm M w).M 0 0)
    omega
  show qs (cf _ _) ≤ _
  unfold rre
  rw [gd_take]
  split
  · exact this i k
  · exact Nat.le_trans qs_0 sp
theorem sS_pos {M : List (List Rat)} {w S : Nat} (h : SmM M w S) : 1 ≤ sS S w := by
  have := (elm_sz h.wid h.sz w).1 0 0
  have := qs_pos (ent (elm M w).M 0 0)
  omega
theorem nvF_sz {M : List (List Rat)} {w S : Nat} (h : SmM M w S) {c : Nat} (hc : ∀ i, i < (elm M w).p.length → pv (elm M w).p i ≠ c) (k : Nat) : qs (nvF (elm M w).p (rre M w) c k) ≤ sS S w := by
  have hE := elm_RE h.wid
  have sp := sS_pos h
  by_cases hf : ∀ i, i < (elm M w).p.length → pv (elm M w).p i ≠ k
  · rw [nvF_free hf]
    split
    · exact Nat.le_trans qs_1 sp
    · exact Nat.le_trans qs_0 sp
  · obtain ⟨i, hi, rfl⟩ : ∃ i, i < (elm M w).p.length ∧ pv (elm M w).p i = k := Classical.byContradiction fun hn => hf fun i hi e => hn ⟨i, hi, e⟩
    rw [nvF_piv hE hc hi, qs_neg]
    exact rre_sz h i c
theorem nulM_Sm {M : List (List Rat)} {w S : Nat} (h : SmM M w S) : SmM (nulM (elm M w).p (rre M w) w) w (sS S w) := by
  have hE := elm_RE h.wid
  refine ⟨by rw [nulM_len]; have := frL_len (elm M w).p w; have := h.w; omega, nulM_wid hE, h.w, fun i k => ?_⟩
  have sp := sS_pos h
  by_cases hi : i < (frL (elm M w).p w).length
  · obtain ⟨f1, f2⟩ := frL_lt hi
    show qs (cf _ _) ≤ _
    rw [nulM_get hE hi, cf_mkr]
    split
    · exact nvF_sz h (fun j hj e => f2 (mem_pv.2 ⟨j, hj, e⟩)) k
    · exact Nat.le_trans qs_0 sp
  · rw [ent_ge (by rw [nulM_len]; omega)]
    exact Nat.le_trans qs_0 sp
/-- What Null gives, for a matrix whose number of columns is told. -/
theorem nul_eq {M : List (List Rat)} {w : Nat} (hW : Wid w M) : nulP (elm M (wdt M)).p (rre M (wdt M)) w w = nulM (elm M w).p (rre M w) w ∧ (elm M (wdt M)).p = (elm M w).p ∧ rre M (wdt M) = rre M w := by
  have : (elm M (wdt M)).p = (elm M w).p ∧ rre M (wdt M) = rre M w := by
    rw [wdt_of hW]
    split
    · rename_i h
      rw [List.eq_nil_of_length_eq_zero h]
      unfold rre
      rw [elm_nil, elm_nil]
      exact ⟨rfl, rfl⟩
    · exact ⟨rfl, rfl⟩
  rw [this.1, this.2]
  exact ⟨rfl, rfl, rfl⟩
theorem SmM.nul {M : List (List Rat)} {w S : Nat} (h : SmM M w S) (hS : S ≤ 20000000) : NulOk M ((w : Nat) : Int) := by
  refine ⟨⟨h.red hS, by omega, by have := h.w; omega⟩, fun h0 => ?_⟩
  rw [wdt_of h.wid, if_neg fun e => h0 (List.eq_nil_of_length_eq_zero e)]
theorem SmM.row {M : List (List Rat)} {w S : Nat} (h : SmM M w S) (i : Nat) : (M.getD i []).length ≤ 5 := by
  by_cases hi : i < M.length
  · rw [h.wid i hi]; exact h.w
  · rw [gd_ge (by omega)]; simp
theorem SmM.dot {M : List (List Rat)} {w S : Nat} (h : SmM M w S) (hS : S ≤ 10000000000) {x : List Rat} (hx : x.length ≤ 100) (hq : ∀ k, qs (cf x k) ≤ 10000000000) : RgOk M x :=
  ⟨by have := h.l; omega, fun i => ⟨⟨by have := h.row i; omega, hx⟩, fun k => Nat.le_trans (h.sz i k) hS, hq⟩⟩
theorem rg_zero {M : List (List Rat)} {w : Nat} {x : List Rat} (hW : Wid w M) (h : ∀ i, i < M.length → (sm w fun k => ent M i k * cf x k) = 0) : zrB (rgV M x) = true := zrB_iff.2 fun i hi => by
  rw [rgV_len] at hi
  rw [cf_rgV hW x hi]
  exact h i hi
set_option maxRecDepth 20000 in
set_option maxHeartbeats 4000000 in
theorem null5_V (x : Raw5) (hx : x.Ok) : PCall Try.prog 3 [x.v] (.raw (.bool true)) := by
  have T := (tabs mixed (tbl_cons sanity5_C (tbl_cons made5_C (tbl_cons rref_C (tbl_cons null_C (tbl_cons right_C (tbl_cons zerosB_C (tbl_cons r2Same_C (tbl_cons r2Whole_C tbl_nil)))))))))
  have mx : maxLen = 9223372036854775807 := by decide
  obtain ⟨R, C, W⟩ := x
  obtain ⟨r, c, M, er, ec, eM, hM, lM, hr, hc⟩ := raw_gen hx
  have hx' : (Raw5.mk R C W).Ok = True := eq_true hx
  have r1 : RedOk M ((wdt M : Nat) : Int) = True := eq_true (hM.red (by decide))
  have n1 : NulOk M ((c : Nat) : Int) = True := eq_true (hM.nul (by decide))
  refine PCall.of_vc T Try.func3 rfl Try.ntmps3 Try.results3 (by simp [Raw5.v]) ?_
  show vc _ _ _ _ _ (st0 [.agg [.raw (.int .u8 R), .raw (.int .u8 C), .lst (V.i16s W)]] _)
  have hW := hM.wid
  have hE := elm_RE hW
  have hN := nulM_Sm hM
  have ker : ∀ i, i < (frL (elm M c).p c).length → ∀ j, j < M.length → (sm c fun k => ent M j k * ent (nulM (elm M c).p (rre M c) c) i k) = 0 := fun i hi j hj => nulM_ker hW hi hj
  have fre : ∀ i j, i < (frL (elm M c).p c).length → j < (frL (elm M c).p c).length → ent (nulM (elm M c).p (rre M c) c) i (pv (frL (elm M c).p c) j) = if j = i then 1 else 0 := fun i j hi hj => nulM_free hE hi hj
  obtain ⟨q1, q2, q3⟩ := nul_eq hW
  have lN := nulM_len (elm M c).p (rre M c) c
  have p1 : ∀ i, i < (elm M c).p.length → pv (elm M c).p i < c := hE.lt
  have p2 := hE.inc
  have ps := frL_sum p1 p2
  have pa := cntP_all p1 p2
  have p3 : (elm M c).p.length ≤ M.length := (elm_EI hW c).n
  have s5 := sS_mono 1 hc
  have s5' : sS 1 5 ≤ 2000 := by decide
  rw [q2, q3] at q1
  obtain ⟨N, eN⟩ : ∃ N, nulM (elm M c).p (rre M c) c = N := ⟨_, rfl⟩
  rw [eN] at q1 hN ker fre lN
  obtain ⟨p, ep⟩ : ∃ p, (elm M c).p = p := ⟨_, rfl⟩
  obtain ⟨A, eA⟩ : ∃ A, rre M c = A := ⟨_, rfl⟩
  rw [ep] at q1 q2 p1 p2 ps pa p3 ker fre lN
  rw [eA] at q1 q3
  have d1 : ((p.length : Int) + (N.length : Int) != (c : Int)) = false := by rw [bne_eq_false_iff_eq]; omega
  have lp : p.length ≤ 4 := by omega
  have key : ∃ b, ((r : Int) == 0) = b ∧ (b = true → ((N.length : Int) != (c : Int)) = false) := ⟨_, rfl, fun h => by
    rw [beq_iff_eq] at h
    rw [bne_eq_false_iff_eq]; omega⟩
  obtain ⟨b, d2, d3⟩ := key
  have c0 : 0 ≤ (p.length : Int) + (N.length : Int) ∧ (p.length : Int) + (N.length : Int) ≤ 100 := by omega
  cases b with
  | true =>
    have d3 := d3 rfl
    simp only [go_sem, hx', er, ec, eM, r1, n1, q2, q3, q1, lM, d1, d2, d3, Int.toNat_natCast]
    refine ⟨by omega, ?_⟩
    refine AWp.loops (X := { i : Nat // i ≤ c }) (fun i => mkSt [(3, .raw (.bool true)), (4, .lst (V.mat M)), (5, .raw (.int .i64 (c : Nat))), (7, .lst (V.nats p)), (8, .lst (V.mat N)), (9, .raw (.int .i64 (cntP p i.1 : Nat))), (10, .raw (.int .i64 0)), (11, .sl 0 1 0 (frL p i.1).length), (12, .raw (.int .i64 (i.1 : Nat)))] [(0, true, ⟨3, 1, V.nats (frL p i.1)⟩)] 1 136) (fun i => c - i.1) ⟨0, Nat.zero_le _⟩ (Wk.of [47] (by decide) ?_) ?_
    · have e0 : V.nats (frL p 0) = [] := rfl
      have e1 : (frL p 0).length = 0 := rfl
      have e2 : cntP p 0 = 0 := rfl
      simp only [go_sem, e0, e1, e2, Int.natCast_zero]
    rintro ⟨i, hi⟩
    refine vc_at T ?_
    have lf := frL_len p i
    by_cases hin : i < c
    · have f1 : (i : Int) < (c : Int) := by omega
      have f2 : (i : Int) + 1 = ((i + 1 : Nat) : Int) := by omega
      have f3 : ((cntP p i : Nat) : Int) + 1 = ((cntP p i + 1 : Nat) : Int) := by omega
      have f4 : 0 ≤ ((cntP p i : Nat) : Int) := by omega
      have lk := (cntP_ok p2 i).1
      by_cases hip : i ∈ p
      · obtain ⟨h1, h2⟩ := cntP_in p2 hip
        have g1 : ((cntP p i : Nat) : Int) < (p.length : Int) := by omega
        have g2 : (((pv p (cntP p i) : Nat) : Int) == (i : Int)) = true := by rw [h2]; simp
        have x1 : cntP p (i + 1) = cntP p i + 1 := by rw [cntP_succ, if_pos hip]
        have x2 : frL p (i + 1) = frL p i := by rw [frL, if_pos hip]
        simp only [go_sem, f1, f2, f3, f4, g1, g2, h1]
        refine ⟨⟨by omega, by omega⟩, ⟨by omega, by omega⟩, ⟨i + 1, hin⟩, Wk.of [0] (by decide) ?_, by simp only; omega⟩
        simp only [go_sem, x1, x2]
      · have x1 : cntP p (i + 1) = cntP p i := by rw [cntP_succ, if_neg hip]
        have x2 : frL p (i + 1) = frL p i ++ [i] := by rw [frL, if_neg hip]
        have x3 : (frL p i ++ [i]).length = (frL p i).length + 1 := by rw [List.length_append]; rfl
        have tk : (V.nats (frL p i)).take (frL p i).length ++ [.raw (.int .i64 (i : Nat))] = V.nats (frL p i ++ [i]) := by rw [List.take_of_length_le (by rw [nats_len]; exact Nat.le_refl _)]; exact nats_snocV _ _
        by_cases h1 : cntP p i < p.length
        · have g1 : ((cntP p i : Nat) : Int) < (p.length : Int) := by omega
          have g2 : (((pv p (cntP p i) : Nat) : Int) == (i : Int)) = false := by
            rw [beq_eq_false_iff_ne]
            exact fun e => hip (mem_pv.2 ⟨_, h1, by omega⟩)
          simp only [go_sem, f1, f2, f4, g1, g2, h1, mx, tk, x3]
          refine ⟨⟨by omega, by omega⟩, ⟨by omega, by omega⟩, ⟨i + 1, hin⟩, Wk.of [19] (by decide) ?_, by simp only; omega⟩
          simp only [go_sem, x1, x2, x3]
        · have g1 : ¬ ((cntP p i : Nat) : Int) < (p.length : Int) := by omega
          simp only [go_sem, f1, f2, f4, g1, mx, tk, x3]
          refine ⟨⟨by omega, by omega⟩, ⟨by omega, by omega⟩, ⟨i + 1, hin⟩, Wk.of [19] (by decide) ?_, by simp only; omega⟩
          simp only [go_sem, x1, x2, x3]
    · obtain rfl : i = c := by omega
      have f1 : ¬ (i : Int) < (i : Int) := by omega
      obtain ⟨fr, efr⟩ : ∃ fr, frL p i = fr := ⟨_, rfl⟩
      have frlt : ∀ j, j < fr.length → pv fr j < i := fun j hj => by rw [← efr] at hj ⊢; exact (frL_lt hj).1
      rw [efr] at lN ker fre lf ⊢
      rw [pa]
      simp only [go_sem, f1]
      refine AWp.loops (X := { a : Nat // a ≤ N.length }) (fun a => mkSt [(3, .raw (.bool true)), (4, .lst (V.mat M)), (5, .raw (.int .i64 (i : Nat))), (7, .lst (V.nats p)), (8, .lst (V.mat N)), (9, .raw (.int .i64 (p.length : Nat))), (10, .raw (.int .i64 (a.1 : Nat))), (11, .sl 0 1 0 fr.length)] [(0, true, ⟨3, 1, V.nats fr⟩)] 1 136) (fun a => N.length - a.1) ⟨0, Nat.zero_le _⟩ (Wk.of [0] (by decide) ?_) ?_
      · simp only [go_sem, Int.natCast_zero]
      rintro ⟨a, ha⟩
      refine vc_at T ?_
      by_cases han : a < N.length
      · have g1 : (a : Int) < (N.length : Int) := by omega
        have g2 : (a : Int) + 1 = ((a + 1 : Nat) : Int) := by omega
        have g3 : 0 ≤ (a : Int) := by omega
        have rl : (N.getD a []).length = i := hN.wid a han
        have g4 : ((i : Int) != (i : Int)) = false := by simp
        have g5 : ((fr.length : Int) != (N.length : Int)) = false := by rw [bne_eq_false_iff_eq]; omega
        have rg : RgOk M (N.getD a []) = True := eq_true (hM.dot (by decide) (by omega) fun k => Nat.le_trans (hN.sz a k) (by omega))
        have zr : zrB (rgV M (N.getD a [])) = true := rg_zero hW fun j hj => ker a (by omega) j hj
        have lz : (rgV M (N.getD a [])).length ≤ 1000000 := by rw [rgV_len]; omega
        simp only [go_sem, g1, g2, g3, rl, g4, g5, rg, zr, lz, han]
        refine AWp.loops (X := { j : Nat // j ≤ fr.length }) (fun j => mkSt [(3, .raw (.bool true)), (4, .lst (V.mat M)), (5, .raw (.int .i64 (i : Nat))), (7, .lst (V.nats p)), (8, .lst (V.mat N)), (9, .raw (.int .i64 (p.length : Nat))), (10, .raw (.int .i64 (a : Nat))), (11, .sl 0 1 0 fr.length), (13, .raw (.int .i64 (j.1 : Nat)))] [(0, true, ⟨3, 1, V.nats fr⟩)] 1 136) (fun j => fr.length - j.1) ⟨0, Nat.zero_le _⟩ (Wk.of [0] (by decide) ?_) ?_
        · simp only [go_sem, Int.natCast_zero]
        rintro ⟨j, hj⟩
        refine vc_at T ?_
        by_cases hjn : j < fr.length
        · have k1 : (j : Int) < (fr.length : Int) := by omega
          have k2 : (j : Int) + 1 = ((j + 1 : Nat) : Int) := by omega
          have k3 : 0 ≤ (j : Int) := by omega
          have k4 : 0 ≤ ((pv fr j : Nat) : Int) := by omega
          have k5 : pv fr j < (N.getD a []).length := by rw [rl]; exact frlt j hjn
          have k7 : ((pv fr j : Nat) : Int) < (((N.getD a []).length : Nat) : Int) := by omega
          have fe : cf (N.getD a []) (pv fr j) = if j = a then 1 else 0 := fre a j (by omega) hjn
          have s3 : dl (Rat.num 1).natAbs ≤ 30000000000000 := by decide
          have s4 : dl ((Rat.den 1 : Nat) : Int).natAbs ≤ 30000000000000 := by decide
          have s5 : dl (Rat.num 0).natAbs ≤ 30000000000000 := by decide
          have s6 : dl ((Rat.den 0 : Nat) : Int).natAbs ≤ 30000000000000 := by decide
          have r0 : ((0 : Int) : Rat) = 0 := rfl
          have r1 : ((1 : Int) : Rat) = 1 := rfl
          by_cases hja : j = a
          · have k6 : ((j : Int) == (a : Int)) = true := by rw [hja]; simp
            rw [if_pos hja] at fe
            simp only [go_sem, k1, k2, k3, k4, k5, k6, k7, g1, g3, fe, s3, s4, r1, qpair, hjn, han]
            refine ⟨by rfl, ⟨by omega, by omega⟩, ⟨j + 1, hjn⟩, Wk.of [0] (by decide) ?_, by simp only; omega⟩
            simp only [go_sem]
          · have k6 : ((j : Int) == (a : Int)) = false := by rw [beq_eq_false_iff_ne]; omega
            rw [if_neg hja] at fe
            simp only [go_sem, k1, k2, k3, k4, k5, k6, k7, g1, g3, fe, s5, s6, r0, qpair, hjn, han]
            refine ⟨by rfl, ⟨by omega, by omega⟩, ⟨j + 1, hjn⟩, Wk.of [0] (by decide) ?_, by simp only; omega⟩
            simp only [go_sem]
        · obtain rfl : j = fr.length := by omega
          have k1 : ¬ (fr.length : Int) < (fr.length : Int) := by omega
          simp only [go_sem, k1, g2]
          refine ⟨⟨by omega, by omega⟩, ⟨a + 1, han⟩, Wk.of [0] (by decide) ?_, by simp only; omega⟩
          simp only [go_sem]
      · obtain rfl : a = N.length := by omega
        have g1 : ¬ (N.length : Int) < (N.length : Int) := by omega
        have g4 : ((p.length : Int) == (p.length : Int)) = true := by simp
        simp only [go_sem, g1, g4]
  | false =>
    simp only [go_sem, hx', er, ec, eM, r1, n1, q2, q3, q1, lM, d1, d2, Int.toNat_natCast]
    refine ⟨by omega, ?_⟩
    refine AWp.loops (X := { i : Nat // i ≤ c }) (fun i => mkSt [(3, .raw (.bool true)), (4, .lst (V.mat M)), (5, .raw (.int .i64 (c : Nat))), (7, .lst (V.nats p)), (8, .lst (V.mat N)), (9, .raw (.int .i64 (cntP p i.1 : Nat))), (10, .raw (.int .i64 0)), (11, .sl 0 1 0 (frL p i.1).length), (12, .raw (.int .i64 (i.1 : Nat)))] [(0, true, ⟨3, 1, V.nats (frL p i.1)⟩)] 1 136) (fun i => c - i.1) ⟨0, Nat.zero_le _⟩ (Wk.of [47] (by decide) ?_) ?_
    · have e0 : V.nats (frL p 0) = [] := rfl
      have e1 : (frL p 0).length = 0 := rfl
      have e2 : cntP p 0 = 0 := rfl
      simp only [go_sem, e0, e1, e2, Int.natCast_zero]
    rintro ⟨i, hi⟩
    refine vc_at T ?_
    have lf := frL_len p i
    by_cases hin : i < c
    · have f1 : (i : Int) < (c : Int) := by omega
      have f2 : (i : Int) + 1 = ((i + 1 : Nat) : Int) := by omega
      have f3 : ((cntP p i : Nat) : Int) + 1 = ((cntP p i + 1 : Nat) : Int) := by omega
      have f4 : 0 ≤ ((cntP p i : Nat) : Int) := by omega
      have lk := (cntP_ok p2 i).1
      by_cases hip : i ∈ p
      · obtain ⟨h1, h2⟩ := cntP_in p2 hip
        have g1 : ((cntP p i : Nat) : Int) < (p.length : Int) := by omega
        have g2 : (((pv p (cntP p i) : Nat) : Int) == (i : Int)) = true := by rw [h2]; simp
        have x1 : cntP p (i + 1) = cntP p i + 1 := by rw [cntP_succ, if_pos hip]
        have x2 : frL p (i + 1) = frL p i := by rw [frL, if_pos hip]
        simp only [go_sem, f1, f2, f3, f4, g1, g2, h1]
        refine ⟨⟨by omega, by omega⟩, ⟨by omega, by omega⟩, ⟨i + 1, hin⟩, Wk.of [0] (by decide) ?_, by simp only; omega⟩
        simp only [go_sem, x1, x2]
      · have x1 : cntP p (i + 1) = cntP p i := by rw [cntP_succ, if_neg hip]
        have x2 : frL p (i + 1) = frL p i ++ [i] := by rw [frL, if_neg hip]
        have x3 : (frL p i ++ [i]).length = (frL p i).length + 1 := by rw [List.length_append]; rfl
        have tk : (V.nats (frL p i)).take (frL p i).length ++ [.raw (.int .i64 (i : Nat))] = V.nats (frL p i ++ [i]) := by rw [List.take_of_length_le (by rw [nats_len]; exact Nat.le_refl _)]; exact nats_snocV _ _
        by_cases h1 : cntP p i < p.length
        · have g1 : ((cntP p i : Nat) : Int) < (p.length : Int) := by omega
          have g2 : (((pv p (cntP p i) : Nat) : Int) == (i : Int)) = false := by
            rw [beq_eq_false_iff_ne]
            exact fun e => hip (mem_pv.2 ⟨_, h1, by omega⟩)
          simp only [go_sem, f1, f2, f4, g1, g2, h1, mx, tk, x3]
          refine ⟨⟨by omega, by omega⟩, ⟨by omega, by omega⟩, ⟨i + 1, hin⟩, Wk.of [19] (by decide) ?_, by simp only; omega⟩
          simp only [go_sem, x1, x2, x3]
        · have g1 : ¬ ((cntP p i : Nat) : Int) < (p.length : Int) := by omega
          simp only [go_sem, f1, f2, f4, g1, mx, tk, x3]
          refine ⟨⟨by omega, by omega⟩, ⟨by omega, by omega⟩, ⟨i + 1, hin⟩, Wk.of [19] (by decide) ?_, by simp only; omega⟩
          simp only [go_sem, x1, x2, x3]
    · obtain rfl : i = c := by omega
      have f1 : ¬ (i : Int) < (i : Int) := by omega
      obtain ⟨fr, efr⟩ : ∃ fr, frL p i = fr := ⟨_, rfl⟩
      have frlt : ∀ j, j < fr.length → pv fr j < i := fun j hj => by rw [← efr] at hj ⊢; exact (frL_lt hj).1
      rw [efr] at lN ker fre lf ⊢
      rw [pa]
      simp only [go_sem, f1]
      refine AWp.loops (X := { a : Nat // a ≤ N.length }) (fun a => mkSt [(3, .raw (.bool true)), (4, .lst (V.mat M)), (5, .raw (.int .i64 (i : Nat))), (7, .lst (V.nats p)), (8, .lst (V.mat N)), (9, .raw (.int .i64 (p.length : Nat))), (10, .raw (.int .i64 (a.1 : Nat))), (11, .sl 0 1 0 fr.length)] [(0, true, ⟨3, 1, V.nats fr⟩)] 1 136) (fun a => N.length - a.1) ⟨0, Nat.zero_le _⟩ (Wk.of [0] (by decide) ?_) ?_
      · simp only [go_sem, Int.natCast_zero]
      rintro ⟨a, ha⟩
      refine vc_at T ?_
      by_cases han : a < N.length
      · have g1 : (a : Int) < (N.length : Int) := by omega
        have g2 : (a : Int) + 1 = ((a + 1 : Nat) : Int) := by omega
        have g3 : 0 ≤ (a : Int) := by omega
        have rl : (N.getD a []).length = i := hN.wid a han
        have g4 : ((i : Int) != (i : Int)) = false := by simp
        have g5 : ((fr.length : Int) != (N.length : Int)) = false := by rw [bne_eq_false_iff_eq]; omega
        have rg : RgOk M (N.getD a []) = True := eq_true (hM.dot (by decide) (by omega) fun k => Nat.le_trans (hN.sz a k) (by omega))
        have zr : zrB (rgV M (N.getD a [])) = true := rg_zero hW fun j hj => ker a (by omega) j hj
        have lz : (rgV M (N.getD a [])).length ≤ 1000000 := by rw [rgV_len]; omega
        simp only [go_sem, g1, g2, g3, rl, g4, g5, rg, zr, lz, han]
        refine AWp.loops (X := { j : Nat // j ≤ fr.length }) (fun j => mkSt [(3, .raw (.bool true)), (4, .lst (V.mat M)), (5, .raw (.int .i64 (i : Nat))), (7, .lst (V.nats p)), (8, .lst (V.mat N)), (9, .raw (.int .i64 (p.length : Nat))), (10, .raw (.int .i64 (a : Nat))), (11, .sl 0 1 0 fr.length), (13, .raw (.int .i64 (j.1 : Nat)))] [(0, true, ⟨3, 1, V.nats fr⟩)] 1 136) (fun j => fr.length - j.1) ⟨0, Nat.zero_le _⟩ (Wk.of [0] (by decide) ?_) ?_
        · simp only [go_sem, Int.natCast_zero]
        rintro ⟨j, hj⟩
        refine vc_at T ?_
        by_cases hjn : j < fr.length
        · have k1 : (j : Int) < (fr.length : Int) := by omega
          have k2 : (j : Int) + 1 = ((j + 1 : Nat) : Int) := by omega
          have k3 : 0 ≤ (j : Int) := by omega
          have k4 : 0 ≤ ((pv fr j : Nat) : Int) := by omega
          have k5 : pv fr j < (N.getD a []).length := by rw [rl]; exact frlt j hjn
          have k7 : ((pv fr j : Nat) : Int) < (((N.getD a []).length : Nat) : Int) := by omega
          have fe : cf (N.getD a []) (pv fr j) = if j = a then 1 else 0 := fre a j (by omega) hjn
          have s3 : dl (Rat.num 1).natAbs ≤ 30000000000000 := by decide
          have s4 : dl ((Rat.den 1 : Nat) : Int).natAbs ≤ 30000000000000 := by decide
          have s5 : dl (Rat.num 0).natAbs ≤ 30000000000000 := by decide
          have s6 : dl ((Rat.den 0 : Nat) : Int).natAbs ≤ 30000000000000 := by decide
          have r0 : ((0 : Int) : Rat) = 0 := rfl
          have r1 : ((1 : Int) : Rat) = 1 := rfl
          by_cases hja : j = a
          · have k6 : ((j : Int) == (a : Int)) = true := by rw [hja]; simp
            rw [if_pos hja] at fe
            simp only [go_sem, k1, k2, k3, k4, k5, k6, k7, g1, g3, fe, s3, s4, r1, qpair, hjn, han]
            refine ⟨by rfl, ⟨by omega, by omega⟩, ⟨j + 1, hjn⟩, Wk.of [0] (by decide) ?_, by simp only; omega⟩
            simp only [go_sem]
          · have k6 : ((j : Int) == (a : Int)) = false := by rw [beq_eq_false_iff_ne]; omega
            rw [if_neg hja] at fe
            simp only [go_sem, k1, k2, k3, k4, k5, k6, k7, g1, g3, fe, s5, s6, r0, qpair, hjn, han]
            refine ⟨by rfl, ⟨by omega, by omega⟩, ⟨j + 1, hjn⟩, Wk.of [0] (by decide) ?_, by simp only; omega⟩
            simp only [go_sem]
        · obtain rfl : j = fr.length := by omega
          have k1 : ¬ (fr.length : Int) < (fr.length : Int) := by omega
          simp only [go_sem, k1, g2]
          refine ⟨⟨by omega, by omega⟩, ⟨a + 1, han⟩, Wk.of [0] (by decide) ?_, by simp only; omega⟩
          simp only [go_sem]
      · obtain rfl : a = N.length := by omega
        have g1 : ¬ (N.length : Int) < (N.length : Int) := by omega
        have g4 : ((p.length : Int) == (p.length : Int)) = true := by simp
        simp only [go_sem, g1, g4]
set_option maxRecDepth 20000 in
theorem lawNull5_F (X : V) (h : Fits Try.prog 6 24 X) : PCall Try.prog 3 [X] (.raw (.bool true)) := by
  obtain ⟨x, rfl, hx⟩ := fits_raw5 h
  exact null5_V x hx
end Go.Proofs.Ytjjebokgckmnjaa


/- The law of the alternative. -/
namespace Go.Proofs.Ytjjebokgckmnjaa
set_option linter.unusedSimpArgs false
set_option linter.unusedVariables false
open Go.RowKit

theorem wdW {M : List (List Rat)} {w : Nat} (hW : Wid w M) : Wid (wdt M) M := fun i hi => by
  rw [wdt_of hW, if_neg (by omega)]
  exact hW i hi
theorem xS_sz {p : List Nat} {E : List (List Rat)} {w S : Nat} (h1 : 1 ≤ S) (h : ∀ i, qs (ent E i w) ≤ S) : ∀ n k, qs (cf (xS p E w n) k) ≤ S
  | 0, k => by
    have : cf (xS p E w 0) k = 0 := by
      show cf (List.replicate w 0) k = 0
      unfold cf
      rw [List.getD_eq_getElem?_getD, List.getElem?_replicate]
      split <;> rfl
    rw [this]; exact Nat.le_trans qs_0 h1
  | n + 1, k => by
    rw [xS]
    by_cases hn : pv p n < w
    · rw [cf_setL (by rw [xS_len]; exact hn)]
      split
      · exact h n
      · exact xS_sz h1 h n k
    · rw [List.set_eq_of_length_le (by rw [xS_len]; omega)]
      exact xS_sz h1 h n k
theorem SmM.to {M : List (List Rat)} {w S : Nat} (h : SmM M w S) : SmM M (wdt M) S := ⟨h.l, wdW h.wid, by rw [wdt_of h.wid]; have := h.w; split <;> omega, h.sz⟩
theorem slE_sz {M : List (List Rat)} {b : List Rat} {S : Nat} (h : SmM M (wdt M) S) (h1 : 1 ≤ S) (hb : ∀ k, qs (cf b k) ≤ S) (i k : Nat) : qs (ent (slE M b (wdt M)).M i k) ≤ sS S (wdt M) :=
  (elm_sz (exM_wid h.wid b) (exM_sz h.wid h1 h.sz hb) (wdt M)).1 i k
theorem slX_sz {M : List (List Rat)} {b : List Rat} {S : Nat} (h : SmM M (wdt M) S) (h1 : 1 ≤ S) (hb : ∀ k, qs (cf b k) ≤ S) (k : Nat) : qs (cf (slX M b (wdt M)) k) ≤ sS S (wdt M) :=
  xS_sz (by have := slE_sz h h1 hb 0 0; have := qs_pos (ent (slE M b (wdt M)).M 0 0); omega) (fun i => slE_sz h h1 hb i _) _ k
theorem slW_sz {M : List (List Rat)} {b : List Rat} {S i : Nat} (h : SmM M (wdt M) S) (h1 : 1 ≤ S) (hb : ∀ k, qs (cf b k) ≤ S) (k : Nat) : qs (cf (slW M b (wdt M) i) k) ≤ 2 * sS S (wdt M) := by
  have e := slE_sz h h1 hb
  have := qs_pos (ent (slE M b (wdt M)).M 0 0)
  have := e 0 0
  unfold slW
  rw [cf_mkr]
  split
  · have := qs_div (ent (slE M b (wdt M)).M i (wdt M + 1 + k)) (ent (slE M b (wdt M)).M i (wdt M))
    have := e i (wdt M + 1 + k)
    have := e i (wdt M)
    omega
  · have := qs_0; omega
theorem rg_sol {M : List (List Rat)} {b : List Rat} (hW : Wid (wdt M) M) (hb : b.length = M.length) (hF : slF M b (wdt M) = none) : rgV M (slX M b (wdt M)) = b :=
  l_ext (by rw [rgV_len, hb]) fun i hi => by
    rw [rgV_len] at hi
    rw [cf_rgV hW _ hi]
    exact slX_ok hW hF hi
theorem rg_tr {M : List (List Rat)} {b : List Rat} {i : Nat} (hW : Wid (wdt M) M) (hF : slF M b (wdt M) = some i) : zrB (rgV (trM M (wdt M)) (slW M b (wdt M) i)) = true := zrB_iff.2 fun k hk => by
  rw [rgV_len, trM_len] at hk
  rw [cf_rgV (trM_wid M (wdt M)) _ (by rw [trM_len]; exact hk)]
  rw [← (slW_ok hW hF).1 k hk]
  exact sm_congr fun j _ => by rw [ent_trM M hk]; grind
theorem dot_sol {M : List (List Rat)} {b : List Rat} {i : Nat} (hW : Wid (wdt M) M) (hF : slF M b (wdt M) = some i) : dotL (slW M b (wdt M) i) b = 1 := by
  rw [dotL_n (n := M.length) (by rw [slW_len]; omega)]
  exact (slW_ok hW hF).2
theorem sS5 {w : Nat} (h : w ≤ 5) : sS 1 w ≤ 2000 := Nat.le_trans (sS_mono 1 h) (by decide)
set_option maxRecDepth 20000 in
set_option maxHeartbeats 4000000 in
theorem alt5_V (x : Raw5) (hx : x.Ok) (l : List Int) (hl : l.length ≤ 9223372036854775807 ∧ ∀ i, -32768 ≤ iz l i ∧ iz l i ≤ 32767) : PCall Try.prog 4 [x.v, .lst (V.i16s l)] (.raw (.bool true)) := by
  have T := (tabs mixed (tbl_cons sanity5_C (tbl_cons made5_C (tbl_cons vector_C (tbl_cons solve_C (tbl_cons right_C (tbl_cons rlist_C (tbl_cons turned_C (tbl_cons zerosB_C (tbl_cons dot_C (tbl_cons r2Same_C (tbl_cons r2Whole_C tbl_nil))))))))))))
  obtain ⟨R, C, W⟩ := x
  obtain ⟨r, c, M, er, ec, eM, hM, lM, hr, hc⟩ := raw_gen hx
  have hx' : (Raw5.mk R C W).Ok = True := eq_true hx
  refine PCall.of_vc T Try.func4 rfl Try.ntmps4 Try.results4 (by simp [Raw5.v]) ?_
  show vc _ _ _ _ _ (st0 [.agg [.raw (.int .u8 R), .raw (.int .u8 C), .lst (V.i16s W)], .lst (V.i16s l)] _)
  have hw := wdt_of hM.wid
  have hM := hM.to
  have hW := hM.wid
  have h5 := hM.w
  obtain ⟨b, eb⟩ : ∃ b, vecQ l r = b := ⟨_, rfl⟩
  have lb : b.length = M.length := by rw [← eb, vecQ_len, lM]
  have qb : ∀ k, qs (cf b k) ≤ 1 := fun k => by rw [← eb]; exact vecQ_sz l _ k
  have vk : VecOk l ((r : Nat) : Int) = True := eq_true ⟨hl, by omega, by omega⟩
  have so : SolOk M b = True := eq_true (solOk_of lb (by omega) hW h5 (Nat.le_refl _) hM.sz qb (by decide))
  have s5 := sS5 h5
  have LBb : LB b = True := eq_true ⟨by omega, fun k => Nat.le_trans (qb k) (by decide)⟩
  rcases hF : slF M b (wdt M) with _ | i
  · have esol : solV M b = .tup [.lst (V.rats (slX M b (wdt M))), .lst [], .raw (.bool true)] := by unfold solV; rw [hF]
    have lx := slX_len M b (wdt M)
    have qx := slX_sz hM (Nat.le_refl _) qb
    have rs := rg_sol hW lb hF
    obtain ⟨X, eX⟩ : ∃ X, slX M b (wdt M) = X := ⟨_, rfl⟩
    rw [eX] at lx qx rs esol
    have rg : RgOk M X = True := eq_true (hM.dot (by decide) (by omega) fun k => Nat.le_trans (qx k) (by omega))
    by_cases h0 : M.length = 0
    · have d1 : ((r : Int) == 0) = true := by rw [← lM, h0]; rfl
      have d2 : ((X.length : Int) == 0) = true := by rw [lx, hw, if_pos h0]; rfl
      simp only [go_sem, hx', er, ec, eM, lM, eb, vk, so, esol, LBb, rg, rs, d1, d2, Int.toNat_natCast]
    · have d1 : ((r : Int) == 0) = false := by rw [beq_eq_false_iff_ne]; omega
      have d2 : ((X.length : Int) == (c : Int)) = true := by rw [lx, hw, if_neg h0]; simp
      simp only [go_sem, hx', er, ec, eM, lM, eb, vk, so, esol, LBb, rg, rs, d1, d2, Int.toNat_natCast]
  · have esol : solV M b = .tup [.lst [], .lst (V.rats (slW M b (wdt M) i)), .raw (.bool false)] := by unfold solV; rw [hF]
    have ly := slW_len M b (wdt M) i
    have qy := slW_sz (i := i) hM (Nat.le_refl _) qb
    have rt := rg_tr hW hF
    have ds := dot_sol hW hF
    have h0 : M.length ≠ 0 := by
      obtain ⟨⟨_, f2⟩, _⟩ := srF_some hF
      have := (slE_EI hW b).len
      rw [exM_len] at this
      omega
    rw [hw, if_neg h0] at rt h5
    obtain ⟨Y, eY⟩ : ∃ Y, slW M b (wdt M) i = Y := ⟨_, rfl⟩
    rw [hw, if_neg h0] at eY
    rw [hw, if_neg h0, eY] at ly qy ds esol
    rw [eY] at rt
    have d1 : ((r : Int) == 0) = false := by rw [beq_eq_false_iff_ne]; omega
    have d2 : ((Y.length : Int) == (r : Int)) = true := by rw [ly, lM]; simp
    have hWc : Wid c M := by rw [hw, if_neg h0] at hW; exact hW
    have hT : SmM (trM M c) M.length 1 := SmM.tr ⟨hM.l, hWc, hc, hM.sz⟩ (Nat.le_refl _) (by omega)
    have sc := sS5 h5
    have qY : ∀ k, qs (cf Y k) ≤ 10000000000 := fun k => Nat.le_trans (qy k) (by omega)
    have rg : RgOk (trM M c) Y = True := eq_true (hT.dot (by decide) (by omega) qY)
    have dk : DotOk Y b = True := eq_true ⟨⟨by omega, by omega⟩, qY, fun k => Nat.le_trans (qb k) (by decide)⟩
    have tc : ((r ≤ 1000 ∧ 0 ≤ (c : Int) ∧ (c : Int) ≤ 1000) ∧ ∀ i, i < r → (c : Int) ≤ ((M.getD i []).length : Nat)) = True := eq_true ⟨⟨by omega, by omega, by omega⟩, fun i hi => by rw [hWc i (by omega)]; exact Int.le_refl _⟩
    have lz : (rgV (trM M c) Y).length ≤ 1000000 := by rw [rgV_len, trM_len]; omega
    have q1 : ((1 : Int) : Rat) = 1 := rfl
    have z1 : dl (Rat.num 1).natAbs ≤ 30000000000000 := by decide
    have z2 : dl ((Rat.den 1 : Nat) : Int).natAbs ≤ 30000000000000 := by decide
    simp only [go_sem, hx', er, ec, eM, lM, eb, vk, so, esol, LBb, rg, rt, ds, dk, tc, lz, q1, z1, z2, qpair, d1, d2, Int.toNat_natCast]
set_option maxRecDepth 20000 in
theorem lawAlt5_F (X Y : V) (h : Fits Try.prog 6 24 X) (g : Fits Try.prog 6 22 Y) : PCall Try.prog 4 [X, Y] (.raw (.bool true)) := by
  obtain ⟨x, rfl, hx⟩ := fits_raw5 h
  obtain ⟨l, rfl, hl⟩ := fits_i16s g
  exact alt5_V x hx l hl
end Go.Proofs.Ytjjebokgckmnjaa


/- The law of consistent systems. -/
namespace Go.Proofs.Ytjjebokgckmnjaa
set_option linter.unusedSimpArgs false
set_option linter.unusedVariables false
open Go.RowKit

theorem dot_szS {a b : List Rat} {S : Nat} (ha : ∀ k, qs (cf a k) ≤ S) (hb : ∀ k, qs (cf b k) ≤ S) : ∀ n, qs (sm n fun i => cf a i * cf b i) ≤ 1 + n * (2 * S + 1)
  | 0 => by
    have := qs_0
    show qs 0 ≤ _
    omega
  | n + 1 => by
    have h1 := dot_szS ha hb n
    have h2 := qs_mul (cf a n) (cf b n)
    have h3 := ha n
    have h4 := hb n
    have h5 := qs_add (sm n fun i => cf a i * cf b i) (cf a n * cf b n)
    rw [sm, Nat.add_mul]
    omega
theorem rgV_sz {M : List (List Rat)} {w : Nat} {x : List Rat} (h : SmM M w 1) (hx : ∀ k, qs (cf x k) ≤ 1) (k : Nat) : qs (cf (rgV M x) k) ≤ 16 := by
  by_cases hk : k < M.length
  · rw [cf_rgV h.wid x hk]
    have := dot_szS (fun j => h.sz k j) hx w
    have h5 := h.w
    have : w * (2 * 1 + 1) ≤ 5 * 3 := Nat.mul_le_mul_right _ h5
    show qs (sm w fun i => cf (M.getD k []) i * cf x i) ≤ 16
    omega
  · rw [cf_hi (by rw [rgV_len]; omega)]
    exact Nat.le_trans qs_0 (by decide)
theorem app_Sm {M : List (List Rat)} {w S : Nat} {g : List Rat} (h : SmM M w S) (hl : M.length ≤ 5) (hg : g.length = w) (hq : ∀ k, qs (cf g k) ≤ S) (h1 : 1 ≤ S) : SmM (M ++ [g]) w S :=
  ⟨by rw [List.length_append]; simp; omega, app_wid h.wid hg, h.w, fun i k => by
    show qs (cf _ _) ≤ _
    rw [gd_app]
    split
    · exact h.sz i k
    · split
      · exact hq k
      · exact Nat.le_trans qs_0 h1⟩
theorem SmM.mono {M : List (List Rat)} {w S S' : Nat} (h : SmM M w S) (hS : S ≤ S') : SmM M w S' := ⟨h.l, h.wid, h.w, fun i k => Nat.le_trans (h.sz i k) hS⟩
@[go_sem] theorem mat_good (l : List (List Rat)) : allGood (V.mat l) = True := eq_true fun y hy => by
  obtain ⟨p, _, rfl⟩ := List.mem_map.1 hy
  rfl
set_option maxRecDepth 20000 in
set_option maxHeartbeats 4000000 in
theorem cons5_V (x : Raw5) (hx : x.Ok) (l : List Int) (hl : l.length ≤ 9223372036854775807 ∧ ∀ i, -32768 ≤ iz l i ∧ iz l i ≤ 32767) : PCall Try.prog 5 [x.v, .lst (V.i16s l)] (.raw (.bool true)) := by
  have T := (tabs mixed (tbl_cons sanity5_C (tbl_cons made5_C (tbl_cons vector_C (tbl_cons right_C (tbl_cons solve_C (tbl_cons null_C (tbl_cons even_C (tbl_cons rank_C (tbl_cons r2Sub_C tbl_nil))))))))))
  have mx : maxLen = 9223372036854775807 := by decide
  obtain ⟨R, C, W⟩ := x
  obtain ⟨r, c, M, er, ec, eM, hM, lM, hr, hc⟩ := raw_gen hx
  have hx' : (Raw5.mk R C W).Ok = True := eq_true hx
  refine PCall.of_vc T Try.func5 rfl Try.ntmps5 Try.results5 (by simp [Raw5.v]) ?_
  show vc _ _ _ _ _ (st0 [.agg [.raw (.int .u8 R), .raw (.int .u8 C), .lst (V.i16s W)], .lst (V.i16s l)] _)
  obtain ⟨v, ev⟩ : ∃ v, vecQ l c = v := ⟨_, rfl⟩
  have lv : v.length = c := by rw [← ev, vecQ_len]
  have qv : ∀ k, qs (cf v k) ≤ 1 := fun k => by rw [← ev]; exact vecQ_sz l _ k
  have vk : VecOk l ((c : Nat) : Int) = True := eq_true ⟨hl, by omega, by omega⟩
  have rg : RgOk M v = True := eq_true (hM.dot (by decide) (by omega) fun k => Nat.le_trans (qv k) (by decide))
  obtain ⟨b, eb⟩ : ∃ b, rgV M v = b := ⟨_, rfl⟩
  have lb : b.length = M.length := by rw [← eb, rgV_len]
  have qb : ∀ k, qs (cf b k) ≤ 16 := fun k => by rw [← eb]; exact rgV_sz hM qv k
  have hMw := (hM.mono (S' := 16) (by decide)).to
  have so : SolOk M b = True := eq_true (solOk_of lb (by omega) hMw.wid hMw.w (by decide) hMw.sz qb (by decide))
  have hF : slF M b (wdt M) = none := slF_none hMw.wid (v := cf v) fun i hi => by
    rw [← eb, cf_rgV hM.wid v hi, wdt_of hM.wid, if_neg (by omega)]
  have esol : solV M b = .tup [.lst (V.rats (slX M b (wdt M))), .lst [], .raw (.bool true)] := by unfold solV; rw [hF]
  have lu := slX_len M b (wdt M)
  have qu := slX_sz hMw (by decide) qb
  have rs := rg_sol hMw.wid lb hF
  have sw : sS 16 (wdt M) ≤ 20000 := Nat.le_trans (sS_mono 16 hMw.w) (by decide)
  obtain ⟨u, eu⟩ : ∃ u, slX M b (wdt M) = u := ⟨_, rfl⟩
  rw [eu] at lu qu rs esol
  by_cases h0 : M.length = 0
  · have d1 : ((r : Int) == 0) = true := by rw [← lM, h0]; rfl
    have d2 : ((u.length : Int) == 0) = true := by rw [lu, wdt_of hM.wid, if_pos h0]; rfl
    simp only [go_sem, hx', er, ec, eM, lM, ev, vk, rg, eb, so, esol, d1, d2, Int.toNat_natCast]
    trace_state
  · have ew : wdt M = c := by rw [wdt_of hM.wid, if_neg h0]
    have d1 : ((r : Int) == 0) = false := by rw [beq_eq_false_iff_ne]; omega
    have lu' : u.length = c := by rw [lu, ew]
    have d2 : ((c : Int) != (c : Int)) = false := by simp
    have n1 := (hM.nul (by decide))
    have hN := nulM_Sm hM
    obtain ⟨q1, q2, q3⟩ := nul_eq hM.wid
    have hE := elm_RE hM.wid
    have rN := rk_nulM hE
    have gk : ∀ i, i < M.length → (sm c fun k => ent M i k * cf (mkr (fun j => cf v j - cf u j) c) k) = 0 := fun i hi => by
      have e1 := cf_rgV hM.wid v hi
      have e2 := cf_rgV hM.wid u hi
      rw [eb] at e1
      rw [rs] at e2
      rw [sm_congr (g := fun k => ent M i k * cf v k + (-1) * (ent M i k * cf u k)) fun k hk => by rw [cf_mkr, if_pos hk]; grind, sm_add, sm_mul, ← e1, ← e2]; grind
    have rm := rk_more hM.wid (mkr_len _ _) gk
    have lN : (nulM (elm M c).p (rre M c) c).length ≤ 5 := by rw [nulM_len]; have := frL_len (elm M c).p c; omega
    have gq : ∀ k, qs (cf (mkr (fun j => cf v j - cf u j) c) k) ≤ 20002 := fun k => by
      rw [cf_mkr]
      split
      · have := qs_sub (cf v k) (cf u k)
        have := qv k
        have := qu k
        omega
      · exact Nat.le_trans qs_0 (by decide)
    have s5 := sS5 hc
    have hP := app_Sm (hN.mono (S' := 20002) (by omega)) lN (mkr_len (fun j => cf v j - cf u j) c) gq (by decide)
    obtain ⟨N, eN⟩ : ∃ N, nulM (elm M c).p (rre M c) c = N := ⟨_, rfl⟩
    rw [eN] at q1 hN rN rm lN hP
    have n1' : NulOk M ((c : Nat) : Int) = True := eq_true n1
    have r1 : RedOk N ((wdt N : Nat) : Int) = True := eq_true (hN.red (by omega))
    have r2 := hP.red (by decide)
    obtain ⟨F, eF⟩ : ∃ F : Nat → Rat, F = fun j => cf v j - cf u j := ⟨_, rfl⟩
    rw [← eF] at rm hP r2
    have k1 : rk N (wdt N) = N.length := by rw [rk_wdt hN.wid, rN]
    have k2 : rk (N ++ [mkr F c]) (wdt (N ++ [mkr F c])) = N.length := by rw [rk_wdt hP.wid, rm, rN]
    have ev1 : evenB N ((c : Nat) : Int) = true := evenB_iff.2 fun i hi => by rw [hN.wid i hi]
    simp only [go_sem, hx', er, ec, eM, lM, ev, vk, rg, eb, so, esol, d1, d2, lu', n1', q1, r1, k1, ev1, Int.toNat_natCast]
    refine ⟨by omega, ?_⟩
    refine AWp.loops (X := { i : Nat // i ≤ c }) (fun i => mkSt [(5, .raw (.bool true)), (7, .raw (.int .i64 (c : Nat))), (8, .lst (V.rats v)), (10, .lst (V.rats u)), (13, .lst (V.mat N)), (14, .raw (.int .i64 (N.length : Nat))), (15, .sl 0 4 0 i.1), (16, .raw (.int .i64 (i.1 : Nat)))] [(0, true, ⟨41, 4, V.rats (mkr F i.1)⟩)] 1 104) (fun i => c - i.1) ⟨0, Nat.zero_le _⟩ (Wk.of [51] (by decide) ?_) ?_
    · have e0 : V.rats (mkr F 0) = [] := rfl
      simp only [go_sem, e0, Int.natCast_zero]
    rintro ⟨i, hi⟩
    refine vc_at T ?_
    have li : (mkr F i).length = i := mkr_len _ _
    by_cases hin : i < c
    · have f1 : (i : Int) < (c : Int) := by omega
      have f2 : (i : Int) + 1 = ((i + 1 : Nat) : Int) := by omega
      have f3 : 0 ≤ (i : Int) := by omega
      have hiv : i < v.length := by omega
      have hiu : i < u.length := by omega
      have s1 : qs (cf v i) ≤ 5000000000000 := Nat.le_trans (qv i) (by decide)
      have s2 : qs (cf u i) ≤ 5000000000000 := by have := qu i; omega
      have g : cf v i - cf u i = F i := by rw [eF]
      have f5 : V.rats (mkr F i) ++ [.Q (F i)] = V.rats (mkr F (i + 1)) := mkr_snoc _ _
      have f6 : mkr F i ++ [F i] = mkr F (i + 1) := mkr_snoc' _ _
      simp only [go_sem, f1, f2, f3, hiv, hiu, s1, s2, g, li, mx, mkr_take, f5, f6]
      refine ⟨by omega, by omega, ⟨by omega, by omega⟩, by rfl, ⟨by omega, by omega⟩, ⟨i + 1, hin⟩, Wk.of [15] (by decide) ?_, by simp only; omega⟩
      simp only [go_sem]
    · obtain rfl : i = c := by omega
      have f1 : ¬ (i : Int) < (i : Int) := by omega
      have lg : (N ++ [mkr F i]).length = N.length + 1 := by rw [List.length_append]; rfl
      have c1 : ((N.length : Int) == (N.length : Int)) = true := by simp
      have mm : i ≤ i := Nat.le_refl _
      have r2' : RedOk (N ++ [mkr F i]) ((wdt (N ++ [mkr F i]) : Nat) : Int) = True := eq_true r2
      have nn : N.length ≤ N.length := Nat.le_refl _
      have tN : List.take N.length N = N := List.take_length
      have tk : List.take (N.length + 1) (V.mat N ++ [V.sl 0 4 0 i]) = V.mat N ++ [V.sl 0 4 0 i] := List.take_of_length_le (by rw [List.length_append, mat_len]; simp)
      have iF : i ≤ (mkr F i).length := Nat.le_of_eq li.symm
      simp only [go_sem, f1, li, mx, mm, nn, tN, tk, Nat.min_self, mkr_take, frz_mat_snocA, mat_snoc, r2', k2, c1, lg]
      exact ⟨⟨by omega, by omega⟩, by omega, by omega⟩
set_option maxRecDepth 20000 in
theorem lawCons5_F (X Y : V) (h : Fits Try.prog 6 24 X) (g : Fits Try.prog 6 22 Y) : PCall Try.prog 5 [X, Y] (.raw (.bool true)) := by
  obtain ⟨x, rfl, hx⟩ := fits_raw5 h
  obtain ⟨l, rfl, hl⟩ := fits_i16s g
  exact cons5_V x hx l hl
end Go.Proofs.Ytjjebokgckmnjaa

