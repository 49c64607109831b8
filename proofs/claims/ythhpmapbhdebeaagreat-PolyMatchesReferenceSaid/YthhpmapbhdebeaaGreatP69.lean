/- Texts H10 in one. -/
import Derived.Test.YthhpmapbhdebeaaGreatP68
import Derived.Test.YthhpmapbhdebeaaGreatP66
/- Contracts: the reference of package poly, cofactors. -/
namespace Go.Proofs.YthhpmapbhdebeaaGreat
set_option linter.unusedSimpArgs false
set_option linter.unusedVariables false
open Go.RowKit

theorem ExOk_PB {n : Nat} {a b s u t v : List Rat} (h : ExOk n a b s u t v) : (PB s 100000000 ∧ PB t 100000000) ∧ s.length ≤ 1000000 ∧ t.length ≤ 1000000 := by
  cases n with
  | zero => exact h.elim
  | succ n =>
    obtain ⟨_, _, h⟩ := h
    by_cases b0 : b = []
    · rw [if_pos b0] at h
      obtain ⟨k, _, h1, h2⟩ := h
      exact ⟨⟨h1.2.mono (by decide), h2.2.mono (by decide)⟩, h1.1, h2.1⟩
    · rw [if_neg b0] at h
      obtain ⟨_, ⟨_, h1, h2⟩, _⟩ := h
      exact ⟨⟨h1.2, h2.2⟩, h1.1.1.2, h2.1.1.2⟩
theorem LsOk_q {q x y : List Rat} (h : LsOk q x y) : PB q 100000000 := by
  obtain ⟨⟨_, j, k, ⟨h1, h2⟩, h3⟩, _⟩ := h
  by_cases q0 : q = []
  · subst q0; exact PB_nil (by decide)
  · have := List.length_pos_iff.2 q0
    have h4 := Nat.mul_le_mul_right (j + k + 1) (show 1 ≤ q.length from this)
    exact h1.mono (by omega)
theorem rats_1 (q : Rat) : V.rats [q] = [.Q q] := rfl
set_option maxRecDepth 4000 in
theorem rExt_C : Ctr Tryz.prog 41 kExt := Ctr.c2 (by kernel_rfl) fun A B h => by
  obtain ⟨n, hn⟩ := h
  show PCall _ _ _ (.tup [.lst (V.rats (pExt A B).1), .lst (V.rats (pExt A B).2.1), .lst (V.rats (pExt A B).2.2)])
  have T : Tabs Tryz.prog _ noGab := tabs mixed (tbl_cons rDM_C (tbl_cons rOne_C (tbl_cons rPMul_C (tbl_cons rSub_C (tbl_cons rLead_C (tbl_cons rInv_C (tbl_cons rSc_C tbl_nil)))))))
  refine PCall.of_vc T Tryz.func41 rfl Tryz.ntmps41 Tryz.results41 (by simp) ?_
  simp only [go_sem, List.reduceReplicate, ↓reduceIte, Nat.reduceEqDiff, Nat.reduceLT, Nat.reduceLeDiff, Nat.reduceAdd, Nat.reduceSub, Nat.reduceMul, Int.reduceToNat, Int.reduceNeg, Int.reduceAdd, Int.reduceSub, Int.reduceMul, Int.reduceLT, Int.reduceLE, Int.reduceMod, Int.reducePow, Nat.reducePow, Int.reduceDiv, Nat.reduceBEq, Nat.reduceBNe, Int.reduceBEq, Int.reduceBNe, reduceCtorEq]
  refine AWp.frzS 7 ?_
  simp only [go_sem, List.reduceReplicate, ↓reduceIte, Nat.reduceEqDiff, Nat.reduceLT, Nat.reduceLeDiff, Nat.reduceAdd, Nat.reduceSub, Nat.reduceMul, Int.reduceToNat, Int.reduceNeg, Int.reduceAdd, Int.reduceSub, Int.reduceMul, Int.reduceLT, Int.reduceLE, Int.reduceMod, Int.reducePow, Nat.reducePow, Int.reduceDiv, Nat.reduceBEq, Nat.reduceBNe, Int.reduceBEq, Int.reduceBNe, reduceCtorEq]
  refine AWp.frzS 8 ?_
  simp only [go_sem, List.reduceReplicate, ↓reduceIte, Nat.reduceEqDiff, Nat.reduceLT, Nat.reduceLeDiff, Nat.reduceAdd, Nat.reduceSub, Nat.reduceMul, Int.reduceToNat, Int.reduceNeg, Int.reduceAdd, Int.reduceSub, Int.reduceMul, Int.reduceLT, Int.reduceLE, Int.reduceMod, Int.reducePow, Nat.reducePow, Int.reduceDiv, Nat.reduceBEq, Nat.reduceBNe, Int.reduceBEq, Int.reduceBNe, reduceCtorEq]
  refine AWp.frzS 9 ?_
  simp only [go_sem, List.reduceReplicate, ↓reduceIte, Nat.reduceEqDiff, Nat.reduceLT, Nat.reduceLeDiff, Nat.reduceAdd, Nat.reduceSub, Nat.reduceMul, Int.reduceToNat, Int.reduceNeg, Int.reduceAdd, Int.reduceSub, Int.reduceMul, Int.reduceLT, Int.reduceLE, Int.reduceMod, Int.reducePow, Nat.reducePow, Int.reduceDiv, Nat.reduceBEq, Nat.reduceBNe, Int.reduceBEq, Int.reduceBNe, reduceCtorEq]
  refine AWp.frzS 10 ?_
  simp only [go_sem, List.reduceReplicate, ↓reduceIte, Nat.reduceEqDiff, Nat.reduceLT, Nat.reduceLeDiff, Nat.reduceAdd, Nat.reduceSub, Nat.reduceMul, Int.reduceToNat, Int.reduceNeg, Int.reduceAdd, Int.reduceSub, Int.reduceMul, Int.reduceLT, Int.reduceLE, Int.reduceMod, Int.reducePow, Nat.reducePow, Int.reduceDiv, Nat.reduceBEq, Nat.reduceBNe, Int.reduceBEq, Int.reduceBNe, reduceCtorEq]
  refine AWp.loops (X := { p : ExS // ExOk p.n p.a p.b p.s p.u p.t p.v ∧ exF (p.b.length + 1) p.a p.b p.s p.u p.t p.v = pX A B })
    (fun p => mkSt [(0, .lst (V.rats p.1.a)), (1, .lst (V.rats p.1.b)), (4, .raw (.slice none 0 0)), (5, .raw (.slice none 0 0)), (6, .raw (.slice none 0 0)), (7, .lst (V.rats p.1.s)), (8, .lst (V.rats p.1.t)), (9, .lst (V.rats p.1.u)), (10, .lst (V.rats p.1.v))] [] 0 67)
    (fun p => p.1.n) ⟨⟨n, A, B, [1], [], [], [1]⟩, hn, rfl⟩ (Wk.of [] (by decide) ?_) ?_
  · simp only [go_sem, List.reduceReplicate, ↓reduceIte, Nat.reduceEqDiff, Nat.reduceLT, Nat.reduceLeDiff, Nat.reduceAdd, Nat.reduceSub, Nat.reduceMul, Int.reduceToNat, Int.reduceNeg, Int.reduceAdd, Int.reduceSub, Int.reduceMul, Int.reduceLT, Int.reduceLE, Int.reduceMod, Int.reducePow, Nat.reducePow, Int.reduceDiv, Nat.reduceBEq, Nat.reduceBNe, Int.reduceBEq, Int.reduceBNe, reduceCtorEq, rats_0, rats_1]
  · rintro ⟨⟨m, a, b, s, u, t, v⟩, hm, he⟩
    simp only at hm he
    refine vc_at T ?_
    rcases m with _ | m
    · exact hm.elim
    · obtain ⟨⟨ca, cb⟩, ⟨la, lb⟩, hm⟩ := hm
      by_cases b0 : b = []
      · subst b0
        rw [if_pos rfl] at hm
        obtain ⟨z, ⟨h1, h2⟩, ⟨h3, h4⟩, h5, h6⟩ := hm
        have c1 : ¬ (0 : Int) < ((0 : Nat) : Int) := by decide
        have e1 : pX A B = (a, s, t) := by rw [← he]; rfl
        have e2 : pExt A B = if a = [] then (a, s, t) else (pSc (1 / lead a) a, pSc (1 / lead a) s, pSc (1 / lead a) t) := by unfold pExt; rw [e1]
        by_cases a0 : a = []
        · rw [if_pos a0] at e2
          subst a0
          have c2 : ((0 : Int) == 0) = true := rfl
          simp only [go_sem, List.reduceReplicate, ↓reduceIte, Nat.reduceEqDiff, Nat.reduceLT, Nat.reduceLeDiff, Nat.reduceAdd, Nat.reduceSub, Nat.reduceMul, Int.reduceToNat, Int.reduceNeg, Int.reduceAdd, Int.reduceSub, Int.reduceMul, Int.reduceLT, Int.reduceLE, Int.reduceMod, Int.reducePow, Nat.reducePow, Int.reduceDiv, Nat.reduceBEq, Nat.reduceBNe, Int.reduceBEq, Int.reduceBNe, reduceCtorEq, c1, c2, List.length_nil, e2]
        · rw [if_neg a0] at e2
          have c2 : ((a.length : Int) == 0) = false := by rw [beq_len0]; exact decide_eq_false a0
          have l1 : qs (lead a) ≤ z := h1 _
          have l2 := qs_inv1 _ l1
          have q1 : qs (lead a) ≤ 100000000 := by omega
          have q2 : qs (1 / lead a) ≤ 100000000 := by omega
          have q3 : PB a 100000000 := h1.mono (by omega)
          have q4 : PB s 100000000 := h4.mono (by decide)
          have q5 : PB t 100000000 := h6.mono (by decide)
          simp only [go_sem, List.reduceReplicate, ↓reduceIte, Nat.reduceEqDiff, Nat.reduceLT, Nat.reduceLeDiff, Nat.reduceAdd, Nat.reduceSub, Nat.reduceMul, Int.reduceToNat, Int.reduceNeg, Int.reduceAdd, Int.reduceSub, Int.reduceMul, Int.reduceLT, Int.reduceLE, Int.reduceMod, Int.reducePow, Nat.reducePow, Int.reduceDiv, Nat.reduceBEq, Nat.reduceBNe, Int.reduceBEq, Int.reduceBNe, reduceCtorEq, c1, c2, List.length_nil, e2, la, h3, h5, q1, q2, q3, q4, q5]
          rfl
      · rw [if_neg b0] at hm
        obtain ⟨hd, ⟨l1, l2, l3⟩, hm⟩ := hm
        have bl := List.length_pos_iff.2 b0
        have c1 : 0 < (b.length : Int) := by omega
        have r1 : dmP a b = .tup [.lst (V.rats (pDiv a b)), .lst (V.rats (pMod a b)), .raw (.int .i64 0)] := if_neg b0
        obtain ⟨⟨p1, p2⟩, p3, p4⟩ := ExOk_PB hm
        have p5 := LsOk_q l2
        have p6 := l2.PB
        have p7 := l3.PB
        obtain ⟨⟨⟨w1, w2⟩, w3⟩, w4⟩ := l2
        obtain ⟨⟨⟨w5, w6⟩, w7⟩, w8⟩ := l3
        have w9 : (pMul (pDiv a b) u).length ≤ 1000000 := Nat.le_trans (len_pMul_le _ _) w1
        have w10 : (pMul (pDiv a b) v).length ≤ 1000000 := Nat.le_trans (len_pMul_le _ _) w5
        simp only [go_sem, List.reduceReplicate, ↓reduceIte, Nat.reduceEqDiff, Nat.reduceLT, Nat.reduceLeDiff, Nat.reduceAdd, Nat.reduceSub, Nat.reduceMul, Int.reduceToNat, Int.reduceNeg, Int.reduceAdd, Int.reduceSub, Int.reduceMul, Int.reduceLT, Int.reduceLE, Int.reduceMod, Int.reducePow, Nat.reducePow, Int.reduceDiv, Nat.reduceBEq, Nat.reduceBNe, Int.reduceBEq, Int.reduceBNe, reduceCtorEq, c1, r1, hd, p1, p2, p5, p6, p7, w1, w2, w3, w4, w5, w6, w7, w8, w9, w10]
        refine ⟨⟨⟨m, b, pMod a b, u, pSub s (pMul (pDiv a b) u), v, pSub t (pMul (pDiv a b) v)⟩, hm, ?_⟩, Wk.of [] (by decide) ?_, Nat.lt_succ_self m⟩
        · simp only
          rw [← he]
          obtain ⟨_, g2, _⟩ := dm_ok ca cb b0
          have hmc : Can (pMod a b) := (dm_ok ca cb b0).1.2
          rw [exF_fuel ((pMod a b).length + 1) b.length b (pMod a b) _ _ _ _ cb hmc (Nat.lt_succ_self _) g2]
          conv => rhs; unfold exF
          rw [if_neg b0]
        · simp only [go_sem, List.reduceReplicate, ↓reduceIte, Nat.reduceEqDiff, Nat.reduceLT, Nat.reduceLeDiff, Nat.reduceAdd, Nat.reduceSub, Nat.reduceMul, Int.reduceToNat, Int.reduceNeg, Int.reduceAdd, Int.reduceSub, Int.reduceMul, Int.reduceLT, Int.reduceLE, Int.reduceMod, Int.reducePow, Nat.reducePow, Int.reduceDiv, Nat.reduceBEq, Nat.reduceBNe, Int.reduceBEq, Int.reduceBNe, reduceCtorEq]
theorem can_drop {l : List Rat} (h : Can l) (k : Nat) : Can (l.drop k) := fun h0 => by
  have hk : k < l.length := by
    refine Nat.lt_of_not_le fun h' => h0 ?_
    exact List.drop_eq_nil_of_le h'
  have e : cf (l.drop k) ((l.drop k).length - 1) = cf l (l.length - 1) := by
    unfold cf
    rw [List.getD_eq_getElem?_getD, List.getD_eq_getElem?_getD, List.getElem?_drop, List.length_drop, show k + (l.length - k - 1) = l.length - 1 from by omega]
  rw [e]
  exact h fun e' => by rw [e'] at hk; simp at hk
def kPRShift : Con := con2 pR pQ fun a c => (Can a ∧ ∃ N k C, (a.length ≤ N ∧ PB a k) ∧ (qs c ≤ C ∧ 1 ≤ C) ∧ N ≤ 1000 ∧ N * (shBd N k C + C + 1) ≤ 40000000 ∧ shBd N k C ≤ 40000000, .lst (V.rats (pShift c a)))
attribute [go_sem ↓, go_sem] kPRShift
theorem sh_step {a : List Rat} {c : Rat} (ha : Can a) {n : Nat} (hn : n < a.length) : pAdd (pMul (pShift c (a.drop (n + 1))) [c, 1]) (tr [cf a n]) = pShift c (a.drop n) := ev_inj (can_pAdd _ _) (can_pShift (can_drop ha n)) fun x => by
  have h1 : a.drop n = cf a n :: a.drop (n + 1) := by
    rw [List.drop_eq_getElem_cons hn]
    unfold cf
    rw [List.getD_eq_getElem?_getD, List.getElem?_eq_getElem hn]
    rfl
  rw [ev_pAdd, ev_pMul, ev_pShift, ev_tr, ev_pShift, h1]
  simp only [ev]
  grind
theorem tr_c1 (c : Rat) : tr [c, 1] = [c, 1] := ev_inj (tr_can _) (fun _ => (show (1 : Rat) ≠ 0 by decide +kernel)) fun x => ev_tr _ x
theorem rShift_C : Ctr Tryz.prog 46 kPRShift := Ctr.c2 (by kernel_rfl) fun a c h => by
  obtain ⟨ca, N, k, C, ⟨la, pa⟩, ⟨hc, hC⟩, hN, hm, hsb⟩ := h
  show PCall _ _ _ (.lst (V.rats (pShift c a)))
  have T : Tabs Tryz.prog _ noGab := tabs mixed (tbl_cons rOne_C (tbl_cons rTrim_C (tbl_cons rPMul_C (tbl_cons rAdd_C tbl_nil))))
  have hs1 := tr_c1 c
  have hge := shBd_ge N k C
  refine PCall.of_vc T Tryz.func46 rfl Tryz.ntmps46 Tryz.results46 (by simp) ?_
  simp only [go_sem, List.reduceReplicate, ↓reduceIte, Nat.reduceEqDiff, Nat.reduceLT, Nat.reduceLeDiff, Nat.reduceAdd, Nat.reduceSub, Nat.reduceMul, Int.reduceToNat, Int.reduceNeg, Int.reduceAdd, Int.reduceSub, Int.reduceMul, Int.reduceLT, Int.reduceLE, Int.reduceMod, Int.reducePow, Nat.reducePow, Int.reduceDiv, Nat.reduceBEq, Nat.reduceBNe, Int.reduceBEq, Int.reduceBNe, reduceCtorEq, hs1]
  refine ⟨by rfl, ⟨by omega, by omega⟩, ?_⟩
  refine AWp.frzS 6 ?_
  simp only [go_sem, List.reduceReplicate, ↓reduceIte, Nat.reduceEqDiff, Nat.reduceLT, Nat.reduceLeDiff, Nat.reduceAdd, Nat.reduceSub, Nat.reduceMul, Int.reduceToNat, Int.reduceNeg, Int.reduceAdd, Int.reduceSub, Int.reduceMul, Int.reduceLT, Int.reduceLE, Int.reduceMod, Int.reducePow, Nat.reducePow, Int.reduceDiv, Nat.reduceBEq, Nat.reduceBNe, Int.reduceBEq, Int.reduceBNe, reduceCtorEq]
  refine AWp.loops (X := { n : Nat // n ≤ a.length }) (fun n => mkSt [(0, .lst (V.rats a)), (3, .ptr 0 4 0 0), (4, .raw (.slice none 0 0)), (5, .lst (V.rats [c, 1])), (6, .lst (V.rats (pShift c (a.drop (a.length - n.1))))), (7, .raw (.int .i64 ((a.length : Int) - 1 - (n.1 : Nat))))] [(0, false, ⟨51, 4, [.Q c]⟩)] 1 32) (fun n => a.length - n.1) ⟨0, Nat.zero_le _⟩ (Wk.of [0] (by decide) ?_) ?_
  · have e0 : pShift c (a.drop a.length) = [] := by rw [List.drop_length]; rfl
    simp only [go_sem, List.reduceReplicate, ↓reduceIte, Nat.reduceEqDiff, Nat.reduceLT, Nat.reduceLeDiff, Nat.reduceAdd, Nat.reduceSub, Nat.reduceMul, Int.reduceToNat, Int.reduceNeg, Int.reduceAdd, Int.reduceSub, Int.reduceMul, Int.reduceLT, Int.reduceLE, Int.reduceMod, Int.reducePow, Nat.reducePow, Int.reduceDiv, Nat.reduceBEq, Nat.reduceBNe, Int.reduceBEq, Int.reduceBNe, reduceCtorEq, Nat.sub_zero, e0, rats_0, Int.natCast_zero, Int.sub_zero]
    exact renV_pure rfl
  · rintro ⟨n, hn⟩
    refine vc_at T ?_
    by_cases hlt : n < a.length
    · have e1 : (a.length : Int) - 1 - (n : Nat) = ((a.length - 1 - n : Nat) : Int) := by omega
      have e2 : (0 : Int) ≤ ((a.length - 1 - n : Nat) : Int) := by omega
      have e3 := sh_step (c := c) ca (n := a.length - 1 - n) (by omega)
      rw [show a.length - 1 - n + 1 = a.length - n from by omega] at e3
      have e4 : ((a.length - 1 - n : Nat) : Int) - 1 = (a.length : Int) - 1 - ((n + 1 : Nat) : Int) := by omega
      have hd : (a.drop (a.length - n)).length ≤ N := by rw [List.length_drop]; omega
      have mon := shBd_mono k C hd
      obtain ⟨_, pq⟩ := sh_sz hc (a.drop (a.length - n)).length rfl (drop_PB pa _) (by omega)
      have pq : PB (pShift c (a.drop (a.length - n))) (shBd N k C) := pq.mono mon
      have lq : (pShift c (a.drop (a.length - n))).length ≤ N := by unfold pShift; rw [shF_len]; exact hd
      have pc : PB [c, 1] C := PB_cons hc (PB_cons (Nat.le_trans qs_1 hC) (PB_nil hC))
      have CK : C ≤ 40000000 := by
        rcases Nat.eq_zero_or_pos N with h0 | h0
        · omega
        · have := Nat.mul_le_mul_right (shBd N k C + C + 1) h0
          omega
      have hmul := Nat.mul_le_mul_right (shBd N k C + C + 1) lq
      have pm : PB (pMul (pShift c (a.drop (a.length - n))) [c, 1]) 100000000 := fun i => by
        unfold pMul
        rw [cf_tr]
        have := mulL_PB pc pq i
        omega
      have lm := len_pMul_le (pShift c (a.drop (a.length - n))) [c, 1]
      have l2 : [c, 1].length = 2 := rfl
      have pt : PB (tr [cf a (a.length - 1 - n)]) 100000000 := fun i => by
        rw [cf_tr]
        exact (PB_cons (Nat.le_trans (pa _) (by omega)) (PB_nil (by decide)) : PB [cf a (a.length - 1 - n)] 100000000) i
      have lt := tr_len [cf a (a.length - 1 - n)]
      have l1 : [cf a (a.length - 1 - n)].length = 1 := rfl
      have w1 : (pShift c (a.drop (a.length - n))).length ≤ 999998 := by omega
      have w2 : PB (pShift c (a.drop (a.length - n))) 100000000 := pq.mono (by omega)
      have w3 : PB [c, 1] 100000000 := pc.mono (by omega)
      have w4 : ∃ j k, (PB (pShift c (a.drop (a.length - n))) j ∧ PB [c, 1] k) ∧ (pShift c (a.drop (a.length - n))).length * (j + k + 1) ≤ 99999999 := ⟨_, _, ⟨pq, pc⟩, by omega⟩
      have w5 : (pMul (pShift c (a.drop (a.length - n))) [c, 1]).length ≤ 1000000 := by omega
      have w6 : (tr [cf a (a.length - 1 - n)]).length ≤ 1000000 := by omega
      simp only [go_sem, List.reduceReplicate, ↓reduceIte, Nat.reduceEqDiff, Nat.reduceLT, Nat.reduceLeDiff, Nat.reduceAdd, Nat.reduceSub, Nat.reduceMul, Int.reduceToNat, Int.reduceNeg, Int.reduceAdd, Int.reduceSub, Int.reduceMul, Int.reduceLT, Int.reduceLE, Int.reduceMod, Int.reducePow, Nat.reducePow, Int.reduceDiv, Nat.reduceBEq, Nat.reduceBNe, Int.reduceBEq, Int.reduceBNe, reduceCtorEq, e1, e2, e3, w1, w2, w3, w4, w5, w6, pm, pt]
      refine ⟨by omega, by omega, ⟨by omega, by omega⟩, ⟨n + 1, hlt⟩, Wk.of [0] (by decide) ?_, by simp only; omega⟩
      have e5 : a.length - (n + 1) = a.length - 1 - n := by omega
      simp only [go_sem, List.reduceReplicate, ↓reduceIte, Nat.reduceEqDiff, Nat.reduceLT, Nat.reduceLeDiff, Nat.reduceAdd, Nat.reduceSub, Nat.reduceMul, Int.reduceToNat, Int.reduceNeg, Int.reduceAdd, Int.reduceSub, Int.reduceMul, Int.reduceLT, Int.reduceLE, Int.reduceMod, Int.reducePow, Nat.reducePow, Int.reduceDiv, Nat.reduceBEq, Nat.reduceBNe, Int.reduceBEq, Int.reduceBNe, reduceCtorEq, e4, e5]
      exact renV_pure rfl
    · obtain rfl : n = a.length := by omega
      have e0 : ¬ (0 : Int) ≤ (a.length : Int) - 1 - (a.length : Nat) := by omega
      have e3 : a.length - a.length = 0 := by omega
      simp only [go_sem, List.reduceReplicate, ↓reduceIte, Nat.reduceEqDiff, Nat.reduceLT, Nat.reduceLeDiff, Nat.reduceAdd, Nat.reduceSub, Nat.reduceMul, Int.reduceToNat, Int.reduceNeg, Int.reduceAdd, Int.reduceSub, Int.reduceMul, Int.reduceLT, Int.reduceLE, Int.reduceMod, Int.reducePow, Nat.reducePow, Int.reduceDiv, Nat.reduceBEq, Nat.reduceBNe, Int.reduceBEq, Int.reduceBNe, reduceCtorEq, e0, e3, List.drop_zero]
end Go.Proofs.YthhpmapbhdebeaaGreat
