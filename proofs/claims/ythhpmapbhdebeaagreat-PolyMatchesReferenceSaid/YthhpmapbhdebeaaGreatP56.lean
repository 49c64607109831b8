/- Texts G10 G11 G12 in one. -/
import Derived.Test.YthhpmapbhdebeaaGreatP55
/- Contracts: the polynomial at x + c. -/
namespace Go.Proofs.YthhpmapbhdebeaaGreat
set_option linter.unusedSimpArgs false
set_option linter.unusedVariables false
open Go.RowKit

theorem cf_ext {l m : List Rat} (h : l.length = m.length) (hc : ∀ i, cf l i = cf m i) : l = m := by
  refine List.ext_getElem h fun i h1 h2 => ?_
  have := hc i
  unfold cf at this
  rw [List.getD_eq_getElem?_getD, List.getD_eq_getElem?_getD, List.getElem?_eq_getElem h1, List.getElem?_eq_getElem h2] at this
  exact this
theorem hd0_cf (l : List Rat) : hd0 l = cf l 0 := by cases l <;> rfl
theorem cf_syn (c : Rat) : ∀ (l : List Rat) (j : Nat), cf (syn c l) j = cf l j + c * cf (syn c l) (j + 1)
  | [], j => by
    show (0 : Rat) = 0 + c * 0
    grind
  | r :: l, 0 => by
    show r + c * hd0 (syn c l) = r + c * cf (syn c l) 0
    rw [hd0_cf]
  | r :: l, j + 1 => by
    show cf (syn c l) j = cf l j + c * cf (syn c l) (j + 1)
    exact cf_syn c l j
/-- The sizes within the shift. -/
def ShOk : Nat → Rat → List Rat → Prop
  | 0, _, _ => True
  | n + 1, c, l => (∃ s, (PB l s ∧ PB (syn c l) s) ∧ s ≤ 40000000) ∧ ShOk n c (tl0 (syn c l))
def kQClone0 : Con := con1 pR fun l => (l = [], .lst (V.rats []))
attribute [go_sem ↓, go_sem] kQClone0
theorem qclone0_C : Ctr Tryz.prog 85 kQClone0 := Ctr.c1 (by kernel_rfl) fun l h => by
  subst h
  refine PCall.lst0 fun A c => ?_
  cases A with
  | none =>
    refine PCall.of_vc (tabs mixed tbl_nil) Tryz.func85 rfl Tryz.ntmps85 Tryz.results85 (by simp) ?_
    have e2 : maxLen = 9223372036854775807 := by decide
    simp only [go_sem, List.reduceReplicate, ↓reduceIte, Nat.reduceEqDiff, Nat.reduceLT, Nat.reduceLeDiff, Nat.reduceAdd, Nat.reduceSub, Nat.reduceMul, Int.reduceToNat, Int.reduceNeg, Int.reduceAdd, Int.reduceSub, Int.reduceMul, Int.reduceLT, Int.reduceLE, Int.reduceMod, Int.reducePow, Nat.reducePow, Int.reduceDiv, Nat.reduceBEq, Nat.reduceBNe, Int.reduceBEq, Int.reduceBNe, reduceCtorEq, e2]
    exact ⟨⟨_, rfl⟩, .inl rfl⟩
  | some A =>
    refine PCall.of_vc (tabs mixed tbl_nil) Tryz.func85 rfl Tryz.ntmps85 Tryz.results85 (by simp) ?_
    have e2 : maxLen = 9223372036854775807 := by decide
    simp only [go_sem, List.reduceReplicate, ↓reduceIte, Nat.reduceEqDiff, Nat.reduceLT, Nat.reduceLeDiff, Nat.reduceAdd, Nat.reduceSub, Nat.reduceMul, Int.reduceToNat, Int.reduceNeg, Int.reduceAdd, Int.reduceSub, Int.reduceMul, Int.reduceLT, Int.reduceLE, Int.reduceMod, Int.reducePow, Nat.reducePow, Int.reduceDiv, Nat.reduceBEq, Nat.reduceBNe, Int.reduceBEq, Int.reduceBNe, reduceCtorEq, e2]
    exact ⟨⟨_, rfl⟩, .inl rfl⟩
def kPShift : Con := con2 pR pQ fun a c => (Can a ∧ a.length ≤ 1000000 ∧ qs c ≤ 40000000 ∧ ShOk a.length c a, .lst (V.rats (pShift c a)))
attribute [go_sem ↓, go_sem] kPShift
theorem pShift_C : Ctr Tryz.prog 37 kPShift := Ctr.c2 (by kernel_rfl) fun a c h => by
  obtain ⟨ca, hl, hc, hs⟩ := h
  show PCall _ _ _ (.lst (V.rats (pShift c a)))
  by_cases a0 : a = []
  · subst a0
    refine PCall.of_vc (tabs mixed (tbl_cons qclone0_C tbl_nil)) Tryz.func37 rfl Tryz.ntmps37 Tryz.results37 (by simp) ?_
    simp only [go_sem, List.reduceReplicate, ↓reduceIte, Nat.reduceEqDiff, Nat.reduceLT, Nat.reduceLeDiff, Nat.reduceAdd, Nat.reduceSub, Nat.reduceMul, Int.reduceToNat, Int.reduceNeg, Int.reduceAdd, Int.reduceSub, Int.reduceMul, Int.reduceLT, Int.reduceLE, Int.reduceMod, Int.reducePow, Nat.reducePow, Int.reduceDiv, Nat.reduceBEq, Nat.reduceBNe, Int.reduceBEq, Int.reduceBNe, reduceCtorEq]
    refine AWp.loops (X := Unit) (fun _ => mkSt [(4, .raw (.slice none 0 0)), (5, .lst (V.rats [])), (11, .raw (.int .i64 0)), (12, .raw (.int .i64 0))] [] 0 40) (fun _ => 0) () (Wk.of [] (by decide) ?_) ?_
    · simp only [go_sem, List.reduceReplicate, ↓reduceIte, Nat.reduceEqDiff, Nat.reduceLT, Nat.reduceLeDiff, Nat.reduceAdd, Nat.reduceSub, Nat.reduceMul, Int.reduceToNat, Int.reduceNeg, Int.reduceAdd, Int.reduceSub, Int.reduceMul, Int.reduceLT, Int.reduceLE, Int.reduceMod, Int.reducePow, Nat.reducePow, Int.reduceDiv, Nat.reduceBEq, Nat.reduceBNe, Int.reduceBEq, Int.reduceBNe, reduceCtorEq]
    · rintro ⟨⟩
      refine vc_at (tabs mixed (tbl_cons qclone0_C tbl_nil)) ?_
      have c1 : ¬ (0 : Int) < 0 := by decide
      simp only [go_sem, List.reduceReplicate, ↓reduceIte, Nat.reduceEqDiff, Nat.reduceLT, Nat.reduceLeDiff, Nat.reduceAdd, Nat.reduceSub, Nat.reduceMul, Int.reduceToNat, Int.reduceNeg, Int.reduceAdd, Int.reduceSub, Int.reduceMul, Int.reduceLT, Int.reduceLE, Int.reduceMod, Int.reducePow, Nat.reducePow, Int.reduceDiv, Nat.reduceBEq, Nat.reduceBNe, Int.reduceBEq, Int.reduceBNe, reduceCtorEq, c1]
      exact .inl rfl
  · have al := List.length_pos_iff.2 a0
    refine PCall.of_vc (tabsX mixed (tbl_cons qMul_C (tbl_cons qAdd_C tbl_nil)) (xtb_cons qclone_C xtb_nil)) Tryz.func37 rfl Tryz.ntmps37 Tryz.results37 (by simp) ?_
    simp only [go_sem, List.reduceReplicate, ↓reduceIte, Nat.reduceEqDiff, Nat.reduceLT, Nat.reduceLeDiff, Nat.reduceAdd, Nat.reduceSub, Nat.reduceMul, Int.reduceToNat, Int.reduceNeg, Int.reduceAdd, Int.reduceSub, Int.reduceMul, Int.reduceLT, Int.reduceLE, Int.reduceMod, Int.reducePow, Nat.reducePow, Int.reduceDiv, Nat.reduceBEq, Nat.reduceBNe, Int.reduceBEq, Int.reduceBNe, reduceCtorEq, a0]
    obtain ⟨n, hn⟩ : ∃ n, n = a.length := ⟨_, rfl⟩
    obtain ⟨S, hS⟩ : ∃ S, S = pShift c a := ⟨_, rfl⟩
    have hSl : S.length = n := by rw [hS, hn]; exact shF_len _ _ _
    rw [← hS]
    refine ⟨hl, ?_⟩
    refine AWp.loops (X := { p : Nat × List Rat × List Rat // (p.1 ≤ n ∧ p.2.1.length = n ∧ p.2.2.length = n - p.1) ∧ ShOk (n - p.1) c p.2.2 ∧ (∀ m, p.1 ≤ m → cf p.2.1 m = cf p.2.2 (m - p.1)) ∧ (∀ m, m < p.1 → cf p.2.1 m = cf S m) ∧ ∀ q, cf S (p.1 + q) = cf (shF (n - p.1) c p.2.2) q })
      (fun p => mkSt [(3, .ptr 0 4 0 0), (4, .raw (.slice none 0 0)), (5, .sl 1 4 0 n), (11, .raw (.int .i64 (n : Nat))), (12, .raw (.int .i64 (p.1.1 : Nat)))] [(0, true, ⟨51, 4, [.Q c]⟩), (1, true, ⟨51, 4, V.rats p.1.2.1⟩)] 2 40)
      (fun p => n - p.1.1) ⟨(0, a, a), ⟨Nat.zero_le _, hn.symm, hn.symm⟩, by simp only [Nat.sub_zero]; rw [hn]; exact hs, fun m _ => rfl, fun m hm => by omega, fun q => by simp only [Nat.zero_add, Nat.sub_zero]; rw [hS, hn]; rfl⟩ (Wk.of [0, 3] (by decide) ?_) ?_
    · simp only [go_sem, List.reduceReplicate, ↓reduceIte, Nat.reduceEqDiff, Nat.reduceLT, Nat.reduceLeDiff, Nat.reduceAdd, Nat.reduceSub, Nat.reduceMul, Int.reduceToNat, Int.reduceNeg, Int.reduceAdd, Int.reduceSub, Int.reduceMul, Int.reduceLT, Int.reduceLE, Int.reduceMod, Int.reducePow, Nat.reducePow, Int.reduceDiv, Nat.reduceBEq, Nat.reduceBNe, Int.reduceBEq, Int.reduceBNe, reduceCtorEq, hn]
    · rintro ⟨⟨i, R, rem⟩, ⟨hi, hR, hr⟩, hok, h1, h2, h3⟩
      simp only at hi hR hr hok h1 h2 h3
      refine vc_at (tabsX mixed (tbl_cons qMul_C (tbl_cons qAdd_C tbl_nil)) (xtb_cons qclone_C xtb_nil)) ?_
      by_cases hin : i < n
      · have c1 : (i : Int) < (n : Nat) := by omega
        obtain ⟨d, hd⟩ : ∃ d, n - i = d + 1 := ⟨n - i - 1, by omega⟩
        rw [hd] at hok h3 hr
        obtain ⟨⟨s, ⟨s1, s2⟩, s3⟩, hok⟩ := hok
        simp only [go_sem, List.reduceReplicate, ↓reduceIte, Nat.reduceEqDiff, Nat.reduceLT, Nat.reduceLeDiff, Nat.reduceAdd, Nat.reduceSub, Nat.reduceMul, Int.reduceToNat, Int.reduceNeg, Int.reduceAdd, Int.reduceSub, Int.reduceMul, Int.reduceLT, Int.reduceLE, Int.reduceMod, Int.reducePow, Nat.reducePow, Int.reduceDiv, Nat.reduceBEq, Nat.reduceBNe, Int.reduceBEq, Int.reduceBNe, reduceCtorEq, c1]
        refine ⟨⟨by omega, by omega⟩, ?_⟩
        refine AWp.loops (X := { p : Nat × List Rat // p.1 + i + 1 ≤ n ∧ p.2.length = n ∧ ∀ m, cf p.2 m = if m < i + p.1 then cf R m else cf (syn c rem) (m - i) })
          (fun p => mkSt [(3, .ptr 0 4 0 0), (4, .raw (.slice none 0 0)), (5, .sl 1 4 0 n), (6, .raw (.int .i64 (i : Nat))), (7, .raw (.int .i64 ((i + p.1.1 : Nat) - 1))), (11, .raw (.int .i64 (n : Nat))), (12, .raw (.int .i64 (i : Nat)))] [(0, true, ⟨51, 4, [.Q c]⟩), (1, true, ⟨51, 4, V.rats p.1.2⟩)] 2 40)
          (fun p => p.1.1) ⟨(d, R), by simp only; omega, hR, fun m => ?_⟩ (Wk.of [0, 1] (by decide) ?_) ?_
        · simp only
          split
          · rfl
          · rename_i hm
            rw [h1 m (by omega), cf_syn, cf_ge (l := syn c rem) (i := m - i + 1) (by rw [syn_len]; omega)]
            grind
        · have e1 : (n : Int) - 2 = ((i + d : Nat) : Int) - 1 := by omega
          simp only [go_sem, List.reduceReplicate, ↓reduceIte, Nat.reduceEqDiff, Nat.reduceLT, Nat.reduceLeDiff, Nat.reduceAdd, Nat.reduceSub, Nat.reduceMul, Int.reduceToNat, Int.reduceNeg, Int.reduceAdd, Int.reduceSub, Int.reduceMul, Int.reduceLT, Int.reduceLE, Int.reduceMod, Int.reducePow, Nat.reducePow, Int.reduceDiv, Nat.reduceBEq, Nat.reduceBNe, Int.reduceBEq, Int.reduceBNe, reduceCtorEq, e1]
        · rintro ⟨⟨j, R'⟩, hj, hR', hc'⟩
          simp only at hj hR' hc'
          refine vc_at (tabsX mixed (tbl_cons qMul_C (tbl_cons qAdd_C tbl_nil)) (xtb_cons qclone_C xtb_nil)) ?_
          rcases j with _ | j
          · have c2 : ¬ (i : Int) ≤ (i : Int) - 1 := by omega
            have c3 : (i : Int) + 1 = ((i + 1 : Nat) : Int) := by omega
            simp only [go_sem, List.reduceReplicate, ↓reduceIte, Nat.reduceEqDiff, Nat.reduceLT, Nat.reduceLeDiff, Nat.reduceAdd, Nat.reduceSub, Nat.reduceMul, Int.reduceToNat, Int.reduceNeg, Int.reduceAdd, Int.reduceSub, Int.reduceMul, Int.reduceLT, Int.reduceLE, Int.reduceMod, Int.reducePow, Nat.reducePow, Int.reduceDiv, Nat.reduceBEq, Nat.reduceBNe, Int.reduceBEq, Int.reduceBNe, reduceCtorEq, c2, c3]
            refine ⟨⟨by omega, by omega⟩, ⟨(i + 1, R', tl0 (syn c rem)), ⟨hin, hR', by simp only [tl0_len, syn_len]; omega⟩, ?_, fun m hm => ?_, fun m hm => ?_, fun q => ?_⟩, Wk.of [0, 1] (by decide) ?_, by simp only; omega⟩
            · simp only
              rw [show n - (i + 1) = d from by omega]; exact hok
            · simp only at hm ⊢
              rw [hc', if_neg (by omega), cf_tl0, show m - (i + 1) + 1 = m - i from by omega]
            · simp only at hm ⊢
              rw [hc']
              by_cases hm' : m < i
              · rw [if_pos (by omega), h2 m hm']
              · obtain rfl : m = i := by omega
                rw [if_neg (by omega), Nat.sub_self]
                have := h3 0
                rw [Nat.add_zero] at this
                rw [this]
                show _ = hd0 (syn c rem)
                rw [hd0_cf]
            · simp only
              rw [show n - (i + 1) = d from by omega]
              have := h3 (q + 1)
              rw [show i + (q + 1) = i + 1 + q from by omega] at this
              rw [this]
              rfl
            · simp only [go_sem, List.reduceReplicate, ↓reduceIte, Nat.reduceEqDiff, Nat.reduceLT, Nat.reduceLeDiff, Nat.reduceAdd, Nat.reduceSub, Nat.reduceMul, Int.reduceToNat, Int.reduceNeg, Int.reduceAdd, Int.reduceSub, Int.reduceMul, Int.reduceLT, Int.reduceLE, Int.reduceMod, Int.reducePow, Nat.reducePow, Int.reduceDiv, Nat.reduceBEq, Nat.reduceBNe, Int.reduceBEq, Int.reduceBNe, reduceCtorEq]
          · have c2 : (i : Int) ≤ ((i + j : Nat) : Int) := by omega
            have c3 : ((i + (j + 1) : Nat) : Int) - 1 = ((i + j : Nat) : Int) := by omega
            have c4 : ((i + j : Nat) : Int) + 1 = ((i + j + 1 : Nat) : Int) := by omega
            have q1 := hc' (i + j)
            rw [if_pos (by omega), h1 _ (by omega), show i + j - i = j from by omega] at q1
            have q2 := hc' (i + j + 1)
            rw [if_neg (by omega), show i + j + 1 - i = j + 1 from by omega] at q2
            have q3 := s1 j
            have q4 := s2 (j + 1)
            have q5 := qsM hc q4
            simp only [go_sem, List.reduceReplicate, ↓reduceIte, Nat.reduceEqDiff, Nat.reduceLT, Nat.reduceLeDiff, Nat.reduceAdd, Nat.reduceSub, Nat.reduceMul, Int.reduceToNat, Int.reduceNeg, Int.reduceAdd, Int.reduceSub, Int.reduceMul, Int.reduceLT, Int.reduceLE, Int.reduceMod, Int.reducePow, Nat.reducePow, Int.reduceDiv, Nat.reduceBEq, Nat.reduceBNe, Int.reduceBEq, Int.reduceBNe, reduceCtorEq, c2, c3, c4, hR']
            refine ⟨⟨by omega, by omega⟩, by omega, ⟨by omega, by omega⟩, ⟨by omega, by omega⟩, by omega, ⟨by omega, by rw [q2]; omega⟩, ⟨by rw [q1]; omega, by rw [q2]; omega⟩, ⟨by omega, by omega⟩, by omega, by rfl, ⟨by omega, by omega⟩,
              ⟨(j, R'.set (i + j) (cf R' (i + j) + c * cf R' (i + j + 1))), by simp only; omega, by rw [List.length_set]; exact hR', fun m => ?_⟩, Wk.of [0, 1] (by decide) ?_, by simp only; omega⟩
            · simp only [cf_set]
              by_cases hm : i + j = m
              · subst hm
                rw [if_pos ⟨rfl, by omega⟩, if_neg (by omega), q1, q2, show i + j - i = j from by omega]
                exact (cf_syn c rem j).symm
              · rw [if_neg fun h => hm h.1, hc']
                by_cases hm' : m < i + j
                · rw [if_pos (by omega), if_pos hm']
                · rw [if_neg (by omega), if_neg hm']
            · simp only [go_sem, List.reduceReplicate, ↓reduceIte, Nat.reduceEqDiff, Nat.reduceLT, Nat.reduceLeDiff, Nat.reduceAdd, Nat.reduceSub, Nat.reduceMul, Int.reduceToNat, Int.reduceNeg, Int.reduceAdd, Int.reduceSub, Int.reduceMul, Int.reduceLT, Int.reduceLE, Int.reduceMod, Int.reducePow, Nat.reducePow, Int.reduceDiv, Nat.reduceBEq, Nat.reduceBNe, Int.reduceBEq, Int.reduceBNe, reduceCtorEq]
      · have c1 : ¬ (i : Int) < (n : Nat) := by omega
        obtain rfl : i = n := by omega
        have e1 : R = S := cf_ext (by rw [hR, hSl]) fun m => by
          by_cases hm : m < i
          · exact h2 m hm
          · rw [cf_ge (by omega), cf_ge (by omega)]
        have f2 : i ≤ S.length := by omega
        have f3 : S.take i = S := List.take_of_length_le (by omega)
        simp only [go_sem, List.reduceReplicate, ↓reduceIte, Nat.reduceEqDiff, Nat.reduceLT, Nat.reduceLeDiff, Nat.reduceAdd, Nat.reduceSub, Nat.reduceMul, Int.reduceToNat, Int.reduceNeg, Int.reduceAdd, Int.reduceSub, Int.reduceMul, Int.reduceLT, Int.reduceLE, Int.reduceMod, Int.reducePow, Nat.reducePow, Int.reduceDiv, Nat.reduceBEq, Nat.reduceBNe, Int.reduceBEq, Int.reduceBNe, reduceCtorEq, c1, e1, f2, f3]
end Go.Proofs.YthhpmapbhdebeaaGreat

/- Contracts: equal polynomials. -/
namespace Go.Proofs.YthhpmapbhdebeaaGreat
set_option linter.unusedSimpArgs false
set_option linter.unusedVariables false
open Go.RowKit

/-- A known function as a value. -/
def pF (g : FuncId) : Pat Unit where
  p
    | .clo (.func f) [] [] => if f = g then some (True, ()) else none
    | _ => none
  val _ := .clo (.func g) [] []
  ok x c a h hc := by
    split at h
    · split at h
      · rename_i e; subst e; exact .inl rfl
      · cases h
    · cases h
@[go_sem ↓, go_sem] theorem ev_pF {g : FuncId} : (pF g).p (.clo (.func g) [] []) = some (True, ()) := if_pos rfl
@[go_sem ↓, go_sem] theorem ev_pF_val {g : FuncId} {u : Unit} : (pF g).val u = .clo (.func g) [] [] := rfl
theorem cmpQ_eq0 (x y : Rat) : (cmpQ x y == 0) = decide (x = y) := by
  unfold cmpQ
  by_cases h : x = y
  · subst h
    simp [Rat.lt_irrefl]
  · rw [decide_eq_false h]
    by_cases h1 : x < y
    · simp [h1]
    · simp [h1, h]
def kEq1 : Con := con2 pQ pQ fun x y => (qs x ≤ 100000000 ∧ qs y ≤ 100000000, .raw (.bool (decide (x = y))))
attribute [go_sem ↓, go_sem] kEq1
theorem eq1_C : Ctr Tryz.prog 93 kEq1 := Ctr.c2 (by kernel_rfl) fun x y h => by
  refine PCall.of_vc (tabs mixed (tbl_cons qCmp_C tbl_nil)) Tryz.func93 rfl Tryz.ntmps93 Tryz.results93 (by simp) ?_
  simp only [go_sem, List.reduceReplicate, ↓reduceIte, Nat.reduceEqDiff, Nat.reduceLT, Nat.reduceLeDiff, Nat.reduceAdd, Nat.reduceSub, Nat.reduceMul, Int.reduceToNat, Int.reduceNeg, Int.reduceAdd, Int.reduceSub, Int.reduceMul, Int.reduceLT, Int.reduceLE, Int.reduceMod, Int.reducePow, Nat.reducePow, Int.reduceDiv, Nat.reduceBEq, Nat.reduceBNe, Int.reduceBEq, Int.reduceBNe, reduceCtorEq]
  refine ⟨h, .inl ?_⟩
  rw [cmpQ_eq0]
def kEqF : Con := con3 pR pR (pF 93) fun a b _ => ((a.length ≤ 1000000 ∧ b.length ≤ 1000000) ∧ PB a 100000000 ∧ PB b 100000000, .raw (.bool (decide (a = b))))
attribute [go_sem ↓, go_sem] kEqF
theorem eqF_C : Ctr Tryz.prog 92 kEqF := Ctr.c3 (by kernel_rfl) fun a b _ h => by
  obtain ⟨⟨la, lb⟩, ha, hb⟩ := h
  refine PCall.of_vc (tabs mixed (tbl_cons eq1_C tbl_nil)) Tryz.func92 rfl Tryz.ntmps92 Tryz.results92 (by simp) ?_
  by_cases hl : a.length = b.length
  · have c0 : (!((a.length : Int) == (b.length : Int))) = false := by rw [hl]; simp
    have c0' : ((a.length : Int) != (b.length : Int)) = false := c0
    simp only [go_sem, List.reduceReplicate, ↓reduceIte, Nat.reduceEqDiff, Nat.reduceLT, Nat.reduceLeDiff, Nat.reduceAdd, Nat.reduceSub, Nat.reduceMul, Int.reduceToNat, Int.reduceNeg, Int.reduceAdd, Int.reduceSub, Int.reduceMul, Int.reduceLT, Int.reduceLE, Int.reduceMod, Int.reducePow, Nat.reducePow, Int.reduceDiv, Nat.reduceBEq, Nat.reduceBNe, Int.reduceBEq, Int.reduceBNe, reduceCtorEq, c0, c0']
    refine AWp.loops (X := { i : Nat // i ≤ a.length ∧ ∀ j, j < i → cf a j = cf b j })
      (fun i => mkSt [(0, .lst (V.rats a)), (1, .lst (V.rats b)), (2, .clo (.func 93) [] []), (6, .raw (.bool false)), (15, .lst (V.rats a)), (16, .raw (.int .i64 (a.length : Nat))), (17, .raw (.int .i64 (i.1 : Nat)))] [] 0 32)
      (fun i => a.length - i.1) ⟨0, Nat.zero_le _, fun j h => by omega⟩ (Wk.of [] (by decide) ?_) ?_
    · simp only [go_sem, List.reduceReplicate, ↓reduceIte, Nat.reduceEqDiff, Nat.reduceLT, Nat.reduceLeDiff, Nat.reduceAdd, Nat.reduceSub, Nat.reduceMul, Int.reduceToNat, Int.reduceNeg, Int.reduceAdd, Int.reduceSub, Int.reduceMul, Int.reduceLT, Int.reduceLE, Int.reduceMod, Int.reducePow, Nat.reducePow, Int.reduceDiv, Nat.reduceBEq, Nat.reduceBNe, Int.reduceBEq, Int.reduceBNe, reduceCtorEq]
    · rintro ⟨i, hi, he⟩
      refine vc_at (tabs mixed (tbl_cons eq1_C tbl_nil)) ?_
      by_cases hin : i < a.length
      · have c1 : (i : Int) < (a.length : Nat) := by omega
        have c2 : (i : Int) + 1 = ((i + 1 : Nat) : Int) := by omega
        have q1 := ha i
        have q2 := hb i
        by_cases hq : cf a i = cf b i
        · have d1 : decide (cf a i = cf b i) = true := decide_eq_true hq
          simp only [go_sem, List.reduceReplicate, ↓reduceIte, Nat.reduceEqDiff, Nat.reduceLT, Nat.reduceLeDiff, Nat.reduceAdd, Nat.reduceSub, Nat.reduceMul, Int.reduceToNat, Int.reduceNeg, Int.reduceAdd, Int.reduceSub, Int.reduceMul, Int.reduceLT, Int.reduceLE, Int.reduceMod, Int.reducePow, Nat.reducePow, Int.reduceDiv, Nat.reduceBEq, Nat.reduceBNe, Int.reduceBEq, Int.reduceBNe, reduceCtorEq, c1, c2, d1]
          refine ⟨by omega, hin, ⟨by omega, by omega⟩, by omega, ⟨q1, q2⟩, ⟨by omega, by omega⟩, ⟨i + 1, hin, fun j hj => ?_⟩, Wk.of [] (by decide) ?_, by simp only; omega⟩
          · by_cases e : j = i
            · subst e; exact hq
            · exact he j (by omega)
          · simp only [go_sem, List.reduceReplicate, ↓reduceIte, Nat.reduceEqDiff, Nat.reduceLT, Nat.reduceLeDiff, Nat.reduceAdd, Nat.reduceSub, Nat.reduceMul, Int.reduceToNat, Int.reduceNeg, Int.reduceAdd, Int.reduceSub, Int.reduceMul, Int.reduceLT, Int.reduceLE, Int.reduceMod, Int.reducePow, Nat.reducePow, Int.reduceDiv, Nat.reduceBEq, Nat.reduceBNe, Int.reduceBEq, Int.reduceBNe, reduceCtorEq]
        · have d1 : decide (cf a i = cf b i) = false := decide_eq_false hq
          have d2 : decide (a = b) = false := decide_eq_false fun e => hq (by rw [e])
          simp only [go_sem, List.reduceReplicate, ↓reduceIte, Nat.reduceEqDiff, Nat.reduceLT, Nat.reduceLeDiff, Nat.reduceAdd, Nat.reduceSub, Nat.reduceMul, Int.reduceToNat, Int.reduceNeg, Int.reduceAdd, Int.reduceSub, Int.reduceMul, Int.reduceLT, Int.reduceLE, Int.reduceMod, Int.reducePow, Nat.reducePow, Int.reduceDiv, Nat.reduceBEq, Nat.reduceBNe, Int.reduceBEq, Int.reduceBNe, reduceCtorEq, c1, c2, d1, d2]
          exact ⟨by omega, hin, ⟨by omega, by omega⟩, by omega, q1, q2⟩
      · have c1 : ¬ (i : Int) < (a.length : Nat) := by omega
        have d2 : decide (a = b) = true := decide_eq_true (cf_ext hl fun j => by
          by_cases hj : j < i
          · exact he j hj
          · rw [cf_ge (by omega), cf_ge (by omega)])
        simp only [go_sem, List.reduceReplicate, ↓reduceIte, Nat.reduceEqDiff, Nat.reduceLT, Nat.reduceLeDiff, Nat.reduceAdd, Nat.reduceSub, Nat.reduceMul, Int.reduceToNat, Int.reduceNeg, Int.reduceAdd, Int.reduceSub, Int.reduceMul, Int.reduceLT, Int.reduceLE, Int.reduceMod, Int.reducePow, Nat.reducePow, Int.reduceDiv, Nat.reduceBEq, Nat.reduceBNe, Int.reduceBEq, Int.reduceBNe, reduceCtorEq, c1, d2]
  · have c0 : (!((a.length : Int) == (b.length : Int))) = true := by simp; omega
    have c0' : ((a.length : Int) != (b.length : Int)) = true := c0
    have d2 : decide (a = b) = false := decide_eq_false fun e => hl (by rw [e])
    simp only [go_sem, List.reduceReplicate, ↓reduceIte, Nat.reduceEqDiff, Nat.reduceLT, Nat.reduceLeDiff, Nat.reduceAdd, Nat.reduceSub, Nat.reduceMul, Int.reduceToNat, Int.reduceNeg, Int.reduceAdd, Int.reduceSub, Int.reduceMul, Int.reduceLT, Int.reduceLE, Int.reduceMod, Int.reducePow, Nat.reducePow, Int.reduceDiv, Nat.reduceBEq, Nat.reduceBNe, Int.reduceBEq, Int.reduceBNe, reduceCtorEq, c0, c0', d2]
def kPEq : Con := con2 pR pR fun a b => ((a.length ≤ 1000000 ∧ b.length ≤ 1000000) ∧ PB a 100000000 ∧ PB b 100000000, .raw (.bool (decide (a = b))))
attribute [go_sem ↓, go_sem] kPEq
theorem pEq_C : Ctr Tryz.prog 47 kPEq := Ctr.c2 (by kernel_rfl) fun a b h => by
  refine PCall.of_vc (tabs mixed (tbl_cons eqF_C tbl_nil)) Tryz.func47 rfl Tryz.ntmps47 Tryz.results47 (by simp) ?_
  simp only [go_sem, List.reduceReplicate, ↓reduceIte, Nat.reduceEqDiff, Nat.reduceLT, Nat.reduceLeDiff, Nat.reduceAdd, Nat.reduceSub, Nat.reduceMul, Int.reduceToNat, Int.reduceNeg, Int.reduceAdd, Int.reduceSub, Int.reduceMul, Int.reduceLT, Int.reduceLE, Int.reduceMod, Int.reducePow, Nat.reducePow, Int.reduceDiv, Nat.reduceBEq, Nat.reduceBNe, Int.reduceBEq, Int.reduceBNe, reduceCtorEq]
  trace_state
  exact h
end Go.Proofs.YthhpmapbhdebeaaGreat

/- Contracts: valid polynomials. -/
namespace Go.Proofs.YthhpmapbhdebeaaGreat
set_option linter.unusedSimpArgs false
set_option linter.unusedVariables false
open Go.RowKit

def kVal1 : Con := con1 pQ fun x => (qs x ≤ 100000000, .raw (.bool false))
attribute [go_sem ↓, go_sem] kVal1
theorem val1_C : Ctr Tryz.prog 95 kVal1 := Ctr.c1 (by kernel_rfl) fun x h => by
  refine PCall.of_vc (tabs mixed (tbl_cons qValid_C tbl_nil)) Tryz.func95 rfl Tryz.ntmps95 Tryz.results95 (by simp) ?_
  have e1 := validQ_Q x
  simp only [go_sem, List.reduceReplicate, ↓reduceIte, Nat.reduceEqDiff, Nat.reduceLT, Nat.reduceLeDiff, Nat.reduceAdd, Nat.reduceSub, Nat.reduceMul, Int.reduceToNat, Int.reduceNeg, Int.reduceAdd, Int.reduceSub, Int.reduceMul, Int.reduceLT, Int.reduceLE, Int.reduceMod, Int.reducePow, Nat.reducePow, Int.reduceDiv, Nat.reduceBEq, Nat.reduceBNe, Int.reduceBEq, Int.reduceBNe, reduceCtorEq, e1]
  exact ⟨⟨dg_lim _, dg_lim _⟩, szLN h (by omega), szLD h (by omega)⟩
def kIdxF : Con := con2 pR (pF 95) fun a _ => (a.length ≤ 1000000 ∧ PB a 100000000, .raw (.int .i64 (-1)))
attribute [go_sem ↓, go_sem] kIdxF
theorem idxF_C : Ctr Tryz.prog 118 kIdxF := Ctr.c2 (by kernel_rfl) fun a _ h => by
  obtain ⟨la, ha⟩ := h
  refine PCall.of_vc (tabs mixed (tbl_cons val1_C tbl_nil)) Tryz.func118 rfl Tryz.ntmps118 Tryz.results118 (by simp) ?_
  simp only [go_sem, List.reduceReplicate, ↓reduceIte, Nat.reduceEqDiff, Nat.reduceLT, Nat.reduceLeDiff, Nat.reduceAdd, Nat.reduceSub, Nat.reduceMul, Int.reduceToNat, Int.reduceNeg, Int.reduceAdd, Int.reduceSub, Int.reduceMul, Int.reduceLT, Int.reduceLE, Int.reduceMod, Int.reducePow, Nat.reducePow, Int.reduceDiv, Nat.reduceBEq, Nat.reduceBNe, Int.reduceBEq, Int.reduceBNe, reduceCtorEq]
  refine AWp.loops (X := { i : Nat // i ≤ a.length })
    (fun i => mkSt [(0, .lst (V.rats a)), (1, .clo (.func 95) [] []), (4, .raw (.int .i64 0)), (7, .raw (.int .i64 (a.length : Nat))), (8, .raw (.int .i64 (i.1 : Nat)))] [] 0 19)
    (fun i => a.length - i.1) ⟨0, Nat.zero_le _⟩ (Wk.of [] (by decide) ?_) ?_
  · simp only [go_sem, List.reduceReplicate, ↓reduceIte, Nat.reduceEqDiff, Nat.reduceLT, Nat.reduceLeDiff, Nat.reduceAdd, Nat.reduceSub, Nat.reduceMul, Int.reduceToNat, Int.reduceNeg, Int.reduceAdd, Int.reduceSub, Int.reduceMul, Int.reduceLT, Int.reduceLE, Int.reduceMod, Int.reducePow, Nat.reducePow, Int.reduceDiv, Nat.reduceBEq, Nat.reduceBNe, Int.reduceBEq, Int.reduceBNe, reduceCtorEq]
  · rintro ⟨i, hi⟩
    refine vc_at (tabs mixed (tbl_cons val1_C tbl_nil)) ?_
    by_cases hin : i < a.length
    · have c1 : (i : Int) < (a.length : Nat) := by omega
      have c2 : (i : Int) + 1 = ((i + 1 : Nat) : Int) := by omega
      have q1 := ha i
      simp only [go_sem, List.reduceReplicate, ↓reduceIte, Nat.reduceEqDiff, Nat.reduceLT, Nat.reduceLeDiff, Nat.reduceAdd, Nat.reduceSub, Nat.reduceMul, Int.reduceToNat, Int.reduceNeg, Int.reduceAdd, Int.reduceSub, Int.reduceMul, Int.reduceLT, Int.reduceLE, Int.reduceMod, Int.reducePow, Nat.reducePow, Int.reduceDiv, Nat.reduceBEq, Nat.reduceBNe, Int.reduceBEq, Int.reduceBNe, reduceCtorEq, c1, c2]
      refine ⟨by omega, hin, q1, ⟨by omega, by omega⟩, ⟨i + 1, hin⟩, Wk.of [] (by decide) ?_, by simp only; omega⟩
      simp only [go_sem, List.reduceReplicate, ↓reduceIte, Nat.reduceEqDiff, Nat.reduceLT, Nat.reduceLeDiff, Nat.reduceAdd, Nat.reduceSub, Nat.reduceMul, Int.reduceToNat, Int.reduceNeg, Int.reduceAdd, Int.reduceSub, Int.reduceMul, Int.reduceLT, Int.reduceLE, Int.reduceMod, Int.reducePow, Nat.reducePow, Int.reduceDiv, Nat.reduceBEq, Nat.reduceBNe, Int.reduceBEq, Int.reduceBNe, reduceCtorEq]
    · have c1 : ¬ (i : Int) < (a.length : Nat) := by omega
      simp only [go_sem, List.reduceReplicate, ↓reduceIte, Nat.reduceEqDiff, Nat.reduceLT, Nat.reduceLeDiff, Nat.reduceAdd, Nat.reduceSub, Nat.reduceMul, Int.reduceToNat, Int.reduceNeg, Int.reduceAdd, Int.reduceSub, Int.reduceMul, Int.reduceLT, Int.reduceLE, Int.reduceMod, Int.reducePow, Nat.reducePow, Int.reduceDiv, Nat.reduceBEq, Nat.reduceBNe, Int.reduceBEq, Int.reduceBNe, reduceCtorEq, c1]
def kContF : Con := con2 pR (pF 95) fun a _ => (a.length ≤ 1000000 ∧ PB a 100000000, .raw (.bool false))
attribute [go_sem ↓, go_sem] kContF
theorem contF_C : Ctr Tryz.prog 97 kContF := Ctr.c2 (by kernel_rfl) fun a _ h => by
  refine PCall.of_vc (tabs mixed (tbl_cons idxF_C tbl_nil)) Tryz.func97 rfl Tryz.ntmps97 Tryz.results97 (by simp) ?_
  have c1 : ¬ (0 : Int) ≤ -1 := by decide
  simp only [go_sem, List.reduceReplicate, ↓reduceIte, Nat.reduceEqDiff, Nat.reduceLT, Nat.reduceLeDiff, Nat.reduceAdd, Nat.reduceSub, Nat.reduceMul, Int.reduceToNat, Int.reduceNeg, Int.reduceAdd, Int.reduceSub, Int.reduceMul, Int.reduceLT, Int.reduceLE, Int.reduceMod, Int.reducePow, Nat.reducePow, Int.reduceDiv, Nat.reduceBEq, Nat.reduceBNe, Int.reduceBEq, Int.reduceBNe, reduceCtorEq, c1]
  exact h
def kPValid : Con := con1 pR fun a => (a.length ≤ 1000000 ∧ PB a 100000000, .raw (.bool (((tr a).length : Int) == (a.length : Int))))
attribute [go_sem ↓, go_sem] kPValid
theorem pValid_C : Ctr Tryz.prog 48 kPValid := Ctr.c1 (by kernel_rfl) fun a h => by
  refine PCall.of_vc (tabs mixed (tbl_cons contF_C (tbl_cons trim_C tbl_nil))) Tryz.func48 rfl Tryz.ntmps48 Tryz.results48 (by simp) ?_
  simp only [go_sem, List.reduceReplicate, ↓reduceIte, Nat.reduceEqDiff, Nat.reduceLT, Nat.reduceLeDiff, Nat.reduceAdd, Nat.reduceSub, Nat.reduceMul, Int.reduceToNat, Int.reduceNeg, Int.reduceAdd, Int.reduceSub, Int.reduceMul, Int.reduceLT, Int.reduceLE, Int.reduceMod, Int.reducePow, Nat.reducePow, Int.reduceDiv, Nat.reduceBEq, Nat.reduceBNe, Int.reduceBEq, Int.reduceBNe, reduceCtorEq]
  exact ⟨h, Nat.le_trans h.1 (by decide)⟩
end Go.Proofs.YthhpmapbhdebeaaGreat
