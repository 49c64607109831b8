/- Contracts: Text. -/
import Derived.Test.YtbnhnmpgbpejaaaD4
namespace Go.Proofs.Ytbnhnmpgbpejaaa
set_option linter.unusedSimpArgs false
set_option linter.unusedVariables false
open Go.RowKit

theorem split9 (T n : Nat) (hn : n ≤ 9) : T / 10 ^ n = T / 1000000000 * 10 ^ (9 - n) + T % 1000000000 / 10 ^ n := by
  have e : 1000000000 = 10 ^ n * 10 ^ (9 - n) := by rw [← Nat.pow_add, show n + (9 - n) = 9 from by omega]
  have h : T = 10 ^ n * (T / 1000000000 * 10 ^ (9 - n)) + T % 1000000000 := by
    rw [Nat.mul_left_comm, ← e, Nat.mul_comm]
    exact (Nat.div_add_mod T 1000000000).symm
  conv => lhs; rw [h]
  rw [Nat.mul_add_div (Nat.pow_pos (by decide))]
theorem digit9 (T n : Nat) (hn : n < 9) : T % 1000000000 / 10 ^ n % 10 = T / 10 ^ n % 10 := by
  have h := split9 T n (by omega)
  have e : 10 ^ (9 - n) = 10 ^ (8 - n) * 10 := by rw [← Nat.pow_succ]; congr 1; omega
  rw [e, ← Nat.mul_assoc] at h
  omega
theorem sum_zero9 {a p D : Nat} (hp : 0 < p) (h : 0 = a * p + D) : a = 0 ∧ D = 0 := by
  have h1 : a * p = 0 := by omega
  rcases Nat.mul_eq_zero.1 h1 with h2 | h2 <;> omega
theorem cast9 {D : Nat} (h : D < 1000000000) : 0 ≤ (D : Int) ∧ (D : Int) ≤ 4294967295 ∧ (48 + (D : Int) % 10) % 4294967296 % 256 = ((48 + D % 10 : Nat) : Int) := by omega
theorem next9 (T n : Nat) : T % 1000000000 / 10 ^ n / 10 = T % 1000000000 / 10 ^ (n + 1) := by rw [Nat.div_div_eq_div_mul, Nat.pow_succ]
theorem nextT (T n : Nat) : T / 10 ^ n / 10 = T / 10 ^ (n + 1) := by rw [Nat.div_div_eq_div_mul, Nat.pow_succ]
set_option maxRecDepth 2000 in
theorem text_V (x : Int) (hx : dl x.natAbs ≤ 1000000000) :
    PCall Try.prog 29 [.I x] (.raw (.string (mkB (txN x)))) := by
  obtain ⟨s, l, hz, hl, hs, e1, e2, e3⟩ := sv_open x
  refine PCall.of_vc (tabs mixed (tbl_cons short_C (tbl_cons norm_C tbl_nil))) Try.func29 rfl Try.ntmps29 Try.results29 (by simp) ?_
  by_cases h0 : l = []
  · have hx0 : x = 0 := by rw [hz]; exact (sv_zero hl).2 h0
    subst h0 hx0
    simp only [go_sem, List.reduceReplicate, false_implies, true_implies, true_and, and_true, implies_true, Nat.sub_zero, Int.cast_ofNat_Int, ↓reduceIte, Nat.reduceEqDiff, Nat.reduceLT, Nat.reduceLeDiff, Nat.reduceAdd, Nat.reduceSub, Nat.reduceMul, Int.reduceToNat, Int.reduceNeg, Int.reduceAdd, Int.reduceSub, Int.reduceMul, Int.reduceLT, Int.reduceLE, Int.reduceMod, Int.reducePow, Nat.reducePow, Int.reduceDiv, Nat.reduceBEq, Nat.reduceBNe, Int.reduceBEq, Int.reduceBNe, decide_true, decide_false, reduceCtorEq, Nat.add_zero, Nat.zero_add, Nat.zero_mul, Nat.one_mul, Nat.mul_one, Nat.lt_add_one, Nat.le_refl, Nat.zero_le, Nat.one_ne_zero, Nat.succ_ne_zero, Nat.zero_ne_one, Nat.add_one_ne_zero, Nat.ne_add_one, e1]
    exact .refl _
  · have hp : 0 < l.length := List.length_pos_iff.2 h0
    have c0 : ((l.length : Int) == 0) = false := by simp; omega
    have a1 : 10 * (l.length : Int) + 10 = ((10 * l.length + 10 : Nat) : Int) := by omega
    simp only [go_sem, List.reduceReplicate, false_implies, true_implies, true_and, and_true, implies_true, Nat.sub_zero, Int.cast_ofNat_Int, ↓reduceIte, Nat.reduceEqDiff, Nat.reduceLT, Nat.reduceLeDiff, Nat.reduceAdd, Nat.reduceSub, Nat.reduceMul, Int.reduceToNat, Int.reduceNeg, Int.reduceAdd, Int.reduceSub, Int.reduceMul, Int.reduceLT, Int.reduceLE, Int.reduceMod, Int.reducePow, Nat.reducePow, Int.reduceDiv, Nat.reduceBEq, Nat.reduceBNe, Int.reduceBEq, Int.reduceBNe, decide_true, decide_false, reduceCtorEq, Nat.add_zero, Nat.zero_add, Nat.zero_mul, Nat.one_mul, Nat.mul_one, Nat.lt_add_one, Nat.le_refl, Nat.zero_le, Nat.one_ne_zero, Nat.succ_ne_zero, Nat.zero_ne_one, Nat.add_one_ne_zero, Nat.ne_add_one, e1, e2, c0, a1]
    refine ⟨by omega, by omega, by omega, ?_⟩
    obtain ⟨B, hB⟩ : ∃ B, B = 10 * l.length + 10 := ⟨_, rfl⟩
    obtain ⟨Z, hZ⟩ : ∃ Z, Z = lv l := ⟨_, rfl⟩
    have hdl := dcm_len_lv hl.1
    have hZ0 := lv_pos hl h0
    rw [← hZ] at hdl hZ0
    rw [← hB]
    refine AWp.loops (X := { a : Nat × Nat × List Nat // a.1 ≤ Z ∧ dcm Z = dcm a.1 ++ a.2.2.drop a.2.1 ∧ a.2.2.length = B ∧ a.2.1 ≤ B })
      (fun a => mkSt [(1, .ptr 0 2 0 0), (3, .sl 1 1 0 B), (4, .raw (.int .i64 (a.1.2.1 : Nat))), (5, .lst (V.limbs (dg a.1.1)))]
        [(0, true, ⟨28, 2, [.I x]⟩), (1, true, ⟨5, 1, V.bytes a.1.2.2⟩)] 2 69)
      (fun a => a.1.1) ⟨(Z, B, List.replicate B 0), Nat.le_refl _, by simp, by simp, Nat.le_refl _⟩ (Wk.of [0, 11] (by decide) ?_) ?_
    · rw [hZ, ← dg_of_canon hl rfl]
      simp only [go_sem, List.reduceReplicate, false_implies, true_implies, true_and, and_true, implies_true, Nat.sub_zero, Int.cast_ofNat_Int, ↓reduceIte, Nat.reduceEqDiff, Nat.reduceLT, Nat.reduceLeDiff, Nat.reduceAdd, Nat.reduceSub, Nat.reduceMul, Int.reduceToNat, Int.reduceNeg, Int.reduceAdd, Int.reduceSub, Int.reduceMul, Int.reduceLT, Int.reduceLE, Int.reduceMod, Int.reducePow, Nat.reducePow, Int.reduceDiv, Nat.reduceBEq, Nat.reduceBNe, Int.reduceBEq, Int.reduceBNe, decide_true, decide_false, reduceCtorEq, Nat.add_zero, Nat.zero_add, Nat.zero_mul, Nat.one_mul, Nat.mul_one, Nat.lt_add_one, Nat.le_refl, Nat.zero_le, Nat.one_ne_zero, Nat.succ_ne_zero, Nat.zero_ne_one, Nat.add_one_ne_zero, Nat.ne_add_one]
    · rintro ⟨⟨T, i, buf⟩, hT, hd, hbl, hi⟩
      simp only at hT hd hbl hi
      refine vc_at (tabs mixed (tbl_cons short_C (tbl_cons norm_C tbl_nil))) ?_
      have hlen : (dcm Z).length = (dcm T).length + (B - i) := by rw [hd, List.length_append, List.length_drop, hbl]
      by_cases hT0 : T = 0
      · subst hT0
        have hi10 : 10 ≤ i := by rw [dcm_zero] at hlen; simp at hlen; omega
        rw [dcm_zero, List.nil_append] at hd
        have b1 : (i : Int) - 1 = ((i - 1 : Nat) : Int) := by omega
        have hx : txN x = (if s = true then [45] else []) ++ dcm Z := by rw [hz, hZ]; exact txN_sv hl h0
        have hiB : i < B := by
          have := dcm_pos (n := Z) (by omega)
          rw [dcm_zero] at hlen; simp at hlen; omega
        cases s
        · have g2 : i + (B - i) ≤ B := by omega
          simp only [go_sem, List.reduceReplicate, false_implies, true_implies, true_and, and_true, implies_true, Nat.sub_zero, Int.cast_ofNat_Int, ↓reduceIte, Nat.reduceEqDiff, Nat.reduceLT, Nat.reduceLeDiff, Nat.reduceAdd, Nat.reduceSub, Nat.reduceMul, Int.reduceToNat, Int.reduceNeg, Int.reduceAdd, Int.reduceSub, Int.reduceMul, Int.reduceLT, Int.reduceLE, Int.reduceMod, Int.reducePow, Nat.reducePow, Int.reduceDiv, Nat.reduceBEq, Nat.reduceBNe, Int.reduceBEq, Int.reduceBNe, decide_true, decide_false, reduceCtorEq, Nat.add_zero, Nat.zero_add, Nat.zero_mul, Nat.one_mul, Nat.mul_one, Nat.lt_add_one, Nat.le_refl, Nat.zero_le, Nat.one_ne_zero, Nat.succ_ne_zero, Nat.zero_ne_one, Nat.add_one_ne_zero, Nat.ne_add_one, e2, dg_zero, hbl, hiB, g2]
          refine ⟨by omega, ?_⟩
          rw [hx, List.take_of_length_le (by rw [List.length_drop]; omega), ← hd]
          exact .refl _
        · have g1 : i - 1 < B := by omega
          have g2 : i - 1 + (B - (i - 1)) ≤ B := by omega
          have g3 : (V.bytes buf).set (i - 1) (V.raw (Value.int IntKind.u8 45)) = V.bytes (buf.set (i - 1) 45) := bytes_set rfl
          simp only [go_sem, List.reduceReplicate, false_implies, true_implies, true_and, and_true, implies_true, Nat.sub_zero, Int.cast_ofNat_Int, ↓reduceIte, Nat.reduceEqDiff, Nat.reduceLT, Nat.reduceLeDiff, Nat.reduceAdd, Nat.reduceSub, Nat.reduceMul, Int.reduceToNat, Int.reduceNeg, Int.reduceAdd, Int.reduceSub, Int.reduceMul, Int.reduceLT, Int.reduceLE, Int.reduceMod, Int.reducePow, Nat.reducePow, Int.reduceDiv, Nat.reduceBEq, Nat.reduceBNe, Int.reduceBEq, Int.reduceBNe, decide_true, decide_false, reduceCtorEq, Nat.add_zero, Nat.zero_add, Nat.zero_mul, Nat.one_mul, Nat.mul_one, Nat.lt_add_one, Nat.le_refl, Nat.zero_le, Nat.one_ne_zero, Nat.succ_ne_zero, Nat.zero_ne_one, Nat.add_one_ne_zero, Nat.ne_add_one, e2, dg_zero, b1, hbl, g1, g2, g3, List.length_set]
          refine ⟨by omega, by omega, by omega, ?_⟩
          have e : (buf.set (i - 1) 45).drop (i - 1) = 45 :: buf.drop i := by
            have h1 : i - 1 < (buf.set (i - 1) 45).length := by rw [List.length_set]; omega
            rw [List.drop_eq_getElem_cons h1, List.getElem_set_self, List.drop_set_of_lt (by omega), show i - 1 + 1 = i from by omega]
          rw [hx, List.take_of_length_le (by rw [List.length_drop, List.length_set]; omega), e, ← hd]
          exact .refl _
      · have c1 : 0 < (((dg T).length : Nat) : Int) := by
          have := dl_eq_zero (n := T)
          unfold dl at this
          omega
        have s1 : sv false (nl (dg T).length (T / 1000000000)) = ((T / 1000000000 : Nat) : Int) := by
          rw [sv_false, lv_nl]
          exact Nat.lt_of_le_of_lt (Nat.div_le_self _ _) (by have := lt_pow_dl T; exact this)
        simp only [go_sem, List.reduceReplicate, false_implies, true_implies, true_and, and_true, implies_true, Nat.sub_zero, Int.cast_ofNat_Int, ↓reduceIte, Nat.reduceEqDiff, Nat.reduceLT, Nat.reduceLeDiff, Nat.reduceAdd, Nat.reduceSub, Nat.reduceMul, Int.reduceToNat, Int.reduceNeg, Int.reduceAdd, Int.reduceSub, Int.reduceMul, Int.reduceLT, Int.reduceLE, Int.reduceMod, Int.reducePow, Nat.reducePow, Int.reduceDiv, Nat.reduceBEq, Nat.reduceBNe, Int.reduceBEq, Int.reduceBNe, decide_true, decide_false, reduceCtorEq, Nat.add_zero, Nat.zero_add, Nat.zero_mul, Nat.one_mul, Nat.mul_one, Nat.lt_add_one, Nat.le_refl, Nat.zero_le, Nat.one_ne_zero, Nat.succ_ne_zero, Nat.zero_ne_one, Nat.add_one_ne_zero, Nat.ne_add_one, c1, lv_dg, s1, Int.natAbs_natCast]
        have hdT : dl T ≤ 1000000000 := Nat.le_trans (dl_mono hT) (by rw [hZ]; exact Nat.le_trans (dl_le_of_lim hl.1) (by omega))
        refine ⟨⟨dg_lim _, ?_⟩, ⟨nl_lim _ _, ?_⟩, ?_⟩
        · show dl T ≤ _
          omega
        · rw [nl_length]; show dl T ≤ _; omega
        refine AWp.loops (X := { a : Nat × Nat × List Nat // a.1 ≤ 9 ∧ dcm Z = dcm (T / 10 ^ a.1) ++ a.2.2.drop a.2.1 ∧ a.2.2.length = B ∧ a.2.1 ≤ B })
          (fun a => mkSt [(1, .ptr 0 2 0 0), (3, .sl 1 1 0 B), (4, .raw (.int .i64 (a.1.2.1 : Nat))), (5, .lst (V.limbs (dg (T / 1000000000)))), (7, .raw (.int .u32 (T % 1000000000 / 10 ^ a.1.1 : Nat))), (8, .raw (.int .i64 (a.1.1 : Nat)))]
            [(0, true, ⟨28, 2, [.I x]⟩), (1, true, ⟨5, 1, V.bytes a.1.2.2⟩)] 2 69)
          (fun a => 9 - a.1.1) ⟨(0, i, buf), by simp, by simpa using hd, hbl, hi⟩ (Wk.of [0, 1] (by decide) ?_) ?_
        · simp only [go_sem, List.reduceReplicate, false_implies, true_implies, true_and, and_true, implies_true, Nat.sub_zero, Int.cast_ofNat_Int, ↓reduceIte, Nat.reduceEqDiff, Nat.reduceLT, Nat.reduceLeDiff, Nat.reduceAdd, Nat.reduceSub, Nat.reduceMul, Int.reduceToNat, Int.reduceNeg, Int.reduceAdd, Int.reduceSub, Int.reduceMul, Int.reduceLT, Int.reduceLE, Int.reduceMod, Int.reducePow, Nat.reducePow, Int.reduceDiv, Nat.reduceBEq, Nat.reduceBNe, Int.reduceBEq, Int.reduceBNe, decide_true, decide_false, reduceCtorEq, Nat.add_zero, Nat.zero_add, Nat.zero_mul, Nat.one_mul, Nat.mul_one, Nat.lt_add_one, Nat.le_refl, Nat.zero_le, Nat.one_ne_zero, Nat.succ_ne_zero, Nat.zero_ne_one, Nat.add_one_ne_zero, Nat.ne_add_one, Nat.pow_zero, Nat.div_one]
        · rintro ⟨⟨n, j, buf'⟩, hn, hd', hbl', hj⟩
          simp only at hn hd' hbl' hj
          refine vc_at (tabs mixed (tbl_cons short_C (tbl_cons norm_C tbl_nil))) ?_
          have hlen' : (dcm Z).length = (dcm (T / 10 ^ n)).length + (B - j) := by rw [hd', List.length_append, List.length_drop, hbl']
          have n1 : (n : Int) + 1 = ((n + 1 : Nat) : Int) := by omega
          have n2 : (j : Int) - 1 = ((j - 1 : Nat) : Int) := by omega
          by_cases hn9 : n < 9
          · have c2 : (n : Int) < 9 := by omega
            have hsp := split9 T n hn
            have hdlt : T % 1000000000 / 10 ^ n < 1000000000 := Nat.lt_of_le_of_lt (Nat.div_le_self _ _) (Nat.mod_lt _ (by decide))
            have hmx : IntKind.u32.max = 4294967295 := by decide
            by_cases hz0 : T / 10 ^ n = 0
            · obtain ⟨q0, d0⟩ := sum_zero9 (p := 10 ^ (9 - n)) (Nat.pow_pos (by decide)) (by rw [← hsp, hz0])
              simp only [go_sem, List.reduceReplicate, false_implies, true_implies, true_and, and_true, implies_true, Nat.sub_zero, Int.cast_ofNat_Int, ↓reduceIte, Nat.reduceEqDiff, Nat.reduceLT, Nat.reduceLeDiff, Nat.reduceAdd, Nat.reduceSub, Nat.reduceMul, Int.reduceToNat, Int.reduceNeg, Int.reduceAdd, Int.reduceSub, Int.reduceMul, Int.reduceLT, Int.reduceLE, Int.reduceMod, Int.reducePow, Nat.reducePow, Int.reduceDiv, Nat.reduceBEq, Nat.reduceBNe, Int.reduceBEq, Int.reduceBNe, decide_true, decide_false, reduceCtorEq, Nat.add_zero, Nat.zero_add, Nat.zero_mul, Nat.one_mul, Nat.mul_one, Nat.lt_add_one, Nat.le_refl, Nat.zero_le, Nat.one_ne_zero, Nat.succ_ne_zero, Nat.zero_ne_one, Nat.add_one_ne_zero, Nat.ne_add_one, c2, q0, d0, dg_zero]
              refine ⟨⟨(0, j, buf'), Nat.zero_le _, by simpa [hz0] using hd', hbl', hj⟩, Wk.of [0, 1] (by decide) ?_, by simp only; omega⟩
              simp only [go_sem, List.reduceReplicate, false_implies, true_implies, true_and, and_true, implies_true, Nat.sub_zero, Int.cast_ofNat_Int, ↓reduceIte, Nat.reduceEqDiff, Nat.reduceLT, Nat.reduceLeDiff, Nat.reduceAdd, Nat.reduceSub, Nat.reduceMul, Int.reduceToNat, Int.reduceNeg, Int.reduceAdd, Int.reduceSub, Int.reduceMul, Int.reduceLT, Int.reduceLE, Int.reduceMod, Int.reducePow, Nat.reducePow, Int.reduceDiv, Nat.reduceBEq, Nat.reduceBNe, Int.reduceBEq, Int.reduceBNe, decide_true, decide_false, reduceCtorEq, Nat.add_zero, Nat.zero_add, Nat.zero_mul, Nat.one_mul, Nat.mul_one, Nat.lt_add_one, Nat.le_refl, Nat.zero_le, Nat.one_ne_zero, Nat.succ_ne_zero, Nat.zero_ne_one, Nat.add_one_ne_zero, Nat.ne_add_one, dg_zero]
            · have hl1 := dcm_pos hz0
              have hj1 : j - 1 < buf'.length := by omega
              obtain ⟨d1, d2, dig⟩ := cast9 hdlt
              have nx : ((T % 1000000000 / 10 ^ n : Nat) : Int) / 10 = ((T % 1000000000 / 10 ^ (n + 1) : Nat) : Int) := by rw [← next9]; rfl
              have hfin : dcm Z = dcm (T / 10 ^ (n + 1)) ++ (buf'.set (j - 1) (48 + T % 1000000000 / 10 ^ n % 10)).drop (j - 1) := by
                rw [← nextT]
                exact dcm_more hz0 (by rw [hd', show j - 1 + 1 = j from by omega]) (digit9 T n hn9) hj1
              by_cases hq : T / 1000000000 = 0
              · have d0 : 0 < ((T % 1000000000 / 10 ^ n : Nat) : Int) := Int.natCast_pos.2 (Nat.pos_of_ne_zero fun h => hz0 (by rw [hsp, hq, h]; simp))
                simp only [go_sem, List.reduceReplicate, false_implies, true_implies, true_and, and_true, implies_true, Nat.sub_zero, Int.cast_ofNat_Int, ↓reduceIte, Nat.reduceEqDiff, Nat.reduceLT, Nat.reduceLeDiff, Nat.reduceAdd, Nat.reduceSub, Nat.reduceMul, Int.reduceToNat, Int.reduceNeg, Int.reduceAdd, Int.reduceSub, Int.reduceMul, Int.reduceLT, Int.reduceLE, Int.reduceMod, Int.reducePow, Nat.reducePow, Int.reduceDiv, Nat.reduceBEq, Nat.reduceBNe, Int.reduceBEq, Int.reduceBNe, decide_true, decide_false, reduceCtorEq, Nat.add_zero, Nat.zero_add, Nat.zero_mul, Nat.one_mul, Nat.mul_one, Nat.lt_add_one, Nat.le_refl, Nat.zero_le, Nat.one_ne_zero, Nat.succ_ne_zero, Nat.zero_ne_one, Nat.add_one_ne_zero, Nat.ne_add_one, c2, n1, n2, hq, dg_zero, d0, d1, d2, dig, nx, hmx]
                and_intros
                any_goals omega
                refine ⟨⟨(n + 1, j - 1, buf'.set (j - 1) (48 + T % 1000000000 / 10 ^ n % 10)), hn9, hfin, by simpa using hbl', by simp only; omega⟩, Wk.of [0, 1] (by decide) ?_, by simp only; omega⟩
                simp only [go_sem, List.reduceReplicate, false_implies, true_implies, true_and, and_true, implies_true, Nat.sub_zero, Int.cast_ofNat_Int, ↓reduceIte, Nat.reduceEqDiff, Nat.reduceLT, Nat.reduceLeDiff, Nat.reduceAdd, Nat.reduceSub, Nat.reduceMul, Int.reduceToNat, Int.reduceNeg, Int.reduceAdd, Int.reduceSub, Int.reduceMul, Int.reduceLT, Int.reduceLE, Int.reduceMod, Int.reducePow, Nat.reducePow, Int.reduceDiv, Nat.reduceBEq, Nat.reduceBNe, Int.reduceBEq, Int.reduceBNe, decide_true, decide_false, reduceCtorEq, Nat.add_zero, Nat.zero_add, Nat.zero_mul, Nat.one_mul, Nat.mul_one, Nat.lt_add_one, Nat.le_refl, Nat.zero_le, Nat.one_ne_zero, Nat.succ_ne_zero, Nat.zero_ne_one, Nat.add_one_ne_zero, Nat.ne_add_one, dg_zero, hq]
              · have c3 : 0 < (((dg (T / 1000000000)).length : Nat) : Int) := by
                  have := dl_eq_zero (n := T / 1000000000)
                  unfold dl at this
                  omega
                simp only [go_sem, List.reduceReplicate, false_implies, true_implies, true_and, and_true, implies_true, Nat.sub_zero, Int.cast_ofNat_Int, ↓reduceIte, Nat.reduceEqDiff, Nat.reduceLT, Nat.reduceLeDiff, Nat.reduceAdd, Nat.reduceSub, Nat.reduceMul, Int.reduceToNat, Int.reduceNeg, Int.reduceAdd, Int.reduceSub, Int.reduceMul, Int.reduceLT, Int.reduceLE, Int.reduceMod, Int.reducePow, Nat.reducePow, Int.reduceDiv, Nat.reduceBEq, Nat.reduceBNe, Int.reduceBEq, Int.reduceBNe, decide_true, decide_false, reduceCtorEq, Nat.add_zero, Nat.zero_add, Nat.zero_mul, Nat.one_mul, Nat.mul_one, Nat.lt_add_one, Nat.le_refl, Nat.zero_le, Nat.one_ne_zero, Nat.succ_ne_zero, Nat.zero_ne_one, Nat.add_one_ne_zero, Nat.ne_add_one, c2, n1, n2, c3, d1, d2, dig, nx, hmx]
                and_intros
                any_goals omega
                refine ⟨⟨(n + 1, j - 1, buf'.set (j - 1) (48 + T % 1000000000 / 10 ^ n % 10)), hn9, hfin, by simpa using hbl', by simp only; omega⟩, Wk.of [0, 1] (by decide) ?_, by simp only; omega⟩
                simp only [go_sem, List.reduceReplicate, false_implies, true_implies, true_and, and_true, implies_true, Nat.sub_zero, Int.cast_ofNat_Int, ↓reduceIte, Nat.reduceEqDiff, Nat.reduceLT, Nat.reduceLeDiff, Nat.reduceAdd, Nat.reduceSub, Nat.reduceMul, Int.reduceToNat, Int.reduceNeg, Int.reduceAdd, Int.reduceSub, Int.reduceMul, Int.reduceLT, Int.reduceLE, Int.reduceMod, Int.reducePow, Nat.reducePow, Int.reduceDiv, Nat.reduceBEq, Nat.reduceBNe, Int.reduceBEq, Int.reduceBNe, decide_true, decide_false, reduceCtorEq, Nat.add_zero, Nat.zero_add, Nat.zero_mul, Nat.one_mul, Nat.mul_one, Nat.lt_add_one, Nat.le_refl, Nat.zero_le, Nat.one_ne_zero, Nat.succ_ne_zero, Nat.zero_ne_one, Nat.add_one_ne_zero, Nat.ne_add_one]
          · have c2 : ¬ (n : Int) < 9 := by omega
            obtain rfl : n = 9 := by omega
            simp only [go_sem, List.reduceReplicate, false_implies, true_implies, true_and, and_true, implies_true, Nat.sub_zero, Int.cast_ofNat_Int, ↓reduceIte, Nat.reduceEqDiff, Nat.reduceLT, Nat.reduceLeDiff, Nat.reduceAdd, Nat.reduceSub, Nat.reduceMul, Int.reduceToNat, Int.reduceNeg, Int.reduceAdd, Int.reduceSub, Int.reduceMul, Int.reduceLT, Int.reduceLE, Int.reduceMod, Int.reducePow, Nat.reducePow, Int.reduceDiv, Nat.reduceBEq, Nat.reduceBNe, Int.reduceBEq, Int.reduceBNe, decide_true, decide_false, reduceCtorEq, Nat.add_zero, Nat.zero_add, Nat.zero_mul, Nat.one_mul, Nat.mul_one, Nat.lt_add_one, Nat.le_refl, Nat.zero_le, Nat.one_ne_zero, Nat.succ_ne_zero, Nat.zero_ne_one, Nat.add_one_ne_zero, Nat.ne_add_one, c2]
            refine ⟨⟨(T / 1000000000, j, buf'), Nat.le_trans (Nat.div_le_self _ _) hT, hd', hbl', hj⟩, Wk.of [0, 1] (by decide) ?_, by simp only; omega⟩
            simp only [go_sem, List.reduceReplicate, false_implies, true_implies, true_and, and_true, implies_true, Nat.sub_zero, Int.cast_ofNat_Int, ↓reduceIte, Nat.reduceEqDiff, Nat.reduceLT, Nat.reduceLeDiff, Nat.reduceAdd, Nat.reduceSub, Nat.reduceMul, Int.reduceToNat, Int.reduceNeg, Int.reduceAdd, Int.reduceSub, Int.reduceMul, Int.reduceLT, Int.reduceLE, Int.reduceMod, Int.reducePow, Nat.reducePow, Int.reduceDiv, Nat.reduceBEq, Nat.reduceBNe, Int.reduceBEq, Int.reduceBNe, decide_true, decide_false, reduceCtorEq, Nat.add_zero, Nat.zero_add, Nat.zero_mul, Nat.one_mul, Nat.mul_one, Nat.lt_add_one, Nat.le_refl, Nat.zero_le, Nat.one_ne_zero, Nat.succ_ne_zero, Nat.zero_ne_one, Nat.add_one_ne_zero, Nat.ne_add_one]
def kText : Con := con1 pI fun x => (dl x.natAbs ≤ 1000000000, .raw (.string (mkB (txN x))))
attribute [go_sem ↓, go_sem] kText
theorem text_C : Ctr Try.prog 29 kText := Ctr.c1 rfl fun x h => text_V x h
end Go.Proofs.Ytbnhnmpgbpejaaa
