/- Texts M6 L7 in one. -/
import Derived.Test.YtbnhnmpgbpejaaaP17
import Derived.Test.YtbnhnmpgbpejaaaP23
import Derived.Test.YtbnhnmpgbpejaaaP26
/- Plain: reading inverts the text, and the text the reading. No program in sight. -/
namespace Go.Proofs.Ytbnhnmpgbpejaaa
set_option linter.unusedSimpArgs false
set_option linter.unusedVariables false
open Go.RowKit

theorem vl10_snoc (l : List Nat) (c : Nat) : vl10 (l ++ [c]) = vl10 l * 10 + (c - 48) := by
  unfold vl10; rw [List.foldl_append]; rfl
theorem vl10_dcm (n : Nat) : vl10 (dcm n) = n := by
  induction n using Nat.strongRecOn with
  | ind n ih =>
    by_cases h : n = 0
    · subst h; rfl
    · rw [dcm_step h, vl10_snoc, ih (n / 10) (by omega)]
      omega
theorem dgsL_dcm (n : Nat) : dgsL (dcm n) = true := by
  unfold dgsL
  rw [List.all_eq_true]
  intro x hx
  have := dcm_lt n x hx
  unfold isDg
  simpa using this
theorem dcm_head {n : Nat} (hn : n ≠ 0) : at0 (dcm n) 0 ≠ 48 ∧ dcm n ≠ [] := by
  induction n using Nat.strongRecOn with
  | ind n ih =>
    rw [dcm_step hn]
    by_cases h : n / 10 = 0
    · rw [h, dcm_zero]
      refine ⟨?_, by simp⟩
      simp [at0]
      omega
    · obtain ⟨h1, h2⟩ := ih (n / 10) (by omega) h
      refine ⟨?_, by simp⟩
      rw [at0_append_lt (List.length_pos_iff.2 h2)]
      exact h1
theorem dcm_vl10 (D : List Nat) : dgsL D = true → D ≠ [] → at0 D 0 ≠ 48 → dcm (vl10 D) = D ∧ vl10 D ≠ 0 := by
  suffices h : ∀ (k : Nat) (D : List Nat), D.length = k → dgsL D = true → D ≠ [] → at0 D 0 ≠ 48 → dcm (vl10 D) = D ∧ vl10 D ≠ 0 from h _ D rfl
  intro k
  induction k with
  | zero => intro D hk _ h0; exact absurd (List.eq_nil_of_length_eq_zero hk) h0
  | succ k ih =>
    intro D hk hd h0 hh
    obtain ⟨D', c, rfl⟩ : ∃ D' c, D = D' ++ [c] := ⟨D.dropLast, D.getLast h0, (List.dropLast_concat_getLast h0).symm⟩
    have hd' : dgsL D' = true ∧ (48 ≤ c ∧ c ≤ 57) := by
      unfold dgsL at hd ⊢
      rw [List.all_append, Bool.and_eq_true] at hd
      refine ⟨hd.1, ?_⟩
      have := hd.2
      simpa [isDg] using this
    have hv := vl10_snoc D' c
    have hk' : D'.length = k := by simpa using hk
    by_cases h : D' = []
    · subst h
      have hc : c ≠ 48 := by simpa [at0] using hh
      have e : vl10 ([] ++ [c]) = c - 48 := by rw [hv]; simp [vl10]
      rw [e]
      have hn : c - 48 ≠ 0 := by omega
      refine ⟨?_, hn⟩
      rw [dcm_step hn, show (c - 48) / 10 = 0 from by omega, dcm_zero]
      simp
      omega
    · have hh' : at0 D' 0 ≠ 48 := by rwa [at0_append_lt (List.length_pos_iff.2 h)] at hh
      obtain ⟨i1, i2⟩ := ih D' hk' hd'.1 h hh'
      have hn : vl10 (D' ++ [c]) ≠ 0 := by omega
      refine ⟨?_, hn⟩
      rw [dcm_step hn, hv, show (vl10 D' * 10 + (c - 48)) / 10 = vl10 D' from by omega, i1, show 48 + (vl10 D' * 10 + (c - 48)) % 10 = c from by omega]
/-- The text is read as the number. -/
theorem rd_txN (X : Int) (h : (txN X).length ≤ 2000) : rdV (txN X) = X ∧ rdC (txN X) = 0 := by
  have hb : ¬ 2000 < (txN X).length := by omega
  rcases Int.lt_trichotomy X 0 with hX | hX | hX
  · have e : txN X = 45 :: dcm X.natAbs := by unfold txN; rw [if_neg (by omega), if_pos hX]
    obtain ⟨h1, h2⟩ := dcm_head (n := X.natAbs) (by omega)
    have eD : rdD (txN X) = dcm X.natAbs := by rw [e]; unfold rdD; rw [if_pos (by simp [at0])]; rfl
    obtain ⟨r1, r2⟩ := rd_good hb (by rw [eD]; exact ⟨h2, fun h => absurd h h1, dgsL_dcm _⟩)
    rw [r1, r2, eD, vl10_dcm, e]
    refine ⟨?_, rfl⟩
    have : decide (at0 (45 :: dcm X.natAbs) 0 = 45) = true := by simp [at0]
    rw [this]
    unfold sgn
    rw [if_pos rfl]
    omega
  · subst hX
    exact ⟨by decide, by decide⟩
  · have e : txN X = dcm X.natAbs := by unfold txN; rw [if_neg (by omega), if_neg (by omega)]
    obtain ⟨h1, h2⟩ := dcm_head (n := X.natAbs) (by omega)
    have h45 : at0 (dcm X.natAbs) 0 ≠ 45 := by
      have := dcm_lt X.natAbs (at0 (dcm X.natAbs) 0) (at0_mem (List.length_pos_iff.2 h2))
      omega
    have eD : rdD (txN X) = dcm X.natAbs := by rw [e]; unfold rdD; rw [if_neg h45]
    obtain ⟨r1, r2⟩ := rd_good hb (by rw [eD]; exact ⟨h2, fun h => absurd h h1, dgsL_dcm _⟩)
    rw [r1, r2, eD, vl10_dcm, e]
    refine ⟨?_, rfl⟩
    rw [decide_eq_false h45]
    unfold sgn
    rw [if_neg (by simp)]
    omega
/-- What is read without an error is the text of what is read. -/
theorem txN_rd {S : List Nat} (h : rdC S = 0) : txN (rdV S) = S := by
  have hb : ¬ 2000 < S.length := fun hb => by rw [(rd_big hb).2] at h; exact absurd h (by decide)
  have hg : rdD S ≠ [] ∧ (at0 (rdD S) 0 = 48 → S = [48]) ∧ dgsL (rdD S) = true := by
    refine Decidable.byContradiction fun hn => ?_
    rw [(rd_bad hb hn).2] at h
    exact absurd h (by decide)
  obtain ⟨r1, _⟩ := rd_good hb hg
  obtain ⟨g1, g2, g3⟩ := hg
  by_cases h48 : at0 (rdD S) 0 = 48
  · have := g2 h48
    subst this
    decide
  · obtain ⟨d1, d2⟩ := dcm_vl10 _ g3 g1 h48
    rw [r1]
    by_cases h45 : at0 S 0 = 45
    · have eD : rdD S = S.drop 1 := by unfold rdD; rw [if_pos h45]
      rw [decide_eq_true h45]
      unfold sgn
      rw [if_pos rfl]
      unfold txN
      rw [if_neg (by omega), if_pos (by omega), show (-(vl10 (rdD S) : Int)).natAbs = vl10 (rdD S) from by omega, d1, eD]
      match S, h45 with
      | [], h => exact absurd h (by decide)
      | c :: S, h => rw [at0_cons_zero] at h; rw [h]; rfl
    · have eD : rdD S = S := by unfold rdD; rw [if_neg h45]
      rw [decide_eq_false h45]
      unfold sgn
      rw [if_neg (by simp)]
      unfold txN
      rw [if_neg (by omega), if_neg (by omega), show ((vl10 (rdD S) : Nat) : Int).natAbs = vl10 (rdD S) from by omega, d1, eD]
theorem txN_lt (X : Int) : ∀ x ∈ txN X, x < 256 := by
  intro x hx
  unfold txN at hx
  split at hx
  · simp at hx; omega
  · split at hx
    · rcases List.mem_cons.1 hx with h | h
      · omega
      · have := dcm_lt _ x h; omega
    · have := dcm_lt _ x hx; omega
theorem txN_len {X : Int} {k : Nat} (h : dl X.natAbs ≤ k) (hk : 1 ≤ k) : (txN X).length ≤ 10 * k + 1 := by
  have h1 := dcm_len_lv (dg_lim X.natAbs)
  rw [lv_dg] at h1
  have h2 : (dg X.natAbs).length = dl X.natAbs := rfl
  unfold txN
  split
  · simp
  · split
    · simp; omega
    · omega
end Go.Proofs.Ytbnhnmpgbpejaaa

/- IntegerText: the law returns true. -/
namespace Go.Proofs.Ytbnhnmpgbpejaaa
set_option linter.unusedSimpArgs false
set_option linter.unusedVariables false
open Go.RowKit

def kRText : Con := con1 pI fun x => (dl x.natAbs ≤ 100000000, .raw (.string (mkB (txN x))))
attribute [go_sem ↓, go_sem] kRText
theorem rtext_C : Ctr Try.prog 32 kRText := Ctr.c1 rfl fun x h => rtext_V x h
theorem rread_C : Ctr Try.prog 31 kRead := Ctr.c1 rfl fun s _ => rread_V s
theorem rdV_dl {S : List Nat} (h : S.length ≤ 100) : dl (rdV S).natAbs ≤ 100 := by
  unfold rdV
  split
  · rename_i hg
    have h1 := vl10_lt _ hg.2.2.2
    have h2 := ten_pow (rdD S).length
    have hl : (rdD S).length ≤ 100 := by
      unfold rdD
      split
      · rw [List.length_drop]; omega
      · exact h
    have h3 := pow_le' (m := (rdD S).length / 9 + 1) (n := 100) (by omega)
    have e : (sgn (decide (at0 S 0 = 45)) (vl10 (rdD S))).natAbs = vl10 (rdD S) := by unfold sgn; split <;> omega
    rw [e]
    exact dl_le.2 (by omega)
  · exact Nat.zero_le _
set_option maxRecDepth 4000 in
set_option maxHeartbeats 1000000 in
theorem lawText_V (l : List Nat) (str : ByteArray) (s : Bool) (hl : Lim l) (h1 : l.length ≤ 9223372036854775807) :
    PCall Try.prog 7 [.agg [.lst (V.limbs l), .raw (.bool s)], .raw (.string str)] (.raw (.bool true)) := by
  refine PCall.of_vc (tabs mixed (tbl_cons sanity_C (tbl_cons made_C (tbl_cons text_C (tbl_cons read_C (tbl_cons rread_C (tbl_cons rtext_C (tbl_cons same_C tbl_nil)))))))) Try.func7 rfl Try.ntmps7 Try.results7 (by simp) ?_
  by_cases hbig : 100 < str.size
  · have m1 : 100 < (str.size : Int) := by omega
    simp only [go_sem, List.reduceReplicate, false_implies, true_implies, true_and, and_true, implies_true, Nat.sub_zero, Int.cast_ofNat_Int, ↓reduceIte, Nat.reduceEqDiff, Nat.reduceLT, Nat.reduceLeDiff, Nat.reduceAdd, Nat.reduceSub, Nat.reduceMul, Int.reduceToNat, Int.reduceNeg, Int.reduceAdd, Int.reduceSub, Int.reduceMul, Int.reduceLT, Int.reduceLE, Int.reduceMod, Int.reducePow, Nat.reducePow, Int.reduceDiv, Nat.reduceBEq, Nat.reduceBNe, Int.reduceBEq, Int.reduceBNe, decide_true, decide_false, reduceCtorEq, Nat.add_zero, Nat.zero_add, Nat.zero_mul, Nat.one_mul, Nat.mul_one, Nat.lt_add_one, Nat.le_refl, Nat.zero_le, Nat.one_ne_zero, Nat.succ_ne_zero, Nat.zero_ne_one, Nat.add_one_ne_zero, Nat.ne_add_one, m1]
  have m1 : ¬ 100 < (str.size : Int) := by omega
  have dX := mdZ_dl l s hl
  obtain ⟨X, hX⟩ : ∃ X, mdZ l s = X := ⟨_, rfl⟩
  rw [hX] at dX
  obtain ⟨S, hS⟩ : ∃ S, sbL str = S := ⟨_, rfl⟩
  have hSl : S.length ≤ 100 := by rw [← hS, sbL_length]; omega
  have dR := rdV_dl hSl
  have g1 : sbL (mkB (txN X)) = txN X := sbL_mkB (txN_lt X)
  obtain ⟨g2, g3⟩ := rd_txN X (Nat.le_trans (txN_len dX (by decide)) (by decide))
  have k1 : ((mkB (txN X)).toList == (mkB (txN X)).toList) = true := by simp
  have k2 : (rdC S == rdC S) = true := by simp
  by_cases hc : rdC S = 0
  · have c1 : (rdC S == 0) = true := beq_true hc
    have k3 : ((mkB (txN (rdV S))).toList == str.toList) = true := by
      rw [eq_list, sbL_mkB (txN_lt _), txN_rd hc, hS]
      simp
    simp only [go_sem, List.reduceReplicate, false_implies, true_implies, true_and, and_true, implies_true, Nat.sub_zero, Int.cast_ofNat_Int, ↓reduceIte, Nat.reduceEqDiff, Nat.reduceLT, Nat.reduceLeDiff, Nat.reduceAdd, Nat.reduceSub, Nat.reduceMul, Int.reduceToNat, Int.reduceNeg, Int.reduceAdd, Int.reduceSub, Int.reduceMul, Int.reduceLT, Int.reduceLE, Int.reduceMod, Int.reducePow, Nat.reducePow, Int.reduceDiv, Nat.reduceBEq, Nat.reduceBNe, Int.reduceBEq, Int.reduceBNe, decide_true, decide_false, reduceCtorEq, Nat.add_zero, Nat.zero_add, Nat.zero_mul, Nat.one_mul, Nat.mul_one, Nat.lt_add_one, Nat.le_refl, Nat.zero_le, Nat.one_ne_zero, Nat.succ_ne_zero, Nat.zero_ne_one, Nat.add_one_ne_zero, Nat.ne_add_one, m1, hX, hS, g1, g2, g3, k1, k2, k3, c1]
    and_intros
    all_goals first | assumption | omega | rfl
  · have c1 : (rdC S == 0) = false := beq_false hc
    simp only [go_sem, List.reduceReplicate, false_implies, true_implies, true_and, and_true, implies_true, Nat.sub_zero, Int.cast_ofNat_Int, ↓reduceIte, Nat.reduceEqDiff, Nat.reduceLT, Nat.reduceLeDiff, Nat.reduceAdd, Nat.reduceSub, Nat.reduceMul, Int.reduceToNat, Int.reduceNeg, Int.reduceAdd, Int.reduceSub, Int.reduceMul, Int.reduceLT, Int.reduceLE, Int.reduceMod, Int.reducePow, Nat.reducePow, Int.reduceDiv, Nat.reduceBEq, Nat.reduceBNe, Int.reduceBEq, Int.reduceBNe, decide_true, decide_false, reduceCtorEq, Nat.add_zero, Nat.zero_add, Nat.zero_mul, Nat.one_mul, Nat.mul_one, Nat.lt_add_one, Nat.le_refl, Nat.zero_le, Nat.one_ne_zero, Nat.succ_ne_zero, Nat.zero_ne_one, Nat.add_one_ne_zero, Nat.ne_add_one, m1, hX, hS, g1, g2, g3, k1, k2, c1]
    and_intros
    all_goals first | assumption | omega | rfl
end Go.Proofs.Ytbnhnmpgbpejaaa
