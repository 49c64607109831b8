/- Texts M6 in one. -/
import Derived.Test.YtilkleibnciloaaP17
/- Plain: reading inverts the text, and the text the reading. No program in sight. -/
namespace Go.Proofs.Ytilkleibnciloaa
set_option linter.unusedSimpArgs false
set_option linter.unusedVariables false
open Go.RowKit

theorem vl10_snoc (l : List Nat) (c : Nat) : vl10 (l ++ [c]) = vl10 l * 10 + (c - 48) := by
  unfold vl10; rw [List.foldl_append]; rfl
theorem vl10_dcm (n : Nat) : vl10 (dcm n) = n := by
  induction n using Nat.strongRecOn with
  | ind n ih =>
    by_cases h : n = 0
    · subst h; rfl
    · rw [dcm_step h, vl10_snoc, ih (n / 10) (by omega)]
      omega
theorem dgsL_dcm (n : Nat) : dgsL (dcm n) = true := by
  unfold dgsL
  rw [List.all_eq_true]
  intro x hx
  have := dcm_lt n x hx
  unfold isDg
  simpa using this
theorem dcm_head {n : Nat} (hn : n ≠ 0) : at0 (dcm n) 0 ≠ 48 ∧ dcm n ≠ [] := by
  induction n using Nat.strongRecOn with
  | ind n ih =>
    rw [dcm_step hn]
    by_cases h : n / 10 = 0
    · rw [h, dcm_zero]
      refine ⟨?_, by simp⟩
      simp [at0]
      omega
    · obtain ⟨h1, h2⟩ := ih (n / 10) (by omega) h
      refine ⟨?_, by simp⟩
      rw [at0_append_lt (List.length_pos_iff.2 h2)]
      exact h1
theorem dcm_vl10 (D : List Nat) : dgsL D = true → D ≠ [] → at0 D 0 ≠ 48 → dcm (vl10 D) = D ∧ vl10 D ≠ 0 := by
  suffices h : ∀ (k : Nat) (D : List Nat), D.length = k → dgsL D = true → D ≠ [] → at0 D 0 ≠ 48 → dcm (vl10 D) = D ∧ vl10 D ≠ 0 from h _ D rfl
  intro k
  induction k with
  | zero => intro D hk _ h0; exact absurd (List.eq_nil_of_length_eq_zero hk) h0
  | succ k ih =>
    intro D hk hd h0 hh
    obtain ⟨D', c, rfl⟩ : ∃ D' c, D = D' ++ [c] := ⟨D.dropLast, D.getLast h0, (List.dropLast_concat_getLast h0).symm⟩
    have hd' : dgsL D' = true ∧ (48 ≤ c ∧ c ≤ 57) := by
      unfold dgsL at hd ⊢
      rw [List.all_append, Bool.and_eq_true] at hd
      refine ⟨hd.1, ?_⟩
      have := hd.2
      simpa [isDg] using this
    have hv := vl10_snoc D' c
    have hk' : D'.length = k := by simpa using hk
    by_cases h : D' = []
    · subst h
      have hc : c ≠ 48 := by simpa [at0] using hh
      have e : vl10 ([] ++ [c]) = c - 48 := by rw [hv]; simp [vl10]
      rw [e]
      have hn : c - 48 ≠ 0 := by omega
      refine ⟨?_, hn⟩
      rw [dcm_step hn, show (c - 48) / 10 = 0 from by omega, dcm_zero]
      simp
      omega
    · have hh' : at0 D' 0 ≠ 48 := by rwa [at0_append_lt (List.length_pos_iff.2 h)] at hh
      obtain ⟨i1, i2⟩ := ih D' hk' hd'.1 h hh'
      have hn : vl10 (D' ++ [c]) ≠ 0 := by omega
      refine ⟨?_, hn⟩
      rw [dcm_step hn, hv, show (vl10 D' * 10 + (c - 48)) / 10 = vl10 D' from by omega, i1, show 48 + (vl10 D' * 10 + (c - 48)) % 10 = c from by omega]
/-- The text is read as the number. -/
theorem rd_txN (X : Int) (h : (txN X).length ≤ 2000) : rdV (txN X) = X ∧ rdC (txN X) = 0 := by
  have hb : ¬ 2000 < (txN X).length := by omega
  rcases Int.lt_trichotomy X 0 with hX | hX | hX
  · have e : txN X = 45 :: dcm X.natAbs := by unfold txN; rw [if_neg (by omega), if_pos hX]
    obtain ⟨h1, h2⟩ := dcm_head (n := X.natAbs) (by omega)
    have eD : rdD (txN X) = dcm X.natAbs := by rw [e]; unfold rdD; rw [if_pos (by simp [at0])]; rfl
    obtain ⟨r1, r2⟩ := rd_good hb (by rw [eD]; exact ⟨h2, fun h => absurd h h1, dgsL_dcm _⟩)
    rw [r1, r2, eD, vl10_dcm, e]
    refine ⟨?_, rfl⟩
    have : decide (at0 (45 :: dcm X.natAbs) 0 = 45) = true := by simp [at0]
    rw [this]
    unfold sgn
    rw [if_pos rfl]
    omega
  · subst hX
    exact ⟨by decide, by decide⟩
  · have e : txN X = dcm X.natAbs := by unfold txN; rw [if_neg (by omega), if_neg (by omega)]
    obtain ⟨h1, h2⟩ := dcm_head (n := X.natAbs) (by omega)
    have h45 : at0 (dcm X.natAbs) 0 ≠ 45 := by
      have := dcm_lt X.natAbs (at0 (dcm X.natAbs) 0) (at0_mem (List.length_pos_iff.2 h2))
      omega
    have eD : rdD (txN X) = dcm X.natAbs := by rw [e]; unfold rdD; rw [if_neg h45]
    obtain ⟨r1, r2⟩ := rd_good hb (by rw [eD]; exact ⟨h2, fun h => absurd h h1, dgsL_dcm _⟩)
    rw [r1, r2, eD, vl10_dcm, e]
    refine ⟨?_, rfl⟩
    rw [decide_eq_false h45]
    unfold sgn
    rw [if_neg (by simp)]
    omega
/-- What is read without an error is the text of what is read. -/
theorem txN_rd {S : List Nat} (h : rdC S = 0) : txN (rdV S) = S := by
  have hb : ¬ 2000 < S.length := fun hb => by rw [(rd_big hb).2] at h; exact absurd h (by decide)
  have hg : rdD S ≠ [] ∧ (at0 (rdD S) 0 = 48 → S = [48]) ∧ dgsL (rdD S) = true := by
    refine Decidable.byContradiction fun hn => ?_
    rw [(rd_bad hb hn).2] at h
    exact absurd h (by decide)
  obtain ⟨r1, _⟩ := rd_good hb hg
  obtain ⟨g1, g2, g3⟩ := hg
  by_cases h48 : at0 (rdD S) 0 = 48
  · have := g2 h48
    subst this
    decide
  · obtain ⟨d1, d2⟩ := dcm_vl10 _ g3 g1 h48
    rw [r1]
    by_cases h45 : at0 S 0 = 45
    · have eD : rdD S = S.drop 1 := by unfold rdD; rw [if_pos h45]
      rw [decide_eq_true h45]
      unfold sgn
      rw [if_pos rfl]
      unfold txN
      rw [if_neg (by omega), if_pos (by omega), show (-(vl10 (rdD S) : Int)).natAbs = vl10 (rdD S) from by omega, d1, eD]
      match S, h45 with
      | [], h => exact absurd h (by decide)
      | c :: S, h => rw [at0_cons_zero] at h; rw [h]; rfl
    · have eD : rdD S = S := by unfold rdD; rw [if_neg h45]
      rw [decide_eq_false h45]
      unfold sgn
      rw [if_neg (by simp)]
      unfold txN
      rw [if_neg (by omega), if_neg (by omega), show ((vl10 (rdD S) : Nat) : Int).natAbs = vl10 (rdD S) from by omega, d1, eD]
theorem txN_lt (X : Int) : ∀ x ∈ txN X, x < 256 := by
  intro x hx
  unfold txN at hx
  split at hx
  · simp at hx; omega
  · split at hx
    · rcases List.mem_cons.1 hx with h | h
      · omega
      · have := dcm_lt _ x h; omega
    · have := dcm_lt _ x hx; omega
theorem txN_len {X : Int} {k : Nat} (h : dl X.natAbs ≤ k) (hk : 1 ≤ k) : (txN X).length ≤ 10 * k + 1 := by
  have h1 := dcm_len_lv (dg_lim X.natAbs)
  rw [lv_dg] at h1
  have h2 : (dg X.natAbs).length = dl X.natAbs := rfl
  unfold txN
  split
  · simp
  · split
    · simp; omega
    · omega
end Go.Proofs.Ytilkleibnciloaa
