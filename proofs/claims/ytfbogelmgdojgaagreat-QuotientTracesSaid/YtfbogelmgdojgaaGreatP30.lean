/- Texts E9 E10 E11 in one. -/
import Derived.Test.YtfbogelmgdojgaaGreatP25
/- Contracts of the reference: estimate, divide. -/
namespace Go.Proofs.YtfbogelmgdojgaaGreat
set_option linter.unusedSimpArgs false
set_option linter.unusedVariables false
open Go.RowKit

/-- The estimate of a quotient. -/
def estN (r d : List Nat) : Nat :=
  if r.length = d.length then max 1 (at0 r (r.length - 1) / (at0 d (d.length - 1) + 1))
  else (at0 r (r.length - 1) * 4294967296 + at0 r (r.length - 2)) / (at0 d (d.length - 1) + 1) * 4294967296 ^ (r.length - d.length - 1)
theorem top_lt {d : List Nat} (hd : Canon d) (h0 : d ≠ []) : lv d < (at0 d (d.length - 1) + 1) * 4294967296 ^ (d.length - 1) := by
  have hp := List.length_pos_iff.2 h0
  have e := lv_take_succ' d (d.length - 1)
  rw [show d.length - 1 + 1 = d.length from by omega, List.take_length] at e
  have := take_lt hd.1 (d.length - 1)
  rw [e, Nat.add_mul, Nat.one_mul, Nat.mul_comm (at0 d (d.length - 1))]
  omega
theorem estN_ok {r d : List Nat} (hr : Canon r) (hd : Canon d) (h0 : d ≠ []) (hle : lv d ≤ lv r) : 1 ≤ estN r d ∧ estN r d * lv d ≤ lv r := by
  have hlen := len_of_lt hd hr hle
  have hp := List.length_pos_iff.2 h0
  have ht := top_lt hd h0
  have hlow := hd.1.at0 (d.length - 1)
  have er := lv_take_succ' r (r.length - 1)
  rw [show r.length - 1 + 1 = r.length from by omega, List.take_length] at er
  obtain ⟨low, hl⟩ : ∃ low, low = at0 d (d.length - 1) + 1 := ⟨_, rfl⟩
  unfold estN
  rw [← hl] at ht ⊢
  by_cases h : r.length = d.length
  · rw [if_pos h]
    refine ⟨by omega, ?_⟩
    rcases Nat.le_total 1 (at0 r (r.length - 1) / low) with h1 | h1
    · rw [Nat.max_eq_right h1]
      have h2 : at0 r (r.length - 1) / low * lv d ≤ at0 r (r.length - 1) / low * (low * 4294967296 ^ (d.length - 1)) := Nat.mul_le_mul_left _ (Nat.le_of_lt ht)
      rw [← Nat.mul_assoc] at h2
      have h3 := Nat.mul_le_mul_right (4294967296 ^ (d.length - 1)) (Nat.div_mul_le_self (at0 r (r.length - 1)) low)
      rw [← h, Nat.mul_comm (at0 r (r.length - 1))] at h3
      rw [← h] at h2
      omega
    · rw [Nat.max_eq_left h1, Nat.one_mul]
      exact hle
  · rw [if_neg h]
    obtain ⟨k, hk⟩ : ∃ k, r.length = d.length + k + 1 := ⟨r.length - d.length - 1, by omega⟩
    have er2 := lv_take_succ' r (r.length - 2)
    rw [show r.length - 2 + 1 = r.length - 1 from by omega] at er2
    have htop : at0 r (r.length - 1) ≠ 0 := hr.2 (by rintro rfl; simp at hk)
    obtain ⟨W, hW⟩ : ∃ W, W = at0 r (r.length - 1) * 4294967296 + at0 r (r.length - 2) := ⟨_, rfl⟩
    rw [← hW, show r.length - d.length - 1 = k from by omega]
    have he : 1 ≤ W / low := by
      rw [Nat.le_div_iff_mul_le (by omega)]
      omega
    refine ⟨Nat.mul_pos he (pow_pos' k), ?_⟩
    have hWr : W * 4294967296 ^ (r.length - 2) ≤ lv r := by
      rw [er, er2, hW, show r.length - 1 = r.length - 2 + 1 from by omega, Nat.pow_succ, Nat.add_mul, show r.length - 2 + 1 = r.length - 1 from by omega]
      rw [show 4294967296 ^ (r.length - 2) * 4294967296 * at0 r (r.length - 1) = at0 r (r.length - 1) * 4294967296 * 4294967296 ^ (r.length - 2) from by ac_rfl, Nat.mul_comm (4294967296 ^ (r.length - 2)) (at0 r (r.length - 2))]
      omega
    refine Nat.le_trans ?_ hWr
    have h2 : W / low * 4294967296 ^ k * lv d ≤ W / low * 4294967296 ^ k * (low * 4294967296 ^ (d.length - 1)) := Nat.mul_le_mul_left _ (Nat.le_of_lt ht)
    refine Nat.le_trans h2 ?_
    have e1 : W / low * 4294967296 ^ k * (low * 4294967296 ^ (d.length - 1)) = W / low * low * (4294967296 ^ k * 4294967296 ^ (d.length - 1)) := by ac_rfl
    rw [e1, ← Nat.pow_add, show k + (d.length - 1) = r.length - 2 from by omega]
    exact Nat.mul_le_mul_right _ (Nat.div_mul_le_self _ _)
set_option maxRecDepth 4000 in
theorem rest_V (r d : List Nat) (hr : Canon r) (hd : Canon d) (h0 : d ≠ []) (h1 : r.length ≤ 4000000000000) (hlen : d.length ≤ r.length) :
    PCall Tryz.prog 156 [.lst (V.limbs r), .lst (V.limbs d)] (.I (estN r d : Nat)) := by
  refine PCall.of_vc (tabs mixed (tbl_cons rmade_C (tbl_cons rof_C tbl_nil))) Tryz.func156 rfl Tryz.ntmps156 Tryz.results156 (by simp) ?_
  have hp := List.length_pos_iff.2 h0
  have T1 := hd.1.at0 (d.length - 1)
  have R1 := hr.1.at0 (r.length - 1)
  have R2 := hr.1.at0 (r.length - 2)
  have a2 : (d.length : Int) - 1 = ((d.length - 1 : Nat) : Int) := by omega
  have a3 : (r.length : Int) - 1 = ((r.length - 1 : Nat) : Int) := by omega
  have b1 : (at0 d (d.length - 1) : Int) % 18446744073709551616 = at0 d (d.length - 1) := by omega
  have b2 : (at0 r (r.length - 1) : Int) % 18446744073709551616 = at0 r (r.length - 1) := by omega
  have b3 : (at0 r (r.length - 2) : Int) % 18446744073709551616 = at0 r (r.length - 2) := by omega
  obtain ⟨low, hl⟩ : ∃ low, low = at0 d (d.length - 1) + 1 := ⟨_, rfl⟩
  have b4 : (at0 d (d.length - 1) : Int) + 1 = (low : Nat) := by omega
  have hmx : IntKind.u64.max = 18446744073709551615 := by decide
  unfold estN
  rw [← hl]
  by_cases h : r.length = d.length
  · rw [if_pos h]
    have a1 : (r.length : Int) - d.length = ((0 : Nat) : Int) := by omega
    have c1 : (((0 : Nat) : Int) == 0) = true := rfl
    obtain ⟨e, he⟩ : ∃ e, e = at0 r (r.length - 1) / low := ⟨_, rfl⟩
    have b6 : (at0 r (r.length - 1) : Int) / (low : Nat) = (e : Nat) := by rw [he]; rfl
    have heb : e < 4294967296 := by rw [he]; exact Nat.lt_of_le_of_lt (Nat.div_le_self _ _) R1
    have b7 : (if 1 < (e : Int) then (e : Int) else 1) = ((max 1 e : Nat) : Int) := by split <;> omega
    have b8 : IntKind.i64.wrap ((max 1 e : Nat) : Int) = ((max 1 e : Nat) : Int) := wraps_i64 _ (by omega) (by omega)
    rw [← he]
    simp only [go_sem, a1, a2, a3, b1, b2, b4, c1, hmx, b6, b7, b8]
    and_intros <;> first | rfl | omega
  · rw [if_neg h]
    obtain ⟨k, hk⟩ : ∃ k, r.length = d.length + k + 1 := ⟨r.length - d.length - 1, by omega⟩
    have a1 : (r.length : Int) - d.length = ((k + 1 : Nat) : Int) := by omega
    have a4 : (r.length : Int) - 2 = ((r.length - 2 : Nat) : Int) := by omega
    have c1 : (((k + 1 : Nat) : Int) == 0) = false := by simp; omega
    obtain ⟨W, hW⟩ : ∃ W, W = at0 r (r.length - 1) * 4294967296 + at0 r (r.length - 2) := ⟨_, rfl⟩
    have b5 : (at0 r (r.length - 1) : Int) * 4294967296 + at0 r (r.length - 2) = (W : Nat) := by omega
    obtain ⟨e, he⟩ : ∃ e, e = W / low := ⟨_, rfl⟩
    have b6 : (W : Int) / (low : Nat) = (e : Nat) := by rw [he]; rfl
    have heb : e < 18446744073709551616 := by rw [he]; exact Nat.lt_of_le_of_lt (Nat.div_le_self _ _) (by omega)
    have a5 : ((k + 1 : Nat) : Int) - 1 = ((k : Nat) : Int) := by omega
    have b7 : (e : Int) % 4294967296 = ((e % 4294967296 : Nat) : Int) := by omega
    have b8 : (e : Int) / 4294967296 % 4294967296 = ((e / 4294967296 : Nat) : Int) := by omega
    have t1 : (List.replicate k 0).take k = List.replicate k 0 := by rw [List.take_of_length_le (by simp)]
    have t2 : (List.replicate k 0 ++ [e % 4294967296, e / 4294967296]).take (k + 2) = List.replicate k 0 ++ [e % 4294967296, e / 4294967296] := by rw [List.take_of_length_le (by simp)]
    have t3 : sv false (List.replicate k 0 ++ [e % 4294967296, e / 4294967296]) = ((e * 4294967296 ^ k : Nat) : Int) := by
      have ee : e % 4294967296 + 4294967296 * (e / 4294967296) = e := Nat.mod_add_div e 4294967296
      rw [sv_false, lv_append, lv_replicate, List.length_replicate, lv_cons, lv_one, ee, Nat.zero_add, Nat.mul_comm]
    have l1 : Lim (List.replicate k 0 ++ [e % 4294967296, e / 4294967296]) := by
      intro x hx
      rcases List.mem_append.1 hx with h | h
      · rw [(List.mem_replicate.1 h).2]; omega
      · simp only [List.mem_cons, List.not_mem_nil, or_false] at h
        rcases h with h | h <;> omega
    have hml : maxLen = 9223372036854775807 := by decide
    rw [← hW, ← he, show r.length - d.length - 1 = k from by omega]
    simp only [go_sem, a1, a2, a3, a4, a5, b1, b2, b3, b4, b5, b6, b7, b8, c1, hmx, t1, t2, t3, Nat.min_self, Nat.le_refl, if_true]
    and_intros <;> first | rfl | omega | assumption
end Go.Proofs.YtfbogelmgdojgaaGreat

/- Contracts of the reference: divide, DivMod, Gcd for all sizes. -/
namespace Go.Proofs.YtfbogelmgdojgaaGreat
set_option linter.unusedSimpArgs false
set_option linter.unusedVariables false
open Go.RowKit

def kREst : Con := con2 pL pL fun r d => ((Canon r ∧ Canon d) ∧ d ≠ [] ∧ r.length ≤ 4000000000000 ∧ d.length ≤ r.length, .I (estN r d : Nat))
attribute [go_sem ↓, go_sem] kREst
theorem rest_C : Ctr Tryz.prog 156 kREst := Ctr.c2 (by kernel_rfl) fun r d h => rest_V r d h.1.1 h.1.2 h.2.1 h.2.2.1 h.2.2.2
/-- What is left is the quotient and the remainder. -/
theorem div_end {a b F q r : Nat} (hF : 0 < F) (hb : 0 < b) (h : q * (b * F) + r = a * F) (hr : r < b * F) : q = a / b ∧ r / F = a % b := by
  have h2 : q * b ≤ a := by
    refine Nat.le_of_mul_le_mul_right (c := F) ?_ hF
    rw [Nat.mul_assoc]
    omega
  have h1 : r = (a - q * b) * F := by
    rw [Nat.sub_mul, Nat.mul_assoc]
    omega
  have h3 : a - q * b < b := by
    rw [h1] at hr
    exact Nat.lt_of_mul_lt_mul_right hr
  have h4 : a / b = q ∧ a % b = a - q * b := (Nat.div_mod_unique hb).2 ⟨by rw [Nat.mul_comm b q]; omega, h3⟩
  rw [h1, Nat.mul_div_cancel _ hF]
  exact ⟨h4.1.symm, h4.2.symm⟩
set_option maxRecDepth 4000 in
set_option maxHeartbeats 2000000 in
theorem rdiv_long (l m : List Nat) (hl : Canon l) (hm : Canon m) (h1 : l.length ≤ 1000000000000) (h2 : m.length ≤ 1000000000000) (h3 : 2 ≤ m.length) :
    PCall Tryz.prog 148 [.lst (V.limbs l), .lst (V.limbs m)] (.tup [.I (lv l / lv m : Nat), .I (lv l % lv m : Nat)]) := by
  refine PCall.of_vc (tabs mixed (tbl_cons rshort_C (tbl_cons rmade_C (tbl_cons rmul_C (tbl_cons less_C (tbl_cons rest_C (tbl_cons radd_C (tbl_cons rsub_C tbl_nil)))))))) Tryz.func148 rfl Tryz.ntmps148 Tryz.results148 (by simp) ?_
  have c1 : ((m.length : Int) == 1) = false := by simp; omega
  have hm0 : m ≠ [] := by rintro rfl; simp at h3
  have hpm := lv_pos hm hm0
  have T1 := hm.1.at0 (m.length - 1)
  have ht0 : 0 < at0 m (m.length - 1) := Nat.pos_of_ne_zero (hm.2 hm0)
  have a1 : (m.length : Int) - 1 = ((m.length - 1 : Nat) : Int) := by omega
  have m1 := hl.1
  have m2 := hm.1
  simp only [go_sem, c1]
  refine AWp.loops (X := { j : Nat // at0 m (m.length - 1) * 2 ^ j < 4294967296 ∧ j < 32 })
    (fun a => mkSt [(0, .lst (V.limbs l)), (1, .lst (V.limbs m)), (4, .ptr 0 2 0 0), (5, .ptr 1 2 0 0), (8, .raw (.int .u32 (2 ^ a.1 : Nat)))]
      [(0, true, ⟨43, 2, [.agg [.raw (.bool false), .raw (.slice none 0 0)]]⟩), (1, true, ⟨43, 2, [.agg [.raw (.bool false), .raw (.slice none 0 0)]]⟩)] 2 86)
    (fun a => 32 - a.1) ⟨0, by simpa using T1, by decide⟩ (Wk.of [0, 1] (by decide) ?_) ?_
  · simp only [go_sem]
  · rintro ⟨j, hj, hj32⟩
    refine vc_at (tabs mixed (tbl_cons rshort_C (tbl_cons rmade_C (tbl_cons rmul_C (tbl_cons less_C (tbl_cons rest_C (tbl_cons radd_C (tbl_cons rsub_C tbl_nil)))))))) ?_
    have hpj : 2 ^ j < 4294967296 := Nat.lt_of_le_of_lt (Nat.le_mul_of_pos_left _ ht0) hj
    have hp0 := Nat.two_pow_pos j
    obtain ⟨F, hF⟩ : ∃ F, F = 2 ^ j := ⟨_, rfl⟩
    rw [← hF] at hj hpj hp0
    have b1 : (at0 m (m.length - 1) : Int) % 18446744073709551616 = at0 m (m.length - 1) := by omega
    have b2 : (F : Int) % 18446744073709551616 = (F : Nat) := by omega
    have b3 : (at0 m (m.length - 1) : Int) * (F : Nat) = ((at0 m (m.length - 1) * F : Nat) : Int) := by push_cast; rfl
    by_cases hs : at0 m (m.length - 1) * F < 2147483648
    · have c2 : ((at0 m (m.length - 1) * F : Nat) : Int) < 2147483648 := by omega
      have hF2 : F < 2147483648 := Nat.lt_of_le_of_lt (Nat.le_mul_of_pos_left _ ht0) hs
      have b4 : 2 * (F : Int) % 4294967296 = ((2 ^ (j + 1) : Nat) : Int) := by rw [Nat.pow_succ, ← hF]; omega
      have hj31 : j < 31 := by
        refine Nat.lt_of_not_le fun h => ?_
        have := Nat.pow_le_pow_right (n := 2) (by decide) h
        omega
      simp only [go_sem, a1, ← hF, b1, b2, b3, c2, b4]
      refine ⟨by omega, by omega, by omega, by omega, ⟨j + 1, ?_, by omega⟩, Wk.of [0, 1] (by decide) ?_, by simp only; omega⟩
      · rw [Nat.pow_succ, ← hF, ← Nat.mul_assoc]; omega
      · simp only [go_sem]
    · have c2 : ¬ ((at0 m (m.length - 1) * F : Nat) : Int) < 2147483648 := by omega
      have lF : Lim [F] := Lim.cons hpj Lim.nil
      have sF : sv false [F] = ((F : Nat) : Int) := by rw [sv_false, lv_one]
      obtain ⟨L, hL⟩ : ∃ L, L = lv l * F := ⟨_, rfl⟩
      obtain ⟨D, hD⟩ : ∃ D, D = lv m * F := ⟨_, rfl⟩
      have sL : sv false l * ((F : Nat) : Int) = ((L : Nat) : Int) := by rw [sv_false, hL]; push_cast; rfl
      have sD : sv false m * ((F : Nat) : Int) = ((D : Nat) : Int) := by rw [sv_false, hD]; push_cast; rfl
      have hdF : dl F ≤ 1 := dl_le.2 (by rw [Nat.pow_one]; exact hpj)
      have hdL : dl L ≤ 1000000000001 := by rw [hL]; have := dl_mul (lv l) F; have := dl_le_of_lim hl.1; omega
      have hdD : dl D ≤ 1000000000001 := by rw [hD]; have := dl_mul (lv m) F; have := dl_le_of_lim hm.1; omega
      have hD0 : 0 < D := by rw [hD]; exact Nat.mul_pos hpm hp0
      have q1 : dl (sv false l).natAbs ≤ 1000000000000 := by rw [sv_natAbs]; exact Nat.le_trans (dl_le_of_lim hl.1) h1
      have q2 : dl (sv false m).natAbs ≤ 1000000000000 := by rw [sv_natAbs]; exact Nat.le_trans (dl_le_of_lim hm.1) h2
      simp only [go_sem, a1, ← hF, b1, b2, b3, c2, sF, sL, sD]
      refine ⟨by omega, by omega, by omega, by omega, lF, ⟨m1, by omega⟩, ⟨by omega, by rw [Int.natAbs_natCast]; omega⟩, ⟨m2, by omega⟩, ⟨by omega, by rw [Int.natAbs_natCast]; omega⟩, by rfl, ?_⟩
      refine AWp.loops (X := { a : Nat × Nat × V // a.2.1 * D + a.1 = L ∧ ((a.2.2 = .agg [.raw (.bool false), .raw (.slice none 0 0)] ∧ a.2.1 = 0) ∨ a.2.2 = .I (a.2.1 : Nat)) })
        (fun a => mkSt [(4, .ptr 0 2 0 0), (5, .ptr 1 2 0 0), (8, .raw (.int .u32 (F : Nat))), (10, .ptr 2 2 0 0), (11, .ptr 3 2 0 0), (12, .ptr 4 2 0 0)]
          [(0, true, ⟨43, 2, [.agg [.raw (.bool false), .raw (.slice none 0 0)]]⟩), (1, true, ⟨43, 2, [.agg [.raw (.bool false), .raw (.slice none 0 0)]]⟩),
           (2, true, ⟨43, 2, [.I (a.1.1 : Nat)]⟩), (3, true, ⟨43, 2, [.I (D : Nat)]⟩), (4, true, ⟨43, 2, [a.1.2.2]⟩)] 5 86)
        (fun a => a.1.1) ⟨(L, 0, .agg [.raw (.bool false), .raw (.slice none 0 0)]), by simp only; omega, .inl ⟨rfl, rfl⟩⟩ (Wk.of [0, 1, 27, 28, 29] (by decide) ?_) ?_
      · simp only [go_sem]
      · rintro ⟨⟨R, Q, v⟩, hinv, hv⟩
        simp only at hinv hv
        refine vc_at (tabs mixed (tbl_cons rshort_C (tbl_cons rmade_C (tbl_cons rmul_C (tbl_cons less_C (tbl_cons rest_C (tbl_cons radd_C (tbl_cons rsub_C tbl_nil)))))))) ?_
        have hRL : R ≤ L := by omega
        have hdR : dl R ≤ 1000000000001 := Nat.le_trans (dl_mono hRL) hdL
        have lR : (dg R).length = dl R := rfl
        have lD : (dg D).length = dl D := rfl
        have cR := dg_canon R
        have cD := dg_canon D
        by_cases hlt : R < D
        · have c3 : decide (R < D) = true := decide_eq_true hlt
          rw [hD] at hlt hinv
          rw [hL] at hinv
          obtain ⟨e1, e2⟩ := div_end hp0 hpm hinv hlt
          have n1 : lv (nl (dg R).length (R / F)) = R / F := lv_nl _ _ (Nat.lt_of_le_of_lt (Nat.div_le_self _ _) (lt_pow_dl R))
          have n2 := nl_length (dg R).length (R / F)
          have n3 := nl_lim (dg R).length (R / F)
          have o2 : OutEq (V.I (sv false (nl (dg R).length (R / F)))) (V.I ((lv l % lv m : Nat) : Int)) := out_II (by rw [sv_false, n1, e2])
          rcases hv with ⟨rfl, rfl⟩ | rfl
          · simp only [go_sem, lv_dg, Int.natAbs_natCast, c3]
            exact ⟨⟨⟨cR, cD⟩, by omega, by omega⟩, ⟨cR.1, by omega, by omega, by omega⟩, ⟨n3, by omega⟩, by rfl, out_In (by rw [← e1]; rfl), o2⟩
          · simp only [go_sem, lv_dg, Int.natAbs_natCast, c3]
            exact ⟨⟨⟨cR, cD⟩, by omega, by omega⟩, ⟨cR.1, by omega, by omega, by omega⟩, ⟨n3, by omega⟩, by rfl, out_II (by rw [← e1]), o2⟩
        · have c3 : decide (R < D) = false := decide_eq_false hlt
          obtain ⟨T, hT⟩ : ∃ T, T = estN (dg R) (dg D) := ⟨_, rfl⟩
          have hD1 : dg D ≠ [] := fun h => by have := dg_eq_nil.1 h; omega
          obtain ⟨t1, t2⟩ := estN_ok cR cD hD1 (by rw [lv_dg, lv_dg]; omega)
          rw [← hT] at t1
          rw [← hT, lv_dg, lv_dg] at t2
          have hle : dl D ≤ dl R := dl_mono (by omega)
          have hTD : D ≤ T * D := Nat.le_mul_of_pos_left _ t1
          have hTR : T ≤ R := Nat.le_trans (Nat.le_mul_of_pos_right _ hD0) t2
          have hQL : Q ≤ L := Nat.le_trans (Nat.le_mul_of_pos_right _ hD0) (by omega : Q * D ≤ L)
          have d1 : dl T ≤ 1000000000001 := Nat.le_trans (dl_mono hTR) hdR
          have d2 : dl Q ≤ 1000000000001 := Nat.le_trans (dl_mono hQL) hdL
          have d3 : dl (T * D) ≤ 1000000000001 := Nat.le_trans (dl_mono t2) hdR
          have z2 : ((T : Nat) : Int) * (D : Nat) = ((T * D : Nat) : Int) := by push_cast; rfl
          have z3 : (R : Int) - ((T * D : Nat) : Int) = ((R - T * D : Nat) : Int) := by omega
          have z4 : (0 : Int) + (T : Nat) = ((Q + T : Nat) : Int) ∨ Q ≠ 0 := by omega
          have z5 : (Q : Int) + (T : Nat) = ((Q + T : Nat) : Int) := by omega
          have hinv' : (Q + T) * D + (R - T * D) = L := by rw [Nat.add_mul]; omega
          have d0 : dl (Int.natAbs 0) ≤ 1000000000001 := Nat.zero_le _
          rcases hv with ⟨rfl, rfl⟩ | rfl
          · have z6 : (0 : Int) + (T : Nat) = ((0 + T : Nat) : Int) := by omega
            simp only [go_sem, lv_dg, Int.natAbs_natCast, c3, ← hT, z2, z3, z6]
            refine ⟨⟨⟨cR, cD⟩, by omega, by omega⟩, ⟨⟨cR, cD⟩, hD1, by omega, by omega⟩, ⟨by omega, by omega⟩, ⟨by omega, by omega⟩, ⟨by omega, by omega⟩, by rfl, ⟨(R - T * D, 0 + T, .I ((0 + T : Nat) : Int)), hinv', .inr rfl⟩, Wk.of [0, 1, 2, 3, 4] (by decide) ?_, by simp only; omega⟩
            simp only [go_sem]
          · simp only [go_sem, lv_dg, Int.natAbs_natCast, c3, ← hT, z2, z3, z5]
            refine ⟨⟨⟨cR, cD⟩, by omega, by omega⟩, ⟨⟨cR, cD⟩, hD1, by omega, by omega⟩, ⟨by omega, by omega⟩, ⟨by omega, by omega⟩, ⟨by omega, by omega⟩, by rfl, ⟨(R - T * D, Q + T, .I ((Q + T : Nat) : Int)), hinv', .inr rfl⟩, Wk.of [0, 1, 2, 3, 4] (by decide) ?_, by simp only; omega⟩
            simp only [go_sem]
end Go.Proofs.YtfbogelmgdojgaaGreat

/- Contracts of the reference: divide and DivMod for all sizes, Gcd. -/
namespace Go.Proofs.YtfbogelmgdojgaaGreat
set_option linter.unusedSimpArgs false
set_option linter.unusedVariables false
open Go.RowKit

theorem rdivTo (N : Nat) : RDivTo N := fun l m hl hm h0 h1 h2 _ => by
  match m, hm, h0, h2 with
  | [y], hm, _, _ => exact rdiv_short l y hl hm h1
  | y :: z :: m, hm, _, h2 => exact rdiv_long l (y :: z :: m) hl hm h1 h2 (by simp)
def kRDM : Con := con2 pI pI fun x y => (dl x.natAbs ≤ 100000000000 ∧ dl y.natAbs ≤ 100000000000, dmR x y)
attribute [go_sem ↓, go_sem] kRDM
theorem rdm_C : Ctr Tryz.prog 140 kRDM := Ctr.c2 (by kernel_rfl) fun x y h => rdivMod_V (rdivTo _) x y h.1 h.2 (Nat.le_refl _)
theorem gcd_emod (x y : Int) : Int.gcd y (x % y) = Int.gcd x y := by
  rw [Int.gcd_comm y, Int.emod_def, Int.gcd_sub_mul_left_left]
set_option maxRecDepth 2000 in
theorem rgcd_V (x y : Int) (hx : dl x.natAbs ≤ 100000000000) (hy : dl y.natAbs ≤ 100000000000) :
    PCall Tryz.prog 139 [.I x, .I y] (.I (Nat.gcd x.natAbs y.natAbs : Nat)) := by
  refine PCall.of_vc (tabs mixed (tbl_cons rdm_C (tbl_cons rmade_C (tbl_cons rsign_C tbl_nil)))) Tryz.func139 rfl Tryz.ntmps139 Tryz.results139 (by simp) ?_
  simp only [go_sem]
  refine AWp.loops (X := { p : Int × Int // Int.gcd p.1 p.2 = Int.gcd x y ∧ dl p.1.natAbs ≤ 100000000000 ∧ dl p.2.natAbs ≤ 100000000000 })
    (fun a => mkSt [(2, .ptr 0 2 0 0), (3, .ptr 1 2 0 0), (4, .ptr 2 2 0 0)]
      [(0, true, ⟨43, 2, [.I a.1.1]⟩), (1, true, ⟨43, 2, [.I a.1.2]⟩), (2, true, ⟨43, 2, [.agg [.raw (.bool false), .raw (.slice none 0 0)]]⟩)] 3 23)
    (fun a => a.1.2.natAbs) ⟨(x, y), rfl, hx, hy⟩ (Wk.of [0, 1, 2] (by decide) ?_) ?_
  · simp only [go_sem]
  · rintro ⟨⟨p, q⟩, hg, hp, hq⟩
    simp only at hg hp hq
    refine vc_at (tabs mixed (tbl_cons rdm_C (tbl_cons rmade_C (tbl_cons rsign_C tbl_nil)))) ?_
    by_cases h0 : q = 0
    · have b0 : (sgI q != 0) = false := by rw [h0]; rfl
      simp only [go_sem, b0]
      refine ⟨⟨dg_lim _, by show dl _ ≤ _; omega⟩, out_II ?_⟩
      have : Int.gcd x y = p.natAbs := by rw [← hg, h0, Int.gcd_zero_right]
      rw [sv_false, lv_dg, ← this]
      rfl
    · have b0 : (sgI q != 0) = true := by
        have : sgI q ≠ 0 := fun h => h0 (by unfold sgI cmpI at h; split at h <;> (try split at h) <;> omega)
        simpa using this
      have r1 : dmR p q = .tup [.I (p / q), .I (p % q), .raw (.int .i64 0)] := by unfold dmR; rw [if_neg h0]
      simp only [go_sem, b0, r1]
      have hlt : (p % q).natAbs < q.natAbs := by
        have := Int.emod_nonneg p h0
        have := Int.emod_lt p h0
        omega
      refine ⟨⟨hp, hq⟩, by rfl, ⟨(q, p % q), (gcd_emod p q).trans hg, hq, Nat.le_trans (dl_mono (Nat.le_of_lt hlt)) hq⟩, Wk.of [0, 1, 2] (by decide) ?_, hlt⟩
      simp only [go_sem]
def kRGcd : Con := con2 pI pI fun x y => (dl x.natAbs ≤ 100000000000 ∧ dl y.natAbs ≤ 100000000000, .I (Nat.gcd x.natAbs y.natAbs : Nat))
attribute [go_sem ↓, go_sem] kRGcd
theorem rgcd_C : Ctr Tryz.prog 139 kRGcd := Ctr.c2 (by kernel_rfl) fun x y h => rgcd_V x y h.1 h.2
end Go.Proofs.YtfbogelmgdojgaaGreat
