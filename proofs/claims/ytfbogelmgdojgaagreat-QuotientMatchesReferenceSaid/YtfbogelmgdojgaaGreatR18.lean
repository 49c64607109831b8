/- Texts E9 E10 E11 A24 in one. -/
import Derived.Test.YtfbogelmgdojgaaGreatR16
import Derived.Test.YtfbogelmgdojgaaGreatR12
/- Contracts of the reference: estimate, divide. -/
namespace Go.Proofs.YtfbogelmgdojgaaGreat
set_option linter.unusedSimpArgs false
set_option linter.unusedVariables false
open Go.RowKit

def estN (r d : List Nat) : Nat :=
 if r.length = d.length then max 1 (at0 r (r.length - 1) / (at0 d (d.length - 1) + 1))
 else (at0 r (r.length - 1) * 4294967296 + at0 r (r.length - 2)) / (at0 d (d.length - 1) + 1) * 4294967296 ^ (r.length - d.length - 1)
theorem top_lt {d : List Nat} (hd : Canon d) (h0 : d ≠ []) : lv d < (at0 d (d.length - 1) + 1) * 4294967296 ^ (d.length - 1) := by
 have hp := List.length_pos_iff.2 h0
 have e := lv_take_succ' d (d.length - 1)
 rw [show d.length - 1 + 1 = d.length from by omega, List.take_length] at e
 have := take_lt hd.1 (d.length - 1)
 rw [e, Nat.add_mul, Nat.one_mul, Nat.mul_comm (at0 d (d.length - 1))]
 omega
theorem estN_ok {r d : List Nat} (hr : Canon r) (hd : Canon d) (h0 : d ≠ []) (hle : lv d ≤ lv r) : 1 ≤ estN r d ∧ estN r d * lv d ≤ lv r := by
 have hlen := len_of_lt hd hr hle
 have hp := List.length_pos_iff.2 h0
 have ht := top_lt hd h0
 have hlow := hd.1.at0 (d.length - 1)
 have er := lv_take_succ' r (r.length - 1)
 rw [show r.length - 1 + 1 = r.length from by omega, List.take_length] at er
 obtain ⟨low, hl⟩ : ∃ low, low = at0 d (d.length - 1) + 1 := ⟨_, rfl⟩
 unfold estN
 rw [← hl] at ht ⊢
 by_cases h : r.length = d.length
 ·rw [if_pos h]
  refine ⟨by omega, ?_⟩
  rcases Nat.le_total 1 (at0 r (r.length - 1) / low) with h1 | h1
  ·rw [Nat.max_eq_right h1]
   have h2 : at0 r (r.length - 1) / low * lv d ≤ at0 r (r.length - 1) / low * (low * 4294967296 ^ (d.length - 1)) := Nat.mul_le_mul_left _ (Nat.le_of_lt ht)
   rw [← Nat.mul_assoc] at h2
   have h3 := Nat.mul_le_mul_right (4294967296 ^ (d.length - 1)) (Nat.div_mul_le_self (at0 r (r.length - 1)) low)
   rw [← h, Nat.mul_comm (at0 r (r.length - 1))] at h3
   rw [← h] at h2
   omega
  ·rw [Nat.max_eq_left h1, Nat.one_mul]
   exact hle
 ·rw [if_neg h]
  obtain ⟨k, hk⟩ : ∃ k, r.length = d.length + k + 1 := ⟨r.length - d.length - 1, by omega⟩
  have er2 := lv_take_succ' r (r.length - 2)
  rw [show r.length - 2 + 1 = r.length - 1 from by omega] at er2
  have htop : at0 r (r.length - 1) ≠ 0 := hr.2 (by rintro rfl; simp at hk)
  obtain ⟨W, hW⟩ : ∃ W, W = at0 r (r.length - 1) * 4294967296 + at0 r (r.length - 2) := ⟨_, rfl⟩
  rw [← hW, show r.length - d.length - 1 = k from by omega]
  have he : 1 ≤ W / low := by
   rw [Nat.le_div_iff_mul_le (by omega)]
   omega
  refine ⟨Nat.mul_pos he (pow_pos' k), ?_⟩
  have hWr : W * 4294967296 ^ (r.length - 2) ≤ lv r := by
   rw [er, er2, hW, show r.length - 1 = r.length - 2 + 1 from by omega, Nat.pow_succ, Nat.add_mul, show r.length - 2 + 1 = r.length - 1 from by omega]
   rw [show 4294967296 ^ (r.length - 2) * 4294967296 * at0 r (r.length - 1) = at0 r (r.length - 1) * 4294967296 * 4294967296 ^ (r.length - 2) from by ac_rfl, Nat.mul_comm (4294967296 ^ (r.length - 2)) (at0 r (r.length - 2))]
   omega
  refine Nat.le_trans ?_ hWr
  have h2 : W / low * 4294967296 ^ k * lv d ≤ W / low * 4294967296 ^ k * (low * 4294967296 ^ (d.length - 1)) := Nat.mul_le_mul_left _ (Nat.le_of_lt ht)
  refine Nat.le_trans h2 ?_
  have e1 : W / low * 4294967296 ^ k * (low * 4294967296 ^ (d.length - 1)) = W / low * low * (4294967296 ^ k * 4294967296 ^ (d.length - 1)) := by ac_rfl
  rw [e1, ← Nat.pow_add, show k + (d.length - 1) = r.length - 2 from by omega]
  exact Nat.mul_le_mul_right _ (Nat.div_mul_le_self _ _)
set_option maxRecDepth 4000 in
theorem rest_V (r d : List Nat) (hr : Canon r) (hd : Canon d) (h0 : d ≠ []) (h1 : r.length ≤ 14000000000000) (hlen : d.length ≤ r.length) :
 PCall Tryz.prog 156 [.lst (V.limbs r), .lst (V.limbs d)] (.I (estN r d : Nat)) := by
 refine PCall.of_vc (tabs mixed (tbl_cons rmade_C (tbl_cons rof_C tbl_nil))) Tryz.func156 rfl Tryz.ntmps156 Tryz.results156 (by simp) ?_
 have hp := List.length_pos_iff.2 h0
 have T1 := hd.1.at0 (d.length - 1)
 have R1 := hr.1.at0 (r.length - 1)
 have R2 := hr.1.at0 (r.length - 2)
 have a2 : (d.length : Int) - 1 = ((d.length - 1 : Nat) : Int) := by omega
 have a3 : (r.length : Int) - 1 = ((r.length - 1 : Nat) : Int) := by omega
 have b1 : (at0 d (d.length - 1) : Int) % 18446744073709551616 = at0 d (d.length - 1) := by omega
 have b2 : (at0 r (r.length - 1) : Int) % 18446744073709551616 = at0 r (r.length - 1) := by omega
 have b3 : (at0 r (r.length - 2) : Int) % 18446744073709551616 = at0 r (r.length - 2) := by omega
 obtain ⟨low, hl⟩ : ∃ low, low = at0 d (d.length - 1) + 1 := ⟨_, rfl⟩
 have b4 : (at0 d (d.length - 1) : Int) + 1 = (low : Nat) := by omega
 have hmx : IntKind.u64.max = 18446744073709551615 := by decide
 unfold estN
 rw [← hl]
 by_cases h : r.length = d.length
 ·rw [if_pos h]
  have a1 : (r.length : Int) - d.length = ((0 : Nat) : Int) := by omega
  have c1 : (((0 : Nat) : Int) == 0) = true := rfl
  obtain ⟨e, he⟩ : ∃ e, e = at0 r (r.length - 1) / low := ⟨_, rfl⟩
  have b6 : (at0 r (r.length - 1) : Int) / (low : Nat) = (e : Nat) := by rw [he]; rfl
  have heb : e < 4294967296 := by rw [he]; exact Nat.lt_of_le_of_lt (Nat.div_le_self _ _) R1
  have b7 : (if 1 < (e : Int) then (e : Int) else 1) = ((max 1 e : Nat) : Int) := by split <;> omega
  have b8 : IntKind.i64.wrap ((max 1 e : Nat) : Int) = ((max 1 e : Nat) : Int) := wraps_i64 _ (by omega) (by omega)
  rw [← he]
  simp only [go_sem, a1, a2, a3, b1, b2, b4, c1, hmx, b6, b7, b8]
  and_intros <;> first | rfl | omega
 ·rw [if_neg h]
  obtain ⟨k, hk⟩ : ∃ k, r.length = d.length + k + 1 := ⟨r.length - d.length - 1, by omega⟩
  have a1 : (r.length : Int) - d.length = ((k + 1 : Nat) : Int) := by omega
  have a4 : (r.length : Int) - 2 = ((r.length - 2 : Nat) : Int) := by omega
  have c1 : (((k + 1 : Nat) : Int) == 0) = false := by simp; omega
  obtain ⟨W, hW⟩ : ∃ W, W = at0 r (r.length - 1) * 4294967296 + at0 r (r.length - 2) := ⟨_, rfl⟩
  have b5 : (at0 r (r.length - 1) : Int) * 4294967296 + at0 r (r.length - 2) = (W : Nat) := by omega
  obtain ⟨e, he⟩ : ∃ e, e = W / low := ⟨_, rfl⟩
  have b6 : (W : Int) / (low : Nat) = (e : Nat) := by rw [he]; rfl
  have heb : e < 18446744073709551616 := by rw [he]; exact Nat.lt_of_le_of_lt (Nat.div_le_self _ _) (by omega)
  have a5 : ((k + 1 : Nat) : Int) - 1 = ((k : Nat) : Int) := by omega
  have b7 : (e : Int) % 4294967296 = ((e % 4294967296 : Nat) : Int) := by omega
  have b8 : (e : Int) / 4294967296 % 4294967296 = ((e / 4294967296 : Nat) : Int) := by omega
  have t1 : (List.replicate k 0).take k = List.replicate k 0 := by rw [List.take_of_length_le (by simp)]
  have t2 : (List.replicate k 0 ++ [e % 4294967296, e / 4294967296]).take (k + 2) = List.replicate k 0 ++ [e % 4294967296, e / 4294967296] := by rw [List.take_of_length_le (by simp)]
  have t3 : sv false (List.replicate k 0 ++ [e % 4294967296, e / 4294967296]) = ((e * 4294967296 ^ k : Nat) : Int) := by
   have ee : e % 4294967296 + 4294967296 * (e / 4294967296) = e := Nat.mod_add_div e 4294967296
   rw [sv_false, lv_append, lv_replicate, List.length_replicate, lv_cons, lv_one, ee, Nat.zero_add, Nat.mul_comm]
  have l1 : Lim (List.replicate k 0 ++ [e % 4294967296, e / 4294967296]) := by
   intro x hx
   rcases List.mem_append.1 hx with h | h
   ·rw [(List.mem_replicate.1 h).2]; omega
   ·simp only [List.mem_cons, List.not_mem_nil, or_false] at h
    rcases h with h | h <;> omega
  have hml : maxLen = 9223372036854775807 := by decide
  rw [← hW, ← he, show r.length - d.length - 1 = k from by omega]
  simp only [go_sem, a1, a2, a3, a4, a5, b1, b2, b3, b4, b5, b6, b7, b8, c1, hmx, t1, t2, t3, Nat.min_self, Nat.le_refl, if_true]
  and_intros <;> first | rfl | omega | assumption
end Go.Proofs.YtfbogelmgdojgaaGreat


/- Contracts of the reference: divide, DivMod, Gcd for all sizes. -/
namespace Go.Proofs.YtfbogelmgdojgaaGreat
set_option linter.unusedSimpArgs false
set_option linter.unusedVariables false
open Go.RowKit

def kREst : Con := con2 pL pL fun r d => ((Canon r ∧ Canon d) ∧ d ≠ [] ∧ r.length ≤ 14000000000000 ∧ d.length ≤ r.length, .I (estN r d : Nat))
attribute [go_sem ↓, go_sem] kREst
theorem rest_C : Ctr Tryz.prog 156 kREst := Ctr.c2 (by kernel_rfl) fun r d h => rest_V r d h.1.1 h.1.2 h.2.1 h.2.2.1 h.2.2.2
theorem div_end {a b F q r : Nat} (hF : 0 < F) (hb : 0 < b) (h : q * (b * F) + r = a * F) (hr : r < b * F) : q = a / b ∧ r / F = a % b := by
 have h2 : q * b ≤ a := by
  refine Nat.le_of_mul_le_mul_right (c := F) ?_ hF
  rw [Nat.mul_assoc]
  omega
 have h1 : r = (a - q * b) * F := by
  rw [Nat.sub_mul, Nat.mul_assoc]
  omega
 have h3 : a - q * b < b := by
  rw [h1] at hr
  exact Nat.lt_of_mul_lt_mul_right hr
 have h4 : a / b = q ∧ a % b = a - q * b := (Nat.div_mod_unique hb).2 ⟨by rw [Nat.mul_comm b q]; omega, h3⟩
 rw [h1, Nat.mul_div_cancel _ hF]
 exact ⟨h4.1.symm, h4.2.symm⟩
set_option maxRecDepth 4000 in
set_option maxHeartbeats 2000000 in
theorem rdiv_long (l m : List Nat) (hl : Canon l) (hm : Canon m) (h1 : l.length ≤ 13000000000000) (h2 : m.length ≤ 13000000000000) (h3 : 2 ≤ m.length) :
 PCall Tryz.prog 148 [.lst (V.limbs l), .lst (V.limbs m)] (.tup [.I (lv l / lv m : Nat), .I (lv l % lv m : Nat)]) := by
 refine PCall.of_vc (tabs mixed (tbl_cons rshort_C (tbl_cons rmade_C (tbl_cons rmul_C (tbl_cons less_C (tbl_cons rest_C (tbl_cons radd_C (tbl_cons rsub_C tbl_nil)))))))) Tryz.func148 rfl Tryz.ntmps148 Tryz.results148 (by simp) ?_
 have c1 : ((m.length : Int) == 1) = false := by simp; omega
 have hm0 : m ≠ [] := by rintro rfl; simp at h3
 have hpm := lv_pos hm hm0
 have T1 := hm.1.at0 (m.length - 1)
 have ht0 : 0 < at0 m (m.length - 1) := Nat.pos_of_ne_zero (hm.2 hm0)
 have a1 : (m.length : Int) - 1 = ((m.length - 1 : Nat) : Int) := by omega
 have m1 := hl.1
 have m2 := hm.1
 simp only [go_sem, c1]
 refine AWp.loops (X := { j : Nat // at0 m (m.length - 1) * 2 ^ j < 4294967296 ∧ j < 32 })
  (fun a => mkSt [(0, .lst (V.limbs l)), (1, .lst (V.limbs m)), (4, .ptr 0 2 0 0), (5, .ptr 1 2 0 0), (8, .raw (.int .u32 (2 ^ a.1 : Nat)))]
   [(0, true, ⟨43, 2, [.agg [.raw (.bool false), .raw (.slice none 0 0)]]⟩), (1, true, ⟨43, 2, [.agg [.raw (.bool false), .raw (.slice none 0 0)]]⟩)] 2 86)
  (fun a => 32 - a.1) ⟨0, by simpa using T1, by decide⟩ (Wk.of [0, 1] (by decide) ?_) ?_
 ·simp only [go_sem]
 ·rintro ⟨j, hj, hj32⟩
  refine vc_at (tabs mixed (tbl_cons rshort_C (tbl_cons rmade_C (tbl_cons rmul_C (tbl_cons less_C (tbl_cons rest_C (tbl_cons radd_C (tbl_cons rsub_C tbl_nil)))))))) ?_
  have hpj : 2 ^ j < 4294967296 := Nat.lt_of_le_of_lt (Nat.le_mul_of_pos_left _ ht0) hj
  have hp0 := Nat.two_pow_pos j
  obtain ⟨F, hF⟩ : ∃ F, F = 2 ^ j := ⟨_, rfl⟩
  rw [← hF] at hj hpj hp0
  have b1 : (at0 m (m.length - 1) : Int) % 18446744073709551616 = at0 m (m.length - 1) := by omega
  have b2 : (F : Int) % 18446744073709551616 = (F : Nat) := by omega
  have b3 : (at0 m (m.length - 1) : Int) * (F : Nat) = ((at0 m (m.length - 1) * F : Nat) : Int) := by push_cast; rfl
  by_cases hs : at0 m (m.length - 1) * F < 2147483648
  ·have c2 : ((at0 m (m.length - 1) * F : Nat) : Int) < 2147483648 := by omega
   have hF2 : F < 2147483648 := Nat.lt_of_le_of_lt (Nat.le_mul_of_pos_left _ ht0) hs
   have b4 : 2 * (F : Int) % 4294967296 = ((2 ^ (j + 1) : Nat) : Int) := by rw [Nat.pow_succ, ← hF]; omega
   have hj31 : j < 31 := by
    refine Nat.lt_of_not_le fun h => ?_
    have := Nat.pow_le_pow_right (n := 2) (by decide) h
    omega
   simp only [go_sem, a1, ← hF, b1, b2, b3, c2, b4]
   refine ⟨by omega, by omega, by omega, by omega, ⟨j + 1, ?_, by omega⟩, Wk.of [0, 1] (by decide) ?_, by simp only; omega⟩
   ·rw [Nat.pow_succ, ← hF, ← Nat.mul_assoc]; omega
   ·simp only [go_sem]
  ·have c2 : ¬ ((at0 m (m.length - 1) * F : Nat) : Int) < 2147483648 := by omega
   have lF : Lim [F] := Lim.cons hpj Lim.nil
   have sF : sv false [F] = ((F : Nat) : Int) := by rw [sv_false, lv_one]
   obtain ⟨L, hL⟩ : ∃ L, L = lv l * F := ⟨_, rfl⟩
   obtain ⟨D, hD⟩ : ∃ D, D = lv m * F := ⟨_, rfl⟩
   have sL : sv false l * ((F : Nat) : Int) = ((L : Nat) : Int) := by rw [sv_false, hL]; push_cast; rfl
   have sD : sv false m * ((F : Nat) : Int) = ((D : Nat) : Int) := by rw [sv_false, hD]; push_cast; rfl
   have hdF : dl F ≤ 1 := dl_le.2 (by rw [Nat.pow_one]; exact hpj)
   have hdL : dl L ≤ 13000000000001 := by rw [hL]; have := dl_mul (lv l) F; have := dl_le_of_lim hl.1; omega
   have hdD : dl D ≤ 13000000000001 := by rw [hD]; have := dl_mul (lv m) F; have := dl_le_of_lim hm.1; omega
   have hD0 : 0 < D := by rw [hD]; exact Nat.mul_pos hpm hp0
   have q1 : dl (sv false l).natAbs ≤ 13000000000000 := by rw [sv_natAbs]; exact Nat.le_trans (dl_le_of_lim hl.1) h1
   have q2 : dl (sv false m).natAbs ≤ 13000000000000 := by rw [sv_natAbs]; exact Nat.le_trans (dl_le_of_lim hm.1) h2
   simp only [go_sem, a1, ← hF, b1, b2, b3, c2, sF, sL, sD]
   refine ⟨by omega, by omega, by omega, by omega, lF, ⟨m1, by omega⟩, ⟨by omega, by rw [Int.natAbs_natCast]; omega⟩, ⟨m2, by omega⟩, ⟨by omega, by rw [Int.natAbs_natCast]; omega⟩, by rfl, ?_⟩
   refine AWp.loops (X := { a : Nat × Nat × V // a.2.1 * D + a.1 = L ∧ ((a.2.2 = .agg [.raw (.bool false), .raw (.slice none 0 0)] ∧ a.2.1 = 0) ∨ a.2.2 = .I (a.2.1 : Nat)) })
    (fun a => mkSt [(4, .ptr 0 2 0 0), (5, .ptr 1 2 0 0), (8, .raw (.int .u32 (F : Nat))), (10, .ptr 2 2 0 0), (11, .ptr 3 2 0 0), (12, .ptr 4 2 0 0)]
     [(0, true, ⟨43, 2, [.agg [.raw (.bool false), .raw (.slice none 0 0)]]⟩), (1, true, ⟨43, 2, [.agg [.raw (.bool false), .raw (.slice none 0 0)]]⟩),
      (2, true, ⟨43, 2, [.I (a.1.1 : Nat)]⟩), (3, true, ⟨43, 2, [.I (D : Nat)]⟩), (4, true, ⟨43, 2, [a.1.2.2]⟩)] 5 86)
    (fun a => a.1.1) ⟨(L, 0, .agg [.raw (.bool false), .raw (.slice none 0 0)]), by simp only; omega, .inl ⟨rfl, rfl⟩⟩ (Wk.of [0, 1, 27, 28, 29] (by decide) ?_) ?_
   ·simp only [go_sem]
   ·rintro ⟨⟨R, Q, v⟩, hinv, hv⟩
    simp only at hinv hv
    refine vc_at (tabs mixed (tbl_cons rshort_C (tbl_cons rmade_C (tbl_cons rmul_C (tbl_cons less_C (tbl_cons rest_C (tbl_cons radd_C (tbl_cons rsub_C tbl_nil)))))))) ?_
    have hRL : R ≤ L := by omega
    have hdR : dl R ≤ 13000000000001 := Nat.le_trans (dl_mono hRL) hdL
    have lR : (dg R).length = dl R := rfl
    have lD : (dg D).length = dl D := rfl
    have cR := dg_canon R
    have cD := dg_canon D
    by_cases hlt : R < D
    ·have c3 : decide (R < D) = true := decide_eq_true hlt
     rw [hD] at hlt hinv
     rw [hL] at hinv
     obtain ⟨e1, e2⟩ := div_end hp0 hpm hinv hlt
     have n1 : lv (nl (dg R).length (R / F)) = R / F := lv_nl _ _ (Nat.lt_of_le_of_lt (Nat.div_le_self _ _) (lt_pow_dl R))
     have n2 := nl_length (dg R).length (R / F)
     have n3 := nl_lim (dg R).length (R / F)
     have o2 : OutEq (V.I (sv false (nl (dg R).length (R / F)))) (V.I ((lv l % lv m : Nat) : Int)) := out_II (by rw [sv_false, n1, e2])
     rcases hv with ⟨rfl, rfl⟩ | rfl
     ·simp only [go_sem, lv_dg, Int.natAbs_natCast, c3]
      exact ⟨⟨⟨cR, cD⟩, by omega, by omega⟩, ⟨cR.1, by omega, by omega, by omega⟩, ⟨n3, by omega⟩, by rfl, out_In (by rw [← e1]; rfl), o2⟩
     ·simp only [go_sem, lv_dg, Int.natAbs_natCast, c3]
      exact ⟨⟨⟨cR, cD⟩, by omega, by omega⟩, ⟨cR.1, by omega, by omega, by omega⟩, ⟨n3, by omega⟩, by rfl, out_II (by rw [← e1]), o2⟩
    ·have c3 : decide (R < D) = false := decide_eq_false hlt
     obtain ⟨T, hT⟩ : ∃ T, T = estN (dg R) (dg D) := ⟨_, rfl⟩
     have hD1 : dg D ≠ [] := fun h => by have := dg_eq_nil.1 h; omega
     obtain ⟨t1, t2⟩ := estN_ok cR cD hD1 (by rw [lv_dg, lv_dg]; omega)
     rw [← hT] at t1
     rw [← hT, lv_dg, lv_dg] at t2
     have hle : dl D ≤ dl R := dl_mono (by omega)
     have hTD : D ≤ T * D := Nat.le_mul_of_pos_left _ t1
     have hTR : T ≤ R := Nat.le_trans (Nat.le_mul_of_pos_right _ hD0) t2
     have hQL : Q ≤ L := Nat.le_trans (Nat.le_mul_of_pos_right _ hD0) (by omega : Q * D ≤ L)
     have d1 : dl T ≤ 13000000000001 := Nat.le_trans (dl_mono hTR) hdR
     have d2 : dl Q ≤ 13000000000001 := Nat.le_trans (dl_mono hQL) hdL
     have d3 : dl (T * D) ≤ 13000000000001 := Nat.le_trans (dl_mono t2) hdR
     have z2 : ((T : Nat) : Int) * (D : Nat) = ((T * D : Nat) : Int) := by push_cast; rfl
     have z3 : (R : Int) - ((T * D : Nat) : Int) = ((R - T * D : Nat) : Int) := by omega
     have z4 : (0 : Int) + (T : Nat) = ((Q + T : Nat) : Int) ∨ Q ≠ 0 := by omega
     have z5 : (Q : Int) + (T : Nat) = ((Q + T : Nat) : Int) := by omega
     have hinv' : (Q + T) * D + (R - T * D) = L := by rw [Nat.add_mul]; omega
     have d0 : dl (Int.natAbs 0) ≤ 13000000000001 := Nat.zero_le _
     rcases hv with ⟨rfl, rfl⟩ | rfl
     ·have z6 : (0 : Int) + (T : Nat) = ((0 + T : Nat) : Int) := by omega
      simp only [go_sem, lv_dg, Int.natAbs_natCast, c3, ← hT, z2, z3, z6]
      refine ⟨⟨⟨cR, cD⟩, by omega, by omega⟩, ⟨⟨cR, cD⟩, hD1, by omega, by omega⟩, ⟨by omega, by omega⟩, ⟨by omega, by omega⟩, ⟨by omega, by omega⟩, by rfl, ⟨(R - T * D, 0 + T, .I ((0 + T : Nat) : Int)), hinv', .inr rfl⟩, Wk.of [0, 1, 2, 3, 4] (by decide) ?_, by simp only; omega⟩
      simp only [go_sem]
     ·simp only [go_sem, lv_dg, Int.natAbs_natCast, c3, ← hT, z2, z3, z5]
      refine ⟨⟨⟨cR, cD⟩, by omega, by omega⟩, ⟨⟨cR, cD⟩, hD1, by omega, by omega⟩, ⟨by omega, by omega⟩, ⟨by omega, by omega⟩, ⟨by omega, by omega⟩, by rfl, ⟨(R - T * D, Q + T, .I ((Q + T : Nat) : Int)), hinv', .inr rfl⟩, Wk.of [0, 1, 2, 3, 4] (by decide) ?_, by simp only; omega⟩
      simp only [go_sem]
end Go.Proofs.YtfbogelmgdojgaaGreat


/- Contracts of the reference: divide and DivMod for all sizes, Gcd. -/
namespace Go.Proofs.YtfbogelmgdojgaaGreat
set_option linter.unusedSimpArgs false
set_option linter.unusedVariables false
open Go.RowKit

theorem rdivTo (N : Nat) : RDivTo N := fun l m hl hm h0 h1 h2 _ => by
 match m, hm, h0, h2 with
 | [y], hm, _, _ => exact rdiv_short l y hl hm h1
 | y :: z :: m, hm, _, h2 => exact rdiv_long l (y :: z :: m) hl hm h1 h2 (by simp)
def kRDM : Con := con2 pI pI fun x y => (dl x.natAbs ≤ 12000000000000 ∧ dl y.natAbs ≤ 12000000000000, dmR x y)
attribute [go_sem ↓, go_sem] kRDM
theorem rdm_C : Ctr Tryz.prog 140 kRDM := Ctr.c2 (by kernel_rfl) fun x y h => rdivMod_V (rdivTo _) x y h.1 h.2 (Nat.le_refl _)
theorem gcd_emod (x y : Int) : Int.gcd y (x % y) = Int.gcd x y := by
 rw [Int.gcd_comm y, Int.emod_def, Int.gcd_sub_mul_left_left]
set_option maxRecDepth 2000 in
theorem rgcd_V (x y : Int) (hx : dl x.natAbs ≤ 12000000000000) (hy : dl y.natAbs ≤ 12000000000000) :
 PCall Tryz.prog 139 [.I x, .I y] (.I (Nat.gcd x.natAbs y.natAbs : Nat)) := by
 refine PCall.of_vc (tabs mixed (tbl_cons rdm_C (tbl_cons rmade_C (tbl_cons rsign_C tbl_nil)))) Tryz.func139 rfl Tryz.ntmps139 Tryz.results139 (by simp) ?_
 simp only [go_sem]
 refine AWp.loops (X := { p : Int × Int // Int.gcd p.1 p.2 = Int.gcd x y ∧ dl p.1.natAbs ≤ 12000000000000 ∧ dl p.2.natAbs ≤ 12000000000000 })
  (fun a => mkSt [(2, .ptr 0 2 0 0), (3, .ptr 1 2 0 0), (4, .ptr 2 2 0 0)]
   [(0, true, ⟨43, 2, [.I a.1.1]⟩), (1, true, ⟨43, 2, [.I a.1.2]⟩), (2, true, ⟨43, 2, [.agg [.raw (.bool false), .raw (.slice none 0 0)]]⟩)] 3 23)
  (fun a => a.1.2.natAbs) ⟨(x, y), rfl, hx, hy⟩ (Wk.of [0, 1, 2] (by decide) ?_) ?_
 ·simp only [go_sem]
 ·rintro ⟨⟨p, q⟩, hg, hp, hq⟩
  simp only at hg hp hq
  refine vc_at (tabs mixed (tbl_cons rdm_C (tbl_cons rmade_C (tbl_cons rsign_C tbl_nil)))) ?_
  by_cases h0 : q = 0
  ·have b0 : (sgI q != 0) = false := by rw [h0]; rfl
   simp only [go_sem, b0]
   refine ⟨⟨dg_lim _, by show dl _ ≤ _; omega⟩, out_II ?_⟩
   have : Int.gcd x y = p.natAbs := by rw [← hg, h0, Int.gcd_zero_right]
   rw [sv_false, lv_dg, ← this]
   rfl
  ·have b0 : (sgI q != 0) = true := by
    have : sgI q ≠ 0 := fun h => h0 (by unfold sgI cmpI at h; split at h <;> (try split at h) <;> omega)
    simpa using this
   have r1 : dmR p q = .tup [.I (p / q), .I (p % q), .raw (.int .i64 0)] := by unfold dmR; rw [if_neg h0]
   simp only [go_sem, b0, r1]
   have hlt : (p % q).natAbs < q.natAbs := by
    have := Int.emod_nonneg p h0
    have := Int.emod_lt p h0
    omega
   refine ⟨⟨hp, hq⟩, by rfl, ⟨(q, p % q), (gcd_emod p q).trans hg, hq, Nat.le_trans (dl_mono (Nat.le_of_lt hlt)) hq⟩, Wk.of [0, 1, 2] (by decide) ?_, hlt⟩
   simp only [go_sem]
def kRGcd : Con := con2 pI pI fun x y => (dl x.natAbs ≤ 12000000000000 ∧ dl y.natAbs ≤ 12000000000000, .I (Nat.gcd x.natAbs y.natAbs : Nat))
attribute [go_sem ↓, go_sem] kRGcd
theorem rgcd_C : Ctr Tryz.prog 139 kRGcd := Ctr.c2 (by kernel_rfl) fun x y h => rgcd_V x y h.1 h.2
end Go.Proofs.YtfbogelmgdojgaaGreat


/- Calls that change rows of their caller. No program in sight. -/
namespace Go.Proofs.YtfbogelmgdojgaaGreat
set_option linter.unusedSimpArgs false
set_option linter.unusedVariables false
open Go.RowKit

def hpU : Nat → List Blk → Hp
 | _, [] => fun _ => none
 | i, b :: bs => (hpU (i + 1) bs).up i (some b)
def hpL (bs : List Blk) : Hp := hpU 0 bs
theorem hpU_get : ∀ (bs : List Blk) (i k : Nat), hpU i bs k = if i ≤ k then bs[k - i]? else none
 | [], i, k => by simp [hpU]
 | b :: bs, i, k => by
   simp only [hpU, Hp.up, hpU_get bs]
   by_cases h1 : k = i
   ·subst h1; simp
   ·rw [if_neg h1]
    by_cases h2 : i + 1 ≤ k
    ·rw [if_pos h2, if_pos (by omega), show k - i = (k - (i + 1)) + 1 from by omega]
     simp
    ·rw [if_neg h2, if_neg (by omega)]
theorem hpL_get (bs : List Blk) (k : Nat) : hpL bs k = bs[k]? := by
 unfold hpL
 rw [hpU_get, if_pos (Nat.zero_le _), Nat.sub_zero]
theorem hpL_lt {bs : List Blk} {k : Nat} {x : Blk} (h : hpL bs k = some x) : k < bs.length := by
 rw [hpL_get] at h
 exact (List.getElem?_eq_some_iff.1 h).1
theorem hpL_some {bs : List Blk} {k : Nat} (h : k < bs.length) : ∃ x, hpL bs k = some x := ⟨bs[k], by rw [hpL_get]; exact List.getElem?_eq_getElem h⟩
def MCall (P : Program) (f : FuncId) (args : List V) (bs bs' : List Blk) (r : V) : Prop :=
 ∀ (B : Nat → Prop) (w : World) (ρ : Nat → Option Nat) (vs : List Value), HRep w (own B ρ (hpL bs)) ρ (hpL bs) → (∀ k, bs.length ≤ k → ρ k = none) → (∀ b, B b → b < w.heap.size) → (∀ k x b, hpL bs k = some x → ρ k = some b → ¬ B b) →
  vs.length = args.length → (∀ (j : Nat) (x : V) (v : Value), args[j]? = some x → vs[j]? = some v → RepW w (own B ρ (hpL bs)) ρ x v) →
  Calls P f vs.toArray w fun e w' => ∃ v, e = .returned v ∧ Step (hpL bs) w ρ (hpL bs') w' ρ ∧ HRep w' (own B ρ (hpL bs')) ρ (hpL bs') ∧ RepV w' (own B ρ (hpL bs')) (fun _ => none) r v
def blksAt (H : Hp) : Nat → List Blk → Prop
 | _, [] => True
 | i, b :: bs => H i = some b ∧ blksAt H (i + 1) bs
theorem blksAt_get {H : Hp} : ∀ (bs : List Blk) (i k : Nat) (x : Blk), blksAt H i bs → bs[k]? = some x → H (i + k) = some x
 | [], i, k, x, _, h => by simp at h
 | b :: bs, i, k, x, h, hk => by
   cases k with
   | zero => simp at hk; subst hk; exact h.1
   | succ k =>
     have := blksAt_get bs (i + 1) k x h.2 (by simpa using hk)
     rw [show i + (k + 1) = i + 1 + k from by omega]
     exact this
def retM (P : Program) (rs : List ResultVar) (r : V) (bs : List Blk) : Exit → St → Prop
 | .normal, σ => aResL P σ rs fun xs => argsP σ.H xs fun ys ids => Outs ys r ∧ (∀ i ∈ ids, bs.length ≤ i) ∧ blksAt σ.H 0 bs
 | .ret, σ => aResL P σ rs fun xs => argsP σ.H xs fun ys ids => Outs ys r ∧ (∀ i ∈ ids, bs.length ≤ i) ∧ blksAt σ.H 0 bs
 | _, _ => False
def stM (args : List V) (bs : List Blk) (N : Nat) : St := { s := argS args 0 fun _ => .any, H := hpL bs, n := bs.length, N := N, m := bs.length }
theorem pure_row {l : List V} (h : allPure l) : ∀ y ∈ V.atomsL l, pureA y = true :=
 atomsL_all fun z hz => by have := h z hz; unfold V.pure at this; exact this
def aM (m : Nat) (ρ : Nat → Option Nat) : Nat → Option Nat := fun j => if j % 2 = 0 ∧ j / 2 < m then ρ (j / 2) else none
theorem aM_pin (m : Nat) (ρ : Nat → Option Nat) (k : Nat) : aM m ρ (2 * k) = if k < m then ρ k else none := by
 unfold aM
 rw [Nat.mul_div_cancel_left k (by omega)]
 simp
section
variable {P : Program}
theorem MCall.of_vc {Γ : Tab} {Δ : Gab} (T : Tabs P Γ Δ) {f : FuncId} {fn : Func} {c : Code} {args : List V} {bs bs' : List Blk} {r : V} (hf : P.funcs[f]? = some fn) (hb : fn.body = some c) {N : Nat} (hn : fn.ntmps = N) {rs : Array ResultVar} (hrs : fn.results = rs) (hN : args.length ≤ N)
 (hlen : bs'.length = bs.length) (hpure : ∀ x ∈ bs', allPure x.l) (h : vc P Γ Δ c (retM P rs.toList r bs') (stM args bs N)) : MCall P f args bs bs' r := by
 subst hn hrs
 intro B w ρ vs hH hfr hB hfar hl hr
 refine callsIn_wide.1 (callsIn_of_wp_marks (F := Fence.wide) (n := 0) hf hb trivial ?_)
 have live : ∀ k x b, hpL bs k = some x → ρ k = some b → aM bs.length ρ (2 * k) = some b := fun k x b h1 h2 => by
  rw [aM_pin, if_pos (hpL_lt h1)]; exact h2
 have alive : ∀ j b, aM bs.length ρ j = some b → j / 2 < bs.length ∧ ρ (j / 2) = some b := fun j b e => by
  unfold aM at e
  split at e
  ·rename_i hj; exact ⟨hj.2, e⟩
  ·cases e
 have st : Stat B (aM bs.length ρ) w := ⟨hB, fun k b e => by
  obtain ⟨h1, h2⟩ := alive k b e
  obtain ⟨x, hx⟩ := hpL_some h1
  exact hfar _ x b hx h2⟩
 have hs : Sim B (aM bs.length ρ) w (stM args bs fn.ntmps) { tmps := vs.toArray ++ Array.replicate (fn.ntmps - vs.toArray.size) undef, defers := [] } w ρ := by
  refine ⟨fun _ => rfl, by simp [hl, stM]; omega, fun t => ?_, hH, hfr, fun k x b h1 h2 => .inl ⟨2 * k, live k x b h1 h2⟩, rfl, rfl, rfl, Nat.le_refl _, fun _ _ _ => rfl, fun b arr t fr e => ⟨_, _, _, e, rfl⟩, fun k b e => by have := alive (2 * k) b e; rwa [Nat.mul_div_cancel_left k (by omega)] at this, Marks.nil _ _⟩
  simp only [stM, argS_get, Nat.zero_le, true_and, Nat.zero_add, Nat.sub_zero]
  by_cases ht : t < args.length
  ·rw [if_pos ht]
   have e1 : args[t]? = some args[t] := List.getElem?_eq_getElem ht
   have e2 : vs[t]? = some (vs[t]'(by omega)) := List.getElem?_eq_getElem (by omega)
   have h1 := hr t _ _ e1 e2
   have e3 : (vs.toArray ++ Array.replicate (fn.ntmps - vs.toArray.size) undef).getD t undef = vs[t]'(by omega) := by
    rw [Array.getD_eq_getD_getElem?, Array.getElem?_append_left (by simp; omega)]
    simp [e2]
   rw [e3]
   have e4 : args.getD t .any = args[t] := by simp [List.getD_eq_getElem?_getD, e1]
   rw [e4]
   exact RepV.of_W h1 h1.notTup
  ·rw [if_neg ht]
   exact .inl rfl
 refine wpIn_mono (vc_ok T c _ _ h B _ w st _ w _ hs (r := none)) fun e a' w' hq => ?_
 obtain ⟨σ', ρ', hq, hs'⟩ := hq
 have fin : (aResL P σ' fn.results.toList fun xs => argsP σ'.H xs fun ys ids => Outs ys r ∧ (∀ i ∈ ids, bs'.length ≤ i) ∧ blksAt σ'.H 0 bs') → LeavesInM Fence.wide 0 P fn a'.tmps (fun e w' =>
  ∃ v', e = .returned v' ∧ Step (hpL bs) w ρ (hpL bs') w' ρ ∧ HRep w' (own B ρ (hpL bs')) ρ (hpL bs') ∧ RepV w' (own B ρ (hpL bs')) (fun _ => none) r v') a'.defers .returning w' := fun hq => leaves_of _ _ hs' fun w' hs' => by
  obtain ⟨xs, us, h1, h2, h3, h4⟩ := res_ok (P := P) hs' _ _ hq
  obtain ⟨ys, ids, ⟨h5, h6, h7⟩, h8, h9⟩ := argsP_ok hs'.heap (hs'.hfar st) xs us _ h3 h4 h1
  have at' : ∀ k x, hpL bs' k = some x → σ'.H k = some x ∧ ∃ b, ρ k = some b ∧ ρ' k = some b := fun k x hk => by
   have hk' : bs'[k]? = some x := by rw [← hpL_get]; exact hk
   have g1 := blksAt_get bs' 0 k x h7 hk'
   rw [Nat.zero_add] at g1
   have hlt : k < bs.length := by rw [← hlen]; exact hpL_lt hk
   obtain ⟨x0, hx0⟩ := hpL_some hlt
   obtain ⟨b, arr, e1, _⟩ := hH.row k x0 hx0
   exact ⟨g1, b, e1, (hs'.pins k b (live k x0 b hx0 e1)).2⟩
  have sub : ∀ b, own B ρ (hpL bs') b → own B ρ' (σ'.H.drops ids) b := fun b hb => by
   rcases hb with hb | ⟨k, x, e1, e2⟩
   ·exact .inl hb
   ·obtain ⟨g1, b', g2, g3⟩ := at' k x e1
    rw [g2] at e2; injection e2 with e2; subst e2
    refine .inr ⟨k, x, ?_, g3⟩
    unfold Hp.drops
    rw [if_neg fun hk => by have := h6 k hk; have := hpL_lt e1; omega]
    exact g1
  have sub' : ∀ b, own B ρ (hpL bs') b → own B ρ' σ'.H b := fun b hb => by
   rcases sub b hb with hb | ⟨k, x, e1, e2⟩
   ·exact .inl hb
   ·refine .inr ⟨k, x, ?_, e2⟩
    unfold Hp.drops at e1
    split at e1
    ·cases e1
    ·exact e1
  refine ⟨_, results_run h2, _, rfl, ⟨fun _ _ h => h, fun b hb hn => ?_, fun k x b e1 e2 => ?_, hs'.grow, hs'.row, hs'.os, hs'.tape, hs'.output⟩, ⟨fun k x hk => ?_, fun k k' x x' b e1 e2 e3 e4 => ?_⟩, ?_⟩
  ·refine hs'.same b hb fun j e => ?_
   obtain ⟨g1, g2⟩ := alive j b e
   obtain ⟨x, hx⟩ := hpL_some g1
   exact hn _ x hx g2
  ·obtain ⟨x0, hx0⟩ := hpL_some (bs := bs) (k := k) (by rw [← hlen]; exact hpL_lt e1)
   exact .inl ⟨k, x0, hx0, e2⟩
  ·obtain ⟨g1, b, g2, g3⟩ := at' k x hk
   obtain ⟨b', arr, q1, q2, q3, q4, q5⟩ := hs'.heap.row k x g1
   rw [g3] at q1; injection q1 with q1; subst q1
   refine ⟨b, arr, g2, q2, q3, q4, fun j y u hy hu => ?_⟩
   have hx : x ∈ bs' := by rw [hpL_get] at hk; exact List.mem_of_getElem? hk
   have hp := pure_row (hpure x hx) y (List.mem_of_getElem? hy)
   exact (((q5 j y u hy hu).pureA hp).mono (Ext.less sub')).mono ((Ext.refl _ _ _).into ρ)
  ·obtain ⟨x0, hx0⟩ := hpL_some (bs := bs) (k := k) (by rw [← hlen]; exact hpL_lt e1)
   obtain ⟨x1, hx1⟩ := hpL_some (bs := bs) (k := k') (by rw [← hlen]; exact hpL_lt e2)
   exact hH.inj k k' x0 x1 b hx0 hx1 e3 e4
  ·exact (Outs.rep h5 (by omega) (h9 ids fun _ h => h)).mono (Ext.less sub)
 cases e with
 | normal => exact fin hq
 | ret => exact fin hq
 | exit id => exact hq.elim
 | goto l => exact hq.elim
 | panic c => exact hq.elim
 | outgrown => exact hq.elim
theorem puts_zip : ∀ (θ : List Nat) (bs : List Blk) (H : Hp), θ.Nodup → θ.length = bs.length →
 (∀ (i k : Nat), θ[i]? = some k → H.puts ((θ.zip bs).map fun p => (p.1, some p.2)) k = bs[i]?) ∧ ∀ k, k ∉ θ → H.puts ((θ.zip bs).map fun p => (p.1, some p.2)) k = H k
 | [], bs, H, _, _ => ⟨fun i k h => by simp at h, fun k _ => rfl⟩
 | t :: θ, [], H, _, h => by simp at h
 | t :: θ, b :: bs, H, hnd, hl => by
   obtain ⟨hn1, hn2⟩ := List.nodup_cons.1 hnd
   obtain ⟨h1, h2⟩ := puts_zip θ bs (H.up t (some b)) hn2 (by simpa using hl)
   simp only [List.zip_cons_cons, List.map_cons, Hp.puts]
   refine ⟨fun i k hi => ?_, fun k hk => ?_⟩
   ·cases i with
    | zero =>
      simp at hi
      subst hi
      rw [h2 t hn1]
      simp [Hp.up]
    | succ i => rw [h1 i k (by simpa using hi)]; simp
   ·simp only [List.mem_cons, not_or] at hk
    rw [h2 k hk.2]
    simp [Hp.up, hk.1]
theorem MCall.gcall {f : FuncId} {args args' : List V} {bs bs' : List Blk} {r : V} (h : MCall P f args bs bs' r) (θ : List Nat) (hnd : θ.Nodup) {H : Hp} (hθ : θ.length = bs.length) (hlen : bs'.length = bs.length)
 (hblk : ∀ (i k : Nat), θ[i]? = some k → H k = bs[i]?) (hp : ∀ x ∈ bs, allPure x.l) (hp' : ∀ x ∈ bs', allPure x.l) (ha : args.length = args'.length)
 (hren : ∀ (j : Nat) (x y : V), args[j]? = some x → args'[j]? = some y → RenV θ x y ∧ x.noTup = true) (n : Nat) : GCall P f args' H n r ((θ.zip bs').map fun p => (p.1, some p.2)) := by
 intro B w ρ vs hH hf hB hfar hl hr
 obtain ⟨B0, hB0⟩ : ∃ B0 : Nat → Prop, B0 = fun b => own B ρ H b ∧ ∀ k ∈ θ, ρ k ≠ some b := ⟨_, rfl⟩
 obtain ⟨z1, z2⟩ := puts_zip θ bs' H hnd (by omega)
 obtain ⟨H', hH'⟩ : ∃ H' : Hp, H' = H.puts ((θ.zip bs').map fun p => (p.1, some p.2)) := ⟨_, rfl⟩
 rw [← hH'] at z1 z2 ⊢
 have hlt : ∀ b, own B ρ H b → b < w.heap.size := by
  rintro b (hb | ⟨k, x, h1, h2⟩)
  ·exact hB b hb
  ·exact hH.lt h1 h2
 have idx : ∀ i, i < bs.length → ∃ k, θ[i]? = some k := fun i hi => ⟨θ[i]'(by omega), List.getElem?_eq_getElem (by omega)⟩
 have ownL : ∀ cs : List Blk, cs.length = bs.length → own B0 (renR θ ρ) (hpL cs) = own B ρ H := fun cs hcs => by
  funext b
  refine propext ⟨?_, fun hb => ?_⟩
  ·rintro (hb | ⟨i, x, h1, h2⟩)
   ·rw [hB0] at hb; exact hb.1
   ·obtain ⟨k, hk⟩ := idx i (by rw [← hcs]; exact hpL_lt h1)
    refine .inr ⟨k, bs[i]'(by rw [← hcs]; exact hpL_lt h1), ?_, by simpa [renR, hk] using h2⟩
    rw [hblk i k hk]
    exact List.getElem?_eq_getElem _
  ·by_cases hh : ∃ k ∈ θ, ρ k = some b
   ·obtain ⟨k, hk, e⟩ := hh
    obtain ⟨i, hi⟩ := List.getElem?_of_mem hk
    have hil : i < cs.length := by rw [hcs, ← hθ]; exact (List.getElem?_eq_some_iff.1 hi).1
    obtain ⟨x, hx⟩ := hpL_some hil
    exact .inr ⟨i, x, hx, by simp [renR, hi, e]⟩
   ·refine .inl ?_
    rw [hB0]
    exact ⟨hb, fun k hk e => hh ⟨k, hk, e⟩⟩
 have alive : ∀ k x, H' k = some x → ∃ y, H k = some y := fun k x hk => by
  by_cases hm : k ∈ θ
  ·obtain ⟨i, hi⟩ := List.getElem?_of_mem hm
   have hil : i < bs.length := by rw [← hθ]; exact (List.getElem?_eq_some_iff.1 hi).1
   exact ⟨bs[i], by rw [hblk i k hi]; exact List.getElem?_eq_getElem hil⟩
  ·rw [z2 k hm] at hk; exact ⟨x, hk⟩
 have alive' : ∀ k x, H k = some x → ∃ y, H' k = some y := fun k x hk => by
  by_cases hm : k ∈ θ
  ·obtain ⟨i, hi⟩ := List.getElem?_of_mem hm
   have hil : i < bs'.length := by rw [hlen, ← hθ]; exact (List.getElem?_eq_some_iff.1 hi).1
   exact ⟨bs'[i], by rw [z1 i k hi]; exact List.getElem?_eq_getElem hil⟩
  ·exact ⟨x, by rw [z2 k hm]; exact hk⟩
 have ownH : own B ρ H' = own B ρ H := by
  funext b
  refine propext ⟨?_, ?_⟩
  ·rintro (hb | ⟨k, x, h1, h2⟩)
   ·exact .inl hb
   ·obtain ⟨y, hy⟩ := alive k x h1
    exact .inr ⟨k, y, hy, h2⟩
  ·rintro (hb | ⟨k, x, h1, h2⟩)
   ·exact .inl hb
   ·obtain ⟨y, hy⟩ := alive' k x h1
    exact .inr ⟨k, y, hy, h2⟩
 have low : ∀ i x, hpL bs i = some x → ∃ k, θ[i]? = some k ∧ H k = some x := fun i x hx => by
  obtain ⟨k, hk⟩ := idx i (hpL_lt hx)
  exact ⟨k, hk, by rw [hblk i k hk, ← hpL_get]; exact hx⟩
 have hrep : HRep w (own B0 (renR θ ρ) (hpL bs)) (renR θ ρ) (hpL bs) := by
  rw [ownL bs rfl]
  refine ⟨fun i x hx => ?_, fun i i' x x' b h1 h2 h3 h4 => ?_⟩
  ·obtain ⟨k, hk, hx'⟩ := low i x hx
   obtain ⟨b, arr, q1, q2, q3, q4, q5⟩ := hH.row k x hx'
   refine ⟨b, arr, by simp [renR, hk, q1], q2, q3, q4, fun j y u hy hu => ?_⟩
   have hx2 : x ∈ bs := by rw [hpL_get] at hx; exact List.mem_of_getElem? hx
   exact ((q5 j y u hy hu).pureA (pure_row (hp x hx2) y (List.mem_of_getElem? hy))).mono ((Ext.refl _ _ _).into _)
  ·obtain ⟨k, hk, hx'⟩ := low i x h1
   obtain ⟨k', hk', hx''⟩ := low i' x' h2
   have e := hH.inj k k' x x' b hx' hx'' (by simpa [renR, hk] using h3) (by simpa [renR, hk'] using h4)
   subst e
   obtain ⟨g1, g2⟩ := List.getElem?_eq_some_iff.1 hk
   obtain ⟨g3, g4⟩ := List.getElem?_eq_some_iff.1 hk'
   exact (List.getElem_inj hnd).1 (g2.trans g4.symm)
 refine (h B0 w (renR θ ρ) vs hrep (fun k hk => by simp [renR, List.getElem?_eq_none (by omega : θ.length ≤ k)]) (fun b hb => by rw [hB0] at hb; exact hlt b hb.1) (fun i x b h1 h2 hb => ?_) (by omega) (fun j x v hx hv => ?_)).mono ?_
 ·obtain ⟨k, hk⟩ := idx i (hpL_lt h1)
  rw [hB0] at hb
  exact hb.2 k (List.mem_of_getElem? hk) (by simpa [renR, hk] using h2)
 ·have hj : j < args'.length := by rw [← ha]; exact (List.getElem?_eq_some_iff.1 hx).1
  have hy : args'[j]? = some args'[j] := List.getElem?_eq_getElem hj
  obtain ⟨h1, h2⟩ := hren j x _ hx hy
  have h3 := hr j _ v hy hv
  rw [ownL bs rfl]
  exact ren_atomic h1 (fun l e => by subst e; simp [V.noTup] at h2) (RepV.of_W h3 h3.notTup) (Ext.refl _ _ _)
 ·rintro e w' ⟨v, rfl, s, hr', hv⟩
  rw [ownL bs' hlen] at hr' hv
  have step : Step H w ρ H' w' ρ := by
   refine ⟨fun _ _ h => h, fun b hb hn => ?_, fun k x b h1 h2 => ?_, s.size, s.row, s.os, s.tape, s.output⟩
   ·refine s.same b hb fun i x h1 h2 => ?_
    obtain ⟨k, hk, hx⟩ := low i x h1
    exact hn k x hx (by simpa [renR, hk] using h2)
   ·obtain ⟨y, hy⟩ := alive k x h1
    exact .inl ⟨k, y, hy, h2⟩
  have hx : Ext w (own B ρ H) ρ w' (own B ρ H) ρ := by
   have := step.ext B
   rw [ownH] at this
   exact this
  refine ⟨v, ρ, rfl, step, ?_, fun _ _ h => h, ?_⟩
  ·rw [ownH]
   refine ⟨fun k x hk => ?_, fun k k' x x' b h1 h2 h3 h4 => ?_⟩
   ·by_cases hm : k ∈ θ
    ·obtain ⟨i, hi⟩ := List.getElem?_of_mem hm
     have hk' : hpL bs' i = some x := by rw [hpL_get, ← z1 i k hi]; exact hk
     obtain ⟨b, arr, q1, q2, q3, q4, q5⟩ := hr'.row i x hk'
     refine ⟨b, arr, by simpa [renR, hi] using q1, q2, q3, q4, fun j y u hy hu => ?_⟩
     have hx2 : x ∈ bs' := by rw [hpL_get] at hk'; exact List.mem_of_getElem? hk'
     exact ((q5 j y u hy hu).pureA (pure_row (hp' x hx2) y (List.mem_of_getElem? hy))).mono ((Ext.refl _ _ _).into _)
    ·rw [z2 k hm] at hk
     obtain ⟨b, arr, q1, q2, q3, q4, q5⟩ := hH.row k x hk
     refine ⟨b, arr, q1, ?_, q3, q4, fun j y u hy hu => (q5 j y u hy hu).mono hx⟩
     rw [s.same b (Array.getElem?_eq_some_iff.1 q2).1 fun i y h1 h2 => ?_]
     ·exact q2
     ·obtain ⟨k', hk', hy⟩ := low i y h1
      have e := hH.inj k k' x y b hk hy q1 (by simpa [renR, hk'] using h2)
      subst e
      exact hm (List.mem_of_getElem? hk')
   ·obtain ⟨y, hy⟩ := alive k x h1
    obtain ⟨y', hy'⟩ := alive k' x' h2
    exact hH.inj k k' y y' b hy hy' h3 h4
  ·rw [ownH]
   exact hv.mono ((Ext.refl _ _ _).into ρ)
end
abbrev MCon := List V → Option (List Nat × (List (Option Blk) → Prop × V × List (Nat × Option Blk)))
def MCtr (P : Program) (f : FuncId) (C : MCon) : Prop := callable P f = true ∧ ∀ args θ k (H : Hp) n, C args = some (θ, k) → (k (θ.map H)).1 → GCall P f args H n (k (θ.map H)).2.1 (k (θ.map H)).2.2
def mtb : List (FuncId × MCon) → Gab
 | [], _, _, _, _ => none
 | (g, C) :: l, f, args, H, n => if f = g then (C args).map fun q => ((q.2 (q.1.map H)).1, (q.2 (q.1.map H)).2.1, (q.2 (q.1.map H)).2.2, q.1) else mtb l f args H n
def conM1 (t : TypeId) (e : Nat) (F : List V → Prop × List V × V) : MCon
 | [.ptr k e' 0 0] => if e' = e then some ([k], fun l => match l with
   | [some b] => ((b.t = t ∧ b.e = e ∧ allPure b.l) ∧ (F b.l).1, (F b.l).2.2, [(k, some ⟨t, e, (F b.l).2.1⟩)])
   | _ => (False, .any, [])) else none
 | _ => none
theorem MCtr.one {P : Program} {f : FuncId} {t : TypeId} {e : Nat} {F : List V → Prop × List V × V} (hc : callable P f = true) (h : ∀ l, (F l).1 → allPure (F l).2.1 ∧ MCall P f [.ptr 0 e 0 0] [⟨t, e, l⟩] [⟨t, e, (F l).2.1⟩] (F l).2.2) : MCtr P f (conM1 t e F) := by
 refine ⟨hc, fun args θ k H n hC hp => ?_⟩
 unfold conM1 at hC
 split at hC
 ·rename_i k0 e'
  split at hC
  ·rename_i he
   subst he
   injection hC with hC
   injection hC with h1 h2
   subst h1 h2
   simp only [List.map_cons, List.map_nil] at hp ⊢
   cases hk : H k0 with
   | none => rw [hk] at hp; exact hp.elim
   | some b =>
     rw [hk] at hp
     obtain ⟨bt, be, bl⟩ := b
     obtain ⟨⟨h1, h2, h3⟩, h4⟩ := hp
     simp only at h1 h2 h3 h4
     subst h1 h2
     obtain ⟨g1, g2⟩ := h bl h4
     refine g2.gcall (args' := [.ptr k0 be 0 0]) [k0] (H := H) (by simp) rfl rfl (fun i k hi => ?_) (fun x hx => ?_) (fun x hx => ?_) rfl (fun j x y hx hy => ?_) n
     ·cases i with
      | zero => simp at hi; subst hi; exact hk
      | succ i => simp at hi
     ·simp at hx; subst hx; exact h3
     ·simp at hx; subst hx; exact g1
     ·cases j with
      | zero => simp at hx hy; subst hx hy; exact ⟨⟨rfl, rfl, rfl, rfl⟩, rfl⟩
      | succ j => simp at hx
  ·cases hC
 ·cases hC
attribute [go_sem] mtb.eq_1 mtb.eq_2 hpL hpU.eq_1 hpU.eq_2 blksAt.eq_1 blksAt.eq_2 stM
@[go_sem ↓, go_sem] theorem ev_retM_n {P : Program} {l : List ResultVar} {r : V} {bs : List Blk} {σ : St} : retM P l r bs .normal σ = aResL P σ l fun xs => argsP σ.H xs fun ys ids => Outs ys r ∧ (∀ i ∈ ids, bs.length ≤ i) ∧ blksAt σ.H 0 bs := rfl
@[go_sem ↓, go_sem] theorem ev_retM_r {P : Program} {l : List ResultVar} {r : V} {bs : List Blk} {σ : St} : retM P l r bs .ret σ = aResL P σ l fun xs => argsP σ.H xs fun ys ids => Outs ys r ∧ (∀ i ∈ ids, bs.length ≤ i) ∧ blksAt σ.H 0 bs := rfl
end Go.Proofs.YtfbogelmgdojgaaGreat

