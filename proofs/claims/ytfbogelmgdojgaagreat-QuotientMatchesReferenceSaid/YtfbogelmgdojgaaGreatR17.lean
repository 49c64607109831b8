/- Texts C10 C11 in one. -/
import Derived.Test.YtfbogelmgdojgaaGreatR14
import Derived.Test.YtfbogelmgdojgaaGreatR15
/- Contracts: long (division, method D). -/
namespace Go.Proofs.YtfbogelmgdojgaaGreat
set_option linter.unusedSimpArgs false
set_option linter.unusedVariables false
open Go.RowKit

theorem ldiv_end {a b F q r : Nat} (hF : 0 < F) (hb : 0 < b) (h : a * F = q * (b * F) + r) (hr : r < b * F) : q = a / b ∧ r / F = a % b := by
 have e : q * b * F = q * (b * F) := Nat.mul_assoc _ _ _
 have h1 : r = (a - q * b) * F := by rw [Nat.sub_mul]; omega
 have h2 : q * b ≤ a := Nat.le_of_mul_le_mul_right (by omega) hF
 have h3 : a - q * b < b := by
  rw [h1] at hr
  exact Nat.lt_of_mul_lt_mul_right hr
 have h4 := (Nat.div_mod_unique (a := a) (b := b) (c := a - q * b) (d := q) hb).2 ⟨by rw [Nat.mul_comm b q]; omega, h3⟩
 rw [h1, Nat.mul_div_cancel _ hF]
 exact ⟨h4.1.symm, h4.2.symm⟩
theorem at0_nl : ∀ (n v t : Nat), t < n → at0 (nl n v) t = v / 4294967296 ^ t % 4294967296
 | 0, _, _, h => absurd h (Nat.not_lt_zero _)
 | n + 1, v, 0, _ => by
   show at0 (v % 4294967296 :: nl n (v / 4294967296)) 0 = _
   rw [at0_cons_zero, Nat.pow_zero, Nat.div_one]
 | n + 1, v, t + 1, h => by
   show at0 (v % 4294967296 :: nl n (v / 4294967296)) (t + 1) = _
   rw [at0_cons_succ, at0_nl n _ t (by omega), Nat.div_div_eq_div_mul, Nat.pow_succ, Nat.mul_comm 4294967296]
theorem limb_shift {a0 a1 A K F : Nat} (hK : K * F = 4294967296) (hF : 0 < F) (h0 : a0 < 4294967296) (hK0 : 0 < K) : (a0 + 4294967296 * (a1 + 4294967296 * A)) / K % 4294967296 = a0 / K + a1 * F % 4294967296 ∧ a0 / K < F ∧ a1 * F % 4294967296 % F = 0 := by
 have e1 : (a0 + 4294967296 * (a1 + 4294967296 * A)) / K = a0 / K + F * (a1 + 4294967296 * A) := by
  rw [← hK, Nat.mul_assoc K F, Nat.add_mul_div_left _ _ hK0, hK]
 have h1 : a0 / K < F := by
  rw [Nat.div_lt_iff_lt_mul hK0, Nat.mul_comm]
  omega
 have e2 : a1 * F % 4294967296 = F * (a1 % K) := by
  rw [← hK, Nat.mul_comm K F, Nat.mul_comm a1 F, Nat.mul_mod_mul_left]
 have h2 : F * (a1 % K) + F ≤ 4294967296 := by
  rw [← Nat.mul_succ, ← hK, Nat.mul_comm K F]
  exact Nat.mul_le_mul_left _ (Nat.mod_lt _ hK0)
 refine ⟨?_, h1, by rw [e2]; exact Nat.mul_mod_right _ _⟩
 rw [e1, Nat.mul_add, Nat.mul_left_comm F 4294967296, ← Nat.add_assoc, Nat.add_mul_mod_self_left, Nat.add_mod, Nat.mul_comm F a1, e2]
 rw [Nat.mod_eq_of_lt (show a0 / K < 4294967296 from Nat.lt_of_le_of_lt (Nat.div_le_self _ _) h0)]
 exact Nat.mod_eq_of_lt (by omega)
theorem r_limb {u : List Nat} (hu : Lim u) {k t : Nat} (hk : k < 32) (ht : t ≤ u.length) : lv u / 2 ^ k / 4294967296 ^ t % 4294967296 = at0 u t / 2 ^ k + at0 u (t + 1) * 2 ^ (32 - k) % 4294967296 ∧ at0 u t / 2 ^ k < 2 ^ (32 - k) ∧ at0 u (t + 1) * 2 ^ (32 - k) % 4294967296 % 2 ^ (32 - k) = 0 := by
 have hK : 2 ^ k * 2 ^ (32 - k) = 4294967296 := by rw [← Nat.pow_add, show k + (32 - k) = 32 from by omega]
 have h1 : lv u / 2 ^ k / 4294967296 ^ t = lv (u.drop t) / 2 ^ k := by
  rw [Nat.div_div_eq_div_mul, Nat.mul_comm, ← Nat.div_div_eq_div_mul, lv_take_drop u t ht, Nat.add_mul_div_left _ _ (pow_pos' t), Nat.div_eq_of_lt (take_lt hu t), Nat.zero_add]
 rw [h1, lv_drop u t, lv_drop u (t + 1)]
 exact limb_shift hK (Nat.two_pow_pos _) (hu.at0 t) (Nat.two_pow_pos _)
theorem mkSt_eq {ss : List (Nat × V)} {hs : List (Nat × Bool × Blk)} {n N : Nat} : mkSt ss hs n N = { s := mkS ss, H := mkH hs, n := n, N := N } := rfl
set_option maxRecDepth 4000 in
set_option maxHeartbeats 4000000 in
theorem long_V (l m : List Nat) (hl : Lim l) (hm : Canon m) (h1 : l.length ≤ 14000000000000) (h2 : m.length ≤ l.length) (h3 : 2 ≤ m.length) :
 PCall Tryz.prog 152 [.lst (V.limbs l), .lst (V.limbs m)] (.tup [.lst (V.limbs (nl (l.length + 1 - m.length) (lv l / lv m))), .lst (V.limbs (nl m.length (lv l % lv m)))]) := by
 refine PCall.of_vc (tabsG mixed (tbl_cons lz32_C (tbl_cons add32_C tbl_nil)) (gtb_cons shift_C gtb_nil)) Tryz.func152 rfl Tryz.ntmps152 Tryz.results152 (by simp) ?_
 have e1 : (m.length : Int) - 1 = ((m.length - 1 : Nat) : Int) := by omega
 have e2 : min m.length (m.length + 1) = m.length := by omega
 have e3 : ((l.length + 1 : Nat) : Int) - m.length = ((l.length + 1 - m.length : Nat) : Int) := by omega
 have ht0 : 0 < at0 m (m.length - 1) := Nat.pos_of_ne_zero (hm.2 (by rintro rfl; simp at h3))
 have ht1 := hm.1.at0 (m.length - 1)
 obtain ⟨hb1, hb2, hb3, hb4⟩ := bitLen32 ht1 ht0
 have hk32 : lzN (at0 m (m.length - 1)) < 32 := by unfold lzN; omega
 simp only [go_sem, e1, e2, e3, nl_length]
 generalize lzN (at0 m (m.length - 1)) = k at hb3 hb4 hk32 ⊢
 refine ⟨by omega, by omega, by omega, by omega, ⟨hl, by omega, by omega, by omega⟩, ⟨hm.1, by omega, by omega, by omega⟩, by omega, by rfl, by omega, by omega, by omega, by omega, ?_⟩
 -- the rows: u (l shifted), v (m shifted, one limb more, which is 0), q
 obtain ⟨n, hn⟩ : ∃ n, n = m.length := ⟨_, rfl⟩
 obtain ⟨u0, hu0⟩ : ∃ u, u = nl (l.length + 1) (lv l * 2 ^ k) := ⟨_, rfl⟩
 obtain ⟨v, hv⟩ : ∃ v, v = nl (m.length + 1) (lv m * 2 ^ k) := ⟨_, rfl⟩
 have hul : u0.length = l.length + 1 := by rw [hu0, nl_length]
 have hvl : v.length = n + 1 := by rw [hv, nl_length, hn]
 have hulim : Lim u0 := by rw [hu0]; exact nl_lim _ _
 have hvlim : Lim v := by rw [hv]; exact nl_lim _ _
 have hD := norm_top hm.1 hn (by omega) hk32 (by rw [hn]; exact hb3) (by rw [hn]; exact hb4)
 have hlu : lv u0 = lv l * 2 ^ k := by
  rw [hu0]
  refine lv_nl _ _ ?_
  have := Nat.mul_lt_mul_of_pos_right (lv_lt hl) (Nat.two_pow_pos k)
  refine Nat.lt_of_lt_of_le this ?_
  rw [Nat.pow_succ]
  refine Nat.mul_le_mul_left _ ?_
  have h32 : (2 : Nat) ^ k ≤ 2 ^ 32 := Nat.pow_le_pow_right (by decide) (by omega)
  exact h32
 have hlv : lv v = lv m * 2 ^ k := by
  rw [hv, ← hn]
  exact lv_nl _ _ (Nat.lt_of_lt_of_le hD.1 (pow_le' (by omega)))
 rw [← hlv] at hD
 have hvz := top_zero hvl hD.1
 have hv1 := top_half hvlim hvl (by omega) hD.1 hD.2
 have hst := start_lt hl hulim hul (by omega) (by omega) hk32 hlu hD.2
 rw [← hu0, ← hv, ← hn]
 rw [← hn] at h2 h3 e1 e2 e3 hb3 hb4 ht0 ht1
 refine AWp.loops (X := { x : Nat × List Nat × List Nat // x.1 ≤ l.length + 1 - n ∧ Lim x.2.1 ∧ x.2.1.length = l.length + 1 ∧ Lim x.2.2 ∧ x.2.2.length = l.length + 1 - n ∧ lv u0 = lv x.2.2 * lv v + lv x.2.1 ∧ (∀ j, j < x.1 → at0 x.2.2 j = 0) ∧ lv (x.2.1.drop x.1) < lv v })
  (fun a => mkSt [(4, .sl 2 1 0 (l.length + 1 - n)), (5, .raw (.slice none 0 0)), (6, .raw (.int .i64 (k : Nat))), (7, .sl 0 1 0 (l.length + 1)), (8, .sl 1 1 0 n), (9, .raw (.int .i64 (n : Nat))), (10, .raw (.int .i64 ((a.1.1 : Nat) - 1)))]
   [(0, true, ⟨110, 1, V.limbs a.1.2.1⟩), (1, true, ⟨110, 1, V.limbs v⟩), (2, true, ⟨110, 1, V.limbs a.1.2.2⟩)] 3 254)
  (fun a => a.1.1) ⟨(l.length + 1 - n, u0, List.replicate (l.length + 1 - n) 0), Nat.le_refl _, hulim, hul, Lim.replicate _, by simp, by simp [lv_replicate], fun j _ => at0_replicate _ _, hst⟩ (Wk.of [12, 15, 28] (by decide) ?_) ?_
 ·simp only [go_sem, ← hn]
 ·rintro ⟨⟨i, u, q⟩, hi, hu, hul', hq, hql, hinv, hq0, hlt⟩
  simp only at hi hu hul' hq hql hinv hq0 hlt
  refine vc_at (tabsG mixed (tbl_cons lz32_C (tbl_cons add32_C tbl_nil)) (gtb_cons shift_C gtb_nil)) ?_
  rcases i with _ | i
  ·simp only [go_sem, hul', hvl, hql]
   refine ⟨by omega, ?_⟩
   have hm0 : m ≠ [] := by rintro rfl; simp at hn; omega
   have hpm := lv_pos hm hm0
   rw [List.drop_zero] at hlt
   rw [hlu, hlv] at hinv
   obtain ⟨en1, en2⟩ := ldiv_end (Nat.two_pow_pos k) hpm hinv (by rw [← hlv]; exact hlt)
   have hqn : nl (l.length + 1 - n) (lv l / lv m) = q := (nl_of hq hql en1).symm
   refine AWp.loops (X := { x : Nat × List Nat // x.1 ≤ n ∧ Lim x.2 ∧ x.2.length = n ∧ ∀ t, t < x.1 → at0 x.2 t = lv u / 2 ^ k / 4294967296 ^ t % 4294967296 })
    (fun a => mkSt [(4, .sl 1 1 0 (l.length + 1 - n)), (5, .sl 2 1 0 n), (6, .raw (.int .i64 (k : Nat))), (7, .sl 0 1 0 (l.length + 1)), (227, .raw (.int .i64 (n : Nat))), (228, .raw (.int .i64 (a.1.1 : Nat)))]
     [(0, true, ⟨110, 1, V.limbs u⟩), (1, true, ⟨110, 1, V.limbs q⟩), (2, true, ⟨110, 1, V.limbs a.1.2⟩)] 3 254)
    (fun a => n - a.1.1) ⟨(0, List.replicate n 0), Nat.zero_le _, Lim.replicate _, by simp, fun t ht => absurd ht (Nat.not_lt_zero _)⟩ (Wk.of [0, 2, 6] (by decide) ?_) ?_
   ·simp only [go_sem]
   ·rintro ⟨⟨t, r⟩, ht, hlr, hrl, hrt⟩
    simp only at ht hlr hrl hrt
    refine vc_at (tabsG mixed (tbl_cons lz32_C (tbl_cons add32_C tbl_nil)) (gtb_cons shift_C gtb_nil)) ?_
    have hmx32 : IntKind.u32.max = 4294967295 := by decide
    by_cases htn : t < n
    ·have k1 : (t : Int) < (n : Nat) := by omega
     have k2 : (0 : Int) ≤ t := by omega
     have k4 : (t : Int) + 1 = ((t + 1 : Nat) : Int) := by omega
     have X1 := hu.at0 t
     have X2 := hu.at0 (t + 1)
     obtain ⟨l1, l2, l3⟩ := r_limb hu hk32 (t := t) (by omega)
     have k5 : (at0 u (t + 1) : Int) % 18446744073709551616 = (at0 u (t + 1) : Nat) := by omega
     have k6 : IntKind.u64.wrap ((at0 u (t + 1) : Int) * 4294967296) = (at0 u (t + 1) : Int) * 4294967296 := IntWalk.u64_in _ (by omega)
     have hKF : 2 ^ k * 2 ^ (32 - k) = 4294967296 := by rw [← Nat.pow_add, show k + (32 - k) = 32 from by omega]
     have k7 : (at0 u (t + 1) : Int) * 4294967296 / 2 ^ k = ((at0 u (t + 1) * 2 ^ (32 - k) : Nat) : Int) := by
      have e : at0 u (t + 1) * 4294967296 = at0 u (t + 1) * 2 ^ (32 - k) * 2 ^ k := by rw [← hKF]; ac_rfl
      have e' : (at0 u (t + 1) : Int) * 4294967296 = ((at0 u (t + 1) * 2 ^ (32 - k) * 2 ^ k : Nat) : Int) := by rw [← e, Int.natCast_mul]; rfl
      have e2 : ((2 : Int) ^ k) = ((2 ^ k : Nat) : Int) := by rw [Int.natCast_pow]; rfl
      rw [e', e2, ← Int.natCast_ediv, Nat.mul_div_cancel _ (Nat.two_pow_pos k)]
     obtain ⟨bb, hbb⟩ : ∃ w, w = at0 u (t + 1) * 2 ^ (32 - k) % 4294967296 := ⟨_, rfl⟩
     have k8 : ((at0 u (t + 1) * 2 ^ (32 - k) : Nat) : Int) % 4294967296 = (bb : Nat) := by rw [hbb]; rfl
     obtain ⟨aa, haa⟩ : ∃ w, w = at0 u t / 2 ^ k := ⟨_, rfl⟩
     have k9 : (at0 u t : Int) / 2 ^ k = (aa : Nat) := by
      have e2 : ((2 : Int) ^ k) = ((2 ^ k : Nat) : Int) := by rw [Int.natCast_pow]; rfl
      rw [haa, e2, ← Int.natCast_ediv]
     rw [← hbb, ← haa] at l1
     rw [← haa] at l2
     rw [← hbb] at l3
     have hbl : bb < 4294967296 := by rw [hbb]; exact Nat.mod_lt _ (by decide)
     have k10 := bits_or_u32 aa bb (32 - k) (by omega) l2 l3 hbl
     have hab : aa + bb < 4294967296 := by rw [← l1]; exact Nat.mod_lt _ (by decide)
     have hk0 : (0 : Int) ≤ k := by omega
     have htr : t < r.length := by omega
     have h1u : t < u.length := by omega
     have h2u : t + 1 < u.length := by omega
     have h1u' : t < l.length + 1 := by omega
     have h2u' : t + 1 < l.length + 1 := by omega
     simp only [go_sem, hul', hrl, k1, k2, k4, k5, k6, k7, k8, k9, k10, hk0, htr, h1u', h2u', htn]
     and_intros
     any_goals first | omega | rfl
     refine ⟨⟨(t + 1, r.set t (aa + bb)), htn, hlr.set _ hab, by simpa using hrl, fun t' ht' => ?_⟩, Wk.of [0, 1, 2] (by decide) ?_, by simp only; omega⟩
     ·simp only at ht'
      rw [at0_set htr]
      split
      ·rename_i h9
       rw [h9]
       exact l1.symm
      ·exact hrt t' (by omega)
     ·simp only [go_sem]
    ·have k1 : ¬ (t : Int) < (n : Nat) := by omega
     have htn' : t = n := by omega
     have hrn : nl n (lv l % lv m) = r := by
      refine eq_of_at0 (by rw [nl_length, hrl]) fun t' => ?_
      rcases Nat.lt_or_ge t' n with h | h
      ·rw [at0_nl n _ t' h, hrt t' (by omega), en2]
      ·rw [at0_beyond (by rw [nl_length]; exact h), at0_beyond (by omega)]
     have hqt : q.take (l.length + 1 - n) = q := List.take_of_length_le (by omega)
     have hrt2 : r.take n = r := List.take_of_length_le (by omega)
     simp only [go_sem, hul', hql, hrl, k1, hqn, hrn, hqt, hrt2]
  ·have e4 : ((i + 1 : Nat) : Int) - 1 = i := by omega
   have e5 : (0 : Int) ≤ i := by omega
   have a1 : (i : Int) + n = ((i + n : Nat) : Int) := by omega
   have a2 : ((i + n : Nat) : Int) - 1 = ((i + n - 1 : Nat) : Int) := by omega
   have U1 := hu.at0 (i + n)
   have U2 := hu.at0 (i + n - 1)
   have V1 := hvlim.at0 (n - 1)
   obtain ⟨top, htop⟩ : ∃ T : Nat, T = at0 u (i + n) * 4294967296 + at0 u (i + n - 1) := ⟨_, rfl⟩
   have b1 : (at0 u (i + n) : Int) % 18446744073709551616 = at0 u (i + n) := by omega
   have b2 : (at0 u (i + n - 1) : Int) % 18446744073709551616 = at0 u (i + n - 1) := by omega
   have b3 : (at0 v (n - 1) : Int) % 18446744073709551616 = at0 v (n - 1) := by omega
   have b4 : IntKind.u64.wrap ((at0 u (i + n) : Int) * 4294967296) = (at0 u (i + n) : Int) * 4294967296 := IntWalk.u64_in _ (by omega)
   have b5 : bits BinOp.or IntKind.u64 ((at0 u (i + n) : Int) * 4294967296) (at0 u (i + n - 1) : Int) = (top : Int) := by
    rw [or_shift _ _ (by omega) (by omega) (by omega) (by omega), htop]; omega
   have b6 : (top : Int) / (at0 v (n - 1) : Int) = ((top / at0 v (n - 1) : Nat) : Int) := by simp
   have b7 : (top : Int) % (at0 v (n - 1) : Int) = ((top % at0 v (n - 1) : Nat) : Int) := by simp
   have hmx : IntKind.u64.max = 18446744073709551615 := by decide
   simp only [go_sem, hul', hvl, hql, e1, e4, e5, a1, a2, b1, b2, b3, b4, b5, b6, b7, hmx]
   refine ⟨by omega, by omega, by omega, by omega, by omega, by omega, by omega, by rfl, by omega, by omega, by omega, by omega, by omega, by omega, by omega, by omega, by rfl, ?_⟩
   have V2 := hvlim.at0 (n - 2)
   have U3 := hu.at0 (i + n - 2)
   obtain ⟨kk, hkk⟩ : ∃ kk, n = kk + 2 := ⟨n - 2, by omega⟩
   have hD0 : 0 < lv v := by
    have := pow_pos' (n - 1)
    omega
   have hW : lv (u.drop i) < 4294967296 * lv v := by
    have := lv_drop u i
    have h9 := hu.at0 i
    have := Nat.mul_le_mul_left 4294967296 hlt
    rw [Nat.mul_succ] at this
    omega
   have hWn : lv (u.drop i) < 4294967296 ^ (kk + 3) := by
    have h8 : 4294967296 ^ (kk + 3) = 4294967296 * 4294967296 ^ n := by rw [hkk, Nat.mul_comm, ← Nat.pow_succ]
    have := Nat.mul_lt_mul_of_pos_left hD.1 (show 0 < 4294967296 from by decide)
    omega
   obtain ⟨hwu, hwz⟩ := win_u (i := i) (k := kk) (u := u) (by omega) hWn
   obtain ⟨hwv, hwt⟩ := win_v (v := v) (k := kk) (by omega) (by rw [← hkk]; exact hvz)
   have ea : i + kk + 2 = i + n := by omega
   have eb : i + kk + 1 = i + n - 1 := by omega
   have ec : i + kk = i + n - 2 := by omega
   have ed : kk + 1 = n - 1 := by omega
   have ee : kk = n - 2 := by omega
   rw [ea, eb, ec, ← htop] at hwu
   rw [ed] at hwv
   rw [show at0 v kk = at0 v (n - 2) from by rw [← ee]] at hwv
   have hP := take_lt (hu.drop i) kk
   have hP' := take_lt hvlim kk
   have htl : top < 4294967296 * (at0 v (n - 1) + 1) := by
    rw [hwu, hwv] at hW
    exact g_top hP' V2 hW
   refine AWp.cut (E := fun e τ => e = .exit 2 ∧ ∃ g : Nat, g ≤ 4294967295 ∧ lv (u.drop i) < (g + 1) * lv v ∧ g * lv v ≤ lv (u.drop i) + lv v ∧ τ = mkSt [(4, .sl 2 1 0 (l.length + 1 - n)), (5, .raw (.slice none 0 0)), (6, .raw (.int .i64 (k : Nat))), (7, .sl 0 1 0 (l.length + 1)), (8, .sl 1 1 0 n), (9, .raw (.int .i64 (n : Nat))), (10, .raw (.int .i64 (i : Nat))), (12, .raw (.int .u64 (g : Nat)))]
    [(0, true, ⟨110, 1, V.limbs u⟩), (1, true, ⟨110, 1, V.limbs v⟩), (2, true, ⟨110, 1, V.limbs q⟩)] 3 254) ?_ ?_
   ·refine AWp.loops (X := { x : Nat × Nat // x.1 * at0 v (n - 1) + x.2 = top ∧ x.2 ≤ 4294967295 ∧ lv (u.drop i) < (x.1 + 1) * lv v })
     (fun a => mkSt [(4, .sl 2 1 0 (l.length + 1 - n)), (5, .raw (.slice none 0 0)), (6, .raw (.int .i64 (k : Nat))), (7, .sl 0 1 0 (l.length + 1)), (8, .sl 1 1 0 n), (9, .raw (.int .i64 (n : Nat))), (10, .raw (.int .i64 (i : Nat))), (12, .raw (.int .u64 (a.1.1 : Nat))), (13, .raw (.int .u64 (a.1.2 : Nat)))]
      [(0, true, ⟨110, 1, V.limbs u⟩), (1, true, ⟨110, 1, V.limbs v⟩), (2, true, ⟨110, 1, V.limbs q⟩)] 3 254)
     (fun a => a.1.1) ⟨(top / at0 v (n - 1), top % at0 v (n - 1)), by simp only; rw [Nat.mul_comm]; exact Nat.div_add_mod _ _, by simp only; have := Nat.mod_lt top (show 0 < at0 v (n - 1) from by omega); omega, by simp only; rw [hwu, hwv]; exact g_start hP U3 (by omega)⟩ (Wk.of [0, 1, 2] (by decide) ?_) ?_
    ·simp only [go_sem]
    ·rintro ⟨⟨g, rest⟩, g1, g2, g3⟩
     simp only at g1 g2 g3
     refine vc_at (tabsG mixed (tbl_cons lz32_C (tbl_cons add32_C tbl_nil)) (gtb_cons shift_C gtb_nil)) ?_
     have hgl : g < 18446744073709551616 := by
      have h9 : g * 2147483648 ≤ g * at0 v (n - 1) := Nat.mul_le_mul_left _ hv1
      omega
     have next : 1 ≤ g → lv (u.drop i) < g * lv v → (g - 1) * at0 v (n - 1) + (rest + at0 v (n - 1)) = top := fun h1 _ => by
      have e : (g - 1) * at0 v (n - 1) + at0 v (n - 1) = g * at0 v (n - 1) := by rw [← Nat.succ_mul]; congr 1; omega
      omega
     have fin : ∀ g' rest' : Nat, g' ≤ 4294967295 → g' * at0 v (n - 1) + rest' = top → g' * at0 v (n - 2) ≤ rest' * 4294967296 + at0 u (i + n - 2) → g' * lv v ≤ lv (u.drop i) + lv v := fun g' rest' h1 h2 h3 => by
      rw [hwu, hwv]
      exact est_fin (by omega) hP' (by omega) h2 h3
     have w2 : ((g - 1 : Nat) : Int) % 18446744073709551616 = ((g - 1 : Nat) : Int) := by omega
     have n1 : (n : Int) - 1 = ((n - 1 : Nat) : Int) := by omega
     have n2 : (n : Int) - 2 = ((n - 2 : Nat) : Int) := by omega
     have n3 : ((i + n : Nat) : Int) - 2 = ((i + n - 2 : Nat) : Int) := by omega
     have wr : (rest : Int) + (at0 v (n - 1) : Nat) = ((rest + at0 v (n - 1) : Nat) : Int) := by omega
     by_cases hg : g ≤ 4294967295
     ·have c1 : ¬ 4294967295 < (g : Int) := by omega
      have m1 : (at0 v (n - 2) : Int) % 18446744073709551616 = at0 v (n - 2) := by omega
      have m2 : (at0 u (i + n - 2) : Int) % 18446744073709551616 = at0 u (i + n - 2) := by omega
      have hgv : g * at0 v (n - 2) < 18446744073709551616 := by
       have : g * at0 v (n - 2) ≤ 4294967295 * 4294967295 := Nat.mul_le_mul hg (by omega)
       omega
      have m3 : (g : Int) * (at0 v (n - 2) : Nat) = ((g * at0 v (n - 2) : Nat) : Int) := by push_cast; rfl
      have m4 : IntKind.u64.wrap ((rest : Int) * 4294967296) = (rest : Int) * 4294967296 := IntWalk.u64_in _ (by omega)
      have m5 : bits BinOp.or IntKind.u64 ((rest : Int) * 4294967296) (at0 u (i + n - 2) : Int) = ((rest * 4294967296 + at0 u (i + n - 2) : Nat) : Int) := by
       rw [or_shift _ _ (by omega) (by omega) (by omega) (by omega)]; omega
      by_cases hc : rest * 4294967296 + at0 u (i + n - 2) < g * at0 v (n - 2)
      ·have c2 : ((rest * 4294967296 + at0 u (i + n - 2) : Nat) : Int) < ((g * at0 v (n - 2) : Nat) : Int) := by omega
       have hg1 : 1 ≤ g := by
        rcases Nat.eq_zero_or_pos g with h | h
        ·subst h; simp at hc
        ·exact h
       have hdec : lv (u.drop i) < g * lv v := by
        rw [hwu, hwv]
        exact est_dec hP g1 hc
       have w1 : (g : Int) - 1 = ((g - 1 : Nat) : Int) := by omega
       by_cases hr : rest + at0 v (n - 1) ≤ 4294967295
       ·have c3 : ¬ 4294967295 < ((rest + at0 v (n - 1) : Nat) : Int) := by omega
        simp only [go_sem, hul', hvl, hql, c1, a1, n1, n2, n3, m1, m2, m3, m4, m5, c2, w1, w2, b3, wr, c3, hmx]
        and_intros
        any_goals first | omega | rfl
        refine ⟨⟨(g - 1, rest + at0 v (n - 1)), next (by omega) hdec, hr, ?_⟩, Wk.of [0, 1, 2] (by decide) ?_, by simp only; omega⟩
        ·show lv (u.drop i) < (g - 1 + 1) * lv v
         rw [show g - 1 + 1 = g from by omega]
         exact hdec
        ·simp only [go_sem]
       ·have c3 : 4294967295 < ((rest + at0 v (n - 1) : Nat) : Int) := by omega
        simp only [go_sem, hul', hvl, hql, c1, a1, n1, n2, n3, m1, m2, m3, m4, m5, c2, w1, w2, b3, wr, c3, hmx]
        and_intros
        any_goals first | omega | rfl
        have hnx := next (by omega) hdec
        have hgb : g - 1 ≤ 4294967295 := by
         rcases Nat.lt_or_ge 4294967295 (g - 1) with h | h
         ·have := Nat.mul_le_mul_right (at0 v (n - 1)) (show 4294967296 ≤ g - 1 from h)
          rw [Nat.mul_add] at htl
          omega
         ·exact h
        refine ⟨_, Wk.of [0, 1, 2] (by decide) ?_, g - 1, hgb, ?_, fin _ _ hgb hnx (est_big (by omega) V2 (by omega)), rfl⟩
        ·simp only [go_sem]
        ·rw [show g - 1 + 1 = g from by omega]
         exact hdec
      ·have c2 : ¬ ((rest * 4294967296 + at0 u (i + n - 2) : Nat) : Int) < ((g * at0 v (n - 2) : Nat) : Int) := by omega
       simp only [go_sem, hul', hvl, hql, c1, a1, n1, n2, n3, m1, m2, m3, m4, m5, c2, hmx]
       and_intros
       any_goals first | omega | rfl
       refine ⟨_, Wk.of [0, 1, 2] (by decide) ?_, g, hg, g3, fin _ _ hg g1 (by omega), rfl⟩
       simp only [go_sem]
     ·have c1 : 4294967295 < (g : Int) := by omega
      have w1 : (g : Int) - 1 = ((g - 1 : Nat) : Int) := by omega
      have hdec : lv (u.drop i) < g * lv v := Nat.lt_of_lt_of_le hW (Nat.mul_le_mul_right _ (by omega))
      by_cases hr : rest + at0 v (n - 1) ≤ 4294967295
      ·have c3 : ¬ 4294967295 < ((rest + at0 v (n - 1) : Nat) : Int) := by omega
       simp only [go_sem, hul', hvl, hql, c1, n1, b3, w1, w2, wr, c3, hmx]
       and_intros
       any_goals first | omega | rfl
       refine ⟨⟨(g - 1, rest + at0 v (n - 1)), next (by omega) hdec, hr, ?_⟩, Wk.of [0, 1, 2] (by decide) ?_, by simp only; omega⟩
       ·show lv (u.drop i) < (g - 1 + 1) * lv v
        rw [show g - 1 + 1 = g from by omega]
        exact hdec
       ·simp only [go_sem]
      ·have c3 : 4294967295 < ((rest + at0 v (n - 1) : Nat) : Int) := by omega
       simp only [go_sem, hul', hvl, hql, c1, n1, b3, w1, w2, wr, c3, hmx]
       and_intros
       any_goals first | omega | rfl
       have hnx := next (by omega) hdec
       have hgb : g - 1 ≤ 4294967295 := by
        rcases Nat.lt_or_ge 4294967295 (g - 1) with h | h
        ·have := Nat.mul_le_mul_right (at0 v (n - 1)) (show 4294967296 ≤ g - 1 from h)
         rw [Nat.mul_add] at htl
         omega
        ·exact h
       refine ⟨_, Wk.of [0, 1, 2] (by decide) ?_, g - 1, hgb, ?_, fin _ _ hgb hnx (est_big (by omega) V2 (by omega)), rfl⟩
       ·simp only [go_sem]
       ·rw [show g - 1 + 1 = g from by omega]
        exact hdec
   ·rintro e τ ⟨rfl, g, g1, g2, g3, rfl⟩
    have hkl : i + (kk + 3) ≤ u.length := by omega
    have done : ∀ (u4 : List Nat) (g' : Nat), Lim u4 → u4.length = l.length + 1 → g' < 4294967296 → lv u4 + 4294967296 ^ i * (g' * lv v) = lv u → lv (u4.drop i) < lv v →
     i ≤ l.length + 1 - n ∧ Lim u4 ∧ u4.length = l.length + 1 ∧ Lim (q.set i g') ∧ (q.set i g').length = l.length + 1 - n ∧ lv u0 = lv (q.set i g') * lv v + lv u4 ∧ (∀ j, j < i → at0 (q.set i g') j = 0) ∧ lv (u4.drop i) < lv v := fun u4 g' a1 a2 a3 a4 a5 => by
     have hqi := lv_set (l := q) (i := i) (x := g') (by omega)
     rw [hq0 i (by omega), Nat.mul_zero, Nat.add_zero] at hqi
     refine ⟨by omega, a1, a2, hq.set i a3, by simpa using hql, ?_, fun j hj => by rw [at0_set (by omega), if_neg (by omega)]; exact hq0 j (by omega), a5⟩
     rw [hqi, Nat.add_mul, Nat.mul_assoc]
     omega
    have hmx32 : IntKind.u32.max = 4294967295 := by decide
    rw [mkSt_eq]
    simp only [go_sem, hvl]
    refine AWp.loops (X := { x : Nat × Nat × Nat × List Nat // x.1 ≤ n ∧ x.2.1 < 4294967296 ∧ x.2.2.1 ≤ 1 ∧ Lim x.2.2.2 ∧ x.2.2.2.length = l.length + 1 ∧ x.2.2.2.take i = u.take i ∧ x.2.2.2.drop (i + (kk + 3)) = u.drop (i + (kk + 3)) ∧ (∀ j, i + x.1 ≤ j → at0 x.2.2.2 j = at0 u j) ∧ lv x.2.2.2 + 4294967296 ^ i * g * lv (v.take x.1) = lv u + 4294967296 ^ i * 4294967296 ^ x.1 * (x.2.1 + x.2.2.1) })
     (fun a => mkSt [(4, .sl 2 1 0 (l.length + 1 - n)), (5, .raw (.slice none 0 0)), (6, .raw (.int .i64 (k : Nat))), (7, .sl 0 1 0 (l.length + 1)), (8, .sl 1 1 0 n), (9, .raw (.int .i64 (n : Nat))), (10, .raw (.int .i64 (i : Nat))), (12, .raw (.int .u64 (g : Nat))), (14, .raw (.int .u64 (a.1.2.1 : Nat))), (15, .raw (.int .u64 (a.1.2.2.1 : Nat))), (125, .sl 1 1 0 n), (126, .raw (.int .i64 (n : Nat))), (127, .raw (.int .i64 (a.1.1 : Nat)))]
      [(0, true, ⟨110, 1, V.limbs a.1.2.2.2⟩), (1, true, ⟨110, 1, V.limbs v⟩), (2, true, ⟨110, 1, V.limbs q⟩)] 3 254)
     (fun a => n - a.1.1) ⟨(0, 0, 0, u), Nat.zero_le _, by simp, by simp, hu, hul', rfl, rfl, fun _ _ => rfl, by simp only [List.take_zero, lv_nil]; rw [Nat.mul_zero, Nat.mul_zero]⟩ (Wk.of [0, 1, 2] (by decide) ?_) ?_
    ·simp only [go_sem]
    ·rintro ⟨⟨j, c, b, u'⟩, hj, hc, hb, hlu', hul2, htk, hdr, hrest, hms⟩
     simp only at hj hc hb hlu' hul2 htk hdr hrest hms
     refine vc_at (tabsG mixed (tbl_cons lz32_C (tbl_cons add32_C tbl_nil)) (gtb_cons shift_C gtb_nil)) ?_
     by_cases hjn : j < n
     ·have c1 : (j : Int) < (n : Nat) := by omega
      have c2 : (0 : Int) ≤ j := by omega
      have a5 : (i : Int) + j = ((i + j : Nat) : Int) := by omega
      have a6 : (j : Int) + 1 = ((j + 1 : Nat) : Int) := by omega
      have X1 := hlu'.at0 (i + j)
      have Y1 := hvlim.at0 j
      obtain ⟨x, hx⟩ : ∃ x, x = at0 u' (i + j) := ⟨_, rfl⟩
      obtain ⟨y, hy⟩ : ∃ y, y = at0 v j := ⟨_, rfl⟩
      have hgy : g * y ≤ 4294967295 * 4294967295 := Nat.mul_le_mul g1 (by rw [hy]; omega)
      obtain ⟨T, hT⟩ : ∃ T, T = c + g * y := ⟨_, rfl⟩
      have f1 : (y : Int) % 18446744073709551616 = (y : Nat) := by omega
      have f2 : (g : Int) * (y : Nat) = ((g * y : Nat) : Int) := by push_cast; rfl
      have f3 : (c : Int) + ((g * y : Nat) : Int) = (T : Nat) := by omega
      have f4 : (x : Int) % 18446744073709551616 = (x : Nat) := by omega
      obtain ⟨low, hlow⟩ : ∃ w, w = T % 4294967296 := ⟨_, rfl⟩
      have f5 : (T : Int) % 4294967296 = (low : Nat) := by omega
      have f6 : (low : Int) % 18446744073709551616 = (low : Nat) := by omega
      obtain ⟨e1', he1⟩ : ∃ w, w = (x + 18446744073709551616 - low) % 18446744073709551616 := ⟨_, rfl⟩
      have f7 : ((x : Int) - (low : Nat)) % 18446744073709551616 = (e1' : Nat) := by omega
      obtain ⟨dN, hdN⟩ : ∃ w, w = (x + 18446744073709551616 - low - b) % 18446744073709551616 := ⟨_, rfl⟩
      have f8 : ((e1' : Int) - (b : Nat)) % 18446744073709551616 = (dN : Nat) := by omega
      have f9 : (dN : Int) % 4294967296 = ((dN % 4294967296 : Nat) : Int) := by omega
      have f10 : (dN : Int) / 9223372036854775808 = ((dN / 9223372036854775808 : Nat) : Int) := by omega
      have f11 : (T : Int) / 4294967296 = ((T / 4294967296 : Nat) : Int) := by omega
      have hd : dN % 4294967296 + low + b = x + 4294967296 * (dN / 9223372036854775808) := by omega
      have ht : c + g * y = low + 4294967296 * (T / 4294967296) := by omega
      have hij : i + j < u'.length := by omega
      have hjv : j < v.length := by omega
      have hjv' : j < n + 1 := by omega
      have hij' : i + j < l.length + 1 := by omega
      rw [← hx] at X1
      simp only [go_sem, hul2, hvl, c1, c2, a5, a6, ← hx, ← hy, f1, f2, f3, f4, f5, f6, f7, f8, f9, f10, f11, hmx, hij, hjv, hij', hjv']
      and_intros
      any_goals omega
      have hms2 := lv_set (l := u') (i := i + j) (x := dN % 4294967296) hij
      rw [Nat.pow_add, ← hx] at hms2
      have hst2 := ms_step2 hms hms2 ht hd
      refine ⟨⟨(j + 1, T / 4294967296, dN / 9223372036854775808, u'.set (i + j) (dN % 4294967296)), hjn, by simp only; omega, by simp only; omega, hlu'.set _ (by omega), by simpa using hul2, ?_, ?_, fun t ht => ?_, ?_⟩, Wk.of [0, 1, 2] (by decide) ?_, by simp only; omega⟩
      ·rw [take_set_le _ _ _ _ (by omega)]; exact htk
      ·rw [drop_set_lt _ _ _ _ (by omega)]; exact hdr
      ·simp only at ht
       rw [at0_set hij, if_neg (by omega)]
       exact hrest t (by omega)
      ·show lv (u'.set (i + j) (dN % 4294967296)) + 4294967296 ^ i * g * lv (v.take (j + 1)) = lv u + 4294967296 ^ i * 4294967296 ^ (j + 1) * (T / 4294967296 + dN / 9223372036854775808)
       rw [lv_take_succ', ← hy, Nat.pow_succ]
       exact hst2
      ·simp only [go_sem]
     ·have c1 : ¬ (j : Int) < (n : Nat) := by omega
      obtain rfl : j = n := by omega
      have hvn : lv (v.take j) = lv v := by rw [hkk]; exact hwt
      rw [hvn] at hms
      obtain ⟨x, hx⟩ : ∃ x, x = at0 u' (i + j) := ⟨_, rfl⟩
      have X1 := hlu'.at0 (i + j)
      rw [← hx] at X1
      have hij : i + j < u'.length := by omega
      have hij' : i + j < l.length + 1 := by omega
      have f4 : (x : Int) % 18446744073709551616 = (x : Nat) := by omega
      have f12 : (g : Int) % 4294967296 = (g : Nat) := by omega
      have hmsl := fun d => lv_set (l := u') (i := i + j) (x := d) hij
      rw [Nat.pow_add, ← hx] at hmsl
      by_cases hpos : c + b ≤ x
      ·obtain ⟨d, hd⟩ : ∃ d, d = x - (c + b) := ⟨_, rfl⟩
       have f7 : (((x : Int) - (c : Nat)) % 18446744073709551616 - (b : Nat)) % 18446744073709551616 = (d : Nat) := by omega
       have f9 : (d : Int) % 4294967296 = (d : Nat) := by omega
       have f10 : ((d : Int) / 9223372036854775808 == 1) = false := by
        rw [show (d : Int) / 9223372036854775808 = 0 from by omega]; rfl
       simp only [go_sem, hul2, hvl, hql, c1, a1, ← hx, f4, f7, f9, f10, f12, hij, hij']
       have hep := end_pos hms hpos (by rw [← hd]; exact hmsl d)
       have hW4 : lv ((u'.set (i + j) d).drop i) + g * lv v = lv (u.drop i) + 0 := win_eq (by omega) (by simp [hul2, hul']) (by rw [take_set_le _ _ _ _ (by omega)]; exact htk) (by rw [Nat.mul_zero, Nat.add_zero]; exact hep)
       have hfin := done (u'.set (i + j) d) g (hlu'.set _ (by omega)) (by simpa using hul2) (by omega) hep (by rw [Nat.add_mul, Nat.one_mul] at g2; omega)
       and_intros
       any_goals omega
       refine ⟨⟨(i, u'.set (i + j) d, q.set i g), hfin⟩, Wk.of [0, 1, 2] (by decide) ?_, by simp only; omega⟩
       simp only [go_sem]
      ·obtain ⟨d, hd⟩ : ∃ d, d = x + 4294967296 - (c + b) := ⟨_, rfl⟩
       obtain ⟨dN, hdN⟩ : ∃ w, w = x + 18446744073709551616 - (c + b) := ⟨_, rfl⟩
       have f7 : (((x : Int) - (c : Nat)) % 18446744073709551616 - (b : Nat)) % 18446744073709551616 = (dN : Nat) := by omega
       have f9 : (dN : Int) % 4294967296 = (d : Nat) := by omega
       have f10 : ((dN : Int) / 9223372036854775808 == 1) = true := by
        rw [show (dN : Int) / 9223372036854775808 = 1 from by omega]; rfl
       simp only [go_sem, hul2, hvl, hql, c1, a1, ← hx, f4, f7, f9, f10, f12, hij, hij']
       have hen := end_neg hms (by omega) (by rw [← hd]; exact hmsl d)
       have hM : 4294967296 ^ j * 4294967296 = 4294967296 ^ (kk + 3) := by rw [hkk, ← Nat.pow_succ]
       rw [hM] at hen
       have htk2 : (u'.set (i + j) d).take i = u.take i := by rw [take_set_le _ _ _ _ (by omega)]; exact htk
       have hdr2 : (u'.set (i + j) d).drop (i + (kk + 3)) = u.drop (i + (kk + 3)) := by rw [drop_set_lt _ _ _ _ (by omega)]; exact hdr
       have hlu2 : Lim (u'.set (i + j) d) := hlu'.set _ (by omega)
       have hul3 : (u'.set (i + j) d).length = l.length + 1 := by simpa using hul2
       obtain ⟨u2, hu2⟩ : ∃ w, w = u'.set (i + j) d := ⟨_, rfl⟩
       rw [← hu2] at hen htk2 hdr2 hlu2 hul3
       have hW2 : lv (u2.drop i) + g * lv v = lv (u.drop i) + 4294967296 ^ (kk + 3) := win_eq (by omega) (by omega) htk2 hen
       have hW2l : lv (u2.drop i) < 4294967296 ^ (kk + 3) := win_lt hlu2 (by omega) (by rw [hdr2]; exact hwz)
       have hg1 : 1 ≤ g := by
        rcases Nat.eq_zero_or_pos g with h | h
        ·rw [h] at hW2; omega
        ·exact h
       have w1 : (g : Int) - 1 = ((g - 1 : Nat) : Int) := by omega
       have w2 : ((g - 1 : Nat) : Int) % 18446744073709551616 = ((g - 1 : Nat) : Int) := by omega
       simp only [w1, w2]
       refine ⟨by omega, by omega, by omega, by omega, ?_⟩
       refine AWp.loops (X := { x : Nat × Nat × List Nat // x.1 ≤ j ∧ x.2.1 ≤ 1 ∧ Lim x.2.2 ∧ x.2.2.length = l.length + 1 ∧ x.2.2.take i = u.take i ∧ x.2.2.drop (i + (kk + 3)) = u.drop (i + (kk + 3)) ∧ lv x.2.2 + 4294967296 ^ i * 4294967296 ^ x.1 * x.2.1 = lv u2 + 4294967296 ^ i * lv (v.take x.1) })
        (fun a => mkSt [(4, .sl 2 1 0 (l.length + 1 - j)), (5, .raw (.slice none 0 0)), (6, .raw (.int .i64 (k : Nat))), (7, .sl 0 1 0 (l.length + 1)), (8, .sl 1 1 0 j), (9, .raw (.int .i64 (j : Nat))), (10, .raw (.int .i64 (i : Nat))), (12, .raw (.int .u64 (g - 1 : Nat))), (20, .raw (.int .u32 (a.1.2.1 : Nat))), (186, .sl 1 1 0 j), (187, .raw (.int .i64 (j : Nat))), (188, .raw (.int .i64 (a.1.1 : Nat)))]
         [(0, true, ⟨110, 1, V.limbs a.1.2.2⟩), (1, true, ⟨110, 1, V.limbs v⟩), (2, true, ⟨110, 1, V.limbs q⟩)] 3 254)
        (fun a => j - a.1.1) ⟨(0, 0, u2), Nat.zero_le _, by simp, hlu2, hul3, htk2, hdr2, by simp only [List.take_zero, lv_nil]; rw [Nat.mul_zero, Nat.mul_zero]⟩ (Wk.of [0, 1, 2] (by decide) ?_) ?_
       ·subst hu2
        simp only [go_sem]
       ·rintro ⟨⟨t, cc, u3⟩, ht, hcc, hlu3, hul4, htk3, hdr3, hab⟩
        simp only at ht hcc hlu3 hul4 htk3 hdr3 hab
        refine vc_at (tabsG mixed (tbl_cons lz32_C (tbl_cons add32_C tbl_nil)) (gtb_cons shift_C gtb_nil)) ?_
        by_cases htj : t < j
        ·have k1 : (t : Int) < (j : Nat) := by omega
         have k2 : (0 : Int) ≤ t := by omega
         have k3 : (i : Int) + t = ((i + t : Nat) : Int) := by omega
         have k4 : (t : Int) + 1 = ((t + 1 : Nat) : Int) := by omega
         have X3 := hlu3.at0 (i + t)
         have Y3 := hvlim.at0 t
         obtain ⟨x3, hx3⟩ : ∃ x, x = at0 u3 (i + t) := ⟨_, rfl⟩
         obtain ⟨y3, hy3⟩ : ∃ y, y = at0 v t := ⟨_, rfl⟩
         rw [← hx3] at X3
         rw [← hy3] at Y3
         have hit : i + t < u3.length := by omega
         have hit' : i + t < l.length + 1 := by omega
         have htv : t < j + 1 := by omega
         have k5 : ((x3 : Int) + (y3 : Nat) + (cc : Nat)) % 4294967296 = (((x3 + y3 + cc) % 4294967296 : Nat) : Int) := by omega
         have k6 : ((x3 : Int) + (y3 : Nat) + (cc : Nat)) / 4294967296 = (((x3 + y3 + cc) / 4294967296 : Nat) : Int) := by omega
         simp only [go_sem, hul4, hvl, k1, k2, k3, k4, k5, k6, ← hx3, ← hy3, hit, hit', htv]
         and_intros
         any_goals omega
         have hs3 := lv_set (l := u3) (i := i + t) (x := (x3 + y3 + cc) % 4294967296) hit
         rw [Nat.pow_add, ← hx3] at hs3
         have hst3 := ab_step hab hs3
         refine ⟨⟨(t + 1, (x3 + y3 + cc) / 4294967296, u3.set (i + t) ((x3 + y3 + cc) % 4294967296)), htj, by simp only; omega, hlu3.set _ (Nat.mod_lt _ (by decide)), by simpa using hul4, ?_, ?_, ?_⟩, Wk.of [0, 1, 2] (by decide) ?_, by simp only; omega⟩
         ·rw [take_set_le _ _ _ _ (by omega)]; exact htk3
         ·rw [drop_set_lt _ _ _ _ (by omega)]; exact hdr3
         ·show lv (u3.set (i + t) ((x3 + y3 + cc) % 4294967296)) + 4294967296 ^ i * 4294967296 ^ (t + 1) * ((x3 + y3 + cc) / 4294967296) = lv u2 + 4294967296 ^ i * lv (v.take (t + 1))
          rw [lv_take_succ', ← hy3, Nat.pow_succ]
          exact hst3
         ·simp only [go_sem]
        ·have k1 : ¬ (t : Int) < (j : Nat) := by omega
         have hvt : lv (v.take t) = lv v := by rw [show t = j from by omega, hkk]; exact hwt
         rw [hvt, show t = j from by omega] at hab
         have X3 := hlu3.at0 (i + j)
         obtain ⟨x3, hx3⟩ : ∃ x, x = at0 u3 (i + j) := ⟨_, rfl⟩
         rw [← hx3] at X3
         have hit : i + j < u3.length := by omega
         have k5 : ((x3 : Int) + (cc : Nat)) % 4294967296 = (((x3 + cc) % 4294967296 : Nat) : Int) := by omega
         have k6 : ((g - 1 : Nat) : Int) % 4294967296 = ((g - 1 : Nat) : Int) := by omega
         simp only [go_sem, hul4, hvl, hql, k1, a1, k5, k6, ← hx3, hit, hij']
         and_intros
         any_goals omega
         have hs3 := lv_set (l := u3) (i := i + j) (x := (x3 + 0 + cc) % 4294967296) hit
         rw [Nat.pow_add, ← hx3] at hs3
         have hst3 := ab_step (y := 0) hab hs3
         rw [Nat.mul_zero, Nat.add_zero, Nat.add_zero, Nat.mul_assoc, hM] at hst3
         obtain ⟨u4, hu4⟩ : ∃ w, w = u3.set (i + j) ((x3 + cc) % 4294967296) := ⟨_, rfl⟩
         have htk4 : u4.take i = u.take i := by rw [hu4, take_set_le _ _ _ _ (by omega)]; exact htk3
         have hdr4 : u4.drop (i + (kk + 3)) = u.drop (i + (kk + 3)) := by rw [hu4, drop_set_lt _ _ _ _ (by omega)]; exact hdr3
         have hlu4 : Lim u4 := by rw [hu4]; exact hlu3.set _ (Nat.mod_lt _ (by decide))
         have hul5 : u4.length = l.length + 1 := by rw [hu4]; simpa using hul4
         rw [← hu4] at hst3
         have hW4 := win_eq (u := u2) (u' := u4) (i := i) (by omega) (by omega) (by rw [htk4, htk2]) hst3
         have hW4l : lv (u4.drop i) < 4294967296 ^ (kk + 3) := win_lt hlu4 (by omega) (by rw [hdr4]; exact hwz)
         have hDM : lv v ≤ 4294967296 ^ (kk + 3) := Nat.le_trans (Nat.le_of_lt hD.1) (pow_le' (by omega))
         obtain ⟨_, ab1, ab2⟩ := add_back hW2 hW4 hW4l hW2l g3 hD0 hDM
         have hfull : lv u4 + 4294967296 ^ i * ((g - 1) * lv v) = lv u := by
          have z1 := lv_take_drop u4 i (by omega)
          have z2 := lv_take_drop u i (by omega)
          rw [htk4] at z1
          rw [z1, z2, ← ab1, Nat.mul_add]
          omega
         have hfin := done u4 (g - 1) hlu4 hul5 (by omega) hfull ab2
         refine ⟨⟨(i, u4, q.set i (g - 1)), hfin⟩, Wk.of [0, 1, 2] (by decide) ?_, by simp only; omega⟩
         subst hu4
         simp only [go_sem]
end Go.Proofs.YtfbogelmgdojgaaGreat


/- Contracts: DivMod and Gcd for all sizes. -/
namespace Go.Proofs.YtfbogelmgdojgaaGreat
set_option linter.unusedSimpArgs false
set_option linter.unusedVariables false
open Go.RowKit

theorem longTo (N : Nat) : LongTo N := fun l m hl hm h1 h2 h3 _ => long_V l m hl hm h1 h2 h3
def kDivModA : Con := con2 pI pI fun x y => (dl x.natAbs ≤ 12000000000000 ∧ dl y.natAbs ≤ 12000000000000, dmR x y)
attribute [go_sem ↓, go_sem] kDivModA
theorem divModA_C : Ctr Tryz.prog 128 kDivModA := Ctr.c2 (by kernel_rfl) fun x y h => divMod_V (longTo (dl y.natAbs)) x y h.1 h.2 (Nat.le_refl _)
def kGcdA : Con := con2 pI pI fun x y => (dl x.natAbs ≤ 12000000000000 ∧ dl y.natAbs ≤ 12000000000000, .I (Nat.gcd x.natAbs y.natAbs : Nat))
attribute [go_sem ↓, go_sem] kGcdA
theorem gcdA_C : Ctr Tryz.prog 126 kGcdA := Ctr.c2 (by kernel_rfl) fun x y h => gcd_V (longTo (dl y.natAbs)) x y h.1 h.2 (Nat.le_refl _)
end Go.Proofs.YtfbogelmgdojgaaGreat

