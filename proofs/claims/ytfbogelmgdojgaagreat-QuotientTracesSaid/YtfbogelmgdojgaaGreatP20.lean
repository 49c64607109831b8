/- Texts E3 E4 E5 in one. -/
import Derived.Test.YtfbogelmgdojgaaGreatP19
/- Contracts of the reference: short, Pow, Valid, Small. -/
namespace Go.Proofs.YtfbogelmgdojgaaGreat
set_option linter.unusedSimpArgs false
set_option linter.unusedVariables false
open Go.RowKit

theorem rshort_V (l : List Nat) (d : Nat) (hl : Lim l) (h1 : l.length ≤ 10000000000000) (hd0 : 1 ≤ d) (hd : d < 4294967296) :
    PCall Tryz.prog 155 [.lst (V.limbs l), .raw (.int .u32 (d : Nat))] (.tup [.lst (V.limbs (nl l.length (lv l / d))), .raw (.int .u32 ((lv l % d : Nat) : Int))]) := by
  refine PCall.of_vc (tabs mixed tbl_nil) Tryz.func155 rfl Tryz.ntmps155 Tryz.results155 (by simp) ?_
  simp only [go_sem]
  and_intros
  any_goals omega
  refine AWp.loops (X := { x : Nat × Nat × List Nat // x.1 ≤ l.length ∧ x.2.1 < d ∧ Lim x.2.2 ∧ x.2.2.length = l.length ∧ lv (l.drop x.1) = lv (x.2.2.drop x.1) * d + x.2.1 })
    (fun a => mkSt [(0, .lst (V.limbs l)), (1, .raw (.int .u32 (d : Nat))), (6, .sl 0 1 0 l.length), (7, .raw (.int .u64 (a.1.2.1 : Nat))), (8, .raw (.int .i64 ((a.1.1 : Nat) - 1)))] [(0, true, ⟨110, 1, V.limbs a.1.2.2⟩)] 1 42)
    (fun a => a.1.1) ⟨(l.length, 0, List.replicate l.length 0), Nat.le_refl _, hd0, Lim.replicate _, by simp, by rw [List.drop_length, List.drop_eq_nil_of_le (by simp)]; simp [lv]⟩ (Wk.of [4] (by decide) ?_) ?_
  · simp only [go_sem]
  · rintro ⟨⟨k, rest, r⟩, hk, hrest, hr, hrl, hv⟩
    simp only at hk hrest hr hrl hv
    refine vc_at (tabs mixed tbl_nil) ?_
    rcases k with _ | k
    · rw [List.drop_zero, List.drop_zero] at hv
      have q1 : lv l % d = rest := by rw [hv, Nat.add_comm, Nat.add_mul_mod_self_right, Nat.mod_eq_of_lt hrest]
      have q2 : lv r = lv l / d := by rw [hv, Nat.add_comm, Nat.add_mul_div_right _ _ hd0, Nat.div_eq_of_lt hrest, Nat.zero_add]
      have q3 : (rest : Int) % 4294967296 = (rest : Int) := by omega
      simp only [go_sem, hrl, q3, List.take_of_length_le (Nat.le_of_eq hrl)]
      rw [← nl_of hr hrl q2, q1]
      exact ⟨.refl _, .refl _⟩
    · have e1 : ((k + 1 : Nat) : Int) - 1 = k := by omega
      have e2 : (0 : Int) ≤ k := by omega
      have l1 := hl.at0 k
      obtain ⟨T, hT⟩ : ∃ T : Nat, T = rest * 4294967296 + at0 l k := ⟨_, rfl⟩
      have hTI : (rest : Int) * 4294967296 + (at0 l k : Int) = (T : Int) := by rw [hT]; simp
      obtain ⟨Q, hQ⟩ : ∃ Q : Nat, Q = T / d := ⟨_, rfl⟩
      obtain ⟨R, hR⟩ : ∃ R : Nat, R = T % d := ⟨_, rfl⟩
      have hQI : (T : Int) / (d : Int) = (Q : Int) := by rw [hQ]; simp
      have hRI : (T : Int) % (d : Int) = (R : Int) := by rw [hR]; simp
      have hQb : Q < 4294967296 := by
        rw [hQ]
        apply Nat.div_lt_of_lt_mul
        have h3 : rest * 4294967296 + 4294967296 ≤ d * 4294967296 := by
          have : rest + 1 ≤ d := hrest
          have := Nat.mul_le_mul_right 4294967296 this
          omega
        omega
      have hRb : R < d := by rw [hR]; exact Nat.mod_lt _ hd0
      have hTb : T < 18446744073709551616 := by omega
      have hTd : T = Q * d + R := by rw [hQ, hR, Nat.mul_comm]; exact (Nat.div_add_mod T d).symm
      have a2 : (at0 l k : Int) % 18446744073709551616 = at0 l k := by omega
      have a3 : (d : Int) % 18446744073709551616 = d := by omega
      have a4 : (Q : Int) % 4294967296 = Q := by omega
      have a5 : ¬ ((d : Int) = 0) := by omega
      simp only [go_sem, e1, e2, hrl, a2, a3, hTI, hQI, hRI, a4, a5]
      have hmx : IntKind.u64.max = 18446744073709551615 := by decide
      rw [hmx]
      and_intros
      any_goals omega
      refine ⟨⟨(k, R, r.set k Q), by omega, hRb, hr.set _ hQb, by simp [hrl], ?_⟩, Wk.of [0] (by decide) ?_, Nat.lt_succ_self k⟩
      · show lv (l.drop k) = lv ((r.set k Q).drop k) * d + R
        rw [lv_drop_set _ (by omega), lv_drop, hv, Nat.add_mul, Nat.mul_add, Nat.mul_assoc]
        omega
      · simp only [go_sem, hrl]
theorem rshort_C : Ctr Tryz.prog 155 kShort := Ctr.c2 (by kernel_rfl) fun l d h => by
  obtain ⟨h1, h2, h3, h4⟩ := h
  have := rshort_V l d.toNat h1 h2 (by omega) (by omega)
  rw [show ((d.toNat : Nat) : Int) = d from by omega] at this
  exact this
end Go.Proofs.YtfbogelmgdojgaaGreat

/- Contracts of the reference: Mul, Pow. -/
namespace Go.Proofs.YtfbogelmgdojgaaGreat
set_option linter.unusedSimpArgs false
set_option linter.unusedVariables false
open Go.RowKit

def kRMul : Con := con2 pI pI fun x y => (dl x.natAbs ≤ 4000000000000 ∧ dl y.natAbs ≤ 4000000000000, .I (x * y))
attribute [go_sem ↓, go_sem] kRMul
set_option maxRecDepth 8000 in
set_option maxHeartbeats 1000000 in
theorem rmul_C : Ctr Tryz.prog 83 kRMul := Ctr.c2 (by kernel_rfl) fun x y h => by
  obtain ⟨h1, h2⟩ := h
  obtain ⟨s, l, hz, hl, hs, e1, e2, e3⟩ := sv_open x
  obtain ⟨t, m, hz', hm, ht, f1, f2, f3⟩ := sv_open y
  refine PCall.of_vc (tabs mixed (tbl_cons rmade_C tbl_nil)) Tryz.func83 rfl Tryz.ntmps83 Tryz.results83 (by simp) ?_
  have e4 : (l.length : Int) + m.length = ((l.length + m.length : Nat) : Int) := by omega
  have e5 : ((l.length + m.length : Nat) : Int) + 1 = ((l.length + m.length + 1 : Nat) : Int) := by omega
  have hlen : l.length ≤ 4000000000000 ∧ m.length ≤ 4000000000000 := by omega
  simp only [go_sem, e1, e2, f1, f2, e4, e5]
  and_intros
  any_goals omega
  refine AWp.loops (X := { x : Nat × List Nat // x.1 ≤ l.length ∧ Lim x.2 ∧ x.2.length = l.length + m.length + 1 ∧ lv x.2 = lv (l.take x.1) * lv m ∧ ∀ j, x.1 + m.length ≤ j → at0 x.2 j = 0 })
    (fun a => mkSt [(2, .ptr 0 2 0 0), (3, .ptr 1 2 0 0), (4, .ptr 2 2 0 0), (5, .sl 3 1 0 (l.length + m.length + 1)), (6, .raw (.int .i64 (a.1.1 : Nat)))]
      [(0, true, ⟨43, 2, [.I x]⟩), (1, true, ⟨43, 2, [.I y]⟩), (2, true, ⟨43, 2, [.agg [.raw (.bool false), .raw (.slice none 0 0)]]⟩), (3, true, ⟨110, 1, V.limbs a.1.2⟩)] 4 81)
    (fun a => l.length - a.1.1) ⟨(0, List.replicate (l.length + m.length + 1) 0), Nat.zero_le _, Lim.replicate _, by simp, by simp [lv, lv_replicate], fun j _ => at0_replicate _ _⟩ (Wk.of [0, 1, 2, 11] (by decide) ?_) ?_
  · simp only [go_sem]
  · rintro ⟨⟨i, r⟩, hi, hr, hrl, hv, h0⟩
    simp only at hi hr hrl hv h0
    refine vc_at (tabs mixed (tbl_cons rmade_C tbl_nil)) ?_
    by_cases h : i < l.length
    · have g1 : (i : Int) < l.length := by omega
      simp only [go_sem, e1, e2, f1, f2, g1]
      have l1 := hl.1.at0 i
      refine AWp.loops (X := { x : Nat × Nat × List Nat // x.1 ≤ m.length + 1 ∧ x.2.1 < 4294967296 ∧ (x.1 = m.length + 1 → x.2.1 = 0) ∧ Lim x.2.2 ∧ x.2.2.length = l.length + m.length + 1 ∧ lv x.2.2 + 4294967296 ^ i * 4294967296 ^ x.1 * x.2.1 = lv (l.take i) * lv m + 4294967296 ^ i * (at0 l i * lv (m.take x.1)) ∧ (∀ j, i + m.length + 1 ≤ j → at0 x.2.2 j = 0) ∧ (x.1 ≤ m.length → at0 x.2.2 (i + m.length) = 0) })
        (fun a => mkSt [(2, .ptr 0 2 0 0), (3, .ptr 1 2 0 0), (4, .ptr 2 2 0 0), (5, .sl 3 1 0 (l.length + m.length + 1)), (6, .raw (.int .i64 (i : Nat))), (7, .raw (.int .u64 (a.1.2.1 : Nat))), (8, .raw (.int .i64 (a.1.1 : Nat)))]
          [(0, true, ⟨43, 2, [.I x]⟩), (1, true, ⟨43, 2, [.I y]⟩), (2, true, ⟨43, 2, [.agg [.raw (.bool false), .raw (.slice none 0 0)]]⟩), (3, true, ⟨110, 1, V.limbs a.1.2.2⟩)] 4 81)
        (fun a => m.length + 1 - a.1.1) ⟨(0, 0, r), Nat.zero_le _, by simp, by simp, hr, hrl, by simp [lv, hv], fun j hj => h0 j (by omega), fun _ => h0 _ (Nat.le_refl _)⟩ (Wk.of [0, 1, 2, 3] (by decide) ?_) ?_
      · simp only [go_sem]
      · rintro ⟨⟨k, cr, r'⟩, hk, hcr, hck, hr', hrl', hv', h0', hz0⟩
        simp only at hk hcr hck hr' hrl' hv' h0' hz0
        refine vc_at (tabs mixed (tbl_cons rmade_C tbl_nil)) ?_
        have o1 := hr'.at0 (i + k)
        have a3 : (at0 r' (i + k) : Int) % 18446744073709551616 = at0 r' (i + k) := by omega
        have a4 : (i : Int) + k = ((i + k : Nat) : Int) := by omega
        have a7 : (k : Int) + 1 = ((k + 1 : Nat) : Int) := by omega
        have hmx : IntKind.u64.max = 18446744073709551615 := by decide
        have a8 : (i : Int) + 1 = ((i + 1 : Nat) : Int) := by omega
        by_cases hkm : k < m.length
        · have e6 : (k : Int) < m.length := by omega
          have m1 := hm.1.at0 k
          have hb1 := mulb _ _ _ _ l1 m1 hcr o1
          obtain ⟨p, hp⟩ : ∃ p : Nat, p = at0 l i * at0 m k := ⟨_, rfl⟩
          have hpI : ((at0 l i : Int) * (at0 m k : Int)) = (p : Int) := by rw [hp]; simp
          rw [← hp] at hb1
          obtain ⟨T, hT⟩ : ∃ T : Nat, T = cr + (p + at0 r' (i + k)) := ⟨_, rfl⟩
          have hTI : (cr : Int) + (at0 r' (i + k) : Int) + (p : Int) = (T : Int) := by rw [hT]; simp; omega
          rw [← hT] at hb1
          have a1 : (at0 l i : Int) % 18446744073709551616 = at0 l i := by omega
          have a2 : (at0 m k : Int) % 18446744073709551616 = at0 m k := by omega
          have a5 : (T : Int) % 4294967296 = ((T % 4294967296 : Nat) : Int) := by omega
          have a6 : (T : Int) / 4294967296 = ((T / 4294967296 : Nat) : Int) := by omega
          have hlt' : i + k < r'.length := by omega
          simp only [go_sem, e1, e2, f1, f2, e6, hrl', a1, a2, a3, a4, hpI, hTI, a5, a6, a7, hmx]
          and_intros
          any_goals omega
          · rfl
          have hT2 : T / 4294967296 < 4294967296 := by omega
          refine ⟨⟨(k + 1, T / 4294967296, r'.set (i + k) (T % 4294967296)), by simp only; omega, hT2, by simp only; omega, hr'.set _ (by omega), by simp [hrl'], ?_, fun j hj => by rw [at0_set hlt', if_neg (by omega)]; exact h0' j hj, fun h9 => by simp only at h9; rw [at0_set hlt', if_neg (by omega)]; exact hz0 (by omega)⟩, Wk.of [0, 1, 2, 3] (by decide) ?_, by simp only; omega⟩
          · have hs := lv_set (l := r') (i := i + k) (x := T % 4294967296) hlt'
            rw [Nat.pow_add] at hs
            rw [Nat.pow_succ, mul_step hv' hT hs, hp, lv_take_succ', Nat.mul_add (at0 l i), Nat.mul_add, Nat.mul_left_comm (at0 l i)]
          · simp only [go_sem, hrl']
        · have e6 : ¬ (k : Int) < m.length := by omega
          by_cases hc0 : 0 < cr
          · have e7 : 0 < (cr : Int) := by omega
            obtain rfl : k = m.length := by
              rcases Nat.lt_or_ge k (m.length + 1) with h | h
              · omega
              · have := hck (by omega); omega
            have hz := hz0 (Nat.le_refl _)
            have hlt' : i + m.length < r'.length := by omega
            have b1 : (cr : Int) + (at0 r' (i + m.length) : Int) = (cr : Nat) := by rw [hz]; simp
            have b2 : (cr : Int) % 4294967296 = (cr : Nat) := by omega
            have b3 : (cr : Int) / 4294967296 = ((0 : Nat) : Int) := by omega
            simp only [go_sem, e1, e2, f1, f2, e6, e7, hrl', a3, a4, b1, b2, b3, a7, hmx]
            and_intros
            any_goals omega
            refine ⟨⟨(m.length + 1, 0, r'.set (i + m.length) cr), Nat.le_refl _, by simp, by simp, hr'.set _ hcr, by simp [hrl'], ?_, fun j hj => by rw [at0_set hlt', if_neg (by omega)]; exact h0' j hj, fun h9 => by simp only at h9; omega⟩, Wk.of [0, 1, 2, 3] (by decide) ?_, by simp only; omega⟩
            · have hs := lv_set (l := r') (i := i + m.length) (x := cr) hlt'
              rw [hz, Nat.mul_zero, Nat.add_zero, Nat.pow_add] at hs
              have e9 : m.take (m.length + 1) = m := List.take_of_length_le (Nat.le_succ _)
              rw [List.take_length] at hv'
              show lv (r'.set (i + m.length) cr) + 4294967296 ^ i * 4294967296 ^ (m.length + 1) * 0 = lv (List.take i l) * lv m + 4294967296 ^ i * (at0 l i * lv (m.take (m.length + 1)))
              rw [Nat.mul_zero, Nat.add_zero, e9, hs]
              exact hv'
            · simp only [go_sem, hrl']
          · have e7 : ¬ 0 < (cr : Int) := by omega
            obtain rfl : cr = 0 := by omega
            simp only [go_sem, e1, e2, f1, f2, e6, e7, a8]
            rw [Nat.mul_zero, Nat.add_zero, List.take_of_length_le (l := m) (by omega)] at hv'
            refine ⟨by omega, ⟨(i + 1, r'), h, hr', hrl', ?_, fun j hj => h0' j (by simp only at hj; omega)⟩, Wk.of [0, 1, 2, 3] (by decide) ?_, by simp only; omega⟩
            · simp only
              rw [hv', lv_take_succ', Nat.add_mul, Nat.mul_assoc]
            · simp only [go_sem, hrl']
    · have g1 : ¬ (i : Int) < l.length := by omega
      have hil : i = l.length := by omega
      subst hil
      rw [List.take_length] at hv
      simp only [go_sem, e1, e2, f1, f2, g1, hrl, List.take_of_length_le (Nat.le_of_eq hrl)]
      refine ⟨⟨hr, by omega⟩, out_II ?_⟩
      have e : sv (s != t) l * (lv m : Int) = sv (s != t) r := by unfold sv; rw [hv]; split <;> simp [Int.natCast_mul, Int.neg_mul]
      rw [← e, hz, hz']
      cases s <;> cases t <;> simp [sv, Int.neg_mul, Int.mul_neg]
end Go.Proofs.YtfbogelmgdojgaaGreat

/- Contracts of the reference: Small, Pow. -/
namespace Go.Proofs.YtfbogelmgdojgaaGreat
set_option linter.unusedSimpArgs false
set_option linter.unusedVariables false
open Go.RowKit

/-- The number that the reference's Small gives. -/
def rsmV (z : Int) : Int := if dl z.natAbs ≤ 2 then IntKind.i64.wrap z else 0
theorem rsmV_ok {z : Int} (h : smallB z = true) : rsmV z = z := by
  unfold smallB at h
  simp at h
  unfold rsmV
  rw [if_pos (dl_le.2 (by omega)), IntWalk.i64_in _ (by omega)]
theorem wi64 (z : Int) : IntKind.i64.wrap z = (z + 9223372036854775808) % 18446744073709551616 - 9223372036854775808 := by
  simp only [IntKind.wrap, IntKind.bits, IntKind.signed]
  simp
  omega
theorem wi64_neg (m : Int) : (if IntKind.i64.wrap m = -9223372036854775808 then IntKind.i64.wrap m else -IntKind.i64.wrap m) = IntKind.i64.wrap (-m) := by
  rw [wi64, wi64]
  split <;> omega
theorem wi64_range (m : Int) : -9223372036854775808 ≤ IntKind.i64.wrap m ∧ IntKind.i64.wrap m ≤ 9223372036854775807 := by
  rw [wi64]; omega
def kRSmall : Con := con1 pI fun z => (True, .tup [.raw (.int .i64 (rsmV z)), .raw (.bool (smallB z))])
attribute [go_sem ↓, go_sem] kRSmall
end Go.Proofs.YtfbogelmgdojgaaGreat
