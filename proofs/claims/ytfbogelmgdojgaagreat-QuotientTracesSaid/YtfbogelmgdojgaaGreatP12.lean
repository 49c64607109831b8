/- Texts C6 in one. -/
import Derived.Test.YtfbogelmgdojgaaGreatP11
/- Contracts: Of, Small, Mul. -/
namespace Go.Proofs.YtfbogelmgdojgaaGreat
set_option linter.unusedSimpArgs false
set_option linter.unusedVariables false
open Go.RowKit

def kOf : Con := con1 (pN .i64) fun n => (-9223372036854775808 ≤ n ∧ n ≤ 9223372036854775807, .I n)
attribute [go_sem ↓, go_sem] kOf
theorem of_C : Ctr Tryz.prog 98 kOf := Ctr.c1 (by kernel_rfl) fun n h => by
  obtain ⟨h1, h2⟩ := h
  refine PCall.of_vc (tabs mixed (tbl_cons norm_C tbl_nil)) Tryz.func98 rfl Tryz.ntmps98 Tryz.results98 (by simp) ?_
  have p1 : ((n.natAbs : Nat) : Int) % 4294967296 = ((n.natAbs % 4294967296 : Nat) : Int) := by omega
  have p2 : ((n.natAbs : Nat) : Int) / 4294967296 % 4294967296 = ((n.natAbs / 4294967296 % 4294967296 : Nat) : Int) := by omega
  have hb : Lim [n.natAbs % 4294967296, n.natAbs / 4294967296 % 4294967296] := lim_two (by omega) (by omega)
  have hv : lv [n.natAbs % 4294967296, n.natAbs / 4294967296 % 4294967296] = n.natAbs := by rw [lv_two]; omega
  by_cases hn : n < 0
  · have w1 : IntKind.u64.wrap (0 - n % 18446744073709551616) = ((n.natAbs : Nat) : Int) := by
      rw [IntKind.wrap_u64]; omega
    simp only [go_sem, hn, w1, p1, p2]
    exact ⟨hb, out_II (by rw [sv_true, hv]; omega)⟩
  · have w1 : n % 18446744073709551616 = ((n.natAbs : Nat) : Int) := by omega
    simp only [go_sem, hn, w1, p1, p2]
    exact ⟨hb, out_II (by rw [sv_false, hv]; omega)⟩
def kMul : Con := con2 pI pI fun x y => (dl x.natAbs ≤ 4000000000000 ∧ dl y.natAbs ≤ 4000000000000, .I (x * y))
attribute [go_sem ↓, go_sem] kMul
theorem mul_C : Ctr Tryz.prog 132 kMul := Ctr.c2 (by kernel_rfl) fun x y h => by
  obtain ⟨h1, h2⟩ := h
  obtain ⟨s, l, hz, hl, hs, e1, e2, e3⟩ := sv_open x
  obtain ⟨t, m, hz', hm, ht, f1, f2, f3⟩ := sv_open y
  refine PCall.of_vc (tabs mixed (tbl_cons norm_C tbl_nil)) Tryz.func132 rfl Tryz.ntmps132 Tryz.results132 (by simp) ?_
  have e4 : (l.length : Int) + m.length = ((l.length + m.length : Nat) : Int) := by omega
  have hlen : l.length ≤ 4000000000000 ∧ m.length ≤ 4000000000000 := by omega
  simp only [go_sem, e1, e2, f1, f2, e4]
  and_intros
  any_goals omega
  refine AWp.loops (X := { x : Nat × List Nat // x.1 ≤ l.length ∧ Lim x.2 ∧ x.2.length = l.length + m.length ∧ lv x.2 = lv (l.take x.1) * lv m ∧ ∀ j, x.1 + m.length ≤ j → at0 x.2 j = 0 })
    (fun a => mkSt [(2, .ptr 0 2 0 0), (3, .ptr 1 2 0 0), (4, .ptr 2 2 0 0), (5, .sl 3 1 0 (l.length + m.length)), (20, .lst (V.limbs l)), (21, .raw (.int .i64 (l.length : Nat))), (22, .raw (.int .i64 (a.1.1 : Nat)))]
      [(0, true, ⟨43, 2, [.I x]⟩), (1, true, ⟨43, 2, [.I y]⟩), (2, true, ⟨43, 2, [.agg [.raw (.bool false), .raw (.slice none 0 0)]]⟩), (3, true, ⟨110, 1, V.limbs a.1.2⟩)] 4 77)
    (fun a => l.length - a.1.1) ⟨(0, List.replicate (l.length + m.length) 0), Nat.zero_le _, Lim.replicate _, by simp, by simp [lv, lv_replicate], fun j _ => at0_replicate _ _⟩ (Wk.of [0, 1, 2, 10] (by decide) ?_) ?_
  · simp only [go_sem]
  · rintro ⟨⟨i, r⟩, hi, hr, hrl, hv, h0⟩
    simp only at hi hr hrl hv h0
    refine vc_at (tabs mixed (tbl_cons norm_C tbl_nil)) ?_
    by_cases h : i < l.length
    · have e5 : (i : Int) < l.length := by omega
      simp only [go_sem, e1, e2, f1, f2, e5]
      and_intros
      any_goals omega
      have l1 := hl.1.at0 i
      refine AWp.loops (X := { x : Nat × Nat × List Nat // x.1 ≤ m.length ∧ x.2.1 < 4294967296 ∧ Lim x.2.2 ∧ x.2.2.length = l.length + m.length ∧ lv x.2.2 + 4294967296 ^ i * 4294967296 ^ x.1 * x.2.1 = lv (l.take i) * lv m + 4294967296 ^ i * (at0 l i * lv (m.take x.1)) ∧ ∀ j, i + m.length ≤ j → at0 x.2.2 j = 0 })
        (fun a => mkSt [(2, .ptr 0 2 0 0), (3, .ptr 1 2 0 0), (4, .ptr 2 2 0 0), (5, .sl 3 1 0 (l.length + m.length)), (6, .raw (.int .i64 (i : Nat))), (7, .raw (.int .u32 (at0 l i : Nat))), (8, .raw (.int .u64 (a.1.2.1 : Nat))), (20, .lst (V.limbs l)), (21, .raw (.int .i64 (l.length : Nat))), (22, .raw (.int .i64 (i : Nat))), (28, .lst (V.limbs m)), (29, .raw (.int .i64 (m.length : Nat))), (30, .raw (.int .i64 (a.1.1 : Nat)))]
          [(0, true, ⟨43, 2, [.I x]⟩), (1, true, ⟨43, 2, [.I y]⟩), (2, true, ⟨43, 2, [.agg [.raw (.bool false), .raw (.slice none 0 0)]]⟩), (3, true, ⟨110, 1, V.limbs a.1.2.2⟩)] 4 77)
        (fun a => m.length - a.1.1) ⟨(0, 0, r), Nat.zero_le _, by simp, hr, hrl, by simp [lv, hv], h0⟩ (Wk.of [0, 1, 2, 3] (by decide) ?_) ?_
      · simp only [go_sem]
      · rintro ⟨⟨k, cr, r'⟩, hk, hcr, hr', hrl', hv', h0'⟩
        simp only at hk hcr hr' hrl' hv' h0'
        refine vc_at (tabs mixed (tbl_cons norm_C tbl_nil)) ?_
        by_cases hkm : k < m.length
        · have e6 : (k : Int) < m.length := by omega
          have m1 := hm.1.at0 k
          have o1 := hr'.at0 (i + k)
          have hb1 := mulb _ _ _ _ l1 m1 hcr o1
          obtain ⟨p, hp⟩ : ∃ p : Nat, p = at0 l i * at0 m k := ⟨_, rfl⟩
          have hpI : ((at0 l i : Int) * (at0 m k : Int)) = (p : Int) := by rw [hp]; simp
          rw [← hp] at hb1
          obtain ⟨T, hT⟩ : ∃ T : Nat, T = cr + (p + at0 r' (i + k)) := ⟨_, rfl⟩
          have hTI : (cr : Int) + ((p : Int) + (at0 r' (i + k) : Int)) = (T : Int) := by rw [hT]; simp
          rw [← hT] at hb1
          have a1 : (at0 l i : Int) % 18446744073709551616 = at0 l i := by omega
          have a2 : (at0 m k : Int) % 18446744073709551616 = at0 m k := by omega
          have a3 : (at0 r' (i + k) : Int) % 18446744073709551616 = at0 r' (i + k) := by omega
          have a4 : (i : Int) + k = ((i + k : Nat) : Int) := by omega
          have a5 : (T : Int) % 4294967296 = ((T % 4294967296 : Nat) : Int) := by omega
          have a6 : (T : Int) / 4294967296 = ((T / 4294967296 : Nat) : Int) := by omega
          have a7 : (k : Int) + 1 = ((k + 1 : Nat) : Int) := by omega
          simp only [go_sem, e1, e2, f1, f2, e5, e6, hrl', a1, a2, a3, a4, hpI, hTI, a5, a6, a7]
          and_intros
          any_goals omega
          have hlt' : i + k < r'.length := by omega
          have hT2 : T / 4294967296 < 4294967296 := by omega
          refine ⟨⟨(k + 1, T / 4294967296, r'.set (i + k) (T % 4294967296)), hkm, hT2, hr'.set _ (by omega), by simp [hrl'], ?_, fun j hj => by rw [at0_set hlt', if_neg (by omega)]; exact h0' j hj⟩, Wk.of [0, 1, 2, 3] (by decide) ?_, by simp only; omega⟩
          · have hs := lv_set (l := r') (i := i + k) (x := T % 4294967296) hlt'
            rw [Nat.pow_add] at hs
            rw [Nat.pow_succ, mul_step hv' hT hs, hp, lv_take_succ', Nat.mul_add (at0 l i), Nat.mul_add, Nat.mul_left_comm (at0 l i)]
          · simp only [go_sem, hrl']
        · have e6 : ¬ (k : Int) < m.length := by omega
          have a4 : (i : Int) + m.length = ((i + m.length : Nat) : Int) := by omega
          have a5 : (cr : Int) % 4294967296 = (cr : Int) := by omega
          have a7 : (i : Int) + 1 = ((i + 1 : Nat) : Int) := by omega
          simp only [go_sem, e1, e2, f1, f2, e5, e6, hrl', a4, a5, a7]
          and_intros
          any_goals omega
          have hlt' : i + m.length < r'.length := by omega
          have hkl : k = m.length := by omega
          subst hkl
          refine ⟨⟨(i + 1, r'.set (i + m.length) cr), h, hr'.set _ hcr, by simp [hrl'], ?_, fun j hj => by rw [at0_set hlt', if_neg (by omega)]; exact h0' j (by omega)⟩, Wk.of [0, 1, 2, 3] (by decide) ?_, by simp only; omega⟩
          · have hs := lv_set (l := r') (i := i + m.length) (x := cr) hlt'
            have hz0 := h0' (i + m.length) (Nat.le_refl _)
            rw [List.take_length, ← Nat.pow_add] at hv'
            rw [hz0, Nat.mul_zero, Nat.add_zero] at hs
            simp only
            rw [hs, hv', lv_take_succ', Nat.add_mul, Nat.mul_assoc]
          · simp only [go_sem, hrl']
    · have e5 : ¬ (i : Int) < l.length := by omega
      have hil : i = l.length := by omega
      subst hil
      rw [List.take_length] at hv
      simp only [go_sem, e1, e2, f1, f2, e5, hrl, List.take_of_length_le (Nat.le_of_eq hrl)]
      refine ⟨⟨hr, by omega⟩, out_II ?_⟩
      have e : sv (s != t) l * (lv m : Int) = sv (s != t) r := by unfold sv; rw [hv]; split <;> simp [Int.natCast_mul, Int.neg_mul]
      rw [← e, hz, hz']
      cases s <;> cases t <;> simp [sv, Int.neg_mul, Int.mul_neg]
end Go.Proofs.YtfbogelmgdojgaaGreat
