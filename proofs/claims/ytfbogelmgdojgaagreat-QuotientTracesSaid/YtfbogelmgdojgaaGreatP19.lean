/- Texts E2 in one. -/
import Derived.Test.YtfbogelmgdojgaaGreatP18
/- Contracts of the reference: Neg, plus, minus, Add, Sub, Cmp. -/
namespace Go.Proofs.YtfbogelmgdojgaaGreat
set_option linter.unusedSimpArgs false
set_option linter.unusedVariables false
open Go.RowKit

theorem rneg_C : Ctr Tryz.prog 84 (con1 pI fun z => (dl z.natAbs ≤ 10000000000000, .I (-z))) := Ctr.c1 (by kernel_rfl) fun z h => by
  change dl z.natAbs ≤ 10000000000000 at h
  obtain ⟨s, l, hz, hl, hs, e1, e2, e3⟩ := sv_open z
  refine PCall.of_vc (tabs mixed (tbl_cons rmade_C tbl_nil)) Tryz.func84 rfl Tryz.ntmps84 Tryz.results84 (by simp) ?_
  simp only [go_sem, e1, e2]
  refine ⟨⟨hl.1, by omega⟩, out_II ?_⟩
  rw [hz, sv_flip]
def rpl (l m : List Nat) : Nat := if lv l + lv m < 4294967296 ^ max l.length m.length then max l.length m.length else max l.length m.length + 1
theorem rplus_V (l m : List Nat) (hl : Lim l) (hm : Lim m) (h1 : l.length ≤ 10000000000000) (h2 : m.length ≤ 10000000000000) :
    PCall Tryz.prog 118 [.lst (V.limbs l), .lst (V.limbs m)] (.lst (V.limbs (nl (rpl l m) (lv l + lv m)))) := by
  refine PCall.of_vc (tabs mixed tbl_nil) Tryz.func118 rfl Tryz.ntmps118 Tryz.results118 (by simp) ?_
  obtain ⟨N, hN⟩ : ∃ N, N = max l.length m.length := ⟨_, rfl⟩
  have hsum : lv l + lv m < 4294967296 ^ (N + 1) := sum_lt hl hm (by omega) (by omega)
  simp only [go_sem]
  refine AWp.loops (X := { x : Nat × Nat × List Nat // x.1 ≤ N + 1 ∧ x.2.1 ≤ 1 ∧ Lim x.2.2 ∧ x.2.2.length = x.1 ∧ lv x.2.2 + 4294967296 ^ x.1 * x.2.1 = lv (l.take x.1) + lv (m.take x.1) ∧ (x.1 = N + 1 → 4294967296 ^ N ≤ lv l + lv m) })
    (fun a => mkSt [(0, .lst (V.limbs l)), (1, .lst (V.limbs m)), (5, .sl 0 1 0 a.1.1), (6, .raw (.int .u64 (a.1.2.1 : Nat))), (7, .raw (.int .i64 (a.1.1 : Nat)))]
      [(0, true, ⟨110, 1, V.limbs a.1.2.2⟩)] 1 55)
    (fun a => N + 2 - a.1.1) ⟨(0, 0, []), Nat.zero_le _, by simp, Lim.nil, rfl, by simp [lv], by simp⟩ (Wk.of [1] (by decide) ?_) ?_
  · simp only [go_sem, limbs_nil]
  · rintro ⟨⟨i, c, r⟩, hi, hc, hr, hrl, hinv, hfl⟩
    simp only at hi hc hr hrl hinv hfl
    refine vc_at (tabs mixed tbl_nil) ?_
    have U1 := hl.at0 i
    have U2 := hm.at0 i
    have w1 : (i : Int) + 1 = ((i + 1 : Nat) : Int) := by omega
    have hmx : maxLen = 9223372036854775807 := by decide
    have u2 : (0 : Int) ≤ i := by omega
    obtain ⟨S, hS⟩ : ∃ S, S = c + at0 l i + at0 m i := ⟨_, rfl⟩
    have x1 : (at0 l i : Int) % 18446744073709551616 = at0 l i := by omega
    have x2 : (at0 m i : Int) % 18446744073709551616 = at0 m i := by omega
    have z1 : (S : Int) % 4294967296 = ((S % 4294967296 : Nat) : Int) := by omega
    have z2 : (S : Int) / 4294967296 = ((S / 4294967296 : Nat) : Int) := by omega
    have t1 : ([S % 4294967296] : List Nat).take 1 = [S % 4294967296] := rfl
    have t2 : min 1 1 = 1 := rfl
    have t3 : r.take i = r := List.take_of_length_le (by omega)
    have hmx2 : IntKind.u64.max = 18446744073709551615 := by decide
    have hgo : i < N ∨ 0 < c → i + 1 ≤ N + 1 ∧ S / 4294967296 ≤ 1 ∧ Lim (r ++ [S % 4294967296]) ∧ (r ++ [S % 4294967296]).length = i + 1 ∧ lv (r ++ [S % 4294967296]) + 4294967296 ^ (i + 1) * (S / 4294967296) = lv (l.take (i + 1)) + lv (m.take (i + 1)) ∧ (i + 1 = N + 1 → 4294967296 ^ N ≤ lv l + lv m) := fun hor => by
      have hiN : i ≤ N := by
        rcases Nat.lt_or_ge N i with h | h
        · exfalso
          obtain rfl : i = N + 1 := by omega
          have hc1 : c = 1 := by omega
          rw [List.take_of_length_le (by omega), List.take_of_length_le (by omega), hc1] at hinv
          omega
        · exact h
      refine ⟨by omega, by omega, hr.append (Lim.cons (Nat.mod_lt _ (by decide)) Lim.nil), by simp [hrl], ?_, fun h => ?_⟩
      · rw [lv_append, lv_one, hrl, lv_take_succ', lv_take_succ', Nat.pow_succ, Nat.add_assoc, Nat.mul_assoc, ← Nat.mul_add, Nat.mod_add_div, hS, Nat.mul_add, Nat.mul_add]
        omega
      · obtain rfl : i = N := by omega
        have hc1 : c = 1 := by omega
        rw [List.take_of_length_le (by omega), List.take_of_length_le (by omega), hc1] at hinv
        omega
    by_cases p1 : i < l.length
    · have c1 : (i : Int) < l.length := by omega
      obtain ⟨k1, k2, k3, k4, k5, k6⟩ := hgo (.inl (by omega))
      by_cases p2 : i < m.length
      · have c2 : (i : Int) < m.length := by omega
        have y1 : (c : Int) + (at0 l i : Nat) + (at0 m i : Nat) = (S : Nat) := by omega
        simp only [go_sem, c1, c2, u2, w1, p1, p2, hrl, hmx, hmx2, x1, x2, y1, z1, z2, List.set_cons_zero, t1, t2, t3]
        and_intros
        any_goals omega
        refine ⟨⟨(i + 1, S / 4294967296, r ++ [S % 4294967296]), k1, k2, k3, k4, k5, k6⟩, Wk.of [43] (by decide) ?_, by simp only; omega⟩
        simp only [go_sem]
      · have c2 : ¬ (i : Int) < m.length := by omega
        have y0 : at0 m i = 0 := at0_beyond (by omega)
        have y1 : (c : Int) + (at0 l i : Nat) = (S : Nat) := by omega
        simp only [go_sem, c1, c2, u2, w1, p1, hrl, hmx, hmx2, x1, x2, y1, z1, z2, List.set_cons_zero, t1, t2, t3]
        and_intros
        any_goals omega
        refine ⟨⟨(i + 1, S / 4294967296, r ++ [S % 4294967296]), k1, k2, k3, k4, k5, k6⟩, Wk.of [35] (by decide) ?_, by simp only; omega⟩
        simp only [go_sem]
    · have c1 : ¬ (i : Int) < l.length := by omega
      have y0 : at0 l i = 0 := at0_beyond (by omega)
      by_cases p2 : i < m.length
      · have c2 : (i : Int) < m.length := by omega
        obtain ⟨k1, k2, k3, k4, k5, k6⟩ := hgo (.inl (by omega))
        have y1 : (c : Int) + (at0 m i : Nat) = (S : Nat) := by omega
        simp only [go_sem, c1, c2, u2, w1, p2, hrl, hmx, hmx2, x1, x2, y1, z1, z2, List.set_cons_zero, t1, t2, t3]
        and_intros
        any_goals omega
        refine ⟨⟨(i + 1, S / 4294967296, r ++ [S % 4294967296]), k1, k2, k3, k4, k5, k6⟩, Wk.of [35] (by decide) ?_, by simp only; omega⟩
        simp only [go_sem]
      · have c2 : ¬ (i : Int) < m.length := by omega
        have y0' : at0 m i = 0 := at0_beyond (by omega)
        by_cases p3 : 0 < c
        · have c3 : 0 < (c : Int) := by omega
          obtain ⟨k1, k2, k3, k4, k5, k6⟩ := hgo (.inr p3)
          obtain rfl : S = c := by omega
          simp only [go_sem, c1, c2, c3, u2, w1, hrl, hmx, hmx2, z1, z2, List.set_cons_zero, t1, t2, t3]
          and_intros
          any_goals omega
          refine ⟨⟨(i + 1, S / 4294967296, r ++ [S % 4294967296]), k1, k2, k3, k4, k5, k6⟩, Wk.of [27] (by decide) ?_, by simp only; omega⟩
          simp only [go_sem]
        · have c3 : ¬ 0 < (c : Int) := by omega
          obtain rfl : c = 0 := by omega
          rw [Nat.mul_zero, Nat.add_zero, List.take_of_length_le (by omega), List.take_of_length_le (by omega)] at hinv
          have hlen : i = rpl l m := by
            unfold rpl
            rw [← hN, ← hinv]
            have := lv_lt hr
            rw [hrl] at this
            split
            · rename_i h9
              rcases Nat.lt_or_ge i (N + 1) with h8 | h8
              · omega
              · have := hfl (by omega); omega
            · rename_i h9
              rcases Nat.lt_or_ge i (N + 1) with h8 | h8
              · exfalso
                obtain rfl : i = N := by omega
                omega
              · omega
          have hnl : nl (rpl l m) (lv l + lv m) = r := (nl_of hr (by rw [hrl, hlen]) hinv).symm
          simp only [go_sem, c1, c2, c3, u2, w1, hrl, hmx, t3, hnl]
def kRPlus : Con := con2 pL pL fun l m => ((Lim l ∧ Lim m) ∧ l.length ≤ 10000000000000 ∧ m.length ≤ 10000000000000, .lst (V.limbs (nl (rpl l m) (lv l + lv m))))
attribute [go_sem ↓, go_sem] kRPlus
theorem rplus_C : Ctr Tryz.prog 118 kRPlus := Ctr.c2 (by kernel_rfl) fun l m h => rplus_V l m h.1.1 h.1.2 h.2.1 h.2.2
theorem rpl_le (l m : List Nat) : rpl l m ≤ max l.length m.length + 1 := by unfold rpl; split <;> omega
theorem rpl_lt {l m : List Nat} (hl : Lim l) (hm : Lim m) : lv l + lv m < 4294967296 ^ rpl l m := by
  unfold rpl
  split
  · assumption
  · exact sum_lt hl hm (by omega) (by omega)
theorem rminus_V (l m : List Nat) (hl : Lim l) (hm : Lim m) (h1 : l.length ≤ 10000000000000) (hml : m.length ≤ l.length) (hle : lv m ≤ lv l) :
    PCall Tryz.prog 120 [.lst (V.limbs l), .lst (V.limbs m)] (.lst (V.limbs (nl l.length (lv l - lv m)))) := by
  refine PCall.of_vc (tabs mixed tbl_nil) Tryz.func120 rfl Tryz.ntmps120 Tryz.results120 (by simp) ?_
  simp only [go_sem]
  refine AWp.loops (X := { x : Nat × Nat × List Nat // x.1 ≤ l.length ∧ x.2.1 ≤ 1 ∧ Lim x.2.2 ∧ x.2.2.length = x.1 ∧ lv x.2.2 + lv (m.take x.1) = lv (l.take x.1) + 4294967296 ^ x.1 * x.2.1 })
    (fun a => mkSt [(0, .lst (V.limbs l)), (1, .lst (V.limbs m)), (5, .sl 0 1 0 a.1.1), (6, .raw (.int .i64 (a.1.2.1 : Nat))), (7, .raw (.int .i64 (a.1.1 : Nat)))]
      [(0, true, ⟨110, 1, V.limbs a.1.2.2⟩)] 1 44)
    (fun a => l.length - a.1.1) ⟨(0, 0, []), Nat.zero_le _, by simp, Lim.nil, rfl, by simp [lv]⟩ (Wk.of [1] (by decide) ?_) ?_
  · simp only [go_sem, limbs_nil]
  · rintro ⟨⟨i, b, r⟩, hi0, hb, hr, hrl, hinv⟩
    simp only at hi0 hb hr hrl hinv
    refine vc_at (tabs mixed tbl_nil) ?_
    have U1 := hl.at0 i
    have U2 := hm.at0 i
    have w1 : (i : Int) + 1 = ((i + 1 : Nat) : Int) := by omega
    have hmx : maxLen = 9223372036854775807 := by decide
    have u2 : (0 : Int) ≤ i := by omega
    have x1 : IntKind.i64.wrap (at0 l i : Nat) = (at0 l i : Nat) := IntWalk.i64_in _ (by omega)
    have x2 : IntKind.i64.wrap (at0 m i : Nat) = (at0 m i : Nat) := IntWalk.i64_in _ (by omega)
    have t2 : min 1 1 = 1 := rfl
    have t3 : r.take i = r := List.take_of_length_le (by omega)
    have hgo : ∀ d t, d < 4294967296 → d + at0 m i + b = at0 l i + 4294967296 * t → Lim (r ++ [d]) ∧ (r ++ [d]).length = i + 1 ∧ lv (r ++ [d]) + lv (m.take (i + 1)) = lv (l.take (i + 1)) + 4294967296 ^ (i + 1) * t := fun d t hd he => by
      refine ⟨hr.append (Lim.cons hd Lim.nil), by simp [hrl], ?_⟩
      have := sub_step hinv he
      rw [lv_append, lv_one, hrl, lv_take_succ', lv_take_succ', Nat.pow_succ]
      omega
    by_cases hi : i < l.length
    · have c1 : (i : Int) < l.length := by omega
      by_cases p2 : i < m.length
      · have c2 : (i : Int) < m.length := by omega
        by_cases p3 : at0 l i < b + at0 m i
        · have n1 : ((at0 l i : Nat) : Int) - b - (at0 m i : Nat) < 0 := by omega
          obtain ⟨d, hd⟩ : ∃ d, d = at0 l i + 4294967296 - (b + at0 m i) := ⟨_, rfl⟩
          have n2 : (((at0 l i : Nat) : Int) - b - (at0 m i : Nat) + 4294967296) % 4294967296 = (d : Nat) := by omega
          have t1 : ([d] : List Nat).take 1 = [d] := rfl
          obtain ⟨k3, k4, k5⟩ := hgo d 1 (by omega) (by omega)
          simp only [go_sem, c1, c2, u2, w1, hi, p2, hrl, hmx, x1, x2, n1, n2, List.set_cons_zero, t1, t2, t3]
          and_intros
          any_goals omega
          refine ⟨⟨(i + 1, 1, r ++ [d]), hi, Nat.le_refl _, k3, k4, k5⟩, Wk.of [36] (by decide) ?_, by simp only; omega⟩
          simp only [go_sem]
        · have n1 : ¬ ((at0 l i : Nat) : Int) - b - (at0 m i : Nat) < 0 := by omega
          obtain ⟨d, hd⟩ : ∃ d, d = at0 l i - (b + at0 m i) := ⟨_, rfl⟩
          have n2 : (((at0 l i : Nat) : Int) - b - (at0 m i : Nat)) % 4294967296 = (d : Nat) := by omega
          have t1 : ([d] : List Nat).take 1 = [d] := rfl
          obtain ⟨k3, k4, k5⟩ := hgo d 0 (by omega) (by omega)
          simp only [go_sem, c1, c2, u2, w1, hi, p2, hrl, hmx, x1, x2, n1, n2, List.set_cons_zero, t1, t2, t3]
          and_intros
          any_goals omega
          refine ⟨⟨(i + 1, 0, r ++ [d]), hi, Nat.zero_le _, k3, k4, k5⟩, Wk.of [32] (by decide) ?_, by simp only; omega⟩
          simp only [go_sem]
      · have c2 : ¬ (i : Int) < m.length := by omega
        have y0 : at0 m i = 0 := at0_beyond (by omega)
        by_cases p3 : at0 l i < b
        · have n1 : ((at0 l i : Nat) : Int) - b < 0 := by omega
          obtain ⟨d, hd⟩ : ∃ d, d = at0 l i + 4294967296 - (b) := ⟨_, rfl⟩
          have n2 : (((at0 l i : Nat) : Int) - b + 4294967296) % 4294967296 = (d : Nat) := by omega
          have t1 : ([d] : List Nat).take 1 = [d] := rfl
          obtain ⟨k3, k4, k5⟩ := hgo d 1 (by omega) (by omega)
          simp only [go_sem, c1, c2, u2, w1, hi, hrl, hmx, x1, n1, n2, List.set_cons_zero, t1, t2, t3]
          and_intros
          any_goals omega
          refine ⟨⟨(i + 1, 1, r ++ [d]), hi, Nat.le_refl _, k3, k4, k5⟩, Wk.of [28] (by decide) ?_, by simp only; omega⟩
          simp only [go_sem]
        · have n1 : ¬ ((at0 l i : Nat) : Int) - b < 0 := by omega
          obtain ⟨d, hd⟩ : ∃ d, d = at0 l i - (b) := ⟨_, rfl⟩
          have n2 : (((at0 l i : Nat) : Int) - b) % 4294967296 = (d : Nat) := by omega
          have t1 : ([d] : List Nat).take 1 = [d] := rfl
          obtain ⟨k3, k4, k5⟩ := hgo d 0 (by omega) (by omega)
          simp only [go_sem, c1, c2, u2, w1, hi, hrl, hmx, x1, n1, n2, List.set_cons_zero, t1, t2, t3]
          and_intros
          any_goals omega
          refine ⟨⟨(i + 1, 0, r ++ [d]), hi, Nat.zero_le _, k3, k4, k5⟩, Wk.of [24] (by decide) ?_, by simp only; omega⟩
          simp only [go_sem]
    · have c1 : ¬ (i : Int) < l.length := by omega
      obtain rfl : i = l.length := by omega
      rw [List.take_length, List.take_of_length_le hml] at hinv
      have hlt := lv_lt hr
      rw [hrl] at hlt
      have hb0 : b = 0 := by
        rcases Nat.eq_zero_or_pos b with h | h
        · exact h
        · have := Nat.mul_le_mul_left (4294967296 ^ l.length) h
          omega
      subst hb0
      rw [Nat.mul_zero, Nat.add_zero] at hinv
      have hnl : nl l.length (lv l - lv m) = r := (nl_of hr hrl (by omega)).symm
      simp only [go_sem, c1, t3, hrl, hnl]
def kRMinus : Con := con2 pL pL fun l m => ((Lim l ∧ Lim m) ∧ l.length ≤ 10000000000000 ∧ m.length ≤ l.length ∧ lv m ≤ lv l, .lst (V.limbs (nl l.length (lv l - lv m))))
attribute [go_sem ↓, go_sem] kRMinus
theorem rminus_C : Ctr Tryz.prog 120 kRMinus := Ctr.c2 (by kernel_rfl) fun l m h => rminus_V l m h.1.1 h.1.2 h.2.1 h.2.2.1 h.2.2.2
theorem radd_C : Ctr Tryz.prog 82 kAdd := Ctr.c2 (by kernel_rfl) fun x y h => by
  obtain ⟨h1, h2⟩ := h
  obtain ⟨s, l, hz, hl, hs, e1, e2, e3⟩ := sv_open x
  obtain ⟨t, m, hz', hm, ht, f1, f2, f3⟩ := sv_open y
  refine PCall.of_vc (tabs mixed (tbl_cons rmade_C (tbl_cons rplus_C (tbl_cons rminus_C (tbl_cons less_C tbl_nil))))) Tryz.func82 rfl Tryz.ntmps82 Tryz.results82 (by simp) ?_
  have hb := lv_lt hl.1
  have hb' := lv_lt hm.1
  by_cases hst : s = t
  · subst hst
    have b1 : (s == s) = true := by cases s <;> rfl
    have hsum := rpl_lt hl.1 hm.1
    have hrl := rpl_le l m
    simp only [go_sem, e1, e2, f1, f2, b1, nl_length]
    refine ⟨⟨⟨hl.1, hm.1⟩, by omega, by omega⟩, ⟨nl_lim _ _, by omega⟩, by rfl, out_II ?_⟩
    rw [nl_sv s hsum, hz, hz']
    unfold sv
    split <;> omega
  · have b1 : (s == t) = false := by cases s <;> cases t <;> simp_all
    by_cases hc : lv l < lv m
    · have c1 : decide (lv l < lv m) = true := by simpa using hc
      have hlen := len_of_lt hl hm (by omega)
      simp only [go_sem, e1, e2, f1, f2, b1, c1, nl_length]
      refine ⟨⟨⟨hl, hm⟩, by omega, by omega⟩, ⟨⟨hm.1, hl.1⟩, by omega, hlen, by omega⟩, ⟨nl_lim _ _, by omega⟩, by rfl, out_II ?_⟩
      rw [nl_sv t (by omega), hz, hz']
      unfold sv
      cases s <;> cases t <;> simp_all <;> omega
    · have c1 : decide (lv l < lv m) = false := by simpa using hc
      have hlen := len_of_lt hm hl (by omega)
      simp only [go_sem, e1, e2, f1, f2, b1, c1, nl_length]
      refine ⟨⟨⟨hl, hm⟩, by omega, by omega⟩, ⟨⟨hl.1, hm.1⟩, by omega, hlen, by omega⟩, ⟨nl_lim _ _, by omega⟩, by rfl, out_II ?_⟩
      rw [nl_sv s (by omega), hz, hz']
      unfold sv
      cases s <;> cases t <;> simp_all <;> omega
def kRNeg : Con := con1 pI fun z => (dl z.natAbs ≤ 10000000000000, .I (-z))
attribute [go_sem ↓, go_sem] kRNeg
theorem rsub_C : Ctr Tryz.prog 149 kSub := Ctr.c2 (by kernel_rfl) fun x y h => by
  obtain ⟨h1, h2⟩ := h
  refine PCall.of_vc (tabs mixed (tbl_cons (C := kRNeg) rneg_C (tbl_cons radd_C tbl_nil))) Tryz.func149 rfl Tryz.ntmps149 Tryz.results149 (by simp) ?_
  have e1 := dl_neg y
  simp only [go_sem, e1]
  exact ⟨by omega, ⟨h1, h2⟩, by rfl, out_II (by omega)⟩
theorem rvalid_V (s : Bool) (l : List Nat) (h : l.length ≤ 9223372036854775807) : PCall Tryz.prog 137 [.agg [.raw (.bool s), .lst (V.limbs l)]] (.raw (.bool (validB s l))) := by
  refine PCall.of_vc (tabs mixed tbl_nil) Tryz.func137 rfl Tryz.ntmps137 Tryz.results137 (by simp) ?_
  by_cases h0 : l = []
  · subst h0
    have e5 : (((([] : List Nat).length : Nat) : Int) == 0) = true := rfl
    cases s <;> simp only [go_sem, validB, e5]
  · have e5 : ((l.length : Int) == 0) = false := by simp; exact h0
    have hp := List.length_pos_iff.2 h0
    have e6 : ((l.length : Int) - 1).toNat = l.length - 1 := by omega
    simp only [go_sem, e5, e6, validB]
    rw [if_neg h0]
    and_intros
    any_goals omega
    exact out_bool (by by_cases g : at0 l (l.length - 1) = 0 <;> simp [g] <;> omega)
theorem rvalid_C : Ctr Tryz.prog 137 kValid := Ctr.c1 (by kernel_rfl) fun a h => rvalid_V a.1 a.2 h
end Go.Proofs.YtfbogelmgdojgaaGreat
