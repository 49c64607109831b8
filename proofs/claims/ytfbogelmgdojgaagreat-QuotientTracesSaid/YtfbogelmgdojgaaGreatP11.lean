/- Texts C4 C5 in one. -/
import Derived.Test.YtfbogelmgdojgaaGreatP10
import Derived.Test.YtfbogelmgdojgaaGreatP09
/- Contracts: bits.Add32, Sub32, plus, minus, Add, Sub. -/
namespace Go.Proofs.YtfbogelmgdojgaaGreat
set_option linter.unusedSimpArgs false
set_option linter.unusedVariables false
open Go.RowKit

def kAdd32 : Con := con3 (pN .u32) (pN .u32) (pN .u32) fun x y c => ((0 ≤ x ∧ x < 4294967296) ∧ (0 ≤ y ∧ y < 4294967296) ∧ 0 ≤ c ∧ c ≤ 1, .tup [.raw (.int .u32 ((x + y + c) % 4294967296)), .raw (.int .u32 ((x + y + c) / 4294967296))])
attribute [go_sem ↓, go_sem] kAdd32
theorem add32_C : Ctr Tryz.prog 144 kAdd32 := Ctr.c3 (by kernel_rfl) fun x y c h => by
  obtain ⟨⟨h1, h2⟩, ⟨h3, h4⟩, h5, h6⟩ := h
  refine PCall.of_vc (tabs mixed tbl_nil) Tryz.func144 rfl Tryz.ntmps144 Tryz.results144 (by simp) ?_
  have a1 : x % 18446744073709551616 = x := by omega
  have a2 : y % 18446744073709551616 = y := by omega
  have a3 : c % 18446744073709551616 = c := by omega
  have a4 : (x + y + c) / 4294967296 % 4294967296 = (x + y + c) / 4294967296 := by omega
  simp only [go_sem, a1, a2, a3, a4]
  omega
def kSub32 : Con := con3 (pN .u32) (pN .u32) (pN .u32) fun x y c => ((0 ≤ x ∧ x < 4294967296) ∧ (0 ≤ y ∧ y < 4294967296) ∧ 0 ≤ c ∧ c ≤ 1, .tup [.raw (.int .u32 ((x - y - c) % 4294967296)), .raw (.int .u32 (bor x y c))])
attribute [go_sem ↓, go_sem] kSub32
theorem sub32_C : Ctr Tryz.prog 147 kSub32 := Ctr.c3 (by kernel_rfl) fun x y c h => by
  obtain ⟨⟨h1, h2⟩, ⟨h3, h4⟩, h5, h6⟩ := h
  refine PCall.of_vc (tabs mixed tbl_nil) Tryz.func147 rfl Tryz.ntmps147 Tryz.results147 (by simp) ?_
  have hs : ¬ IntKind.u32.signed = true := by decide
  have a1 : ((x - y) % 4294967296 - c) % 4294967296 = (x - y - c) % 4294967296 := by omega
  have a2 := sub32_bits x y c h1 h2 h3 h4 h5 h6
  simp only [go_sem, hs, a1, a2]
theorem plus_V (l m : List Nat) (hl : Lim l) (hm : Lim m) (h1 : l.length ≤ 10000000000000) (h2 : m.length ≤ 10000000000000) :
    PCall Tryz.prog 129 [.lst (V.limbs l), .lst (V.limbs m)] (.lst (V.limbs (nl (max l.length m.length + 1) (lv l + lv m)))) := by
  refine PCall.of_vc (tabs mixed (tbl_cons add32_C tbl_nil)) Tryz.func129 rfl Tryz.ntmps129 Tryz.results129 (by simp) ?_
  by_cases h : l.length < m.length
  · have e1 : (l.length : Int) < m.length := by omega
    have hA : Lim m := by assumption
    have hB : Lim l := by assumption
    have hAB : l.length ≤ m.length := by omega
    have hmax : max l.length m.length = m.length := by omega
    have hsum : lv l + lv m = lv m + lv l := by omega
    have e2 : ((m.length : Nat) : Int) + 1 = ((m.length + 1 : Nat) : Int) := by omega
    have e5 : min m.length (m.length + 1) = m.length := by omega
    simp only [go_sem, e1, e2]
    and_intros
    any_goals first | omega | (simp only [limbs_len, List.length_replicate]; omega)
    refine AWp.loops (X := { x : Nat × List Nat × Nat // x.1 ≤ m.length ∧ Lim x.2.1 ∧ x.2.1.length = m.length + 1 ∧ x.2.2 ≤ 1 ∧ lv (x.2.1.take x.1) + 4294967296 ^ x.1 * x.2.2 = lv (m.take x.1) + lv (l.take x.1) })
      (fun x => mkSt [(0, .lst (V.limbs m)), (1, .lst (V.limbs l)), (5, .sl 0 1 0 (m.length + 1)), (6, .raw (.int .u32 (x.1.2.2 : Nat))), (24, .raw (.int .i64 (m.length : Nat))), (25, .raw (.int .i64 (x.1.1 : Nat)))] [(0, true, ⟨110, 1, V.limbs x.1.2.1⟩)] 1 56)
      (fun x => m.length - x.1.1) ⟨(0, m ++ [0], 0), Nat.zero_le _, hA.append (Lim.cons (by omega) Lim.nil), by simp, Nat.zero_le _, by simp [lv]⟩ (Wk.of [13] (by decide) ?_) ?_
    · simp only [go_sem, e2, e5, List.take_length, List.drop_replicate, Nat.add_sub_cancel_left]
    · rintro ⟨⟨k, r, c⟩, hk, hr, hrl, hc, hv⟩
      simp only at hk hr hrl hc hv
      refine vc_at (tabs mixed (tbl_cons add32_C tbl_nil)) ?_
      have e6 : (k : Int) + 1 = ((k + 1 : Nat) : Int) := by omega
      by_cases h : k < m.length
      · have e3 : (k : Int) < m.length := by omega
        have hA1 := hA.at0 k
        have hB1 := hB.at0 k
        have es : ((at0 m k : Int) + at0 l k + c) % 4294967296 = (((at0 m k + at0 l k + c) % 4294967296 : Nat) : Int) := by omega
        have ed : ((at0 m k : Int) + at0 l k + c) / 4294967296 = (((at0 m k + at0 l k + c) / 4294967296 : Nat) : Int) := by omega
        have step : k + 1 ≤ m.length ∧ Lim (r.set k ((at0 m k + at0 l k + c) % 4294967296)) ∧ (r.set k ((at0 m k + at0 l k + c) % 4294967296)).length = m.length + 1 ∧ (at0 m k + at0 l k + c) / 4294967296 ≤ 1 ∧
            lv ((r.set k ((at0 m k + at0 l k + c) % 4294967296)).take (k + 1)) + 4294967296 ^ (k + 1) * ((at0 m k + at0 l k + c) / 4294967296) = lv (m.take (k + 1)) + lv (l.take (k + 1)) := by
          refine ⟨h, hr.set k (Nat.mod_lt _ (by decide)), by simp [hrl], by omega, ?_⟩
          rw [lv_take_set _ (by omega), lv_take_succ', lv_take_succ', Nat.pow_succ]
          exact add_step hv rfl
        by_cases hb : k < l.length
        · have e4 : (k : Int) < l.length := by omega
          simp only [go_sem, e3, e4, e6, es, ed, hrl]
          and_intros
          any_goals omega
          refine ⟨⟨(k + 1, r.set k ((at0 m k + at0 l k + c) % 4294967296), (at0 m k + at0 l k + c) / 4294967296), step⟩, Wk.of [0] (by decide) ?_, by simp only; omega⟩
          simp only [go_sem, hrl]
        · have e4 : ¬ (k : Int) < l.length := by omega
          have e0 : at0 l k = 0 := at0_beyond (by omega)
          rw [e0] at es ed step
          simp only [go_sem, Int.cast_ofNat_Int] at es ed
          simp only [go_sem, e3, e4, e6, es, ed, hrl]
          and_intros
          any_goals omega
          refine ⟨⟨(k + 1, r.set k ((at0 m k + 0 + c) % 4294967296), (at0 m k + 0 + c) / 4294967296), step⟩, Wk.of [0] (by decide) ?_, by simp only; omega⟩
          simp only [go_sem, hrl]
      · have e3 : ¬ (k : Int) < m.length := by omega
        have hk' : k = m.length := by omega
        subst hk'
        simp only [go_sem, e3, hrl]
        and_intros
        any_goals omega
        have e7 : List.take (m.length + 1) (r.set m.length c) = nl (max l.length m.length + 1) (lv l + lv m) := by
          rw [List.take_of_length_le (by simp [hrl])]
          refine nl_of (hr.set _ (by omega)) (by simp [hrl, hmax]) ?_
          have := lv_take_set c (l := r) (i := m.length) (by omega)
          rw [List.take_of_length_le (by simp [hrl])] at this
          rw [this, hv, List.take_length, List.take_of_length_le hAB, hsum]
        rw [e7]; exact .refl _
  · have e1 : ¬ (l.length : Int) < m.length := by omega
    have hA : Lim l := by assumption
    have hB : Lim m := by assumption
    have hAB : m.length ≤ l.length := by omega
    have hmax : max l.length m.length = l.length := by omega
    have hsum : lv l + lv m = lv l + lv m := by omega
    have e2 : ((l.length : Nat) : Int) + 1 = ((l.length + 1 : Nat) : Int) := by omega
    have e5 : min l.length (l.length + 1) = l.length := by omega
    simp only [go_sem, e1, e2]
    and_intros
    any_goals first | omega | (simp only [limbs_len, List.length_replicate]; omega)
    refine AWp.loops (X := { x : Nat × List Nat × Nat // x.1 ≤ l.length ∧ Lim x.2.1 ∧ x.2.1.length = l.length + 1 ∧ x.2.2 ≤ 1 ∧ lv (x.2.1.take x.1) + 4294967296 ^ x.1 * x.2.2 = lv (l.take x.1) + lv (m.take x.1) })
      (fun x => mkSt [(0, .lst (V.limbs l)), (1, .lst (V.limbs m)), (5, .sl 0 1 0 (l.length + 1)), (6, .raw (.int .u32 (x.1.2.2 : Nat))), (24, .raw (.int .i64 (l.length : Nat))), (25, .raw (.int .i64 (x.1.1 : Nat)))] [(0, true, ⟨110, 1, V.limbs x.1.2.1⟩)] 1 56)
      (fun x => l.length - x.1.1) ⟨(0, l ++ [0], 0), Nat.zero_le _, hA.append (Lim.cons (by omega) Lim.nil), by simp, Nat.zero_le _, by simp [lv]⟩ (Wk.of [9] (by decide) ?_) ?_
    · simp only [go_sem, e2, e5, List.take_length, List.drop_replicate, Nat.add_sub_cancel_left]
    · rintro ⟨⟨k, r, c⟩, hk, hr, hrl, hc, hv⟩
      simp only at hk hr hrl hc hv
      refine vc_at (tabs mixed (tbl_cons add32_C tbl_nil)) ?_
      have e6 : (k : Int) + 1 = ((k + 1 : Nat) : Int) := by omega
      by_cases h : k < l.length
      · have e3 : (k : Int) < l.length := by omega
        have hA1 := hA.at0 k
        have hB1 := hB.at0 k
        have es : ((at0 l k : Int) + at0 m k + c) % 4294967296 = (((at0 l k + at0 m k + c) % 4294967296 : Nat) : Int) := by omega
        have ed : ((at0 l k : Int) + at0 m k + c) / 4294967296 = (((at0 l k + at0 m k + c) / 4294967296 : Nat) : Int) := by omega
        have step : k + 1 ≤ l.length ∧ Lim (r.set k ((at0 l k + at0 m k + c) % 4294967296)) ∧ (r.set k ((at0 l k + at0 m k + c) % 4294967296)).length = l.length + 1 ∧ (at0 l k + at0 m k + c) / 4294967296 ≤ 1 ∧
            lv ((r.set k ((at0 l k + at0 m k + c) % 4294967296)).take (k + 1)) + 4294967296 ^ (k + 1) * ((at0 l k + at0 m k + c) / 4294967296) = lv (l.take (k + 1)) + lv (m.take (k + 1)) := by
          refine ⟨h, hr.set k (Nat.mod_lt _ (by decide)), by simp [hrl], by omega, ?_⟩
          rw [lv_take_set _ (by omega), lv_take_succ', lv_take_succ', Nat.pow_succ]
          exact add_step hv rfl
        by_cases hb : k < m.length
        · have e4 : (k : Int) < m.length := by omega
          simp only [go_sem, e3, e4, e6, es, ed, hrl]
          and_intros
          any_goals omega
          refine ⟨⟨(k + 1, r.set k ((at0 l k + at0 m k + c) % 4294967296), (at0 l k + at0 m k + c) / 4294967296), step⟩, Wk.of [0] (by decide) ?_, by simp only; omega⟩
          simp only [go_sem, hrl]
        · have e4 : ¬ (k : Int) < m.length := by omega
          have e0 : at0 m k = 0 := at0_beyond (by omega)
          rw [e0] at es ed step
          simp only [go_sem, Int.cast_ofNat_Int] at es ed
          simp only [go_sem, e3, e4, e6, es, ed, hrl]
          and_intros
          any_goals omega
          refine ⟨⟨(k + 1, r.set k ((at0 l k + 0 + c) % 4294967296), (at0 l k + 0 + c) / 4294967296), step⟩, Wk.of [0] (by decide) ?_, by simp only; omega⟩
          simp only [go_sem, hrl]
      · have e3 : ¬ (k : Int) < l.length := by omega
        have hk' : k = l.length := by omega
        subst hk'
        simp only [go_sem, e3, hrl]
        and_intros
        any_goals omega
        have e7 : List.take (l.length + 1) (r.set l.length c) = nl (max l.length m.length + 1) (lv l + lv m) := by
          rw [List.take_of_length_le (by simp [hrl])]
          refine nl_of (hr.set _ (by omega)) (by simp [hrl, hmax]) ?_
          have := lv_take_set c (l := r) (i := l.length) (by omega)
          rw [List.take_of_length_le (by simp [hrl])] at this
          rw [this, hv, List.take_length, List.take_of_length_le hAB, hsum]
        rw [e7]; exact .refl _
def kPlus : Con := con2 pL pL fun l m => ((Lim l ∧ Lim m) ∧ l.length ≤ 10000000000000 ∧ m.length ≤ 10000000000000, .lst (V.limbs (nl (max l.length m.length + 1) (lv l + lv m))))
attribute [go_sem ↓, go_sem] kPlus
theorem plus_C : Ctr Tryz.prog 129 kPlus := Ctr.c2 (by kernel_rfl) fun l m h => plus_V l m h.1.1 h.1.2 h.2.1 h.2.2
end Go.Proofs.YtfbogelmgdojgaaGreat

/- Contracts: minus, Add, Sub. -/
namespace Go.Proofs.YtfbogelmgdojgaaGreat
set_option linter.unusedSimpArgs false
set_option linter.unusedVariables false
open Go.RowKit

theorem minus_V (l m : List Nat) (hl : Lim l) (hm : Lim m) (h1 : l.length ≤ 10000000000000) (hml : m.length ≤ l.length) (hle : lv m ≤ lv l) :
    PCall Tryz.prog 131 [.lst (V.limbs l), .lst (V.limbs m)] (.lst (V.limbs (nl l.length (lv l - lv m)))) := by
  refine PCall.of_vc (tabs mixed (tbl_cons sub32_C tbl_nil)) Tryz.func131 rfl Tryz.ntmps131 Tryz.results131 (by simp) ?_
  simp only [go_sem]
  and_intros
  any_goals omega
  refine AWp.loops (X := { x : Nat × List Nat × Nat // x.1 ≤ l.length ∧ Lim x.2.1 ∧ x.2.1.length = l.length ∧ x.2.2 ≤ 1 ∧ lv (x.2.1.take x.1) + lv (m.take x.1) = lv (l.take x.1) + 4294967296 ^ x.1 * x.2.2 })
    (fun x => mkSt [(0, .lst (V.limbs l)), (1, .lst (V.limbs m)), (5, .sl 0 1 0 l.length), (6, .raw (.int .u32 (x.1.2.2 : Nat))), (13, .raw (.int .i64 (l.length : Nat))), (14, .raw (.int .i64 (x.1.1 : Nat)))] [(0, true, ⟨110, 1, V.limbs x.1.2.1⟩)] 1 40)
    (fun x => l.length - x.1.1) ⟨(0, List.replicate l.length 0, 0), Nat.zero_le _, Lim.replicate _, by simp, Nat.zero_le _, by simp [lv]⟩ (Wk.of [3] (by decide) ?_) ?_
  · simp only [go_sem]
  · rintro ⟨⟨k, r, c⟩, hk, hr, hrl, hc, hv⟩
    simp only at hk hr hrl hc hv
    refine vc_at (tabs mixed (tbl_cons sub32_C tbl_nil)) ?_
    have e6 : (k : Int) + 1 = ((k + 1 : Nat) : Int) := by omega
    by_cases h : k < l.length
    · have e3 : (k : Int) < l.length := by omega
      have hA1 := hl.at0 k
      have hB1 := hm.at0 k
      obtain ⟨d, es⟩ : ∃ d : Nat, ((at0 l k : Int) - at0 m k - c) % 4294967296 = d := ⟨(((at0 l k : Int) - at0 m k - c) % 4294967296).toNat, by omega⟩
      obtain ⟨t, ed⟩ : ∃ t : Nat, bor (at0 l k) (at0 m k) c = t := ⟨(bor (at0 l k) (at0 m k) c).toNat, by have := bor_range (at0 l k) (at0 m k) c; omega⟩
      have ht1 : t ≤ 1 := by have := bor_range (at0 l k) (at0 m k) c; omega
      have hd1 : d < 4294967296 := by omega
      have hdt : d + at0 m k + c = at0 l k + 4294967296 * t := by unfold bor at ed; split at ed <;> omega
      have step : k + 1 ≤ l.length ∧ Lim (r.set k d) ∧ (r.set k d).length = l.length ∧ t ≤ 1 ∧ lv ((r.set k d).take (k + 1)) + lv (m.take (k + 1)) = lv (l.take (k + 1)) + 4294967296 ^ (k + 1) * t := by
        refine ⟨h, hr.set k hd1, by simp [hrl], ht1, ?_⟩
        rw [lv_take_set _ (by omega), lv_take_succ', lv_take_succ', Nat.pow_succ]
        exact sub_step hv hdt
      by_cases hb : k < m.length
      · have e4 : (k : Int) < m.length := by omega
        simp only [go_sem, e3, e4, e6, es, ed, hrl]
        and_intros
        any_goals omega
        refine ⟨⟨(k + 1, r.set k d, t), step⟩, Wk.of [0] (by decide) ?_, by simp only; omega⟩
        simp only [go_sem, hrl]
      · have e4 : ¬ (k : Int) < m.length := by omega
        have e0 : at0 m k = 0 := at0_beyond (by omega)
        rw [e0] at es ed
        simp only [go_sem, Int.cast_ofNat_Int] at es ed
        simp only [go_sem, e3, e4, e6, es, ed, hrl]
        and_intros
        any_goals omega
        refine ⟨⟨(k + 1, r.set k d, t), step⟩, Wk.of [0] (by decide) ?_, by simp only; omega⟩
        simp only [go_sem, hrl]
    · have e3 : ¬ (k : Int) < l.length := by omega
      have hk' : k = l.length := by omega
      subst hk'
      simp only [go_sem, e3, hrl]
      have e7 : List.take l.length r = nl l.length (lv l - lv m) := by
        rw [List.take_of_length_le (by simp [hrl])]
        refine nl_of hr hrl ?_
        have h4 := lv_lt hr
        rw [hrl] at h4
        rw [List.take_length, List.take_of_length_le hml, List.take_of_length_le (by rw [hrl]; exact Nat.le_refl _)] at hv
        have h5 : c = 0 := by
          rcases Nat.eq_zero_or_pos c with h | h
          · exact h
          · have : c = 1 := by omega
            rw [this, Nat.mul_one] at hv
            omega
        rw [h5] at hv
        omega
      rw [e7]; exact .refl _
def kMinus : Con := con2 pL pL fun l m => ((Lim l ∧ Lim m) ∧ l.length ≤ 10000000000000 ∧ m.length ≤ l.length ∧ lv m ≤ lv l, .lst (V.limbs (nl l.length (lv l - lv m))))
attribute [go_sem ↓, go_sem] kMinus
theorem minus_C : Ctr Tryz.prog 131 kMinus := Ctr.c2 (by kernel_rfl) fun l m h => minus_V l m h.1.1 h.1.2 h.2.1 h.2.2.1 h.2.2.2
theorem nl_sv (s : Bool) {n v : Nat} (h : v < 4294967296 ^ n) : sv s (nl n v) = if s = true then -(v : Int) else v := by
  unfold sv; rw [lv_nl n v h]
theorem len_of_lt {l m : List Nat} (hl : Canon l) (hm : Canon m) (h : lv l ≤ lv m) : l.length ≤ m.length := by
  rcases Nat.lt_or_ge m.length l.length with g | g
  · have := lv_lt_of_len hm.1 hl g; omega
  · exact g
def kAdd : Con := con2 pI pI fun x y => (dl x.natAbs ≤ 4000000000000 ∧ dl y.natAbs ≤ 4000000000000, .I (x + y))
attribute [go_sem ↓, go_sem] kAdd
theorem add_C : Ctr Tryz.prog 100 kAdd := Ctr.c2 (by kernel_rfl) fun x y h => by
  obtain ⟨h1, h2⟩ := h
  obtain ⟨s, l, hz, hl, hs, e1, e2, e3⟩ := sv_open x
  obtain ⟨t, m, hz', hm, ht, f1, f2, f3⟩ := sv_open y
  refine PCall.of_vc (tabs mixed (tbl_cons compare_C (tbl_cons plus_C (tbl_cons minus_C (tbl_cons norm_C tbl_nil))))) Tryz.func100 rfl Tryz.ntmps100 Tryz.results100 (by simp) ?_
  have hc := hl.1
  have hcm := hm.1
  by_cases hst : s = t
  · subst hst
    have e4 : (s == s) = true := by simp
    simp only [go_sem, e1, e2, f1, f2, e4, nl_length]
    refine ⟨⟨⟨hc, hcm⟩, by omega, by omega⟩, ⟨nl_lim _ _, by omega⟩, by rfl, out_II ?_⟩
    rw [nl_sv s (sum_lt hc hcm (Nat.le_max_left _ _) (Nat.le_max_right _ _)), hz, hz']
    cases s <;> simp [sv] <;> omega
  · have e4 : (s == t) = false := by simpa using hst
    by_cases hlt : lv l < lv m
    · have e5 : cmpI (lv l : Int) (lv m) = -1 := cmpI_lt (by omega)
      simp only [go_sem, e1, e2, f1, f2, e4, e5, nl_length]
      refine ⟨⟨⟨hl, hm⟩, by omega, by omega⟩, ⟨⟨hcm, hc⟩, by omega, len_of_lt hl hm (by omega), by omega⟩, ⟨nl_lim _ _, by omega⟩, by rfl, out_II ?_⟩
      rw [nl_sv t (Nat.lt_of_le_of_lt (Nat.sub_le _ _) (lv_lt hcm)), hz, hz']
      cases s <;> cases t <;> simp [sv] at hst ⊢ <;> omega
    · have hge : ¬ cmpI (lv l : Int) (lv m) < 0 := by unfold cmpI; split <;> (try split) <;> omega
      simp only [go_sem, e1, e2, f1, f2, e4, hge, nl_length]
      refine ⟨⟨⟨hl, hm⟩, by omega, by omega⟩, ⟨⟨hc, hcm⟩, by omega, len_of_lt hm hl (by omega), by omega⟩, ⟨nl_lim _ _, by omega⟩, by rfl, out_II ?_⟩
      rw [nl_sv s (Nat.lt_of_le_of_lt (Nat.sub_le _ _) (lv_lt hc)), hz, hz']
      cases s <;> cases t <;> simp [sv] at hst ⊢ <;> omega
def kSub : Con := con2 pI pI fun x y => (dl x.natAbs ≤ 4000000000000 ∧ dl y.natAbs ≤ 4000000000000, .I (x - y))
attribute [go_sem ↓, go_sem] kSub
theorem sub_C : Ctr Tryz.prog 122 kSub := Ctr.c2 (by kernel_rfl) fun x y h => by
  obtain ⟨h1, h2⟩ := h
  refine PCall.of_vc (tabs mixed (tbl_cons neg_C (tbl_cons add_C tbl_nil))) Tryz.func122 rfl Tryz.ntmps122 Tryz.results122 (by simp) ?_
  simp only [go_sem, Int.natAbs_neg]
  exact ⟨⟨h1, h2⟩, by rfl, out_II (by omega)⟩
end Go.Proofs.YtfbogelmgdojgaaGreat
