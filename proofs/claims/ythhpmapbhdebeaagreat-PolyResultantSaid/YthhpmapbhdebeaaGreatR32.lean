/- Texts LC8 in one. -/
import Derived.Test.YthhpmapbhdebeaaGreatR31
import Derived.Test.YthhpmapbhdebeaaGreatR25
import Derived.Test.YthhpmapbhdebeaaGreatR28
/- The law of resultants. -/
namespace Go.Proofs.YthhpmapbhdebeaaGreat
set_option linter.unusedSimpArgs false
set_option linter.unusedVariables false
open Go.RowKit

/-- The size of a resultant. -/
def reM3 : Nat → Nat → Nat → Nat → Nat → Nat
  | 0, _, _, _, _ => 0
  | n + 1, la, sa, lb, sb => if la = 0 ∨ lb = 0 then 1 else if lb = 1 then (la - 1) * sb + 1 else if la = 1 then (lb - 1) * sa + 1 else
      if la < lb then reM3 n lb sb la sa else mxB lb fun l => if l = 0 then 1 else (la - l) * sb + 1 + reM3 n lb sb l (rmB la sa lb sb)
theorem reM3_ok : ∀ (n : Nat) {la sa lb sb : Nat} {a b : List Rat}, la + 2 * lb < n → Can a → Can b → a.length = la → b.length = lb → PB a sa → PB b sb → qs (pRes a b) ≤ reM3 n la sa lb sb
  | 0, _, _, _, _, _, _, h, _, _, _, _, _, _ => by omega
  | n + 1, la, sa, lb, sb, a, b, h, ca, cb, e1, e2, pa, pb => by
    subst e1 e2
    rw [pRes_step ca cb, reM3]
    by_cases h0 : a = [] ∨ b = []
    · rw [if_pos h0, if_pos (by rcases h0 with e | e <;> rw [e] <;> simp)]
      exact qs_0
    · have a0 : a ≠ [] := fun e => h0 (.inl e)
      have b0 : b ≠ [] := fun e => h0 (.inr e)
      have hal := List.length_pos_iff.2 a0
      have hbl := List.length_pos_iff.2 b0
      rw [if_neg h0, if_neg (show ¬ (a.length = 0 ∨ b.length = 0) by omega)]
      by_cases h1 : b.length = 1
      · rw [if_pos h1, if_pos h1]
        exact qs_powN (pb _) _
      · rw [if_neg h1, if_neg h1]
        by_cases h2 : a.length = 1
        · rw [if_pos h2, if_pos h2]
          exact qs_powN (pa _) _
        · rw [if_neg h2, if_neg h2]
          by_cases h3 : a.length < b.length
          · rw [if_pos h3, if_pos h3, qs_sgm]
            exact reM3_ok n (by omega) cb ca rfl rfl pb pa
          · rw [if_neg h3, if_neg h3]
            obtain ⟨⟨_, cr⟩, hr, _⟩ := dm_ok ca cb b0
            refine Nat.le_trans ?_ (mxB_ok (f := fun l => if l = 0 then 1 else (a.length - l) * sb + 1 + reM3 n b.length sb l (rmB a.length sa b.length sb)) _ hr)
            by_cases h4 : pMod a b = []
            · rw [if_pos h4, h4]
              exact qs_0
            · have := List.length_pos_iff.2 h4
              rw [if_neg h4, qs_sgm, if_neg (by omega)]
              refine Nat.le_trans (qs_mul _ _) (Nat.add_le_add (qs_powN (pb _) _) ?_)
              exact reM3_ok n (by omega) cb cr rfl rfl pb (rm_PB ca cb b0 pa pb)
/-- The conditions of a resultant of small polynomials. -/
def rsC (na sa nb sb : Nat) : Bool := allB (na + 1) fun la => allB (nb + 1) fun lb => reC 24 1 la sa lb sb && decide (reM3 24 la sa lb sb ≤ 1000000000000)
theorem rs_ok {a b : List Rat} {na sa nb sb : Nat} (h : rsC na sa nb sb = true) (hl : na + 2 * nb < 24) (ha : Sz a na sa) (hb : Sz b nb sb) : (∃ n, ReOk n 1 a b) ∧ qs (pRes a b) ≤ 1000000000000 := by
  have h1 := allB_ok (allB_ok h a.length (by have := ha.len; omega)) b.length (by have := hb.len; omega)
  simp only [Bool.and_eq_true, decide_eq_true_eq] at h1
  exact ⟨⟨24, reC_ok 24 h1.1 (o := 1) qs_1 ha.can hb.can rfl rfl ha.pb hb.pb⟩, Nat.le_trans (reM3_ok 24 (by have := ha.len; have := hb.len; omega) ha.can hb.can rfl rfl ha.pb hb.pb) h1.2⟩
theorem pRes_e {a b : List Rat} (ha : Can a) (hb : Can b) (h : a = [] ∨ b = []) : pRes a b = 0 := by rw [pRes_step ha hb, if_pos h]
theorem rss_ok {a b : List Rat} (ha : Sz a 5 1) (hb : Sz b 5 1) : RsOk a b := by
  have h1 := ha.len
  have h2 := hb.len
  have h3 : a.length - 1 + (b.length - 1) ≤ 8 := by omega
  exact ⟨⟨ha.can, hb.can, by omega⟩, 1, ⟨by decide, ha.pb, hb.pb⟩, Nat.le_trans (eS_mono 1 h3) (by decide), Nat.le_trans (eT_mono 1 h3) (by decide)⟩
theorem pRes_mul' {a b c : List Rat} (ha : Can a) (hb : Can b) (hc : Can c) : pRes a (pMul b c) = pRes a b * pRes a c := by
  by_cases a0 : a = []
  · rw [pRes_e ha (can_pMul _ _) (.inl a0), pRes_e ha hb (.inl a0), Rat.zero_mul]
  · by_cases b0 : b = []
    · have e : pMul b c = [] := ev_inj (can_pMul _ _) Can_nil fun x => by rw [ev_pMul, b0]; show (0 : Rat) * _ = 0; rw [Rat.zero_mul]
      rw [e, pRes_e ha Can_nil (.inr rfl), pRes_e ha hb (.inr b0), Rat.zero_mul]
    · by_cases c0 : c = []
      · have e : pMul b c = [] := ev_inj (can_pMul _ _) Can_nil fun x => by rw [ev_pMul, c0]; show _ * (0 : Rat) = 0; rw [Rat.mul_zero]
        rw [e, pRes_e ha Can_nil (.inr rfl), pRes_e ha hc (.inr c0), Rat.mul_zero]
      · exact pRes_mul ha hb hc a0 b0 c0
set_option maxRecDepth 20000 in
set_option maxHeartbeats 4000000 in
theorem resultant_V (x : Th) (hx : x.Ok) : PCall Tryz.prog 4 [x.v] (.raw (.bool true)) := by
  obtain ⟨⟨pa, pb, pc⟩, hz⟩ := hx
  have T : Tabs Tryz.prog _ noGab := tabs mixed (tbl_cons sanity3_C (tbl_cons made3_C (tbl_cons res_C (tbl_cons rRes_C (tbl_cons rPMul_C (tbl_cons r2Cmp_C (tbl_cons r2Mul_C (tbl_cons r2Neg_C (tbl_cons r2Sign_C (tbl_cons rGcd_C tbl_nil))))))))))
  refine PCall.of_vc T Tryz.func4 rfl Tryz.ntmps4 Tryz.results4 (by simp [Th.v]) ?_
  have ha : Sz (psL x.A 5) 5 1 := psL_sz pa 5
  have hb : Sz (psL x.B 5) 5 1 := psL_sz pb 5
  have hc : Sz (psL x.C 3) 3 1 := psL_sz pc 3
  have mb : MB (psL x.B 5) 128 := psL_MB pb 5
  have mc : MB (psL x.C 3) 128 := psL_MB pc 3
  unfold Th.v
  obtain ⟨a, ea⟩ : ∃ a, psL x.A 5 = a := ⟨_, rfl⟩
  obtain ⟨b, eb⟩ : ∃ a, psL x.B 5 = a := ⟨_, rfl⟩
  obtain ⟨c, ec⟩ : ∃ a, psL x.C 3 = a := ⟨_, rfl⟩
  rw [ea] at ha
  rw [eb] at hb mb
  rw [ec] at hc mc
  have hbc := three_sz hb hc mb mc
  obtain ⟨r1, r2⟩ := rs_ok (by decide +kernel : rsC 5 1 5 1 = true) (by decide) ha hb
  obtain ⟨r3, r4⟩ := rs_ok (by decide +kernel : rsC 5 1 5 1 = true) (by decide) hb ha
  obtain ⟨r5, r6⟩ := rs_ok (by decide +kernel : rsC 5 1 3 1 = true) (by decide) ha hc
  obtain ⟨r7, r8⟩ := rs_ok (by decide +kernel : rsC 5 1 7 2 = true) (by decide) ha hbc
  have k1 := rss_ok ha hb
  have g1 : ∃ n, GcOk n a b := ⟨_, (gc_start ha hb (by decide)).1⟩
  have m1 := Sz.cm hb hc
  have emul := pRes_mul' (a := a) ha.can hb.can hc.can
  have sw : a ≠ [] → b ≠ [] → pRes b a = sgm (a.length - 1) (b.length - 1) (pRes a b) := fun a0 b0 => pRes_swap ha.can hb.can a0 b0
  have zr : a ≠ [] → b ≠ [] → (pRes a b = 0 ↔ 1 < (pG a b).length) := fun a0 b0 => pRes_zero _ a b ha.can hb.can (Nat.lt_succ_self _) a0 b0
  have z1 : a = [] ∨ b = [] → pRes a b = 0 := pRes_e ha.can hb.can
  have z2 : b = [] ∨ a = [] → pRes b a = 0 := pRes_e hb.can ha.can
  have c0 : ∀ a : Rat, cmpQ a a = 0 := fun a => by
    have := cmpQ_eq0 a a
    simpa using this
  have la5 := ha.len
  have lb5 := hb.len
  rw [emul] at r8
  obtain ⟨r, er⟩ : ∃ r, pRes a b = r := ⟨_, rfl⟩
  obtain ⟨s, es⟩ : ∃ r, pRes a c = r := ⟨_, rfl⟩
  rw [er] at r2 sw zr z1 emul r8
  rw [es] at r6 emul r8
  have q1 : qs r ≤ 5000000000000 := by omega
  have q2 : qs s ≤ 5000000000000 := by omega
  have q3 : qs r ≤ 2500000000000 := by omega
  have q4 : qs (r * s) ≤ 2500000000000 := by omega
  have q7 : qs (r * s) ≤ 5000000000000 := by omega
  have p1 : PB b 5000000000000 := hb.pb.mono (by decide)
  have p2 : PB c 5000000000000 := hc.pb.mono (by decide)
  have p3 : c.length ≤ 1000000 := Nat.le_trans hc.len (by decide)
  have p4 : ∃ j k, PB b j ∧ PB c k := ⟨_, _, hb.pb, hc.pb⟩
  have sg := sgn_numQ r
  have t0 : ((0 : Int) != 0) = false := rfl
  simp only [app_cons, app_nil]
  by_cases a0 : a = []
  · have e1 := z1 (.inl a0)
    subst e1
    have e2 := z2 (.inr a0)
    have l0 : a.length = 0 := by rw [a0]; rfl
    have n1 : ¬ (0 : Int) < ((0 : Nat) : Int) := by decide
    have n2 : (((0 : Nat) : Int) == 0) = true := rfl
    have sg0 : (sgI (0 : Rat).num == 0) = true := rfl
    simp (maxSteps := 2000000) only [go_sem, ea, eb, ec, er, es, pa, pb, pc, l0, n1, n2, sg0, e2, emul, c0, t0, r1, r3, r5, r7, k1, m1, p1, p2, p3, p4, q7, q1, q2, q3, q4]
    exact by rfl
  · by_cases b0 : b = []
    · have e1 := z1 (.inr b0)
      subst e1
      have e2 := z2 (.inl b0)
      have l0 : b.length = 0 := by rw [b0]; rfl
      have lp := List.length_pos_iff.2 a0
      obtain ⟨m, em⟩ : ∃ m, a.length = m + 1 := ⟨a.length - 1, by omega⟩
      have n1 : ¬ (0 : Int) < ((0 : Nat) : Int) := by decide
      have n2 : (((0 : Nat) : Int) == 0) = true := rfl
      have n3 : (0 : Int) < ((m + 1 : Nat) : Int) := by omega
      have n4 : (((m + 1 : Nat) : Int) == 0) = false := by simp; omega
      have sg0 : (sgI (0 : Rat).num == 0) = true := rfl
      simp (maxSteps := 2000000) only [go_sem, ea, eb, ec, er, es, pa, pb, pc, l0, em, n1, n2, n3, n4, sg0, e2, emul, c0, t0, r1, r3, r5, r7, k1, m1, p1, p2, p3, p4, q7, q1, q2, q3, q4]
      exact by rfl
    · have lp := List.length_pos_iff.2 a0
      have lq := List.length_pos_iff.2 b0
      obtain ⟨m, em⟩ : ∃ m, a.length = m + 1 := ⟨a.length - 1, by omega⟩
      obtain ⟨n, en⟩ : ∃ m, b.length = m + 1 := ⟨b.length - 1, by omega⟩
      have sw := sw a0 b0
      have zr := zr a0 b0
      rw [em, en, Nat.add_sub_cancel, Nat.add_sub_cancel] at sw
      have n3 : (0 : Int) < ((m + 1 : Nat) : Int) := by omega
      have n4 : (((m + 1 : Nat) : Int) == 0) = false := by simp; omega
      have n5 : (0 : Int) < ((n + 1 : Nat) : Int) := by omega
      have n6 : (((n + 1 : Nat) : Int) == 0) = false := by simp; omega
      have n7 : ((m + 1 : Nat) : Int) - 1 = (m : Int) := by omega
      have n8 : ((n + 1 : Nat) : Int) - 1 = (n : Int) := by omega
      have n9 : (m : Int) * (n : Int) = ((m * n : Nat) : Int) := by simp
      have mn : m * n ≤ 4 * 4 := Nat.mul_le_mul (by omega) (by omega)
      have u1 : -9223372036854775808 ≤ (m : Int) ∧ (m : Int) ≤ 9223372036854775807 := by omega
      have u2 : -9223372036854775808 ≤ (n : Int) ∧ (n : Int) ≤ 9223372036854775807 := by omega
      have u3 : -9223372036854775808 ≤ ((m * n : Nat) : Int) ∧ ((m * n : Nat) : Int) ≤ 9223372036854775807 := by omega
      have u4 : ((m * n : Nat) : Int).tmod 2 = ((m * n % 2 : Nat) : Int) := rfl
      have w1 : (((pG a b).length : Int) > 1) = (r = 0) := by rw [zr]; exact propext (by omega)
      have sgr : qs (-r) ≤ 2500000000000 := by rw [qs_neg]; exact q3
      unfold sgm at sw
      by_cases odd : m * n % 2 = 1
      · rw [if_pos odd] at sw
        have o1 : (((m * n % 2 : Nat) : Int) == 1) = true := by simp; omega
        have o2 : - -r = r := by grind
        have q5 : qs (-r) ≤ 5000000000000 := by omega
        have q6 : qs (-r) ≤ 12000000000000 := by omega
        simp (maxSteps := 2000000) only [go_sem, ea, eb, ec, er, es, pa, pb, pc, em, en, n3, n4, n5, n6, n7, n8, n9, u1, u2, u3, u4, sw, emul, c0, t0, o1, o2, r1, r3, r5, r7, k1, m1, p1, p2, p3, p4, q7, g1, q1, q2, q3, q4, q5, q6]
        have m2 := m1
        rw [en] at m2
        refine ⟨m2, by rfl, ?_⟩
        have fin : ((sgI r.num == 0) == decide (1 < ((pGcd a b).length : Int))) = true := by
          rw [sg, show (pGcd a b).length = (pG a b).length from len_pMonic (can_pG ha.can hb.can)]
          by_cases r0 : r = 0
          · have := zr.1 r0
            rw [decide_eq_true r0, decide_eq_true (show 1 < ((pG a b).length : Int) by omega)]; rfl
          · have : ¬ 1 < (pG a b).length := fun h => r0 (zr.2 h)
            rw [decide_eq_false r0, decide_eq_false (show ¬ 1 < ((pG a b).length : Int) by omega)]; rfl
        rw [fin]
        exact .refl _
      · rw [if_neg odd] at sw
        have o1 : (((m * n % 2 : Nat) : Int) == 1) = false := by simp; omega
        simp (maxSteps := 2000000) only [go_sem, ea, eb, ec, er, es, pa, pb, pc, em, en, n3, n4, n5, n6, n7, n8, n9, u1, u2, u3, u4, sw, emul, c0, t0, o1, r1, r3, r5, r7, k1, m1, p1, p2, p3, p4, q7, g1, q1, q2, q3, q4]
        have m2 := m1
        rw [en] at m2
        refine ⟨m2, by rfl, ?_⟩
        have fin : ((sgI r.num == 0) == decide (1 < ((pGcd a b).length : Int))) = true := by
          rw [sg, show (pGcd a b).length = (pG a b).length from len_pMonic (can_pG ha.can hb.can)]
          by_cases r0 : r = 0
          · have := zr.1 r0
            rw [decide_eq_true r0, decide_eq_true (show 1 < ((pG a b).length : Int) by omega)]; rfl
          · have : ¬ 1 < (pG a b).length := fun h => r0 (zr.2 h)
            rw [decide_eq_false r0, decide_eq_false (show ¬ 1 < ((pG a b).length : Int) by omega)]; rfl
        rw [fin]
        exact .refl _
set_option maxRecDepth 20000 in
theorem lawResultant_F (X : V) (h : Fits Tryz.prog 6 26 X) : PCall Tryz.prog 4 [X] (.raw (.bool true)) := by
  obtain ⟨x, rfl, hx⟩ := fits_three h
  exact resultant_V x hx
end Go.Proofs.YthhpmapbhdebeaaGreat

