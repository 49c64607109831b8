/- Texts G6 G7 in one. -/
import Derived.Test.YtfbogelmgdojgaaGreatP53
/- Contracts: division of polynomials. -/
namespace Go.Proofs.YtfbogelmgdojgaaGreat
set_option linter.unusedSimpArgs false
set_option linter.unusedVariables false
open Go.RowKit

def kLead : Con := con1 pR fun a => (a ≠ [] ∧ a.length ≤ 1000000, .Q (lead a))
attribute [go_sem ↓, go_sem] kLead
theorem lead_C : Ctr Tryz.prog 91 kLead := Ctr.c1 (by kernel_rfl) fun a h => by
  obtain ⟨h0, h1⟩ := h
  have hp := List.length_pos_iff.2 h0
  refine PCall.of_vc (tabs mixed tbl_nil) Tryz.func91 rfl Tryz.ntmps91 Tryz.results91 (by simp) ?_
  have e1 : (a.length : Int) - 1 = ((a.length - 1 : Nat) : Int) := by omega
  unfold lead
  simp only [go_sem, e1]
  exact ⟨by omega, by omega, by omega⟩
def kOver : Con := con2 pQ pQ fun a b => (b ≠ 0 ∧ qs a ≤ 10000000000 ∧ qs b ≤ 10000000000, .Q (a / b))
attribute [go_sem ↓, go_sem] kOver
theorem over_C : Ctr Tryz.prog 90 kOver := Ctr.c2 (by kernel_rfl) fun a b h => by
  obtain ⟨h0, h1, h2⟩ := h
  refine PCall.of_vc (tabs mixed (tbl_cons qDiv_C tbl_nil)) Tryz.func90 rfl Tryz.ntmps90 Tryz.results90 (by simp) ?_
  have r : divR a b = .tup [.Q (a / b), .raw (.int .i64 0)] := if_neg h0
  simp only [go_sem, r]
  exact ⟨h1, h2⟩
def kOne : Con := con0 (True, .Q 1)
attribute [go_sem ↓, go_sem] kOne
theorem one_C : Ctr Tryz.prog 88 kOne := Ctr.c0 (by kernel_rfl) fun _ => by
  refine PCall.of_vc (tabs mixed (tbl_cons whole_C tbl_nil)) Tryz.func88 rfl Tryz.ntmps88 Tryz.results88 (by simp) ?_
  simp only [go_sem]
  exact out_QQ rfl
/-- What DivMod returns. -/
def dmP (a b : List Rat) : V := if b = [] then .tup [.lst (V.rats []), .lst (V.rats []), .raw (.int .i64 3)] else .tup [.lst (V.rats (pDiv a b)), .lst (V.rats (pMod a b)), .raw (.int .i64 0)]
/-- The sizes within a division. -/
def DvOk (a b : List Rat) : Prop := (Can a ∧ Can b) ∧ a.length + b.length ≤ 1000000 ∧ ∃ s t, (PB a s ∧ PB b t) ∧ 2 ^ (a.length - b.length + 1) * (s + 2 * t + 1) ≤ 5000000000
theorem zq_set (i : Nat) (c : Rat) (ql : List Rat) : (List.replicate (i + 1) z0 ++ V.rats ql).set i (.Q c) = List.replicate i z0 ++ V.rats (c :: ql) := by
  rw [List.set_append_left _ _ (by simp), List.replicate_succ', List.set_append_right _ _ (by simp)]
  simp [V.rats]
theorem zq_get (i : Nat) (c : Rat) (ql : List Rat) : (List.replicate i z0 ++ V.rats (c :: ql))[i]? = some (.Q c) := by
  rw [List.getElem?_append_right (by simp)]
  simp [V.rats]
theorem zq_at (i : Nat) (ql : List Rat) : (List.replicate (i + 1) z0 ++ V.rats ql)[i]? = some z0 := by
  rw [List.getElem?_append_left (by simp), List.getElem?_replicate, if_pos (by omega)]
theorem z0_w : z0.wid = 4 := rfl
theorem zq_pure (i : Nat) (ql : List Rat) : allPure (List.replicate i z0 ++ V.rats ql) := fun y hy => by
  rcases List.mem_append.1 hy with h | h
  · exact z0_pure i y h
  · exact of_eq_true (rats_pure ql) y h
theorem zq_len (i : Nat) (ql : List Rat) : (List.replicate i z0 ++ V.rats ql).length = i + ql.length := by simp [V.rats]
set_option maxRecDepth 4000 in
theorem dm_V (a b : List Rat) (s t : Nat) (ca : Can a) (cb : Can b) (b0 : b ≠ []) (hab : b.length ≤ a.length) (hl : a.length + b.length ≤ 1000000) (ha : PB a s) (hb : PB b t) (hs : 2 ^ (a.length - b.length + 1) * (s + 2 * t + 1) ≤ 5000000000) :
    PCall Tryz.prog 54 [.lst (V.rats a), .lst (V.rats b)] (.tup [.lst (V.rats (pDiv a b)), .lst (V.rats (pMod a b)), .raw (.int .i64 0)]) := by
  refine PCall.of_vc (tabsX mixed (tbl_cons over_C (tbl_cons lead_C (tbl_cons qMul_C (tbl_cons qSub_C (tbl_cons trim_C tbl_nil))))) (xtb_cons qclone_C xtb_nil)) Tryz.func54 rfl Tryz.ntmps54 Tryz.results54 (by simp) ?_
  have bl := List.length_pos_iff.2 b0
  have a0 : a ≠ [] := fun e => by rw [e, List.length_nil] at hab; omega
  have c1 : ((b.length : Int) == 0) = false := beqF (by omega)
  have c2 : ¬ (a.length : Int) < b.length := by omega
  obtain ⟨Q, hQ⟩ : ∃ Q, Q = a.length - b.length + 1 := ⟨_, rfl⟩
  have e1 : (a.length : Int) - b.length + 1 = (Q : Nat) := by omega
  rw [← hQ] at hs
  have lb := lead_ne cb b0
  have qlb : qs (lead b) ≤ t := hb _
  have t0 := hb.pos
  simp only [go_sem, c1, c2, e1, Int.toNat_natCast, a0]
  refine ⟨by omega, by omega, by omega, by omega, by omega, ?_⟩
  refine AWp.loops (X := { p : Nat × List Rat × List Rat // (p.1 ≤ Q ∧ p.2.1.length = a.length ∧ p.2.2.length = Q - p.1) ∧ (∀ x, ev (shl p.1 p.2.2) x * ev b x + ev p.2.1 x = ev a x) ∧ (∀ n, p.1 + b.length - 1 ≤ n → cf p.2.1 n = 0) ∧ ∃ z, PB p.2.1 z ∧ z + 2 * t + 1 ≤ 2 ^ (Q - p.1) * (s + 2 * t + 1) })
    (fun p => mkSt [(1, .lst (V.rats b)), (4, .raw (.slice none 0 0)), (5, .raw (.slice none 0 0)), (6, .raw (.int .i64 0)), (7, .sl 0 4 0 a.length), (8, .sl 1 4 0 Q), (9, .raw (.int .i64 ((p.1.1 : Nat) - 1)))] [(0, true, ⟨45, 4, V.rats p.1.2.1⟩), (1, true, ⟨45, 4, List.replicate p.1.1 z0 ++ V.rats p.1.2.2⟩)] 2 81)
    (fun p => p.1.1) ⟨(Q, a, []), ⟨Nat.le_refl _, rfl, by simp⟩, fun x => ?_, fun n hn => cf_ge (l := a) (by simp only at hn; omega), s, ha, by simp⟩ (Wk.of [12, 20] (by decide) ?_) ?_
  · have : ev (shl Q []) x = 0 := by
      rw [← ev_tr, show tr (shl Q []) = [] from tr_at (n := 0) (Nat.zero_le _) (fun i _ => by rw [cf_shl]; split <;> rfl) (fun e => absurd rfl e)]
      rfl
    simp only [this]; grind
  · simp only [go_sem]
    exact ⟨by rw [show V.rats [] = [] from rfl, List.append_nil]; rfl, zq_pure Q []⟩
  · rintro ⟨⟨i, r, ql⟩, ⟨hi, hrl, hql⟩, hev, htop, z, hz, hzs⟩
    simp only at hi hrl hql hev htop hz hzs
    refine vc_at (tabsX mixed (tbl_cons over_C (tbl_cons lead_C (tbl_cons qMul_C (tbl_cons qSub_C (tbl_cons trim_C tbl_nil))))) (xtb_cons qclone_C xtb_nil)) ?_
    have hpow : 2 ^ (Q - i) * (s + 2 * t + 1) ≤ 2 ^ Q * (s + 2 * t + 1) := Nat.mul_le_mul_right _ (Nat.pow_le_pow_right (by decide) (by omega))
    rcases i with _ | i
    · have d1 : ¬ (0 : Int) ≤ ((0 : Nat) : Int) - 1 := by decide
      have f1 : Q ≤ ql.length := by omega
      have f2 : ql.take Q = ql := List.take_of_length_le (by omega)
      have f3 : r.take a.length = r := List.take_of_length_le (by omega)
      obtain ⟨g1, g2⟩ := pdiv_end ca cb b0 hev fun n hn => htop n (by omega)
      rw [shl_zero] at g1
      simp only [go_sem, d1, f1, f2, f3, hrl, g1, g2]
      omega
    · have d1 : ((i + 1 : Nat) : Int) - 1 = (i : Nat) := by omega
      have d2 : 0 ≤ (i : Int) := by omega
      have d3 : (i : Int) + b.length - 1 = ((i + b.length - 1 : Nat) : Int) := by omega
      have hp2 : 2 ^ (Q - (i + 1)) * (s + 2 * t + 1) * 2 = 2 ^ (Q - i) * (s + 2 * t + 1) := by
        rw [show Q - i = Q - (i + 1) + 1 from by omega, Nat.pow_succ]
        rw [Nat.mul_right_comm]
      have hp3 : 2 ^ (Q - i) * (s + 2 * t + 1) ≤ 2 ^ Q * (s + 2 * t + 1) := Nat.mul_le_mul_right _ (Nat.pow_le_pow_right (by decide) (by omega))
      have hz1 := hz (i + b.length - 1)
      simp only [go_sem, d1, d2, d3, zq_at, z0_w, zq_set, b0]
      refine ⟨by omega, by omega, by omega, by omega, by omega, ⟨lb, by omega, by omega⟩, by omega, by rfl, ?_⟩
      obtain ⟨c, hc⟩ : ∃ c, cf r (i + b.length - 1) / lead b = c := ⟨_, rfl⟩
      have qc : qs c ≤ z + t := by rw [← hc]; exact qsD hz1 qlb
      rw [hc]
      refine AWp.loops (X := { p : Nat × List Rat // p.1 ≤ b.length ∧ p.2.length = a.length ∧ ∀ n, cf p.2 n = cf r n - (if i ≤ n ∧ n < i + p.1 then c * cf b (n - i) else 0) })
        (fun p => mkSt [(1, .lst (V.rats b)), (4, .raw (.slice none 0 0)), (5, .raw (.slice none 0 0)), (6, .raw (.int .i64 0)), (7, .sl 0 4 0 a.length), (8, .sl 1 4 0 Q), (9, .raw (.int .i64 (i : Nat))), (51, .lst (V.rats b)), (52, .raw (.int .i64 (b.length : Nat))), (53, .raw (.int .i64 (p.1.1 : Nat)))] [(0, true, ⟨45, 4, V.rats p.1.2⟩), (1, true, ⟨45, 4, List.replicate i z0 ++ V.rats (c :: ql)⟩)] 2 81)
        (fun p => b.length - p.1.1) ⟨(0, r), Nat.zero_le _, hrl, fun n => by rw [if_neg (by simp only; omega)]; grind⟩ (Wk.of [0, 1] (by decide) ?_) ?_
      · simp only [go_sem]
        exact zq_pure i (c :: ql)
      · rintro ⟨⟨k, r'⟩, hk, hl', hr'⟩
        simp only at hk hl' hr'
        refine vc_at (tabsX mixed (tbl_cons over_C (tbl_cons lead_C (tbl_cons qMul_C (tbl_cons qSub_C (tbl_cons trim_C tbl_nil))))) (xtb_cons qclone_C xtb_nil)) ?_
        have hPB : PB r' (2 * z + 2 * t + 1) := fun n => by
          rw [hr']
          split
          · exact Nat.le_trans (qsS (hz n) (qsM qc (hb _))) (by omega)
          · exact Nat.le_trans (qsS (hz n) qs_0) (by omega)
        by_cases hkb : k < b.length
        · have g1 : (k : Int) < b.length := by omega
          have g2 : (k : Int) + 1 = ((k + 1 : Nat) : Int) := by omega
          have g3 : (i : Int) + (k : Nat) = ((i + k : Nat) : Int) := by omega
          have g4 := hPB (i + k)
          have g5 := hb k
          have g6 := qsM qc g5
          simp only [go_sem, g1, g2, g3, zq_get, hl']
          refine ⟨by omega, hkb, by omega, by omega, by omega, by omega, by omega, by omega, by omega, by omega, by omega, by rfl, by omega, ⟨(k + 1, r'.set (i + k) (cf r' (i + k) - c * cf b k)), hkb, by rw [List.length_set]; exact hl', fun n => ?_⟩, Wk.of [0, 1] (by decide) ?_, by simp only; omega⟩
          · simp only [cf_set]
            by_cases hn : i + k = n
            · subst hn
              rw [if_pos ⟨rfl, by omega⟩, hr', if_neg (by omega), if_pos (by omega), show i + k - i = k from by omega]; grind
            · rw [if_neg fun h => hn h.1, hr']
              by_cases h1 : i ≤ n ∧ n < i + k
              · rw [if_pos h1, if_pos (by omega)]
              · rw [if_neg h1, if_neg (by omega)]
          · simp only [go_sem]
            exact zq_pure i (c :: ql)
        · have g1 : ¬ (k : Int) < b.length := by omega
          obtain rfl : k = b.length := by omega
          have hr2 : ∀ n, cf r' n = cf r n - (if i ≤ n then c * cf b (n - i) else 0) := fun n => by
            rw [hr']
            by_cases h1 : i ≤ n
            · by_cases h2 : n < i + b.length
              · rw [if_pos ⟨h1, h2⟩, if_pos h1]
              · rw [if_neg (by omega), if_pos h1, cf_ge (l := b) (by omega)]; grind
            · rw [if_neg (by omega), if_neg h1]
          simp only [go_sem, g1]
          refine ⟨by omega, ⟨(i, r', c :: ql), ⟨by simp only; omega, hl', by simp only [List.length_cons]; omega⟩, pdiv_step hev hr2, pdiv_top cb b0 (fun n hn => htop n (by omega)) (by rw [hc]; exact hr2), 2 * z + 2 * t + 1, hPB, by simp only; omega⟩, Wk.of [0, 1] (by decide) ?_, by simp only; omega⟩
          simp only [go_sem]
          exact zq_pure i (c :: ql)
def kDM : Con := con2 pR pR fun a b => (DvOk a b, dmP a b)
attribute [go_sem ↓, go_sem] kDM
theorem pDM_C : Ctr Tryz.prog 54 kDM := Ctr.c2 (by kernel_rfl) fun a b h => by
  obtain ⟨⟨ca, cb⟩, hl, s, t, ⟨ha, hb⟩, hs⟩ := h
  show PCall _ _ _ (dmP a b)
  unfold dmP
  by_cases b0 : b = []
  · subst b0
    rw [if_pos rfl]
    refine PCall.of_vc (tabs mixed tbl_nil) Tryz.func54 rfl Tryz.ntmps54 Tryz.results54 (by simp) ?_
    have c1 : ((0 : Int) == 0) = true := rfl
    simp only [go_sem, rats_nil.symm, c1]
  · rw [if_neg b0]
    have bl := List.length_pos_iff.2 b0
    by_cases hab : a.length < b.length
    · obtain ⟨g1, g2⟩ := dm_small ca cb hab
      rw [g1, g2]
      refine PCall.of_vc (tabs mixed tbl_nil) Tryz.func54 rfl Tryz.ntmps54 Tryz.results54 (by simp) ?_
      have c1 : ((b.length : Int) == 0) = false := beqF (by omega)
      have c2 : (a.length : Int) < b.length := by omega
      simp only [go_sem, rats_nil.symm, c1, c2]
    · exact dm_V a b s t ca cb b0 (by omega) hl ha hb hs
end Go.Proofs.YtfbogelmgdojgaaGreat

/- Contracts: greatest common divisors. -/
namespace Go.Proofs.YtfbogelmgdojgaaGreat
set_option linter.unusedSimpArgs false
set_option linter.unusedVariables false
open Go.RowKit

def kMonic : Con := con1 pR fun a => (Can a ∧ a.length ≤ 1000000 ∧ ∃ s, PB a s ∧ s ≤ 5000000000, .lst (V.rats (pMonic a)))
attribute [go_sem ↓, go_sem] kMonic
theorem qs_inv1 (x : Rat) {k : Nat} (h : qs x ≤ k) : qs (1 / x) ≤ 1 + k := qsD qs_1 h
theorem pMonic_C : Ctr Tryz.prog 61 kMonic := Ctr.c1 (by kernel_rfl) fun a h => by
  obtain ⟨ca, hl, s, ha, hs⟩ := h
  show PCall _ _ _ (.lst (V.rats (pMonic a)))
  by_cases a0 : a = []
  · subst a0
    rw [pMonic_nil]
    refine PCall.of_vc (tabs mixed tbl_nil) Tryz.func61 rfl Tryz.ntmps61 Tryz.results61 (by simp) ?_
    have c1 : ((0 : Int) == 0) = true := rfl
    simp only [go_sem, rats_nil.symm, c1]
  · have al := List.length_pos_iff.2 a0
    have e : pMonic a = pSc (1 / lead a) a := if_neg a0
    rw [e]
    refine PCall.of_vc (tabs mixed (tbl_cons one_C (tbl_cons lead_C (tbl_cons over_C (tbl_cons pSc_C tbl_nil))))) Tryz.func61 rfl Tryz.ntmps61 Tryz.results61 (by simp) ?_
    have c1 : ((a.length : Int) == 0) = false := beqF (by omega)
    have l0 := lead_ne ca a0
    have l1 : qs (lead a) ≤ s := ha _
    have l2 := qs_inv1 _ l1
    have l3 := qs_1
    simp only [go_sem, c1, a0, l0]
    exact ⟨hl, by omega, hl, ha.mono (by omega), by omega⟩
/-- The sizes within Euclid's algorithm. -/
def GcOk : Nat → List Rat → List Rat → Prop
  | 0, _, _ => False
  | n + 1, a, b => DvOk a b ∧ (if b = [] then ∃ s, PB a s ∧ s ≤ 5000000000 else GcOk n b (pMod a b))
def kPGcd : Con := con2 pR pR fun a b => (∃ n, GcOk n a b, .lst (V.rats (pGcd a b)))
attribute [go_sem ↓, go_sem] kPGcd
theorem pGcd_C : Ctr Tryz.prog 73 kPGcd := Ctr.c2 (by kernel_rfl) fun a b h => by
  obtain ⟨n, hn⟩ := h
  show PCall _ _ _ (.lst (V.rats (pGcd a b)))
  refine PCall.of_vc (tabs mixed (tbl_cons pDM_C (tbl_cons pMonic_C tbl_nil))) Tryz.func73 rfl Tryz.ntmps73 Tryz.results73 (by simp) ?_
  simp only [go_sem]
  refine AWp.loops (X := { p : Nat × List Rat × List Rat // GcOk p.1 p.2.1 p.2.2 ∧ pGcd p.2.1 p.2.2 = pGcd a b })
    (fun p => mkSt [(0, .lst (V.rats p.1.2.1)), (1, .lst (V.rats p.1.2.2)), (4, .raw (.slice none 0 0))] [] 0 22)
    (fun p => p.1.1) ⟨(n, a, b), hn, rfl⟩ (Wk.of [] (by decide) ?_) ?_
  · simp only [go_sem]
  · rintro ⟨⟨m, x, y⟩, hm, he⟩
    simp only at hm he
    refine vc_at (tabs mixed (tbl_cons pDM_C (tbl_cons pMonic_C tbl_nil))) ?_
    rcases m with _ | m
    · exact hm.elim
    · obtain ⟨hd, hm⟩ := hm
      by_cases y0 : y = []
      · subst y0
        rw [if_pos rfl] at hm
        obtain ⟨s, h1, h2⟩ := hm
        have c1 : ¬ (0 : Int) < ((0 : Nat) : Int) := by decide
        have e1 : pMonic x = pGcd a b := by rw [← he]; rfl
        simp only [go_sem, c1, List.length_nil, e1]
        exact ⟨hd.1.1, by have := hd.2.1; omega, s, h1, h2⟩
      · rw [if_neg y0] at hm
        have yl := List.length_pos_iff.2 y0
        have c1 : 0 < (y.length : Int) := by omega
        have r1 : dmP x y = .tup [.lst (V.rats (pDiv x y)), .lst (V.rats (pMod x y)), .raw (.int .i64 0)] := if_neg y0
        simp only [go_sem, c1, r1]
        refine ⟨hd, ⟨(m, y, pMod x y), hm, ?_⟩, Wk.of [] (by decide) ?_, Nat.lt_succ_self m⟩
        · simp only
          rw [← he]
          unfold pGcd
          rw [pG_step hd.1.1 hd.1.2 y0]
        · simp only [go_sem]
def kExact : Con := con2 pR pR fun a b => (DvOk a b ∧ b ≠ [], .lst (V.rats (pDiv a b)))
attribute [go_sem ↓, go_sem] kExact
theorem exact_C : Ctr Tryz.prog 106 kExact := Ctr.c2 (by kernel_rfl) fun a b h => by
  obtain ⟨hd, b0⟩ := h
  refine PCall.of_vc (tabs mixed (tbl_cons pDM_C tbl_nil)) Tryz.func106 rfl Tryz.ntmps106 Tryz.results106 (by simp) ?_
  have r1 : dmP a b = .tup [.lst (V.rats (pDiv a b)), .lst (V.rats (pMod a b)), .raw (.int .i64 0)] := if_neg b0
  simp only [go_sem, r1]
  exact hd
theorem qs_powN {x : Rat} {j : Nat} (h : qs x ≤ j) (n : Nat) : qs (x ^ n) ≤ n * j + 1 := by
  induction n with
  | zero => rw [Rat.pow_zero]; exact Nat.le_trans qs_1 (by omega)
  | succ n ih =>
    rw [Rat.pow_succ]
    refine Nat.le_trans (qsM ih h) ?_
    rw [Nat.add_mul, Nat.one_mul]; omega
def kPower : Con := con2 pQ (pN .i64) fun c n => (0 ≤ n ∧ n ≤ 1000000 ∧ n.toNat * qs c + 1 ≤ 5000000000 ∧ qs c ≤ 5000000000, .Q (c ^ n.toNat))
attribute [go_sem ↓, go_sem] kPower
theorem power_C : Ctr Tryz.prog 102 kPower := Ctr.c2 (by kernel_rfl) fun c n h => by
  obtain ⟨h0, h1, h2, h3⟩ := h
  obtain ⟨N, rfl⟩ : ∃ N : Nat, n = N := ⟨n.toNat, by omega⟩
  rw [Int.toNat_natCast] at h2
  show PCall _ _ _ (.Q (c ^ N))
  refine PCall.of_vc (tabs mixed (tbl_cons one_C (tbl_cons qMul_C tbl_nil))) Tryz.func102 rfl Tryz.ntmps102 Tryz.results102 (by simp) ?_
  simp only [go_sem]
  refine AWp.loops (X := { k : Nat // k ≤ N })
    (fun k => mkSt [(2, .ptr 0 4 0 0), (4, .ptr 1 4 0 0), (5, .ptr 2 4 0 0), (7, .raw (.int .i64 (N : Nat))), (8, .raw (.int .i64 (k.1 : Nat)))] [(0, true, ⟨45, 4, [.Q c]⟩), (1, true, ⟨45, 4, [.agg [.raw (.bool false), .raw (.slice none 0 0), .raw (.bool false), .raw (.slice none 0 0)]]⟩), (2, true, ⟨45, 4, [.Q (c ^ k.1)]⟩)] 3 15)
    (fun k => N - k.1) ⟨0, Nat.zero_le _⟩ (Wk.of [0, 1, 3] (by decide) ?_) ?_
  · simp only [go_sem, Rat.pow_zero]
  · rintro ⟨k, hk⟩
    refine vc_at (tabs mixed (tbl_cons one_C (tbl_cons qMul_C tbl_nil))) ?_
    by_cases hkN : k < N
    · have c1 : (k : Int) < (N : Nat) := by omega
      have n1 : (k : Int) + 1 = ((k + 1 : Nat) : Int) := by omega
      have e1 := (Rat.pow_succ c k).symm
      have q1 := qs_powN (Nat.le_refl (qs c)) k
      have q2 : k * qs c ≤ N * qs c := Nat.mul_le_mul_right _ hk
      simp only [go_sem, c1, n1, e1]
      refine ⟨by omega, by omega, ⟨k + 1, hkN⟩, Wk.of [0, 1, 2] (by decide) ?_, by simp only; omega⟩
      simp only [go_sem]
    · have c1 : ¬ (k : Int) < (N : Nat) := by omega
      obtain rfl : k = N := by omega
      simp only [go_sem, c1]
end Go.Proofs.YtfbogelmgdojgaaGreat
