/- Texts SZ3 PM13 J1 in one. -/
import Derived.Test.YtfbogelmgdojgaaGreatP64
import Derived.Test.YtfbogelmgdojgaaGreatP69
/- Sizes of the squarefree part of a small polynomial. No program in sight. -/
namespace Go.Proofs.YtfbogelmgdojgaaGreat
set_option linter.unusedSimpArgs false
set_option linter.unusedVariables false
open Go.RowKit

theorem len_pDiff {a : List Rat} (ha : Can a) : (pDiff a).length = a.length - 1 := by
  have hc := can_pDiff a
  by_cases h : a.length ≤ 1
  · have : pDiff a = [] := ev_inj hc Can_nil fun x => by
      rw [ev_pDiff]
      match a, h with
      | [], _ => rfl
      | [c], _ =>
        rw [show dL [c] = dL [c] from rfl, ev_dL_cons]
        show 0 + x * 0 = 0
        grind
    rw [this]
    show 0 = _
    omega
  · have h1 : ¬ (pDiff a).length < a.length - 1 := fun hlt => by
      have e1 := cf_pDiff a (a.length - 2)
      rw [cf_ge (l := pDiff a) (by omega), show a.length - 2 + 1 = a.length - 1 from by omega] at e1
      have e2 := ha (fun e => by rw [e] at h; simp at h)
      have e3 : ((a.length - 1 : Nat) : Rat) ≠ 0 := fun e => by
        have : a.length - 1 = 0 := by exact_mod_cast e
        omega
      rcases Rat.mul_eq_zero.1 e1.symm with e | e
      · exact e3 e
      · exact e2 e
    have h2 : ¬ a.length - 1 < (pDiff a).length := fun hlt => by
      have h3 := hc (fun e => by rw [e] at hlt; simp at hlt)
      rw [cf_pDiff, cf_ge (l := a) (by omega), Rat.mul_zero] at h3
      exact h3 rfl
    omega
theorem pMonic_one {g : List Rat} (hg : Can g) (h : g.length = 1) : pMonic g = [1] := by
  have g0 : g ≠ [] := fun e => by rw [e] at h; simp at h
  match g, h with
  | [c], _ =>
    have hc : c ≠ 0 := hg g0
    refine ev_inj (can_pMonic _) can_one fun x => ?_
    rw [ev_pMonic g0]
    show 1 / c * (c + x * 0) = 1 + x * 0
    grind
theorem pDiv_one {a : List Rat} (ha : Can a) : pDiv a [1] = a := (dm_eq ha can_one ha Can_nil (by decide) fun x => by
  show ev a x * (1 + x * 0) + 0 = ev a x
  grind).1
theorem ls (l : List Rat) (h : l ≠ []) : 1 ≤ l.length := List.length_pos_iff.2 h
/-- The quotient by what is common with the derivative. -/
def sqp (a : List Rat) : List Rat := pDiv a (pGcd a (pDiff a))
theorem sqp_len {a : List Rat} (ha : Can a) (h2 : 2 ≤ a.length) : ((Can (sqp a) ∧ 2 ≤ (sqp a).length) ∧ (sqp a).length + (pGcd a (pDiff a)).length = a.length + 1) ∧ (pGcd a (pDiff a)).length = (pG a (pDiff a)).length ∧ 1 ≤ (pG a (pDiff a)).length := by
  have hd := can_pDiff a
  have hl := len_pDiff ha
  have a0 : a ≠ [] := fun e => by rw [e] at h2; simp at h2
  have d0 : pDiff a ≠ [] := fun e => by rw [e] at hl; simp at hl; omega
  have hG := can_pG ha hd
  obtain ⟨x1, x2⟩ := pG_dvd ha hd
  have G0 : pG a (pDiff a) ≠ [] := fun e => a0 ((pG_eq_nil ha hd).1 e).1
  have lg := len_pMonic hG
  have hg : Can (pGcd a (pDiff a)) := can_pMonic _
  have g0 : pGcd a (pDiff a) ≠ [] := fun e => by
    have : (pMonic (pG a (pDiff a))).length = 0 := by rw [show pMonic (pG a (pDiff a)) = [] from e]; rfl
    exact G0 (List.eq_nil_of_length_eq_zero (by omega))
  have hdv : pDvd (pGcd a (pDiff a)) a := by
    obtain ⟨q, hq, he⟩ := x1
    refine ⟨pSc (lead (pG a (pDiff a))) q, can_pSc _ _, fun x => ?_⟩
    show _ = _ * ev (pMonic (pG a (pDiff a))) x
    rw [he x, ev_pSc, ev_pMonic G0]
    have := lead_ne hG G0
    grind
  obtain ⟨⟨cq, cr⟩, hrl, hev⟩ := dm_ok ha hg g0
  have hm := mod_of_dvd ha hg g0 hdv
  have e : pMul (pDiv a (pGcd a (pDiff a))) (pGcd a (pDiff a)) = a := ev_inj (can_pMul _ _) ha fun x => by
    have := hev x
    rw [hm] at this
    rw [ev_pMul]
    have e0 : ev [] x = 0 := rfl
    grind
  have q0 : pDiv a (pGcd a (pDiff a)) ≠ [] := fun h => by
    rw [h, show pMul [] (pGcd a (pDiff a)) = [] from rfl] at e
    exact a0 e.symm
  have l1 := len_pMul cq hg q0 g0
  rw [e] at l1
  have l2 := ls _ q0
  have l3 := ls _ g0
  have l4 := (dvd_len hd hG x2 d0).1
  have l5 : (pGcd a (pDiff a)).length = (pG a (pDiff a)).length := lg
  refine ⟨⟨⟨cq, ?_⟩, ?_⟩, l5, by omega⟩
  · show 2 ≤ (pDiv a (pGcd a (pDiff a))).length; omega
  · show (pDiv a (pGcd a (pDiff a))).length + _ = _; omega
theorem monic_PB {g : List Rat} {k : Nat} (h : PB g k) : PB (pMonic g) (2 * k + 1) := fun i => by
  unfold pMonic
  split
  · exact Nat.le_trans qs_0 (by omega)
  · rw [cf_pSc]
    have h1 := qs_mul (1 / lead g) (cf g i)
    have h2 := qs_inv1 (lead g) (h (g.length - 1))
    have := h i
    omega
/-- How large the common part is, by its length. -/
theorem common_sz {a : List Rat} (ha : Sz a 5 1) (hd : PB (pDiff a) 1) (h2 : 2 ≤ a.length) (hG : 2 ≤ (pG a (pDiff a)).length) :
    ((pG a (pDiff a)).length = a.length - 1 ∧ PB (pG a (pDiff a)) 1) ∨ (a.length = 5 ∧ (pG a (pDiff a)).length = 2 ∧ PB (pG a (pDiff a)) 85) ∨ PB (pG a (pDiff a)) 13 := by
  have cd := can_pDiff a
  have hl := len_pDiff ha.can
  have la := ha.len
  have d0 : pDiff a ≠ [] := fun e => by rw [e] at hl; simp at hl; omega
  obtain ⟨⟨_, c1⟩, l1, _⟩ := dm_ok ha.can cd d0
  have p1 := mod_PB (S := 4) ha.can cd d0 ha.pb hd (by decide)
  rw [show a.length - (pDiff a).length + 1 = 2 from by omega] at p1
  have p1 : PB (pMod a (pDiff a)) 13 := p1
  rw [pG_step ha.can cd d0] at hG ⊢
  by_cases r1 : pMod a (pDiff a) = []
  · rw [r1, pG_nil] at hG ⊢
    exact .inl ⟨hl, hd⟩
  · obtain ⟨⟨_, c2⟩, l2, _⟩ := dm_ok cd c1 r1
    have p2 := mod_PB (S := 28) cd c1 r1 hd p1 (by decide)
    rw [pG_step cd c1 r1] at hG ⊢
    by_cases r2 : pMod (pDiff a) (pMod a (pDiff a)) = []
    · rw [r2, pG_nil] at hG ⊢
      exact .inr (.inr p1)
    · obtain ⟨⟨_, c3⟩, l3, _⟩ := dm_ok c1 c2 r2
      have l4 := ls _ r2
      rw [pG_step c1 c2 r2] at hG ⊢
      have dv := dvd_len c2 (can_pG c2 c3) (pG_dvd c2 c3).1 r2
      have l5 : (pMod (pDiff a) (pMod a (pDiff a))).length = 2 := by omega
      by_cases r3 : pMod (pMod a (pDiff a)) (pMod (pDiff a) (pMod a (pDiff a))) = []
      · rw [r3, pG_nil] at hG ⊢
        refine .inr (.inl ⟨by omega, l5, ?_⟩)
        rw [show (pDiff a).length - (pMod a (pDiff a)).length + 1 = 2 from by omega] at p2
        exact p2
      · have dv3 := dvd_len c3 (can_pG c2 c3) (pG_dvd c2 c3).2 r3
        have l6 := ls _ r3
        omega
theorem sqp_sz {a : List Rat} (ha : Sz a 5 1) (hd : PB (pDiff a) 1) (h2 : 2 ≤ a.length) : PB (sqp a) 5504 ∧ ((sqp a).length ≤ 3 → PB (sqp a) 448) ∧ ((sqp a).length = 5 → PB (sqp a) 1) := by
  obtain ⟨⟨⟨cq, l1⟩, l2⟩, l3, l4⟩ := sqp_len ha.can h2
  have la := ha.len
  have cG := can_pG ha.can (can_pDiff a)
  by_cases h1 : (pG a (pDiff a)).length = 1
  · have e : sqp a = a := by
      unfold sqp pGcd
      rw [pMonic_one cG h1, pDiv_one ha.can]
    rw [e]
    exact ⟨ha.pb.mono (by decide), fun _ => ha.pb.mono (by decide), fun _ => ha.pb⟩
  · have cg : Can (pGcd a (pDiff a)) := can_pMonic _
    have g0 : pGcd a (pDiff a) ≠ [] := fun e => by rw [e] at l3; simp only [List.length_nil] at l3; omega
    have main : ∀ (k d : Nat), PB (pG a (pDiff a)) k → a.length - (pGcd a (pDiff a)).length + 1 ≤ d → PB (sqp a) (2 ^ d * (1 + 2 * (2 * k + 1) + 1)) := fun k d hk hd' =>
      (div_PB ha.can cg g0 ha.pb (monic_PB hk) (Nat.le_refl _)).1.mono (Nat.mul_le_mul_right _ (Nat.pow_le_pow_right (by decide) hd'))
    rcases common_sz ha hd h2 (by omega) with ⟨e1, e2⟩ | ⟨e1, e2, e3⟩ | e1
    · have p := main 1 2 e2 (by omega)
      exact ⟨p.mono (by decide), fun _ => p.mono (by decide), fun _ => by omega⟩
    · have p := main 85 4 e3 (by omega)
      exact ⟨p, fun _ => by omega, fun _ => by omega⟩
    · refine ⟨(main 13 4 e1 (by omega)).mono (by decide), fun h3 => ?_, fun _ => by omega⟩
      exact main 13 3 e1 (by omega)
end Go.Proofs.YtfbogelmgdojgaaGreat

/- Polynomials over the rational numbers: residues. No program in sight. -/
namespace Go.Proofs.YtfbogelmgdojgaaGreat
set_option linter.unusedSimpArgs false
set_option linter.unusedVariables false
open Go.RowKit

/-- Equal residues. -/
theorem mod_congr {x y q : List Rat} (hx : Can x) (hy : Can y) (hq : Can q) (q0 : q ≠ []) (h : ∃ k, Can k ∧ ∀ t, ev x t = ev y t + ev k t * ev q t) : pMod x q = pMod y q := by
  obtain ⟨k, ck, hk⟩ := h
  obtain ⟨⟨c1, c2⟩, l1, e1⟩ := dm_ok hy hq q0
  refine (dm_eq hx hq (can_pAdd (pDiv y q) k) c2 l1 fun t => ?_).2
  rw [ev_pAdd, hk t]
  have := e1 t
  grind
theorem mod_self {x q : List Rat} (hx : Can x) (hq : Can q) (q0 : q ≠ []) : ∃ k, Can k ∧ ∀ t, ev x t = ev (pMod x q) t + ev k t * ev q t := by
  obtain ⟨⟨c1, c2⟩, l1, e1⟩ := dm_ok hx hq q0
  exact ⟨pDiv x q, c1, fun t => by have := e1 t; grind⟩
/-- A product of residues is the residue of the product. -/
theorem mod_mul_l {a b q : List Rat} (ha : Can a) (hq : Can q) (q0 : q ≠ []) : pMod (pMul (pMod a q) b) q = pMod (pMul a b) q := by
  obtain ⟨k, ck, hk⟩ := mod_self ha hq q0
  refine mod_congr (can_pMul _ _) (can_pMul _ _) hq q0 ⟨pSub [] (pMul k b), can_pSub _ _, fun t => ?_⟩
  simp only [ev_pMul, ev_pSub, hk t]
  have e0 : ev [] t = 0 := rfl
  rw [e0]
  grind
theorem mod_mul_r {a b q : List Rat} (hb : Can b) (hq : Can q) (q0 : q ≠ []) : pMod (pMul a (pMod b q)) q = pMod (pMul a b) q := by
  have e : ∀ x y : List Rat, pMul x y = pMul y x := fun x y => ev_inj (can_pMul _ _) (can_pMul _ _) fun t => by rw [ev_pMul, ev_pMul]; grind
  rw [e, mod_mul_l hb hq q0, e b a]
theorem mod_mod {a q : List Rat} (ha : Can a) (hq : Can q) (q0 : q ≠ []) : pMod (pMod a q) q = pMod a q := by
  obtain ⟨k, ck, hk⟩ := mod_self ha hq q0
  refine mod_congr (dm_ok ha hq q0).1.2 ha hq q0 ⟨pSub [] k, can_pSub _ _, fun t => ?_⟩
  rw [ev_pSub, hk t]
  have e0 : ev [] t = 0 := rfl
  rw [e0]
  grind
theorem mod_add {a b q : List Rat} (ha : Can a) (hb : Can b) (hq : Can q) (q0 : q ≠ []) : pMod (pAdd a b) q = pAdd (pMod a q) (pMod b q) := by
  obtain ⟨⟨c1, c2⟩, l1, e1⟩ := dm_ok ha hq q0
  obtain ⟨⟨c3, c4⟩, l2, e2⟩ := dm_ok hb hq q0
  refine (dm_eq (can_pAdd a b) hq (can_pAdd (pDiv a q) (pDiv b q)) (can_pAdd _ _) (by have := len_pAdd (pMod a q) (pMod b q); omega) fun t => ?_).2
  simp only [ev_pAdd]
  have h1 := e1 t
  have h2 := e2 t
  grind
end Go.Proofs.YtfbogelmgdojgaaGreat

/- Contracts: package quotient and its reference, first functions. -/
namespace Go.Proofs.YtfbogelmgdojgaaGreat
set_option linter.unusedSimpArgs false
set_option linter.unusedVariables false
open Go.RowKit

def kQRed : Con := con2 pR pR fun q a => (DvOk a q ∧ q ≠ [], .lst (V.rats (pMod a q)))
attribute [go_sem ↓, go_sem] kQRed
theorem qRed_C : Ctr Tryz.prog 15 kQRed := Ctr.c2 (by kernel_rfl) fun q a h => by
  obtain ⟨hd, q0⟩ := h
  show PCall _ _ _ (.lst (V.rats (pMod a q)))
  have e1 : dmP a q = .tup [.lst (V.rats (pDiv a q)), .lst (V.rats (pMod a q)), .raw (.int .i64 0)] := if_neg q0
  refine PCall.of_vc (tabs mixed (tbl_cons pDM_C tbl_nil)) Tryz.func15 rfl Tryz.ntmps15 Tryz.results15 (by simp) ?_
  simp only [go_sem, e1, hd]
def kQMulq : Con := con3 pR pR pR fun q a b => ((a.length + b.length ≤ 1000000 ∧ ∃ j k, (PB a j ∧ PB b k) ∧ a.length * (j + k + 1) ≤ 9999999999) ∧ DvOk (pMul a b) q ∧ q ≠ [], .lst (V.rats (pMod (pMul a b) q)))
attribute [go_sem ↓, go_sem] kQMulq
theorem qMulq_C : Ctr Tryz.prog 17 kQMulq := Ctr.c3 (by kernel_rfl) fun q a b h => by
  obtain ⟨hm, hd, q0⟩ := h
  show PCall _ _ _ (.lst (V.rats (pMod (pMul a b) q)))
  refine PCall.of_vc (tabs mixed (tbl_cons pMul_C (tbl_cons qRed_C tbl_nil))) Tryz.func17 rfl Tryz.ntmps17 Tryz.results17 (by simp) ?_
  simp only [go_sem, hm, hd, q0]
def invR (q a : List Rat) : V := if (pExt (pMod a q) q).1.length = 1 then .tup [.lst (V.rats (pMod (pExt (pMod a q) q).2.1 q)), .raw (.int .i64 0)] else .tup [.lst (V.rats []), .raw (.int .i64 60)]
def kQInv : Con := con2 pR pR fun q a => ((DvOk a q ∧ q ≠ []) ∧ (∃ n, ExOk n (pMod a q) q [1] [] [] [1]) ∧ ((pExt (pMod a q) q).1.length = 1 → DvOk (pExt (pMod a q) q).2.1 q), invR q a)
attribute [go_sem ↓, go_sem] kQInv
theorem qInv_C : Ctr Tryz.prog 11 kQInv := Ctr.c2 (by kernel_rfl) fun q a h => by
  obtain ⟨⟨hd, q0⟩, hx, hs⟩ := h
  show PCall _ _ _ (invR q a)
  refine PCall.of_vc (tabs mixed (tbl_cons ext_C (tbl_cons qRed_C tbl_nil))) Tryz.func11 rfl Tryz.ntmps11 Tryz.results11 (by simp) ?_
  unfold invR
  by_cases h1 : (pExt (pMod a q) q).1.length = 1
  · rw [if_pos h1]
    have c1 : (((pExt (pMod a q) q).1.length : Int) != 1) = false := by rw [h1]; rfl
    have hs := hs h1
    simp only [go_sem, hd, q0, hx, c1, hs]
  · rw [if_neg h1]
    have c1 : (((pExt (pMod a q) q).1.length : Int) != 1) = true := by simp; omega
    simp only [go_sem, hd, q0, hx, c1]
    exact .inl rfl
def kQNorm : Con := con2 pR pR fun q a => ((Can q ∧ q.length ≤ 1000000 ∧ ∃ s, PB q s ∧ s ≤ 5000000000) ∧ (DvOk a q ∧ q ≠ []) ∧ ∃ n, ReOk n 1 (pMonic q) (pMod a q), .Q (pRes (pMonic q) (pMod a q)))
attribute [go_sem ↓, go_sem] kQNorm
theorem qNorm_C : Ctr Tryz.prog 22 kQNorm := Ctr.c2 (by kernel_rfl) fun q a h => by
  obtain ⟨hm, ⟨hd, q0⟩, hr⟩ := h
  show PCall _ _ _ (.Q (pRes (pMonic q) (pMod a q)))
  refine PCall.of_vc (tabs mixed (tbl_cons pMonic_C (tbl_cons qRed_C (tbl_cons res_C tbl_nil)))) Tryz.func22 rfl Tryz.ntmps22 Tryz.results22 (by simp) ?_
  simp only [go_sem, hm, hd, q0, hr]
def validQ3 (q : List Rat) : Bool := (((tr q).length : Int) == (q.length : Int)) && (decide (1 < q.length) && decide ((pGcd q (pDiff q)).length = 1))
def kQVal : Con := con1 pR fun q => ((q.length ≤ 1000000 ∧ PB q 10000000000) ∧ (1 < q.length → ∃ n, GcOk n q (pDiff q)), .raw (.bool (validQ3 q)))
attribute [go_sem ↓, go_sem] kQVal
theorem qVal_C : Ctr Tryz.prog 29 kQVal := Ctr.c1 (by kernel_rfl) fun q h => by
  obtain ⟨⟨hl, hp⟩, hg⟩ := h
  show PCall _ _ _ (.raw (.bool (validQ3 q)))
  refine PCall.of_vc (tabs mixed (tbl_cons pValid_C (tbl_cons pDiff_C (tbl_cons pGcd_C tbl_nil)))) Tryz.func29 rfl Tryz.ntmps29 Tryz.results29 (by simp) ?_
  unfold validQ3
  rcases hv : (((tr q).length : Int) == (q.length : Int)) with _ | _
  · simp only [go_sem, hl, hp, hv, Bool.false_and]
  · by_cases h1 : 1 < q.length
    · have c1 : (1 : Int) < (q.length : Int) := by omega
      have hg := hg h1
      by_cases h2 : (pGcd q (pDiff q)).length = 1
      · have c2 : (((pGcd q (pDiff q)).length : Int) == 1) = true := by rw [h2]; rfl
        simp only [go_sem, hl, hp, hv, c1, c2, hg, h1, h2, Bool.true_and, decide_true]
      · have c2 : (((pGcd q (pDiff q)).length : Int) == 1) = false := by simp; omega
        simp only [go_sem, hl, hp, hv, c1, c2, hg, h1, h2, Bool.true_and, decide_true, decide_false]
    · have c1 : ¬ (1 : Int) < (q.length : Int) := by omega
      simp only [go_sem, hl, hp, hv, c1, h1, Bool.true_and, decide_false, Bool.false_and]
def kROver : Con := con2 pR pR fun a b => (DvOk a b ∧ b ≠ [], .lst (V.rats (pDiv a b)))
attribute [go_sem ↓, go_sem] kROver
theorem rOver_C : Ctr Tryz.prog 87 kROver := Ctr.c2 (by kernel_rfl) fun a b h => by
  obtain ⟨hd, b0⟩ := h
  show PCall _ _ _ (.lst (V.rats (pDiv a b)))
  have e1 : dmP a b = .tup [.lst (V.rats (pDiv a b)), .lst (V.rats (pMod a b)), .raw (.int .i64 0)] := if_neg b0
  refine PCall.of_vc (tabs mixed (tbl_cons rDM_C tbl_nil)) Tryz.func87 rfl Tryz.ntmps87 Tryz.results87 (by simp) ?_
  simp only [go_sem, e1, hd]
end Go.Proofs.YtfbogelmgdojgaaGreat
