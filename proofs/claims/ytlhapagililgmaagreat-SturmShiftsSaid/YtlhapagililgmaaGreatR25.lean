/- Texts G6 G7 G8 G9 G10 G11 G12 G13 G14 G15 G16 PM20 in one. -/
import Derived.Test.YtlhapagililgmaaGreatR24
import Derived.Test.YtlhapagililgmaaGreatR19
import Derived.Test.YtlhapagililgmaaGreatR23
import Derived.Test.YtlhapagililgmaaGreatR20
import Derived.Test.YtlhapagililgmaaGreatR22
/- Contracts: division of polynomials. -/
namespace Go.Proofs.YtlhapagililgmaaGreat
set_option linter.unusedSimpArgs false
set_option linter.unusedVariables false
open Go.RowKit

def kLead : Con := con1 pR fun a => (a ≠ [] ∧ a.length ≤ 1000000, .Q (lead a))
attribute [go_sem ↓, go_sem] kLead
theorem lead_C : Ctr Tryz.prog 132 kLead := Ctr.c1 (by kernel_rfl) fun a h => by
 obtain ⟨h0, h1⟩ := h
 have hp := List.length_pos_iff.2 h0
 refine PCall.of_vc (tabs mixed tbl_nil) Tryz.func132 rfl Tryz.ntmps132 Tryz.results132 (by simp) ?_
 have e1 : (a.length : Int) - 1 = ((a.length - 1 : Nat) : Int) := by omega
 unfold lead
 simp only [go_sem, e1]
 exact ⟨by omega, by omega, by omega⟩
def kOver : Con := con2 pQ pQ fun a b => (b ≠ 0 ∧ qs a ≤ 5000000000000 ∧ qs b ≤ 5000000000000, .Q (a / b))
attribute [go_sem ↓, go_sem] kOver
theorem over_C : Ctr Tryz.prog 131 kOver := Ctr.c2 (by kernel_rfl) fun a b h => by
 obtain ⟨h0, h1, h2⟩ := h
 refine PCall.of_vc (tabs mixed (tbl_cons qDiv_C tbl_nil)) Tryz.func131 rfl Tryz.ntmps131 Tryz.results131 (by simp) ?_
 have r : divR a b = .tup [.Q (a / b), .raw (.int .i64 0)] := if_neg h0
 simp only [go_sem, r]
 exact ⟨h1, h2⟩
def kOne : Con := con0 (True, .Q 1)
attribute [go_sem ↓, go_sem] kOne
theorem one_C : Ctr Tryz.prog 169 kOne := Ctr.c0 (by kernel_rfl) fun _ => by
 refine PCall.of_vc (tabs mixed (tbl_cons whole_C tbl_nil)) Tryz.func169 rfl Tryz.ntmps169 Tryz.results169 (by simp) ?_
 simp only [go_sem]
 exact out_QQ rfl
def dmP (a b : List Rat) : V := if b = [] then .tup [.lst (V.rats []), .lst (V.rats []), .raw (.int .i64 3)] else .tup [.lst (V.rats (pDiv a b)), .lst (V.rats (pMod a b)), .raw (.int .i64 0)]
def DvOk (a b : List Rat) : Prop := (Can a ∧ Can b) ∧ a.length + b.length ≤ 1000000 ∧ ∃ s t, (PB a s ∧ PB b t) ∧ 2 ^ (a.length - b.length + 1) * (s + 2 * t + 1) ≤ 2500000000000
theorem zq_set (i : Nat) (c : Rat) (ql : List Rat) : (List.replicate (i + 1) z0 ++ V.rats ql).set i (.Q c) = List.replicate i z0 ++ V.rats (c :: ql) := by
 rw [List.set_append_left _ _ (by simp), List.replicate_succ', List.set_append_right _ _ (by simp)]
 simp [V.rats]
theorem zq_get (i : Nat) (c : Rat) (ql : List Rat) : (List.replicate i z0 ++ V.rats (c :: ql))[i]? = some (.Q c) := by
 rw [List.getElem?_append_right (by simp)]
 simp [V.rats]
theorem zq_at (i : Nat) (ql : List Rat) : (List.replicate (i + 1) z0 ++ V.rats ql)[i]? = some z0 := by
 rw [List.getElem?_append_left (by simp), List.getElem?_replicate, if_pos (by omega)]
theorem z0_w : z0.wid = 4 := rfl
theorem zq_pure (i : Nat) (ql : List Rat) : allPure (List.replicate i z0 ++ V.rats ql) := fun y hy => by
 rcases List.mem_append.1 hy with h | h
 ·exact z0_pure i y h
 ·exact of_eq_true (rats_pure ql) y h
set_option maxRecDepth 4000 in
theorem dm_V (a b : List Rat) (s t : Nat) (ca : Can a) (cb : Can b) (b0 : b ≠ []) (hab : b.length ≤ a.length) (hl : a.length + b.length ≤ 1000000) (ha : PB a s) (hb : PB b t) (hs : 2 ^ (a.length - b.length + 1) * (s + 2 * t + 1) ≤ 2500000000000) :
 PCall Tryz.prog 102 [.lst (V.rats a), .lst (V.rats b)] (.tup [.lst (V.rats (pDiv a b)), .lst (V.rats (pMod a b)), .raw (.int .i64 0)]) := by
 refine PCall.of_vc (tabsX mixed (tbl_cons over_C (tbl_cons lead_C (tbl_cons qMul_C (tbl_cons qSub_C (tbl_cons trim_C tbl_nil))))) (xtb_cons qclone_C xtb_nil)) Tryz.func102 rfl Tryz.ntmps102 Tryz.results102 (by simp) ?_
 have bl := List.length_pos_iff.2 b0
 have a0 : a ≠ [] := fun e => by rw [e, List.length_nil] at hab; omega
 have c1 : ((b.length : Int) == 0) = false := beqF (by omega)
 have c2 : ¬ (a.length : Int) < b.length := by omega
 obtain ⟨Q, hQ⟩ : ∃ Q, Q = a.length - b.length + 1 := ⟨_, rfl⟩
 have e1 : (a.length : Int) - b.length + 1 = (Q : Nat) := by omega
 rw [← hQ] at hs
 have lb := lead_ne cb b0
 have qlb : qs (lead b) ≤ t := hb _
 have t0 := hb.pos
 simp only [go_sem, c1, c2, e1, Int.toNat_natCast, a0]
 refine ⟨by omega, by omega, by omega, by omega, by omega, ?_⟩
 refine AWp.loops (X := { p : Nat × List Rat × List Rat // (p.1 ≤ Q ∧ p.2.1.length = a.length ∧ p.2.2.length = Q - p.1) ∧ (∀ x, ev (shl p.1 p.2.2) x * ev b x + ev p.2.1 x = ev a x) ∧ (∀ n, p.1 + b.length - 1 ≤ n → cf p.2.1 n = 0) ∧ ∃ z, PB p.2.1 z ∧ z + 2 * t + 1 ≤ 2 ^ (Q - p.1) * (s + 2 * t + 1) })
  (fun p => mkSt [(1, .lst (V.rats b)), (4, .raw (.slice none 0 0)), (5, .raw (.slice none 0 0)), (6, .raw (.int .i64 0)), (7, .sl 0 4 0 a.length), (8, .sl 1 4 0 Q), (9, .raw (.int .i64 ((p.1.1 : Nat) - 1)))] [(0, true, ⟨46, 4, V.rats p.1.2.1⟩), (1, true, ⟨46, 4, List.replicate p.1.1 z0 ++ V.rats p.1.2.2⟩)] 2 81)
  (fun p => p.1.1) ⟨(Q, a, []), ⟨Nat.le_refl _, rfl, by simp⟩, fun x => ?_, fun n hn => cf_ge (l := a) (by simp only at hn; omega), s, ha, by simp⟩ (Wk.of [12, 20] (by decide) ?_) ?_
 ·have : ev (shl Q []) x = 0 := by
   rw [← ev_tr, show tr (shl Q []) = [] from tr_at (n := 0) (Nat.zero_le _) (fun i _ => by rw [cf_shl]; split <;> rfl) (fun e => absurd rfl e)]
   rfl
  simp only [this]; grind
 ·simp only [go_sem]
  exact ⟨by rw [show V.rats [] = [] from rfl, List.append_nil]; rfl, zq_pure Q []⟩
 ·rintro ⟨⟨i, r, ql⟩, ⟨hi, hrl, hql⟩, hev, htop, z, hz, hzs⟩
  simp only at hi hrl hql hev htop hz hzs
  refine vc_at (tabsX mixed (tbl_cons over_C (tbl_cons lead_C (tbl_cons qMul_C (tbl_cons qSub_C (tbl_cons trim_C tbl_nil))))) (xtb_cons qclone_C xtb_nil)) ?_
  have hpow : 2 ^ (Q - i) * (s + 2 * t + 1) ≤ 2 ^ Q * (s + 2 * t + 1) := Nat.mul_le_mul_right _ (Nat.pow_le_pow_right (by decide) (by omega))
  rcases i with _ | i
  ·have d1 : ¬ (0 : Int) ≤ ((0 : Nat) : Int) - 1 := by decide
   have f1 : Q ≤ ql.length := by omega
   have f2 : ql.take Q = ql := List.take_of_length_le (by omega)
   have f3 : r.take a.length = r := List.take_of_length_le (by omega)
   obtain ⟨g1, g2⟩ := pdiv_end ca cb b0 hev fun n hn => htop n (by omega)
   rw [shl_zero] at g1
   simp only [go_sem, d1, f1, f2, f3, hrl, g1, g2]
   omega
  ·have d1 : ((i + 1 : Nat) : Int) - 1 = (i : Nat) := by omega
   have d2 : 0 ≤ (i : Int) := by omega
   have d3 : (i : Int) + b.length - 1 = ((i + b.length - 1 : Nat) : Int) := by omega
   have hp2 : 2 ^ (Q - (i + 1)) * (s + 2 * t + 1) * 2 = 2 ^ (Q - i) * (s + 2 * t + 1) := by
    rw [show Q - i = Q - (i + 1) + 1 from by omega, Nat.pow_succ]
    rw [Nat.mul_right_comm]
   have hp3 : 2 ^ (Q - i) * (s + 2 * t + 1) ≤ 2 ^ Q * (s + 2 * t + 1) := Nat.mul_le_mul_right _ (Nat.pow_le_pow_right (by decide) (by omega))
   have hz1 := hz (i + b.length - 1)
   simp only [go_sem, d1, d2, d3, zq_at, z0_w, zq_set, b0]
   refine ⟨by omega, by omega, by omega, by omega, by omega, ⟨lb, by omega, by omega⟩, by omega, by rfl, ?_⟩
   obtain ⟨c, hc⟩ : ∃ c, cf r (i + b.length - 1) / lead b = c := ⟨_, rfl⟩
   have qc : qs c ≤ z + t := by rw [← hc]; exact qsD hz1 qlb
   rw [hc]
   refine AWp.loops (X := { p : Nat × List Rat // p.1 ≤ b.length ∧ p.2.length = a.length ∧ ∀ n, cf p.2 n = cf r n - (if i ≤ n ∧ n < i + p.1 then c * cf b (n - i) else 0) })
    (fun p => mkSt [(1, .lst (V.rats b)), (4, .raw (.slice none 0 0)), (5, .raw (.slice none 0 0)), (6, .raw (.int .i64 0)), (7, .sl 0 4 0 a.length), (8, .sl 1 4 0 Q), (9, .raw (.int .i64 (i : Nat))), (51, .lst (V.rats b)), (52, .raw (.int .i64 (b.length : Nat))), (53, .raw (.int .i64 (p.1.1 : Nat)))] [(0, true, ⟨46, 4, V.rats p.1.2⟩), (1, true, ⟨46, 4, List.replicate i z0 ++ V.rats (c :: ql)⟩)] 2 81)
    (fun p => b.length - p.1.1) ⟨(0, r), Nat.zero_le _, hrl, fun n => by rw [if_neg (by simp only; omega)]; grind⟩ (Wk.of [0, 1] (by decide) ?_) ?_
   ·simp only [go_sem]
    exact zq_pure i (c :: ql)
   ·rintro ⟨⟨k, r'⟩, hk, hl', hr'⟩
    simp only at hk hl' hr'
    refine vc_at (tabsX mixed (tbl_cons over_C (tbl_cons lead_C (tbl_cons qMul_C (tbl_cons qSub_C (tbl_cons trim_C tbl_nil))))) (xtb_cons qclone_C xtb_nil)) ?_
    have hPB : PB r' (2 * z + 2 * t + 1) := fun n => by
     rw [hr']
     split
     ·exact Nat.le_trans (qsS (hz n) (qsM qc (hb _))) (by omega)
     ·exact Nat.le_trans (qsS (hz n) qs_0) (by omega)
    by_cases hkb : k < b.length
    ·have g1 : (k : Int) < b.length := by omega
     have g2 : (k : Int) + 1 = ((k + 1 : Nat) : Int) := by omega
     have g3 : (i : Int) + (k : Nat) = ((i + k : Nat) : Int) := by omega
     have g4 := hPB (i + k)
     have g5 := hb k
     have g6 := qsM qc g5
     simp only [go_sem, g1, g2, g3, zq_get, hl']
     refine ⟨by omega, hkb, by omega, by omega, by omega, by omega, by omega, by omega, by omega, by omega, by omega, by rfl, by omega, ⟨(k + 1, r'.set (i + k) (cf r' (i + k) - c * cf b k)), hkb, by rw [List.length_set]; exact hl', fun n => ?_⟩, Wk.of [0, 1] (by decide) ?_, by simp only; omega⟩
     ·simp only [cf_set]
      by_cases hn : i + k = n
      ·subst hn
       rw [if_pos ⟨rfl, by omega⟩, hr', if_neg (by omega), if_pos (by omega), show i + k - i = k from by omega]; grind
      ·rw [if_neg fun h => hn h.1, hr']
       by_cases h1 : i ≤ n ∧ n < i + k
       ·rw [if_pos h1, if_pos (by omega)]
       ·rw [if_neg h1, if_neg (by omega)]
     ·simp only [go_sem]
      exact zq_pure i (c :: ql)
    ·have g1 : ¬ (k : Int) < b.length := by omega
     obtain rfl : k = b.length := by omega
     have hr2 : ∀ n, cf r' n = cf r n - (if i ≤ n then c * cf b (n - i) else 0) := fun n => by
      rw [hr']
      by_cases h1 : i ≤ n
      ·by_cases h2 : n < i + b.length
       ·rw [if_pos ⟨h1, h2⟩, if_pos h1]
       ·rw [if_neg (by omega), if_pos h1, cf_ge (l := b) (by omega)]; grind
      ·rw [if_neg (by omega), if_neg h1]
     simp only [go_sem, g1]
     refine ⟨by omega, ⟨(i, r', c :: ql), ⟨by simp only; omega, hl', by simp only [List.length_cons]; omega⟩, pdiv_step hev hr2, pdiv_top cb b0 (fun n hn => htop n (by omega)) (by rw [hc]; exact hr2), 2 * z + 2 * t + 1, hPB, by simp only; omega⟩, Wk.of [0, 1] (by decide) ?_, by simp only; omega⟩
     simp only [go_sem]
     exact zq_pure i (c :: ql)
def kDM : Con := con2 pR pR fun a b => (DvOk a b, dmP a b)
attribute [go_sem ↓, go_sem] kDM
theorem pDM_C : Ctr Tryz.prog 102 kDM := Ctr.c2 (by kernel_rfl) fun a b h => by
 obtain ⟨⟨ca, cb⟩, hl, s, t, ⟨ha, hb⟩, hs⟩ := h
 show PCall _ _ _ (dmP a b)
 unfold dmP
 by_cases b0 : b = []
 ·subst b0
  rw [if_pos rfl]
  refine PCall.of_vc (tabs mixed tbl_nil) Tryz.func102 rfl Tryz.ntmps102 Tryz.results102 (by simp) ?_
  have c1 : ((0 : Int) == 0) = true := rfl
  simp only [go_sem, rats_nil.symm, c1]
 ·rw [if_neg b0]
  have bl := List.length_pos_iff.2 b0
  by_cases hab : a.length < b.length
  ·obtain ⟨g1, g2⟩ := dm_small ca cb hab
   rw [g1, g2]
   refine PCall.of_vc (tabs mixed tbl_nil) Tryz.func102 rfl Tryz.ntmps102 Tryz.results102 (by simp) ?_
   have c1 : ((b.length : Int) == 0) = false := beqF (by omega)
   have c2 : (a.length : Int) < b.length := by omega
   simp only [go_sem, rats_nil.symm, c1, c2]
  ·exact dm_V a b s t ca cb b0 (by omega) hl ha hb hs
end Go.Proofs.YtlhapagililgmaaGreat


/- Contracts: greatest common divisors. -/
namespace Go.Proofs.YtlhapagililgmaaGreat
set_option linter.unusedSimpArgs false
set_option linter.unusedVariables false
open Go.RowKit

def kMonic : Con := con1 pR fun a => (Can a ∧ a.length ≤ 1000000 ∧ ∃ s, PB a s ∧ s ≤ 2500000000000, .lst (V.rats (pMonic a)))
attribute [go_sem ↓, go_sem] kMonic
theorem qs_inv1 (x : Rat) {k : Nat} (h : qs x ≤ k) : qs (1 / x) ≤ 1 + k := qsD qs_1 h
theorem pMonic_C : Ctr Tryz.prog 157 kMonic := Ctr.c1 (by kernel_rfl) fun a h => by
 obtain ⟨ca, hl, s, ha, hs⟩ := h
 show PCall _ _ _ (.lst (V.rats (pMonic a)))
 by_cases a0 : a = []
 ·subst a0
  rw [pMonic_nil]
  refine PCall.of_vc (tabs mixed tbl_nil) Tryz.func157 rfl Tryz.ntmps157 Tryz.results157 (by simp) ?_
  have c1 : ((0 : Int) == 0) = true := rfl
  simp only [go_sem, rats_nil.symm, c1]
 ·have al := List.length_pos_iff.2 a0
  have e : pMonic a = pSc (1 / lead a) a := if_neg a0
  rw [e]
  refine PCall.of_vc (tabs mixed (tbl_cons one_C (tbl_cons lead_C (tbl_cons over_C (tbl_cons pSc_C tbl_nil))))) Tryz.func157 rfl Tryz.ntmps157 Tryz.results157 (by simp) ?_
  have c1 : ((a.length : Int) == 0) = false := beqF (by omega)
  have l0 := lead_ne ca a0
  have l1 : qs (lead a) ≤ s := ha _
  have l2 := qs_inv1 _ l1
  have l3 := qs_1
  simp only [go_sem, c1, a0, l0]
  exact ⟨hl, by omega, hl, ha.mono (by omega), by omega⟩
def GcOk : Nat → List Rat → List Rat → Prop
 | 0, _, _ => False
 | n + 1, a, b => DvOk a b ∧ (if b = [] then ∃ s, PB a s ∧ s ≤ 2500000000000 else GcOk n b (pMod a b))
def kPGcd : Con := con2 pR pR fun a b => (∃ n, GcOk n a b, .lst (V.rats (pGcd a b)))
attribute [go_sem ↓, go_sem] kPGcd
theorem pGcd_C : Ctr Tryz.prog 135 kPGcd := Ctr.c2 (by kernel_rfl) fun a b h => by
 obtain ⟨n, hn⟩ := h
 show PCall _ _ _ (.lst (V.rats (pGcd a b)))
 refine PCall.of_vc (tabs mixed (tbl_cons pDM_C (tbl_cons pMonic_C tbl_nil))) Tryz.func135 rfl Tryz.ntmps135 Tryz.results135 (by simp) ?_
 simp only [go_sem]
 refine AWp.loops (X := { p : Nat × List Rat × List Rat // GcOk p.1 p.2.1 p.2.2 ∧ pGcd p.2.1 p.2.2 = pGcd a b })
  (fun p => mkSt [(0, .lst (V.rats p.1.2.1)), (1, .lst (V.rats p.1.2.2)), (4, .raw (.slice none 0 0))] [] 0 22)
  (fun p => p.1.1) ⟨(n, a, b), hn, rfl⟩ (Wk.of [] (by decide) ?_) ?_
 ·simp only [go_sem]
 ·rintro ⟨⟨m, x, y⟩, hm, he⟩
  simp only at hm he
  refine vc_at (tabs mixed (tbl_cons pDM_C (tbl_cons pMonic_C tbl_nil))) ?_
  rcases m with _ | m
  ·exact hm.elim
  ·obtain ⟨hd, hm⟩ := hm
   by_cases y0 : y = []
   ·subst y0
    rw [if_pos rfl] at hm
    obtain ⟨s, h1, h2⟩ := hm
    have c1 : ¬ (0 : Int) < ((0 : Nat) : Int) := by decide
    have e1 : pMonic x = pGcd a b := by rw [← he]; rfl
    simp only [go_sem, c1, List.length_nil, e1]
    exact ⟨hd.1.1, by have := hd.2.1; omega, s, h1, h2⟩
   ·rw [if_neg y0] at hm
    have yl := List.length_pos_iff.2 y0
    have c1 : 0 < (y.length : Int) := by omega
    have r1 : dmP x y = .tup [.lst (V.rats (pDiv x y)), .lst (V.rats (pMod x y)), .raw (.int .i64 0)] := if_neg y0
    simp only [go_sem, c1, r1]
    refine ⟨hd, ⟨(m, y, pMod x y), hm, ?_⟩, Wk.of [] (by decide) ?_, Nat.lt_succ_self m⟩
    ·simp only
     rw [← he]
     unfold pGcd
     rw [pG_step hd.1.1 hd.1.2 y0]
    ·simp only [go_sem]
end Go.Proofs.YtlhapagililgmaaGreat


/- Contracts: cofactors. -/
namespace Go.Proofs.YtlhapagililgmaaGreat
set_option linter.unusedSimpArgs false
set_option linter.unusedVariables false
open Go.RowKit

def LsOk (q x y : List Rat) : Prop := ((q.length + y.length ≤ 1000000 ∧ x.length ≤ 1000000) ∧ (∃ j k, (PB q j ∧ PB y k) ∧ q.length * (j + k + 1) ≤ 4999999999999)) ∧ PB x 5000000000000
theorem LsOk.PB {q x y : List Rat} (h : LsOk q x y) : PB (pMul q y) 5000000000000 := by
 obtain ⟨⟨_, j, k, ⟨h1, h2⟩, h3⟩, _⟩ := h
 intro i
 unfold pMul
 rw [cf_tr]
 exact Nat.le_trans (mulL_PB h2 h1 i) (by omega)
theorem len_pMul_le (q y : List Rat) : (pMul q y).length ≤ q.length + y.length := by
 refine Nat.le_trans (tr_len _) ?_
 by_cases h : y = []
 ·subst h
  have : ∀ l : List Rat, (mulL l []).length ≤ l.length := fun l => by
   induction l with
   | nil => simp [mulL]
   | cons x l ih => simp only [mulL, len_addL, len_scL, List.length_cons, List.length_nil]; omega
  have := this q
  simp only [List.length_nil]; omega
 ·rw [len_mulL q y h]
  split <;> omega
end Go.Proofs.YtlhapagililgmaaGreat


/- Contracts: the extended algorithm of Euclid. -/
namespace Go.Proofs.YtlhapagililgmaaGreat
set_option linter.unusedSimpArgs false
set_option linter.unusedVariables false
open Go.RowKit

end Go.Proofs.YtlhapagililgmaaGreat


/- Contracts: the polynomial at x + c. -/
namespace Go.Proofs.YtlhapagililgmaaGreat
set_option linter.unusedSimpArgs false
set_option linter.unusedVariables false
open Go.RowKit

theorem cf_ext {l m : List Rat} (h : l.length = m.length) (hc : ∀ i, cf l i = cf m i) : l = m := by
 refine List.ext_getElem h fun i h1 h2 => ?_
 have := hc i
 unfold cf at this
 rw [List.getD_eq_getElem?_getD, List.getD_eq_getElem?_getD, List.getElem?_eq_getElem h1, List.getElem?_eq_getElem h2] at this
 exact this
theorem hd0_cf (l : List Rat) : hd0 l = cf l 0 := by cases l <;> rfl
def ShOk : Nat → Rat → List Rat → Prop
 | 0, _, _ => True
 | n + 1, c, l => (∃ s, (PB l s ∧ PB (syn c l) s) ∧ s ≤ 2000000000000) ∧ ShOk n c (tl0 (syn c l))
end Go.Proofs.YtlhapagililgmaaGreat


/- Contracts: equal polynomials. -/
namespace Go.Proofs.YtlhapagililgmaaGreat
set_option linter.unusedSimpArgs false
set_option linter.unusedVariables false
open Go.RowKit

theorem cmpQ_eq0 (x y : Rat) : (cmpQ x y == 0) = decide (x = y) := by
 unfold cmpQ
 by_cases h : x = y
 ·subst h
  simp [Rat.lt_irrefl]
 ·rw [decide_eq_false h]
  by_cases h1 : x < y
  ·simp [h1]
  ·simp [h1, h]
def kPEq : Con := con2 pR pR fun a b => ((a.length ≤ 1000000 ∧ b.length ≤ 1000000) ∧ PB a 5000000000000 ∧ PB b 5000000000000, .raw (.bool (decide (a = b))))
attribute [go_sem ↓, go_sem] kPEq
end Go.Proofs.YtlhapagililgmaaGreat


/- Contracts: valid polynomials. -/
namespace Go.Proofs.YtlhapagililgmaaGreat
set_option linter.unusedSimpArgs false
set_option linter.unusedVariables false
open Go.RowKit

end Go.Proofs.YtlhapagililgmaaGreat


/- Contracts: the resultant. -/
namespace Go.Proofs.YtlhapagililgmaaGreat
set_option linter.unusedSimpArgs false
set_option linter.unusedVariables false
open Go.RowKit

end Go.Proofs.YtlhapagililgmaaGreat


/- Contracts: the squarefree decomposition. -/
namespace Go.Proofs.YtlhapagililgmaaGreat
set_option linter.unusedSimpArgs false
set_option linter.unusedVariables false
open Go.RowKit

end Go.Proofs.YtlhapagililgmaaGreat


/- Contracts: a loop over a list from its end. -/
namespace Go.Proofs.YtlhapagililgmaaGreat
set_option linter.unusedSimpArgs false
set_option linter.unusedVariables false
open Go.RowKit

def xsBack (l : List V) : Nat → Option (List V) := fun n => if n < l.length then some [.raw (.int .i64 ((l.length : Int) - 1 - n)), l.getD (l.length - 1 - n) .any] else none
theorem xsBack_none {l : List V} {n : Nat} (h : ¬ n < l.length) : xsBack l n = none := if_neg h
theorem xsBack_some {l : List V} {n : Nat} (h : n < l.length) : xsBack l n = some [.raw (.int .i64 ((l.length : Int) - 1 - n)), l.getD (l.length - 1 - n) .any] := if_pos h
end Go.Proofs.YtlhapagililgmaaGreat


/- Contracts: the value of a polynomial. -/
namespace Go.Proofs.YtlhapagililgmaaGreat
set_option linter.unusedSimpArgs false
set_option linter.unusedVariables false
open Go.RowKit

theorem ev_drop (a : List Rat) (x : Rat) {n : Nat} (h : n < a.length) : ev (a.drop n) x = ev (a.drop (n + 1)) x * x + cf a n := by
 have h1 : a.drop n = cf a n :: a.drop (n + 1) := by
  rw [List.drop_eq_getElem_cons h]
  unfold cf
  rw [List.getD_eq_getElem?_getD, List.getElem?_eq_getElem h]
  rfl
 rw [h1]
 show cf a n + x * ev (a.drop (n + 1)) x = _
 grind
def EvOk (a : List Rat) (x : Rat) : Prop := ∀ n, qs (ev (a.drop n) x) ≤ 5000000000000 ∧ qs (ev (a.drop n) x * x) ≤ 5000000000000
def kPEval : Con := con2 pR pQ fun a x => ((a.length ≤ 1000000 ∧ PB a 5000000000000 ∧ qs x ≤ 5000000000000) ∧ EvOk a x, .Q (ev a x))
attribute [go_sem ↓, go_sem] kPEval
end Go.Proofs.YtlhapagililgmaaGreat


/- Monic factors of integer polynomials. No program in sight. -/
namespace Go.Proofs.YtlhapagililgmaaGreat
set_option linter.unusedSimpArgs false
set_option linter.unusedVariables false

def Prm (r : Nat) : Prop := 2 ≤ r ∧ ∀ x y : Int, (r : Int) ∣ x * y → (r : Int) ∣ x ∨ (r : Int) ∣ y
theorem least {Q : Nat → Prop} {n : Nat} (h : Q n) : ∃ m, Q m ∧ ∀ k, Q k → m ≤ k := by
 by_cases hn : ∃ m, m < n ∧ Q m
 ·obtain ⟨m, h1, h2⟩ := hn
  exact least h2
 ·exact ⟨n, h, fun k hk => Nat.le_of_not_lt fun hlt => hn ⟨k, hlt, hk⟩⟩
termination_by n
theorem nat_dvd {r : Nat} {x : Int} : (r : Int) ∣ x ↔ r ∣ x.natAbs := by
 rw [← Int.natAbs_dvd_natAbs, Int.natAbs_natCast]
theorem prm_dvd {n : Nat} (hn : 2 ≤ n) : ∃ r, Prm r ∧ r ∣ n := by
 obtain ⟨r, ⟨h1, h2⟩, h3⟩ := least (Q := fun r => 2 ≤ r ∧ r ∣ n) ⟨hn, Nat.dvd_refl n⟩
 refine ⟨r, ⟨h1, fun x y hxy => ?_⟩, h2⟩
 by_cases hx : (r : Int) ∣ x
 ·exact .inl hx
 ·refine .inr ?_
  have hx' : ¬ r ∣ x.natAbs := fun h => hx (nat_dvd.2 h)
  have hg : Nat.gcd r x.natAbs = 1 := by
   have g1 := Nat.gcd_dvd_left r x.natAbs
   have g2 := Nat.gcd_dvd_right r x.natAbs
   have g0 : 0 < Nat.gcd r x.natAbs := Nat.pos_of_dvd_of_pos g1 (by omega)
   by_cases e : Nat.gcd r x.natAbs = 1
   ·exact e
   ·have := h3 _ ⟨by omega, Nat.dvd_trans g1 h2⟩
    have hle := Nat.le_of_dvd (by omega) g1
    have e : Nat.gcd r x.natAbs = r := by omega
    rw [e] at g2
    exact absurd g2 hx'
  have h4 : r ∣ x.natAbs * y.natAbs := by rw [← Int.natAbs_mul]; exact nat_dvd.1 hxy
  exact nat_dvd.2 (Nat.Coprime.dvd_of_dvd_mul_left hg h4)
def IsI (x : Rat) : Prop := ∃ z : Int, x = (z : Rat)
def Dv (n : Nat) (x : Rat) : Prop := ∃ z : Int, x = ((n * z : Int) : Rat)
theorem IsI.add {x y : Rat} : IsI x → IsI y → IsI (x + y) := fun ⟨a, h⟩ ⟨b, g⟩ => ⟨a + b, by rw [h, g, Rat.intCast_add]⟩
theorem IsI.mul {x y : Rat} : IsI x → IsI y → IsI (x * y) := fun ⟨a, h⟩ ⟨b, g⟩ => ⟨a * b, by rw [h, g, Rat.intCast_mul]⟩
theorem IsI.sub {x y : Rat} : IsI x → IsI y → IsI (x - y) := fun ⟨a, h⟩ ⟨b, g⟩ => ⟨a - b, by rw [h, g, Rat.intCast_sub]⟩
theorem IsI.int (z : Int) : IsI (z : Rat) := ⟨z, rfl⟩
theorem Dv.sub {n : Nat} {x y : Rat} : Dv n x → Dv n y → Dv n (x - y) := fun ⟨a, h⟩ ⟨b, g⟩ => ⟨a - b, by rw [h, g, ← Rat.intCast_sub]; congr 1; rw [Int.mul_sub]⟩
theorem Dv.mul {n : Nat} {x y : Rat} : Dv n x → IsI y → Dv n (x * y) := fun ⟨a, h⟩ ⟨b, g⟩ => ⟨a * b, by rw [h, g, ← Rat.intCast_mul]; congr 1; rw [Int.mul_assoc]⟩
theorem intCast_inj {a b : Int} (h : (a : Rat) = (b : Rat)) : a = b := by exact_mod_cast h
theorem Prm.dv {r : Nat} (hr : Prm r) {x y : Rat} (hx : IsI x) (hy : IsI y) (h : Dv r (x * y)) : Dv r x ∨ Dv r y := by
 obtain ⟨a, rfl⟩ := hx
 obtain ⟨b, rfl⟩ := hy
 obtain ⟨z, h⟩ := h
 rw [← Rat.intCast_mul] at h
 rcases hr.2 a b ⟨z, intCast_inj h⟩ with ⟨w, e⟩ | ⟨w, e⟩
 ·exact .inl ⟨w, by rw [e]⟩
 ·exact .inr ⟨w, by rw [e]⟩
theorem cf_mulL_z (c : Rat) (a b : List Rat) : cf (mulL (c :: a) b) 0 = c * cf b 0 := by
 unfold mulL
 rw [cf_addL, cf_scL, cf_zero]; grind
theorem cf_mulL_s (c : Rat) (a b : List Rat) (k : Nat) : cf (mulL (c :: a) b) (k + 1) = c * cf b (k + 1) + cf (mulL a b) k := by
 rw [mulL, cf_addL, cf_scL, cf_succ]
theorem cf_mulL_comm (a b : List Rat) (k : Nat) : cf (mulL a b) k = cf (mulL b a) k := cf_of_ev (fun x => by rw [ev_mulL, ev_mulL]; grind) k
theorem prm_head {r : Nat} (hr : Prm r) {c : Rat} {a : List Rat} (ha : ∀ i, IsI (cf (c :: a) i)) (hc : ¬ Dv r c) : ∀ (b : List Rat), (∀ i, IsI (cf b i)) → (∀ k, Dv r (cf (mulL (c :: a) b) k)) → ∀ i, Dv r (cf b i)
 | [], _, _, i => ⟨0, by rw [cf_nil, Int.mul_zero]; rfl⟩
 | d :: b, hb, h, i => by
   have h0 : Dv r d := by
    have h1 := h 0
    rw [cf_mulL_z] at h1
    exact (hr.dv (ha 0) (hb 0) h1).resolve_left hc
   cases i with
   | zero => exact h0
   | succ i =>
     refine prm_head hr ha hc b (fun i => hb (i + 1)) (fun k => ?_) i
     have h1 := h (k + 1)
     rw [cf_mulL_comm, cf_mulL_s, cf_mulL_comm b] at h1
     have h2 := h1.sub (h0.mul (ha (k + 1)))
     rwa [show d * cf (c :: a) (k + 1) + cf (mulL (c :: a) b) k - d * cf (c :: a) (k + 1) = cf (mulL (c :: a) b) k from by grind] at h2
theorem prm_mul {r : Nat} (hr : Prm r) {b : List Rat} (hb : ∀ i, IsI (cf b i)) : ∀ (a : List Rat), (∀ i, IsI (cf a i)) → (∀ k, Dv r (cf (mulL a b) k)) → (∀ i, Dv r (cf a i)) ∨ ∀ i, Dv r (cf b i)
 | [], _, _ => .inl fun i => ⟨0, by rw [cf_nil, Int.mul_zero]; rfl⟩
 | c :: a, ha, h => by
   by_cases hc : Dv r c
   ·rcases prm_mul hr hb a (fun i => ha (i + 1)) (fun k => by
     have h1 := (h (k + 1)).sub (hc.mul (hb (k + 1)))
     rw [cf_mulL_s] at h1
     rwa [show c * cf b (k + 1) + cf (mulL a b) k - c * cf b (k + 1) = cf (mulL a b) k from by grind] at h1) with h1 | h1
    ·refine .inl fun i => ?_
     cases i with
     | zero => exact hc
     | succ i => exact h1 i
    ·exact .inr h1
   ·exact .inr (prm_head hr ha hc b hb h)
theorem prim_cont {c : Nat → Rat} (hc : ∀ r, Prm r → ∃ k, ¬ Dv r (c k)) (hI : ∀ k, IsI (c k)) (n : Nat) (L : Int) (hn : 1 ≤ n) (h : ∀ k, Dv n ((L : Rat) * c k)) : (n : Int) ∣ L := by
 by_cases h1 : n = 1
 ·subst h1; exact Int.one_dvd L
 ·obtain ⟨r, hr, n', e⟩ := prm_dvd (show 2 ≤ n by omega)
  have hn' : 1 ≤ n' := by
   rcases Nat.eq_zero_or_pos n' with h0 | h0
   ·rw [h0, Nat.mul_zero] at e; omega
   ·exact h0
  have hr2 := hr.1
  have hlt : n' < n := by rw [e]; exact Nat.lt_of_lt_of_le (by omega) (Nat.mul_le_mul_right n' hr2)
  obtain ⟨k0, hk0⟩ := hc r hr
  have hL : Dv r (L : Rat) := by
   obtain ⟨z, hz⟩ := h k0
   refine (hr.dv (IsI.int L) (hI k0) ⟨n' * z, ?_⟩).resolve_right hk0
   rw [hz, e]; congr 1; push_cast; rw [Int.mul_assoc]
  obtain ⟨L', hL'⟩ := hL
  have hL' := intCast_inj hL'
  have ih := prim_cont hc hI n' L' hn' fun k => by
   obtain ⟨z, hz⟩ := h k
   refine ⟨z, ?_⟩
   have hr0 : ((r : Int) : Rat) ≠ 0 := fun h0 => by
    have : (r : Int) = 0 := intCast_inj h0
    omega
   rw [hL', e] at hz
   have hz2 : ((r : Int) : Rat) * ((L' : Rat) * c k) = ((r : Int) : Rat) * ((n' * z : Int) : Rat) := by
    rw [← Rat.intCast_mul, ← Rat.mul_assoc, ← Rat.intCast_mul, hz]; congr 1; push_cast; rw [Int.mul_assoc]
   have := congrArg (fun t => ((r : Int) : Rat)⁻¹ * t) hz2
   simp only [← Rat.mul_assoc, Rat.inv_mul_cancel _ hr0, Rat.one_mul] at this
   exact this
  obtain ⟨w, hw⟩ := ih
  exact ⟨w, by rw [hL', hw, e]; push_cast; rw [Int.mul_assoc]⟩
termination_by n
def iP (d : Nat) (p : List Rat) : Prop := ∀ i, IsI ((d : Rat) * cf p i)
theorem IsI.den (x : Rat) : IsI ((x.den : Rat) * x) := ⟨x.num, by
 have h0 : (x.den : Rat) ≠ 0 := fun h => x.den_nz (by exact_mod_cast h)
 have h1 : x = (x.num : Rat) / (x.den : Rat) := by
  have := Rat.divInt_eq_div x.num (x.den : Int)
  rw [Rat.num_divInt_den] at this
  exact this
 have h2 : (x.den : Rat) * ((x.num : Rat) / (x.den : Rat)) = (x.num : Rat) := by
  rw [Rat.div_def, Rat.mul_comm, Rat.mul_assoc, Rat.inv_mul_cancel _ h0, Rat.mul_one]
 rw [← h1] at h2
 exact h2⟩
theorem iP_ex : ∀ p : List Rat, ∃ d, 1 ≤ d ∧ iP d p
 | [] => ⟨1, Nat.le_refl _, fun i => ⟨0, by rw [cf_nil, Rat.mul_zero]; rfl⟩⟩
 | c :: p => by
   obtain ⟨d, h1, h2⟩ := iP_ex p
   have hc := c.den_pos
   refine ⟨c.den * d, Nat.mul_pos hc h1, fun i => ?_⟩
   rw [Rat.natCast_mul]
   cases i with
   | zero =>
     have := (IsI.den c).mul (IsI.int (d : Int))
     rw [cf_zero]
     rwa [show (c.den : Rat) * c * ((d : Int) : Rat) = (c.den : Rat) * (d : Rat) * c from by
      rw [show ((d : Int) : Rat) = (d : Rat) from rfl]; grind] at this
   | succ i =>
     have := (IsI.int (c.den : Int)).mul (h2 i)
     rw [cf_succ]
     rwa [show ((c.den : Int) : Rat) * ((d : Rat) * cf p i) = (c.den : Rat) * (d : Rat) * cf p i from by
      rw [show ((c.den : Int) : Rat) = (c.den : Rat) from rfl]; grind] at this
theorem scI (d : Nat) (p : List Rat) (i : Nat) : cf (scL (d : Rat) p) i = (d : Rat) * cf p i := cf_scL _ _ _
theorem natR_ne {r : Nat} (h : 1 ≤ r) : (r : Rat) ≠ 0 := fun h0 => by
 have : ((r : Int) : Rat) = ((0 : Int) : Rat) := h0
 have := intCast_inj this
 omega
theorem iP_prim {p : List Rat} (h1 : lead p = 1) {d : Nat} (hd : 1 ≤ d) (hm : ∀ k, 1 ≤ k ∧ iP k p → d ≤ k) : ∀ r, Prm r → ∃ i, ¬ Dv r ((d : Rat) * cf p i) := by
 intro r hr
 have hr2 := hr.1
 by_cases hall : ∀ i, Dv r ((d : Rat) * cf p i)
 ·exfalso
  obtain ⟨z, hz⟩ := hall (p.length - 1)
  have e : (d : Rat) * cf p (p.length - 1) = ((d : Int) : Rat) := by
   rw [show cf p (p.length - 1) = 1 from h1, Rat.mul_one]; rfl
  rw [e] at hz
  have hz := intCast_inj hz
  obtain ⟨d', hd'⟩ : ∃ d' : Nat, d = r * d' := by
   have : (r : Int) ∣ (d : Int) := ⟨z, hz⟩
   exact Int.natCast_dvd_natCast.1 this
  have hd0 : 1 ≤ d' := by
   rcases Nat.eq_zero_or_pos d' with h0 | h0
   ·rw [h0, Nat.mul_zero] at hd'; omega
   ·exact h0
  have hle := hm d' ⟨hd0, fun i => by
   obtain ⟨w, hw⟩ := hall i
   refine ⟨w, ?_⟩
   have hr0 := natR_ne (r := r) (by omega)
   have h2 : (r : Rat) * ((d' : Rat) * cf p i) = (r : Rat) * (w : Rat) := by
    rw [← Rat.mul_assoc, ← Rat.natCast_mul, ← hd', hw, Rat.intCast_mul]; rfl
   have := congrArg (fun t => (r : Rat)⁻¹ * t) h2
   simp only [← Rat.mul_assoc, Rat.inv_mul_cancel _ hr0, Rat.one_mul] at this
   exact this⟩
  have : 2 * d' ≤ r * d' := Nat.mul_le_mul_right d' hr2
  omega
 ·exact Classical.not_forall.1 hall
theorem gauss {A p q : List Rat} {L : Int} (hA : ∀ i, IsI (cf A i)) (hp : lead p = 1) (hq : lead q = 1) (e : ∀ x, ev A x = (L : Rat) * (ev p x * ev q x)) : ∃ d f : Nat, (1 ≤ d ∧ 1 ≤ f) ∧ iP d p ∧ iP f q ∧ ((d * f : Nat) : Int) ∣ L := by
 obtain ⟨d, ⟨d1, d2⟩, d3⟩ := least (Q := fun d => 1 ≤ d ∧ iP d p) (iP_ex p).choose_spec
 obtain ⟨f, ⟨f1, f2⟩, f3⟩ := least (Q := fun d => 1 ≤ d ∧ iP d q) (iP_ex q).choose_spec
 refine ⟨d, f, ⟨d1, f1⟩, d2, f2, ?_⟩
 have pI : ∀ i, IsI (cf (scL (d : Rat) p) i) := fun i => by rw [scI]; exact d2 i
 have qI : ∀ i, IsI (cf (scL (f : Rat) q) i) := fun i => by rw [scI]; exact f2 i
 have cI : ∀ (a b : List Rat), (∀ i, IsI (cf a i)) → (∀ i, IsI (cf b i)) → ∀ k, IsI (cf (mulL a b) k) := fun a => by
  induction a with
  | nil => intro b _ _ k; exact ⟨0, rfl⟩
  | cons c a ih =>
    intro b ha hb k
    cases k with
    | zero => rw [cf_mulL_z]; exact (ha 0).mul (hb 0)
    | succ k => rw [cf_mulL_s]; exact ((ha 0).mul (hb (k + 1))).add (ih b (fun i => ha (i + 1)) hb k)
 refine prim_cont (c := fun k => cf (mulL (scL (d : Rat) p) (scL (f : Rat) q)) k) (fun r hr => ?_) (cI _ _ pI qI) (d * f) L (Nat.mul_pos d1 f1) fun k => ?_
 ·by_cases hall : ∀ k, Dv r (cf (mulL (scL (d : Rat) p) (scL (f : Rat) q)) k)
  ·exfalso
   rcases prm_mul hr qI _ pI hall with h | h
   ·obtain ⟨i, hi⟩ := iP_prim hp d1 d3 r hr
    exact hi (by rw [← scI]; exact h i)
   ·obtain ⟨i, hi⟩ := iP_prim hq f1 f3 r hr
    exact hi (by rw [← scI]; exact h i)
  ·exact Classical.not_forall.1 hall
 ·have e1 : cf (scL (L : Rat) (mulL (scL (d : Rat) p) (scL (f : Rat) q))) k = cf (scL ((d * f : Nat) : Rat) A) k := cf_of_ev (fun x => by
   rw [ev_scL, ev_mulL, ev_scL, ev_scL, ev_scL, e x, Rat.natCast_mul]; grind) k
  rw [cf_scL, cf_scL] at e1
  obtain ⟨z, hz⟩ := hA k
  exact ⟨z, by rw [e1, hz, Rat.intCast_mul]; rfl⟩
def Bd (M : Nat) (x : Rat) : Prop := -(M : Rat) ≤ x ∧ x ≤ (M : Rat)
theorem natR_le {m n : Nat} (h : m ≤ n) : (m : Rat) ≤ (n : Rat) := by exact_mod_cast h
theorem natR_add (m n : Nat) : ((m + n : Nat) : Rat) = (m : Rat) + (n : Rat) := by exact_mod_cast rfl
theorem natR_mul (m n : Nat) : ((m * n : Nat) : Rat) = (m : Rat) * (n : Rat) := by exact_mod_cast rfl
theorem natR_nn (m : Nat) : (0 : Rat) ≤ (m : Rat) := by exact_mod_cast Nat.zero_le m
theorem Bd.mono {M N : Nat} {x : Rat} (h : Bd M x) (hn : M ≤ N) : Bd N x := by
 have := natR_le hn
 exact ⟨by have := h.1; grind, by have := h.2; grind⟩
theorem Bd.add {M N : Nat} {x y : Rat} (h : Bd M x) (g : Bd N y) : Bd (M + N) (x + y) := by
 obtain ⟨h1, h2⟩ := h
 obtain ⟨g1, g2⟩ := g
 unfold Bd
 rw [natR_add]
 exact ⟨by grind, by grind⟩
theorem Bd.neg {M : Nat} {x : Rat} (h : Bd M x) : Bd M (-x) := by
 obtain ⟨h1, h2⟩ := h
 exact ⟨by grind, by grind⟩
theorem Bd.sub {M N : Nat} {x y : Rat} (h : Bd M x) (g : Bd N y) : Bd (M + N) (x - y) := by
 rw [show x - y = x + -y from by grind]
 exact h.add g.neg
theorem Bd.natMul {M : Nat} {x : Rat} (h : Bd M x) {k n : Nat} (hk : k ≤ n) : Bd (n * M) ((k : Rat) * x) := by
 obtain ⟨h1, h2⟩ := h
 have k0 := natR_nn k
 have kn := natR_le hk
 have m0 := natR_nn M
 have a1 : (k : Rat) * x ≤ (k : Rat) * (M : Rat) := Rat.mul_le_mul_of_nonneg_left h2 k0
 have a2 : (k : Rat) * -(M : Rat) ≤ (k : Rat) * x := Rat.mul_le_mul_of_nonneg_left h1 k0
 have a3 : (k : Rat) * (M : Rat) ≤ (n : Rat) * (M : Rat) := Rat.mul_le_mul_of_nonneg_right kn m0
 unfold Bd
 rw [natR_mul]
 exact ⟨by grind, by grind⟩
def sdv (k : Rat) : List Rat → List Rat
 | [] => []
 | _ :: l => addL l (scL k (sdv k l))
theorem sdv_len (k : Rat) : ∀ l : List Rat, (sdv k l).length = l.length - 1
 | [] => rfl
 | c :: l => by
   rw [sdv, len_addL, len_scL, sdv_len k l, List.length_cons]
   omega
theorem sdv_ev (k : Rat) (x : Rat) : ∀ l : List Rat, ev l x = ev l k + (x - k) * ev (sdv k l) x
 | [] => by show (0 : Rat) = 0 + (x - k) * 0; grind
 | c :: l => by
   have ih := sdv_ev k x l
   rw [sdv, ev_addL, ev_scL]
   show c + x * ev l x = c + k * ev l k + _
   grind
theorem sdv_cf (k : Rat) (l : List Rat) (i : Nat) : cf l i = (if i = 0 then ev l k else cf (sdv k l) (i - 1)) - k * cf (sdv k l) i := by
 have h := cf_of_ev (a := l) (b := addL [ev l k] (mulL [-k, 1] (sdv k l))) (fun x => by
  rw [ev_addL, ev_mulL, sdv_ev k x l]
  simp only [ev]; grind) i
 rw [h, cf_addL]
 cases i with
 | zero => rw [cf_mulL_z, if_pos rfl, cf_zero]; grind
 | succ i =>
   rw [cf_mulL_s, if_neg (by omega), cf_succ, cf_nil, Nat.add_sub_cancel]
   have : cf (mulL [1] (sdv k l)) i = cf (sdv k l) i := cf_of_ev (fun x => by rw [ev_mulL]; simp only [ev]; grind) i
   rw [this]; grind
theorem roots_lt : ∀ (ks : List Nat) (A : List Rat), ks.Nodup → (∃ i, cf A i ≠ 0) → (∀ k ∈ ks, ev A (k : Rat) = 0) → ks.length < A.length
 | [], A, _, ⟨i, hi⟩, _ => by
   rcases Nat.eq_zero_or_pos A.length with h | h
   ·exact absurd (cf_ge (by omega)) hi
   ·exact h
 | k :: ks, A, hn, ⟨i, hi⟩, hr => by
   rw [List.nodup_cons] at hn
   have h0 := hr k (by simp)
   have ih := roots_lt ks (sdv (k : Rat) A) hn.2 (by
    by_cases h : ∃ i, cf (sdv (k : Rat) A) i ≠ 0
    ·exact h
    ·exfalso
     have hz : ∀ i, cf (sdv (k : Rat) A) i = 0 := fun i => Classical.byContradiction fun e => h ⟨i, e⟩
     have h2 := sdv_cf (k : Rat) A i
     rw [hz, hz, h0] at h2
     exact hi (by rw [h2]; split <;> grind)) fun j hj => by
    have h2 := sdv_ev (k : Rat) (j : Rat) A
    rw [hr j (by simp [hj]), h0] at h2
    have hne : (j : Rat) - (k : Rat) ≠ 0 := fun e => by
     have e : ((j : Nat) : Rat) = ((k : Nat) : Rat) := by grind
     have : j = k := by exact_mod_cast e
     rw [this] at hj
     exact hn.1 hj
    have h3 : ((j : Rat) - (k : Rat)) * ev (sdv (k : Rat) A) (j : Rat) = 0 := by grind
    rcases Rat.mul_eq_zero.1 h3 with h4 | h4
    ·exact absurd h4 hne
    ·exact h4
   rw [sdv_len] at ih
   rw [List.length_cons]
   omega
def ipB : Nat → Nat → Nat
 | 0, _ => 0
 | n + 1, V => V + 17 * ipB n (2 * V)
theorem interp : ∀ (n V : Nat) (P : List Rat) (ks : List Nat), P.length ≤ n → n ≤ ks.length → ks.Nodup → (∀ k ∈ ks, k ≤ 16) → (∀ k ∈ ks, Bd V (ev P (k : Rat))) → ∀ i, Bd (ipB n V) (cf P i)
 | 0, V, P, ks, hP, _, _, _, _, i => by
   rw [cf_ge (by omega)]
   show -((0 : Nat) : Rat) ≤ 0 ∧ (0 : Rat) ≤ ((0 : Nat) : Rat)
   decide
 | n + 1, V, P, [], _, hk, _, _, _, i => by simp at hk
 | n + 1, V, P, k :: ks, hP, hk, hn, hb, hv, i => by
   rw [List.nodup_cons] at hn
   have hk16 := hb k (by simp)
   have ih := interp n (2 * V) (sdv (k : Rat) P) ks (by rw [sdv_len]; omega) (by simpa using hk) hn.2 (fun j hj => hb j (by simp [hj])) fun j hj => by
    have h1 := (hv j (by simp [hj])).sub (hv k (by simp))
    have h2 := sdv_ev (k : Rat) (j : Rat) P
    have h3 : ev P (j : Rat) - ev P (k : Rat) = ((j : Rat) - (k : Rat)) * ev (sdv (k : Rat) P) (j : Rat) := by grind
    rw [h3] at h1
    have hne : j ≠ k := fun e => by rw [e] at hj; exact hn.1 hj
    generalize ev (sdv (k : Rat) P) (j : Rat) = y at h1
    have e2 : V + V = 2 * V := by omega
    rw [e2] at h1
    have step : ∀ (a b : Nat), b < a → ∀ y : Rat, Bd (2 * V) (((a : Rat) - (b : Rat)) * y) → Bd (2 * V) y := fun a b hab y hy => by
     obtain ⟨c, rfl⟩ : ∃ c, a = b + 1 + c := ⟨a - (b + 1), by omega⟩
     have ec : ((b + 1 + c : Nat) : Rat) - (b : Rat) = 1 + (c : Rat) := by rw [natR_add, natR_add]; grind
     rw [ec] at hy
     obtain ⟨y1, y2⟩ := hy
     have c0 := natR_nn c
     generalize (c : Rat) = c at *
     unfold Bd
     generalize ((2 * V : Nat) : Rat) = W at *
     by_cases h0 : 0 ≤ y
     ·have := Rat.mul_nonneg c0 h0
      exact ⟨by grind, by grind⟩
     ·have h0 : 0 ≤ -y := by grind
      have := Rat.mul_nonneg c0 h0
      exact ⟨by grind, by grind⟩
    by_cases hlt : k < j
    ·exact step j k hlt y h1
    ·have h4 := h1.neg
     rw [show -(((j : Rat) - (k : Rat)) * y) = ((k : Rat) - (j : Rat)) * y from by grind] at h4
     exact step k j (by omega) y h4
   rw [sdv_cf (k : Rat) P i, ipB]
   have h5 : Bd (V + ipB n (2 * V)) (if i = 0 then ev P (k : Rat) else cf (sdv (k : Rat) P) (i - 1)) := by
    split
    ·exact (hv k (by simp)).mono (by omega)
    ·exact (ih _).mono (by omega)
   have h6 := (ih i).natMul hk16
   exact (h5.sub h6).mono (by omega)
def vlB (H : Nat) : Nat → Nat
 | 0 => 0
 | n + 1 => H + 16 * vlB H n
theorem val_Bd {H : Nat} {k : Nat} (hk : k ≤ 16) : ∀ (n : Nat) (A : List Rat), A.length ≤ n → (∀ i, Bd H (cf A i)) → Bd (vlB H n) (ev A (k : Rat))
 | n, [], _, _ => by
   have : Bd 0 (0 : Rat) := ⟨by decide, by decide⟩
   exact this.mono (Nat.zero_le _)
 | 0, _ :: A, h, _ => by simp at h
 | n + 1, _ :: A, h, hb => by
   have ih := (val_Bd hk n A (by simpa using h) fun i => hb (i + 1)).natMul hk
   exact (hb 0).add ih
theorem IsI.nat (k : Nat) : IsI (k : Rat) := ⟨(k : Int), rfl⟩
theorem IsI.ev (k : Nat) : ∀ A : List Rat, (∀ i, IsI (cf A i)) → IsI (ev A (k : Rat))
 | [], _ => ⟨0, rfl⟩
 | _ :: A, h => (h 0).add ((IsI.nat k).mul (IsI.ev k A fun i => h (i + 1)))
def IB (H : Nat) (A : List Rat) : Prop := ∀ i, IsI (cf A i) ∧ Bd H (cf A i)
theorem Bd_int {M : Nat} {z : Int} : Bd M (z : Rat) ↔ z.natAbs ≤ M := by
 unfold Bd
 constructor
 ·rintro ⟨h1, h2⟩
  have h1 : ((-(M : Int) : Int) : Rat) ≤ (z : Rat) := by rw [Rat.intCast_neg]; exact h1
  have h2 : (z : Rat) ≤ ((M : Int) : Rat) := h2
  have h1 := Rat.intCast_le_intCast.1 h1
  have h2 := Rat.intCast_le_intCast.1 h2
  omega
 ·intro h
  have h1 : ((-(M : Int) : Int) : Rat) ≤ (z : Rat) := Rat.intCast_le_intCast.2 (by omega)
  have h2 : (z : Rat) ≤ ((M : Int) : Rat) := Rat.intCast_le_intCast.2 (by omega)
  rw [Rat.intCast_neg] at h1
  exact ⟨h1, h2⟩
theorem fac_bd {H : Nat} {A p : List Rat} {L : Int} (cA : Can A) (hA : IB H A) (lA : A.length ≤ 9) (hL : L ≠ 0) (hp : Can p) (p1 : lead p = 1) {q : List Rat} (hq : Can q) (q1 : lead q = 1) (e : ∀ x, ev A x = (L : Rat) * (ev p x * ev q x)) :
 ∃ d : Nat, 1 ≤ d ∧ d ≤ H ∧ ∀ i, ∃ z : Int, (d : Rat) * cf p i = (z : Rat) ∧ z.natAbs ≤ ipB 9 (vlB H 9) := by
 obtain ⟨d, f, ⟨d1, f1⟩, hd, hf, hdf⟩ := gauss (fun i => (hA i).1) p1 q1 e
 have p0 : p ≠ [] := fun h => by rw [h] at p1; exact absurd p1 (by decide)
 have q0 : q ≠ [] := fun h => by rw [h] at q1; exact absurd q1 (by decide)
 have eA : A = pSc (L : Rat) (pMul p q) := ev_inj cA (can_pSc _ _) fun x => by rw [e x, ev_pSc, ev_pMul]
 have hLr : (L : Rat) ≠ 0 := fun h => hL (intCast_inj h)
 have lpq := len_pMul hp hq p0 q0
 have lAe : A.length = p.length + q.length - 1 := by rw [eA, len_pSc' hLr (can_pMul p q), lpq]
 have hq0 := List.length_pos_iff.2 q0
 have hp0 := List.length_pos_iff.2 p0
 have leA : cf A (A.length - 1) = (L : Rat) := by
  have h1 : lead A = (L : Rat) := by
   rw [eA, lead_pSc hLr (can_pMul p q), lead_pMul hp hq p0 q0, p1, q1]; grind
  exact h1
 have hLH : L.natAbs ≤ H := by
  have := (hA (A.length - 1)).2
  rw [leA] at this
  exact Bd_int.1 this
 have hdL : d * f ≤ L.natAbs := Nat.le_of_dvd (by omega) (nat_dvd.1 hdf)
 have hdH : d ≤ H := by
  have : d * 1 ≤ d * f := Nat.mul_le_mul_left d f1
  omega
 refine ⟨d, d1, hdH, fun i => ?_⟩
 obtain ⟨z, hz⟩ := hd i
 refine ⟨z, hz, ?_⟩
 rw [← Bd_int, ← hz, ← scI]
 have hAne : ∃ i, cf A i ≠ 0 := ⟨A.length - 1, by rw [leA]; exact hLr⟩
 obtain ⟨ks, eks⟩ : ∃ ks, (List.range 17).filter (fun k : Nat => decide (ev A (k : Rat) = 0)) = ks := ⟨_, rfl⟩
 obtain ⟨ns, ens⟩ : ∃ ns, (List.range 17).filter (fun k : Nat => !decide (ev A (k : Rat) = 0)) = ns := ⟨_, rfl⟩
 have hlen : ks.length + ns.length = 17 := by
  rw [← eks, ← ens]
  have : ∀ (l : List Nat) (P : Nat → Bool), (l.filter P).length + (l.filter fun k => !P k).length = l.length := fun l P => by
   induction l with
   | nil => rfl
   | cons a l ih =>
     by_cases hPa : P a = true
     ·simp only [List.filter_cons, hPa, if_true, Bool.not_true, Bool.false_eq_true, if_false, List.length_cons]; omega
     ·have hPa : P a = false := by simpa using hPa
      simp only [List.filter_cons, hPa, Bool.not_false, if_true, Bool.false_eq_true, if_false, List.length_cons]; omega
  have h := this (List.range 17) fun k : Nat => decide (ev A (k : Rat) = 0)
  rw [List.length_range] at h
  exact h
 have hr := roots_lt ks A (by rw [← eks]; exact List.Nodup.sublist List.filter_sublist List.nodup_range) hAne fun k hk => by
  rw [← eks, List.mem_filter] at hk
  exact of_decide_eq_true hk.2
 refine interp 9 (vlB H 9) _ ns (by rw [len_scL]; omega) (by omega) (by rw [← ens]; exact List.Nodup.sublist List.filter_sublist List.nodup_range) (fun k hk => by
  rw [← ens, List.mem_filter, List.mem_range] at hk
  omega) (fun k hk => ?_) i
 rw [← ens, List.mem_filter, List.mem_range] at hk
 have hk16 : k ≤ 16 := by omega
 have hne : ev A (k : Rat) ≠ 0 := fun h => by simp [h] at hk
 have vA := val_Bd hk16 9 A lA fun i => (hA i).2
 obtain ⟨a, ha⟩ := IsI.ev k A fun i => (hA i).1
 obtain ⟨u, hu⟩ := IsI.ev k (scL (d : Rat) p) fun i => by rw [scI]; exact hd i
 obtain ⟨v, hv⟩ := IsI.ev k (scL (f : Rat) q) fun i => by rw [scI]; exact hf i
 obtain ⟨m, hm⟩ := hdf
 rw [hu]
 rw [ha] at vA hne
 have ha0 : a ≠ 0 := fun h => hne (by rw [h]; rfl)
 have hprod : a = m * (u * v) := by
  refine intCast_inj ?_
  rw [Rat.intCast_mul, Rat.intCast_mul, ← ha, ← hu, ← hv, e, hm, Rat.intCast_mul, ev_scL, ev_scL]
  rw [show (((d * f : Nat) : Int) : Rat) = (d : Rat) * (f : Rat) from natR_mul d f]
  grind
 rw [Bd_int] at vA ⊢
 have hdv : u.natAbs ∣ a.natAbs := by
  rw [hprod, Int.natAbs_mul, Int.natAbs_mul]
  exact Nat.dvd_mul_left_of_dvd (Nat.dvd_mul_right _ _) _
 exact Nat.le_trans (Nat.le_of_dvd (by omega) hdv) vA
end Go.Proofs.YtlhapagililgmaaGreat

