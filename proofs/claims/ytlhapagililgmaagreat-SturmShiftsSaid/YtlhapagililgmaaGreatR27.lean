/- Texts H10 SZ3 SZ4 PM13 PM14 PM14a PM16 PM17a ST1 in one. -/
import Derived.Test.YtlhapagililgmaaGreatR26
import Derived.Test.YtlhapagililgmaaGreatR20
import Derived.Test.YtlhapagililgmaaGreatR22
/- Contracts: the reference of package poly, cofactors. -/
namespace Go.Proofs.YtlhapagililgmaaGreat
set_option linter.unusedSimpArgs false
set_option linter.unusedVariables false
open Go.RowKit

theorem can_drop {l : List Rat} (h : Can l) (k : Nat) : Can (l.drop k) := fun h0 => by
 have hk : k < l.length := by
  refine Nat.lt_of_not_le fun h' => h0 ?_
  exact List.drop_eq_nil_of_le h'
 have e : cf (l.drop k) ((l.drop k).length - 1) = cf l (l.length - 1) := by
  unfold cf
  rw [List.getD_eq_getElem?_getD, List.getD_eq_getElem?_getD, List.getElem?_drop, List.length_drop, show k + (l.length - k - 1) = l.length - 1 from by omega]
 rw [e]
 exact h fun e' => by rw [e'] at hk; simp at hk
def kPRShift : Con := con2 pR pQ fun a c => (Can a ∧ ∃ N k C, (a.length ≤ N ∧ PB a k) ∧ (qs c ≤ C ∧ 1 ≤ C) ∧ N ≤ 1000 ∧ N * (shBd N k C + C + 1) ≤ 2000000000000 ∧ shBd N k C ≤ 2000000000000, .lst (V.rats (pShift c a)))
attribute [go_sem ↓, go_sem] kPRShift
theorem sh_step {a : List Rat} {c : Rat} (ha : Can a) {n : Nat} (hn : n < a.length) : pAdd (pMul (pShift c (a.drop (n + 1))) [c, 1]) (tr [cf a n]) = pShift c (a.drop n) := ev_inj (can_pAdd _ _) (can_pShift (can_drop ha n)) fun x => by
 have h1 : a.drop n = cf a n :: a.drop (n + 1) := by
  rw [List.drop_eq_getElem_cons hn]
  unfold cf
  rw [List.getD_eq_getElem?_getD, List.getElem?_eq_getElem hn]
  rfl
 rw [ev_pAdd, ev_pMul, ev_pShift, ev_tr, ev_pShift, h1]
 simp only [ev]
 grind
theorem tr_c1 (c : Rat) : tr [c, 1] = [c, 1] := ev_inj (tr_can _) (fun _ => (show (1 : Rat) ≠ 0 by decide +kernel)) fun x => ev_tr _ x
theorem rShift_C : Ctr Tryz.prog 46 kPRShift := Ctr.c2 (by kernel_rfl) fun a c h => by
 obtain ⟨ca, N, k, C, ⟨la, pa⟩, ⟨hc, hC⟩, hN, hm, hsb⟩ := h
 show PCall _ _ _ (.lst (V.rats (pShift c a)))
 have T : Tabs Tryz.prog _ noGab := tabs mixed (tbl_cons rOne_C (tbl_cons rTrim_C (tbl_cons rPMul_C (tbl_cons rAdd_C tbl_nil))))
 have hs1 := tr_c1 c
 have hge := shBd_ge N k C
 refine PCall.of_vc T Tryz.func46 rfl Tryz.ntmps46 Tryz.results46 (by simp) ?_
 simp only [go_sem, hs1]
 refine ⟨by rfl, ⟨by omega, by omega⟩, ?_⟩
 refine AWp.frzS 6 ?_
 simp only [go_sem]
 refine AWp.loops (X := { n : Nat // n ≤ a.length }) (fun n => mkSt [(0, .lst (V.rats a)), (3, .ptr 0 4 0 0), (4, .raw (.slice none 0 0)), (5, .lst (V.rats [c, 1])), (6, .lst (V.rats (pShift c (a.drop (a.length - n.1))))), (7, .raw (.int .i64 ((a.length : Int) - 1 - (n.1 : Nat))))] [(0, false, ⟨46, 4, [.Q c]⟩)] 1 32) (fun n => a.length - n.1) ⟨0, Nat.zero_le _⟩ (Wk.of [0] (by decide) ?_) ?_
 ·have e0 : pShift c (a.drop a.length) = [] := by rw [List.drop_length]; rfl
  simp only [go_sem, Nat.sub_zero, e0, rats_0, Int.natCast_zero, Int.sub_zero]
  exact renV_pure rfl
 ·rintro ⟨n, hn⟩
  refine vc_at T ?_
  by_cases hlt : n < a.length
  ·have e1 : (a.length : Int) - 1 - (n : Nat) = ((a.length - 1 - n : Nat) : Int) := by omega
   have e2 : (0 : Int) ≤ ((a.length - 1 - n : Nat) : Int) := by omega
   have e3 := sh_step (c := c) ca (n := a.length - 1 - n) (by omega)
   rw [show a.length - 1 - n + 1 = a.length - n from by omega] at e3
   have e4 : ((a.length - 1 - n : Nat) : Int) - 1 = (a.length : Int) - 1 - ((n + 1 : Nat) : Int) := by omega
   have hd : (a.drop (a.length - n)).length ≤ N := by rw [List.length_drop]; omega
   have mon := shBd_mono k C hd
   obtain ⟨_, pq⟩ := sh_sz hc (a.drop (a.length - n)).length rfl (drop_PB pa _) (by omega)
   have pq : PB (pShift c (a.drop (a.length - n))) (shBd N k C) := pq.mono mon
   have lq : (pShift c (a.drop (a.length - n))).length ≤ N := by unfold pShift; rw [shF_len]; exact hd
   have pc : PB [c, 1] C := PB_cons hc (PB_cons (Nat.le_trans qs_1 hC) (PB_nil hC))
   have CK : C ≤ 2000000000000 := by
    rcases Nat.eq_zero_or_pos N with h0 | h0
    ·omega
    ·have := Nat.mul_le_mul_right (shBd N k C + C + 1) h0
     omega
   have hmul := Nat.mul_le_mul_right (shBd N k C + C + 1) lq
   have pm : PB (pMul (pShift c (a.drop (a.length - n))) [c, 1]) 5000000000000 := fun i => by
    unfold pMul
    rw [cf_tr]
    have := mulL_PB pc pq i
    omega
   have lm := len_pMul_le (pShift c (a.drop (a.length - n))) [c, 1]
   have l2 : [c, 1].length = 2 := rfl
   have pt : PB (tr [cf a (a.length - 1 - n)]) 5000000000000 := fun i => by
    rw [cf_tr]
    exact (PB_cons (Nat.le_trans (pa _) (by omega)) (PB_nil (by decide)) : PB [cf a (a.length - 1 - n)] 5000000000000) i
   have lt := tr_len [cf a (a.length - 1 - n)]
   have l1 : [cf a (a.length - 1 - n)].length = 1 := rfl
   have w1 : (pShift c (a.drop (a.length - n))).length ≤ 999998 := by omega
   have w2 : PB (pShift c (a.drop (a.length - n))) 5000000000000 := pq.mono (by omega)
   have w3 : PB [c, 1] 5000000000000 := pc.mono (by omega)
   have w4 : ∃ j k, (PB (pShift c (a.drop (a.length - n))) j ∧ PB [c, 1] k) ∧ (pShift c (a.drop (a.length - n))).length * (j + k + 1) ≤ 4999999999999 := ⟨_, _, ⟨pq, pc⟩, by omega⟩
   have w5 : (pMul (pShift c (a.drop (a.length - n))) [c, 1]).length ≤ 1000000 := by omega
   have w6 : (tr [cf a (a.length - 1 - n)]).length ≤ 1000000 := by omega
   simp only [go_sem, e1, e2, e3, w1, w2, w3, w4, w5, w6, pm, pt]
   refine ⟨by omega, by omega, ⟨by omega, by omega⟩, ⟨n + 1, hlt⟩, Wk.of [0] (by decide) ?_, by simp only; omega⟩
   have e5 : a.length - (n + 1) = a.length - 1 - n := by omega
   simp only [go_sem, e4, e5]
   exact renV_pure rfl
  ·obtain rfl : n = a.length := by omega
   have e0 : ¬ (0 : Int) ≤ (a.length : Int) - 1 - (a.length : Nat) := by omega
   have e3 : a.length - a.length = 0 := by omega
   simp only [go_sem, e0, e3, List.drop_zero]
end Go.Proofs.YtlhapagililgmaaGreat


/- Sizes of the squarefree part of a small polynomial. No program in sight. -/
namespace Go.Proofs.YtlhapagililgmaaGreat
set_option linter.unusedSimpArgs false
set_option linter.unusedVariables false
open Go.RowKit

theorem len_pDiff {a : List Rat} (ha : Can a) : (pDiff a).length = a.length - 1 := by
 have hc := can_pDiff a
 by_cases h : a.length ≤ 1
 ·have : pDiff a = [] := ev_inj hc Can_nil fun x => by
   rw [ev_pDiff]
   match a, h with
   | [], _ => rfl
   | [c], _ =>
     rw [show dL [c] = dL [c] from rfl, ev_dL_cons]
     show 0 + x * 0 = 0
     grind
  rw [this]
  show 0 = _
  omega
 ·have h1 : ¬ (pDiff a).length < a.length - 1 := fun hlt => by
   have e1 := cf_pDiff a (a.length - 2)
   rw [cf_ge (l := pDiff a) (by omega), show a.length - 2 + 1 = a.length - 1 from by omega] at e1
   have e2 := ha (fun e => by rw [e] at h; simp at h)
   have e3 : ((a.length - 1 : Nat) : Rat) ≠ 0 := fun e => by
    have : a.length - 1 = 0 := by exact_mod_cast e
    omega
   rcases Rat.mul_eq_zero.1 e1.symm with e | e
   ·exact e3 e
   ·exact e2 e
  have h2 : ¬ a.length - 1 < (pDiff a).length := fun hlt => by
   have h3 := hc (fun e => by rw [e] at hlt; simp at hlt)
   rw [cf_pDiff, cf_ge (l := a) (by omega), Rat.mul_zero] at h3
   exact h3 rfl
  omega
def sqp (a : List Rat) : List Rat := pDiv a (pGcd a (pDiff a))
theorem monic_PB {g : List Rat} {k : Nat} (h : PB g k) : PB (pMonic g) (2 * k + 1) := fun i => by
 unfold pMonic
 split
 ·exact Nat.le_trans qs_0 (by omega)
 ·rw [cf_pSc]
  have h1 := qs_mul (1 / lead g) (cf g i)
  have h2 := qs_inv1 (lead g) (h (g.length - 1))
  have := h i
  omega
end Go.Proofs.YtlhapagililgmaaGreat


/- Sizes along Euclid's algorithm, by computation over all lengths. No program in sight. -/
namespace Go.Proofs.YtlhapagililgmaaGreat
set_option linter.unusedSimpArgs false
set_option linter.unusedVariables false
open Go.RowKit

def rmB (la sa lb sb : Nat) : Nat := 2 ^ (la - lb + 1) * (sa + 2 * sb + 1) - (2 * sb + 1)
def dvC (la sa lb sb : Nat) : Bool := decide (la + lb ≤ 1000000) && decide (2 ^ (la - lb + 1) * (sa + 2 * sb + 1) ≤ 2500000000000)
theorem dvC_ok {la sa lb sb : Nat} {a b : List Rat} (h : dvC la sa lb sb = true) (ha : Can a) (hb : Can b) (la' : a.length ≤ la) (lb' : b.length = lb) (pa : PB a sa) (pb : PB b sb) : DvOk a b := by
 simp only [dvC, Bool.and_eq_true, decide_eq_true_eq] at h
 subst lb'
 exact ⟨⟨ha, hb⟩, by omega, sa, sb, ⟨pa, pb⟩, Nat.le_trans (Nat.mul_le_mul_right _ (Nat.pow_le_pow_right (by decide) (by omega))) h.2⟩
theorem rm_PB {a b : List Rat} {sa sb : Nat} (ha : Can a) (hb : Can b) (b0 : b ≠ []) (pa : PB a sa) (pb : PB b sb) : PB (pMod a b) (rmB a.length sa b.length sb) := mod_PB ha hb b0 pa pb (Nat.le_refl _)
def allB : Nat → (Nat → Bool) → Bool
 | 0, _ => true
 | n + 1, f => f n && allB n f
theorem allB_ok : ∀ {n : Nat} {f : Nat → Bool}, allB n f = true → ∀ i, i < n → f i = true
 | n + 1, f, h, i, hi => by
   simp only [allB, Bool.and_eq_true] at h
   by_cases e : i = n
   ·rw [e]; exact h.1
   ·exact allB_ok h.2 i (by omega)
def gcC : Nat → Nat → Nat → Nat → Nat → Bool
 | 0, _, _, _, _ => false
 | n + 1, la, sa, lb, sb => (dvC la sa lb sb && decide (sa ≤ 2500000000000)) && (if lb = 0 then true else if la < lb then gcC n lb sb la sa else allB lb fun l => gcC n lb sb l (rmB la sa lb sb))
def mxB : Nat → (Nat → Nat) → Nat
 | 0, _ => 0
 | n + 1, f => max (f n) (mxB n f)
theorem mxB_ok : ∀ {n : Nat} {f : Nat → Nat}, ∀ i, i < n → f i ≤ mxB n f
 | n + 1, f, i, hi => by
   simp only [mxB]
   by_cases e : i = n
   ·rw [e]; omega
   ·have := mxB_ok (f := f) i (show i < n by omega); omega
def gcM : Nat → Nat → Nat → Nat → Nat → Nat
 | 0, _, _, _, _ => 0
 | n + 1, la, sa, lb, sb => if lb = 0 then sa else if la < lb then gcM n lb sb la sa else mxB lb fun l => gcM n lb sb l (rmB la sa lb sb)
theorem gcC_ok : ∀ (n : Nat) {la sa lb sb : Nat} {a b : List Rat}, gcC n la sa lb sb = true → Can a → Can b → a.length = la → b.length = lb → PB a sa → PB b sb → GcOk n a b ∧ PB (pG a b) (gcM n la sa lb sb)
 | 0, _, _, _, _, _, _, h, _, _, _, _, _, _ => by cases h
 | n + 1, la, sa, lb, sb, a, b, h, ca, cb, e1, e2, pa, pb => by
   subst e1 e2
   simp only [gcC, Bool.and_eq_true, decide_eq_true_eq] at h
   obtain ⟨⟨h1, h2⟩, h3⟩ := h
   have dv := dvC_ok h1 ca cb (Nat.le_refl _) rfl pa pb
   by_cases b0 : b = []
   ·subst b0
    exact ⟨⟨dv, by rw [if_pos rfl]; exact ⟨sa, pa, h2⟩⟩, by rw [pG_nil]; exact pa⟩
   ·have hbl := List.length_pos_iff.2 b0
    rw [if_neg (by omega)] at h3
    unfold GcOk gcM
    rw [if_neg b0, if_neg (by omega), pG_step ca cb b0]
    by_cases hlt : a.length < b.length
    ·rw [if_pos hlt] at h3 ⊢
     rw [(dm_small ca cb hlt).2]
     have := gcC_ok n h3 cb ca rfl rfl pb pa
     exact ⟨⟨dv, this.1⟩, this.2⟩
    ·rw [if_neg hlt] at h3 ⊢
     obtain ⟨⟨_, cr⟩, hr, _⟩ := dm_ok ca cb b0
     have := gcC_ok n (allB_ok h3 _ hr) cb cr rfl rfl pb (rm_PB ca cb b0 pa pb)
     exact ⟨⟨dv, this.1⟩, this.2.mono (mxB_ok (f := fun l => gcM n b.length sb l (rmB a.length sa b.length sb)) _ hr)⟩
end Go.Proofs.YtlhapagililgmaaGreat


/- Polynomials over the rational numbers: residues. No program in sight. -/
namespace Go.Proofs.YtlhapagililgmaaGreat
set_option linter.unusedSimpArgs false
set_option linter.unusedVariables false
open Go.RowKit

end Go.Proofs.YtlhapagililgmaaGreat


/- Polynomials over the rational numbers: inverses of residues. No program in sight. -/
namespace Go.Proofs.YtlhapagililgmaaGreat
set_option linter.unusedSimpArgs false
set_option linter.unusedVariables false
open Go.RowKit

theorem len_pGcd {a b : List Rat} (ha : Can a) (hb : Can b) : (pGcd a b).length = (pG a b).length := len_pMonic (can_pG ha hb)
end Go.Proofs.YtlhapagililgmaaGreat


/- Powers. No program in sight. -/
namespace Go.Proofs.YtlhapagililgmaaGreat
set_option linter.unusedSimpArgs false
set_option linter.unusedVariables false

def pwr (a : List Rat) : Nat → List Rat
 | 0 => [1]
 | i + 1 => pMul (pwr a i) a
theorem can_pwr (a : List Rat) : ∀ i, Can (pwr a i)
 | 0 => by rw [pwr, Can_cons]; simp
 | _ + 1 => can_pMul _ _
end Go.Proofs.YtlhapagililgmaaGreat


/- Irreducible factors; Yun's algorithm. No program in sight. -/
namespace Go.Proofs.YtlhapagililgmaaGreat
set_option linter.unusedSimpArgs false
set_option linter.unusedVariables false

theorem can1 : Can ([1] : List Rat) := by rw [Can_cons]; simp
theorem ev1 (x : Rat) : ev [1] x = 1 := by show 1 + x * 0 = (1 : Rat); grind
theorem ev0 (x : Rat) : ev [] x = 0 := rfl
theorem ev_sing (c x : Rat) : ev [c] x = c := by show c + x * 0 = c; grind
def cop (a b : List Rat) : Prop := ∃ u v, (Can u ∧ Can v) ∧ ∀ x, ev u x * ev a x + ev v x * ev b x = 1
theorem cop.symm {a b : List Rat} (h : cop a b) : cop b a := by
 obtain ⟨u, v, ⟨h1, h2⟩, h⟩ := h
 exact ⟨v, u, ⟨h2, h1⟩, fun x => by have := h x; grind⟩
theorem cop_one (a : List Rat) : cop a [1] := ⟨[], [1], ⟨Can_nil, can1⟩, fun x => by rw [ev0, ev1]; grind⟩
theorem cop.mul {a b c : List Rat} (h : cop a b) (g : cop a c) : cop a (pMul b c) := by
 obtain ⟨u, v, ⟨_, _⟩, h⟩ := h
 obtain ⟨s, t, ⟨_, _⟩, g⟩ := g
 refine ⟨pAdd (pMul u (pAdd (pMul s a) (pMul t c))) (pMul (pMul v b) s), pMul v t, ⟨can_pAdd _ _, can_pMul _ _⟩, fun x => ?_⟩
 have h := h x
 have g := g x
 simp only [ev_pAdd, ev_pMul]
 grind
theorem cop.euclid {a b c : List Rat} (h : cop a b) (hd : pDvd a (pMul b c)) : pDvd a c := by
 obtain ⟨u, v, ⟨h1, h2⟩, h⟩ := h
 obtain ⟨k, ck, hk⟩ := hd
 refine ⟨pAdd (pMul u c) (pMul v k), can_pAdd _ _, fun x => ?_⟩
 have h := h x
 have hk := hk x
 rw [ev_pMul] at hk
 simp only [ev_pAdd, ev_pMul]
 grind
theorem cop.add {a b : List Rat} (h : cop a b) (k : List Rat) : cop a (pAdd b (pMul a k)) := by
 obtain ⟨u, v, ⟨h1, h2⟩, h⟩ := h
 refine ⟨pSub u (pMul v k), v, ⟨can_pSub _ _, h2⟩, fun x => ?_⟩
 have h := h x
 simp only [ev_pSub, ev_pAdd, ev_pMul]
 grind
theorem cop.sc {a b : List Rat} {c : Rat} (hc : c ≠ 0) (h : cop a b) : cop a (pSc c b) := by
 obtain ⟨u, v, ⟨h1, h2⟩, h⟩ := h
 refine ⟨u, pSc (1 / c) v, ⟨h1, can_pSc _ _⟩, fun x => ?_⟩
 have h := h x
 rw [ev_pSc, ev_pSc]
 have : 1 / c * c = 1 := by grind
 grind
theorem len_one {a : List Rat} (ha : Can a) (h : a.length = 1) : ∃ c, c ≠ 0 ∧ a = [c] := by
 match a, h with
 | [c], _ => exact ⟨c, by rw [Can_cons, if_pos rfl] at ha; exact ha, rfl⟩
theorem cop_len1 {a b : List Rat} (ha : Can a) (hb : Can b) (h : cop a b) : (pG a b).length = 1 := by
 obtain ⟨u, v, ⟨h1, h2⟩, h⟩ := h
 obtain ⟨⟨k, ck, hk⟩, ⟨j, cj, hj⟩⟩ := pG_dvd ha hb
 have d : pDvd (pG a b) [1] := ⟨pAdd (pMul u k) (pMul v j), can_pAdd _ _, fun x => by
  rw [ev1, ev_pAdd, ev_pMul, ev_pMul, ← h x, hk x, hj x]; grind⟩
 have := dvd_len can1 (can_pG ha hb) d (by simp)
 have h3 := List.length_pos_iff.2 this.2
 have h4 := this.1
 simp only [List.length_cons, List.length_nil] at h4
 omega
theorem len1_cop {a b : List Rat} (ha : Can a) (hb : Can b) (h : (pGcd a b).length = 1) : cop a b := by
 obtain ⟨e1, ⟨c1, c2⟩, e2⟩ := pExt_ok ha hb
 obtain ⟨c, c0, ec⟩ := len_one (can_pMonic _) h
 have ec : pGcd a b = [c] := ec
 refine ⟨pSc (1 / c) (pExt a b).2.1, pSc (1 / c) (pExt a b).2.2, ⟨can_pSc _ _, can_pSc _ _⟩, fun x => ?_⟩
 have := e2 x
 rw [ec, ev_sing] at this
 rw [ev_pSc, ev_pSc]
 have h3 : 1 / c * c = 1 := by grind
 grind
structure Irr (p : List Rat) : Prop where
 can : Can p
 two : 2 ≤ p.length
 mon : lead p = 1
 irr : ∀ d, Can d → pDvd d p → d.length = 1 ∨ d.length = p.length
theorem Irr.ne {p : List Rat} (h : Irr p) : p ≠ [] := fun e => by have := h.two; rw [e] at this; simp at this
theorem exists_irr : ∀ (n : Nat) (a : List Rat), a.length ≤ n → Can a → 2 ≤ a.length → ∃ p, Irr p ∧ pDvd p a
 | 0, a, h, _, h2 => by omega
 | n + 1, a, h, ha, h2 => by
   have a0 : a ≠ [] := fun e => by rw [e] at h2; simp at h2
   by_cases hd : ∃ d, Can d ∧ pDvd d a ∧ 2 ≤ d.length ∧ d.length < a.length
   ·obtain ⟨d, cd, dd, d2, dl⟩ := hd
    obtain ⟨p, hp, pd⟩ := exists_irr n d (by omega) cd d2
    exact ⟨p, hp, pDvd_trans pd dd⟩
   ·have l0 := lead_ne ha a0
    have dm : pDvd (pMonic a) a := ⟨[lead a], by rw [Can_cons, if_pos rfl]; exact l0, fun x => by rw [ev_sing, ev_pMonic a0]; grind⟩
    refine ⟨pMonic a, ⟨can_pMonic _, by rw [len_pMonic ha]; exact h2, lead_pMonic ha a0, fun d cd dd => ?_⟩, dm⟩
    have d1 : pDvd d a := pDvd_trans dd dm
    obtain ⟨l1, dne⟩ := dvd_len ha cd d1 a0
    have := List.length_pos_iff.2 dne
    rw [len_pMonic ha]
    by_cases h3 : 2 ≤ d.length ∧ d.length < a.length
    ·exact absurd ⟨d, cd, d1, h3.1, h3.2⟩ hd
    ·omega
theorem dvd_same {a b : List Rat} (ha : Can a) (hb : Can b) (b0 : b ≠ []) (h : pDvd a b) (hl : a.length = b.length) (h1 : lead a = 1) (h2 : lead b = 1) : a = b := by
 obtain ⟨k, ck, hk⟩ := h
 have k0 : k ≠ [] := fun e => b0 (ev_inj hb Can_nil fun x => by rw [hk x, e, ev0]; grind)
 have a0 : a ≠ [] := fun e => by rw [e] at hl; exact b0 (List.eq_nil_of_length_eq_zero hl.symm)
 have e1 : b = pMul k a := ev_inj hb (can_pMul _ _) fun x => by rw [hk x, ev_pMul]
 have e2 := len_pMul ck ha k0 a0
 rw [← e1] at e2
 have := List.length_pos_iff.2 k0
 have := List.length_pos_iff.2 a0
 obtain ⟨c, c0, ec⟩ := len_one ck (by omega)
 have e3 := lead_pMul ck ha k0 a0
 rw [← e1, h1, h2, ec] at e3
 have e4 : lead [c] = c := rfl
 rw [e4] at e3
 have : c = 1 := by grind
 rw [e1, ec, this]
 exact ev_inj ha (can_pMul _ _) fun x => by rw [ev_pMul, ev_sing]; grind
theorem Irr.cop {p a : List Rat} (h : Irr p) (ha : Can a) (hn : ¬ pDvd p a) : cop p a := by
 refine len1_cop h.can ha ?_
 obtain ⟨d1, d2⟩ := pG_dvd h.can ha
 unfold pGcd
 rw [len_pMonic (can_pG h.can ha)]
 rcases h.irr _ (can_pG h.can ha) d1 with e | e
 ·exact e
 ·refine absurd ?_ hn
  have cg := can_pG h.can ha
  have g0 : pG p a ≠ [] := fun e' => h.ne ((pG_eq_nil h.can ha).1 e').1
  have l0 := lead_ne cg g0
  have e1 : pMonic (pG p a) = p := dvd_same (can_pMonic _) h.can h.ne (pDvd_trans ⟨[lead (pG p a)], by rw [Can_cons, if_pos rfl]; exact l0, fun x => by rw [ev_sing, ev_pMonic g0]; grind⟩ d1) (by rw [len_pMonic cg]; exact e) (lead_pMonic cg g0) h.mon
  have d3 : pDvd p (pG p a) := ⟨[lead (pG p a)], by rw [Can_cons, if_pos rfl]; exact l0, fun x => by
   rw [ev_sing]
   have := congrArg (fun l => ev l x) e1
   simp only [ev_pMonic g0] at this
   rw [← this]; grind⟩
  exact pDvd_trans d3 d2
theorem Irr.der {p : List Rat} (h : Irr p) : Go.Proofs.YtlhapagililgmaaGreat.cop p (pDiff p) := by
 refine h.cop (can_pDiff p) fun hd => ?_
 have l := len_pDiff h.can
 have h2 := h.two
 have d0 : pDiff p ≠ [] := fun e => by rw [e] at l; simp at l; omega
 have := (dvd_len (can_pDiff p) h.can hd d0).1
 omega
theorem Irr.eq {p q : List Rat} (hp : Irr p) (hq : Irr q) (h : pDvd p q) : p = q := by
 refine dvd_same hp.can hq.can hq.ne h ?_ hp.mon hq.mon
 rcases hq.irr p hp.can h with e | e
 ·have := hp.two; omega
 ·exact e
theorem Irr.cop' {p q : List Rat} (hp : Irr p) (hq : Irr q) (h : p ≠ q) : Go.Proofs.YtlhapagililgmaaGreat.cop p q := hp.cop hq.can fun hd => h (hp.eq hq hd)
abbrev Fac := List (List Rat × Nat)
def Good : Fac → Prop
 | [] => True
 | x :: l => (Irr x.1 ∧ 1 ≤ x.2) ∧ (∀ y ∈ l, x.1 ≠ y.1) ∧ Good l
def PiL : Fac → List Rat
 | [] => [1]
 | x :: l => pMul x.1 (PiL l)
def PwL : Fac → List Rat
 | [] => [1]
 | x :: l => pMul (pwr x.1 x.2) (PwL l)
def GL : Fac → List Rat
 | [] => [1]
 | x :: l => pMul (pwr x.1 (x.2 - 1)) (GL l)
def WL (w : Nat → Rat) : Fac → List Rat
 | [] => []
 | x :: l => pAdd (pSc (w x.2) (pMul (pDiff x.1) (PiL l))) (pMul x.1 (WL w l))
theorem can_PiL : ∀ l, Can (PiL l)
 | [] => can1
 | _ :: _ => can_pMul _ _
theorem can_PwL : ∀ l, Can (PwL l)
 | [] => can1
 | _ :: _ => can_pMul _ _
theorem can_GL : ∀ l, Can (GL l)
 | [] => can1
 | _ :: _ => can_pMul _ _
theorem can_WL (w : Nat → Rat) : ∀ l, Can (WL w l)
 | [] => Can_nil
 | _ :: _ => can_pAdd _ _
theorem ev_pwr (a : List Rat) (x : Rat) : ∀ i, ev (pwr a i) x = ev a x ^ i
 | 0 => by rw [Rat.pow_zero]; exact ev1 x
 | i + 1 => by rw [pwr, ev_pMul, ev_pwr a x i, Rat.pow_succ]
theorem Good.mem : ∀ {l : Fac}, Good l → ∀ x ∈ l, Irr x.1 ∧ 1 ≤ x.2
 | [], _, x, h => by cases h
 | y :: l, ⟨h1, _, h3⟩, x, hx => by
   rcases List.mem_cons.1 hx with rfl | hx
   ·exact h1
   ·exact h3.mem x hx
theorem Good.filter {f : List Rat × Nat → Bool} : ∀ {l : Fac}, Good l → Good (l.filter f)
 | [], _ => trivial
 | y :: l, ⟨h1, h2, h3⟩ => by
   rw [List.filter_cons]
   split
   ·exact ⟨h1, fun z hz => h2 z (List.mem_filter.1 hz).1, h3.filter⟩
   ·exact h3.filter
theorem good_ins {p : List Rat} (hp : Irr p) : ∀ l : Fac, Good l → ∃ l', Good l' ∧ (∀ x, ev (PwL l') x = ev p x * ev (PwL l) x) ∧ ∀ y ∈ l', y.1 = p ∨ ∃ z ∈ l, y.1 = z.1
 | [], _ => ⟨[(p, 1)], ⟨⟨hp, Nat.le_refl _⟩, fun y h => (by cases h), trivial⟩, fun x => by
  show ev (pMul (pwr p 1) [1]) x = ev p x * ev [1] x
  rw [ev_pMul, ev_pwr, show (1 : Nat) = 0 + 1 from rfl, Rat.pow_succ, Rat.pow_zero]; grind, fun y h => .inl (by rw [List.mem_singleton.1 h])⟩
 | y :: l, ⟨⟨h1, h1'⟩, h2, h3⟩ => by
   by_cases e : p = y.1
   ·refine ⟨(y.1, y.2 + 1) :: l, ⟨⟨h1, by show 1 ≤ y.2 + 1; omega⟩, h2, h3⟩, fun x => ?_, fun z hz => ?_⟩
    ·rw [PwL, PwL, ev_pMul, ev_pMul, ev_pwr, ev_pwr, Rat.pow_succ, e]; grind
    ·rcases List.mem_cons.1 hz with rfl | hz
     ·exact .inl e.symm
     ·exact .inr ⟨z, List.mem_cons_of_mem _ hz, rfl⟩
   ·obtain ⟨l', g1, g2, g3⟩ := good_ins hp l h3
    refine ⟨y :: l', ⟨⟨h1, h1'⟩, fun z hz => ?_, g1⟩, fun x => ?_, fun z hz => ?_⟩
    ·rcases g3 z hz with e' | ⟨z', hz', e'⟩
     ·rw [e']; exact fun h => e h.symm
     ·rw [e']; exact h2 z' hz'
    ·rw [PwL, PwL, ev_pMul, ev_pMul, g2]; grind
    ·rcases List.mem_cons.1 hz with rfl | hz
     ·exact .inr ⟨_, List.mem_cons_self, rfl⟩
     ·rcases g3 z hz with e' | ⟨z', hz', e'⟩
      ·exact .inl e'
      ·exact .inr ⟨z', List.mem_cons_of_mem _ hz', e'⟩
theorem factor : ∀ (n : Nat) (a : List Rat), a.length ≤ n → Can a → a ≠ [] → ∃ (c : Rat) (l : Fac), c ≠ 0 ∧ Good l ∧ ∀ x, ev a x = c * ev (PwL l) x
 | 0, a, h, _, h0 => absurd (List.eq_nil_of_length_eq_zero (by omega)) h0
 | n + 1, a, h, ha, h0 => by
   have hl := List.length_pos_iff.2 h0
   by_cases h1 : a.length = 1
   ·obtain ⟨c, c0, ec⟩ := len_one ha h1
    exact ⟨c, [], c0, trivial, fun x => by rw [ec, ev_sing, PwL, ev1]; grind⟩
   ·obtain ⟨p, hp, k, ck, hk⟩ := exists_irr (n + 1) a h ha (by omega)
    have k0 : k ≠ [] := fun e => h0 (ev_inj ha Can_nil fun x => by rw [hk x, e, ev0]; grind)
    have e1 : a = pMul k p := ev_inj ha (can_pMul _ _) fun x => by rw [hk x, ev_pMul]
    have e2 := len_pMul ck hp.can k0 hp.ne
    rw [← e1] at e2
    have := hp.two
    obtain ⟨c, l, c0, g, hc⟩ := factor n k (by omega) ck k0
    obtain ⟨l', g1, g2, _⟩ := good_ins hp l g
    exact ⟨c, l', c0, g1, fun x => by rw [hk x, hc x, g2 x]; grind⟩
theorem GL_Pi : ∀ {l : Fac}, Good l → ∀ x, ev (PwL l) x = ev (GL l) x * ev (PiL l) x
 | [], _, x => by rw [PwL, GL, PiL, ev1]; grind
 | y :: l, ⟨⟨_, h1⟩, _, h3⟩, x => by
   rw [PwL, GL, PiL, ev_pMul, ev_pMul, ev_pMul, GL_Pi h3 x, ev_pwr, ev_pwr]
   obtain ⟨k, hk⟩ : ∃ k, y.2 = k + 1 := ⟨y.2 - 1, by omega⟩
   rw [hk, Nat.add_sub_cancel, Rat.pow_succ]; grind
theorem ev_diff_pwr (p : List Rat) (x : Rat) : ∀ e, ev (pDiff (pwr p (e + 1))) x = ((e + 1 : Nat) : Rat) * ev p x ^ e * ev (pDiff p) x
 | 0 => by
   rw [pwr, ev_pDiff_mul, Rat.pow_zero]
   have : pDiff (pwr p 0) = [] := rfl
   rw [this, ev0, show pwr p 0 = [1] from rfl, ev1]
   have : ((0 + 1 : Nat) : Rat) = 1 := rfl
   rw [this]; grind
 | e + 1 => by
   rw [pwr, ev_pDiff_mul, ev_diff_pwr p x e, ev_pwr, Rat.pow_succ, Rat.natCast_add (e + 1) 1]
   have : ((1 : Nat) : Rat) = 1 := rfl
   rw [this]; grind
theorem diff_PwL : ∀ {l : Fac}, Good l → ∀ x, ev (pDiff (PwL l)) x = ev (GL l) x * ev (WL (fun e => (e : Rat)) l) x
 | [], _, x => by
   have : pDiff (PwL []) = [] := rfl
   rw [this, WL, ev0]; grind
 | y :: l, ⟨⟨_, h1⟩, _, h3⟩, x => by
   obtain ⟨k, hk⟩ : ∃ k, y.2 = k + 1 := ⟨y.2 - 1, by omega⟩
   rw [PwL, ev_pDiff_mul, diff_PwL h3 x, GL_Pi h3 x, hk, ev_diff_pwr, GL, WL, hk, Nat.add_sub_cancel]
   simp only [ev_pMul, ev_pAdd, ev_pSc, ev_pwr]
   rw [Rat.pow_succ]
   grind
theorem diff_PiL : ∀ (l : Fac) (x : Rat), ev (pDiff (PiL l)) x = ev (WL (fun _ => 1) l) x
 | [], x => by
   have : pDiff (PiL []) = [] := rfl
   rw [this, WL, ev0]
 | y :: l, x => by
   rw [PiL, ev_pDiff_mul, diff_PiL l x, WL]
   simp only [ev_pMul, ev_pAdd, ev_pSc]
   grind
theorem cop_PiL {a : List Rat} : ∀ {l : Fac}, (∀ y ∈ l, cop a y.1) → cop a (PiL l)
 | [], _ => cop_one a
 | y :: l, h => (h y List.mem_cons_self).mul (cop_PiL fun z hz => h z (List.mem_cons_of_mem _ hz))
theorem WL_mod (w : Nat → Rat) : ∀ {l : Fac}, Good l → ∀ y ∈ l, w y.2 ≠ 0 → cop y.1 (WL w l)
 | [], _, y, h, _ => by cases h
 | z :: l, ⟨⟨h1, _⟩, h2, h3⟩, y, hy, hw => by
   rcases List.mem_cons.1 hy with rfl | hy
   ·rw [WL]
    refine cop.add (cop.sc hw (h1.der.mul (cop_PiL fun v hv => h1.cop' (h3.mem v hv).1 (h2 v hv)))) _
   ·have i1 := WL_mod w h3 y hy hw
    have hy1 := (h3.mem y hy).1
    have i2 : cop y.1 (pMul z.1 (WL w l)) := (hy1.cop' h1 fun e => h2 y hy e.symm).mul i1
    -- the first summand is a multiple of y
    obtain ⟨k, ck, hk⟩ : pDvd y.1 (PiL l) := by
     clear i1 i2
     induction l with
     | nil => cases hy
     | cons v l ih =>
       rcases List.mem_cons.1 hy with rfl | hy
       ·exact ⟨PiL l, can_PiL l, fun x => by rw [PiL, ev_pMul]; grind⟩
       ·obtain ⟨k, ck, hk⟩ := ih (fun u hu => h2 u (List.mem_cons_of_mem _ hu)) h3.2.2 (List.mem_cons_of_mem _ hy) hy
        exact ⟨pMul v.1 k, can_pMul _ _, fun x => by rw [PiL, ev_pMul, ev_pMul, hk x]; grind⟩
    have e : WL w (z :: l) = pAdd (pMul z.1 (WL w l)) (pMul y.1 (pSc (w z.2) (pMul (pDiff z.1) k))) := ev_inj (can_WL _ _) (can_pAdd _ _) fun x => by
     rw [WL]
     simp only [ev_pAdd, ev_pMul, ev_pSc]
     rw [hk x]; grind
    rw [e]
    exact i2.add _
theorem cop_W {w : Nat → Rat} {l : Fac} (hl : Good l) (h : ∀ y ∈ l, w y.2 ≠ 0) : cop (PiL l) (WL w l) := by
 refine cop.symm ?_
 exact cop_PiL fun y hy => (WL_mod w hl y hy (h y hy)).symm
theorem lead_PiL : ∀ {l : Fac}, Good l → lead (PiL l) = 1 ∧ PiL l ≠ [] ∧ (l ≠ [] → 2 ≤ (PiL l).length)
 | [], _ => ⟨rfl, by simp [PiL], fun h => absurd rfl h⟩
 | y :: l, ⟨⟨h1, _⟩, _, h3⟩ => by
   obtain ⟨i1, i2, i3⟩ := lead_PiL h3
   have hl := len_pMul h1.can (can_PiL l) h1.ne i2
   have h2 := h1.two
   have := List.length_pos_iff.2 i2
   refine ⟨?_, fun e => ?_, fun _ => ?_⟩
   ·rw [PiL, lead_pMul h1.can (can_PiL l) h1.ne i2, h1.mon, i1]; grind
   ·rw [PiL] at e
    rw [e] at hl; simp at hl; omega
   ·rw [PiL]; omega
theorem gcd_out {a b g u v : List Rat} (ha : Can a) (hb : Can b) (hg : Can g) (hu : Can u) (hv : Can v) (g0 : g ≠ []) (g1 : lead g = 1) (ea : ∀ x, ev a x = ev g x * ev u x) (eb : ∀ x, ev b x = ev g x * ev v x) (h : cop u v) : pGcd a b = g ∧ pDiv a g = u ∧ pDiv b g = v := by
 have e1 : a = pMul u g := ev_inj ha (can_pMul _ _) fun x => by rw [ea x, ev_pMul]; grind
 have e2 : b = pMul v g := ev_inj hb (can_pMul _ _) fun x => by rw [eb x, ev_pMul]; grind
 refine ⟨?_, ?_, ?_⟩
 ·unfold pGcd
  rw [e1, e2, pG_mul hu hv hg g0]
  obtain ⟨c, c0, ec⟩ := len_one (can_pG hu hv) (cop_len1 hu hv h)
  rw [ec]
  have : pMul [c] g = pSc c g := ev_inj (can_pMul _ _) (can_pSc _ _) fun x => by rw [ev_pMul, ev_sing, ev_pSc]
  rw [this, pMonic_pSc c0 hg]
  refine ev_inj (can_pMonic _) hg fun x => ?_
  rw [ev_pMonic g0, g1]; grind
 ·exact (dm_eq ha hg hu Can_nil (List.length_pos_iff.2 g0) fun x => by rw [ev0, ea x]; grind).1
 ·exact (dm_eq hb hg hv Can_nil (List.length_pos_iff.2 g0) fun x => by rw [ev0, eb x]; grind).1
theorem lead_pwr {p : List Rat} (hp : Irr p) : ∀ e, lead (pwr p e) = 1 ∧ pwr p e ≠ [] ∧ e + 1 ≤ (pwr p e).length
 | 0 => ⟨rfl, by simp [pwr], by simp [pwr]⟩
 | e + 1 => by
   obtain ⟨i1, i2, i3⟩ := lead_pwr hp e
   have hl := len_pMul (can_pwr p e) hp.can i2 hp.ne
   have h2 := hp.two
   refine ⟨?_, fun h => ?_, ?_⟩
   ·rw [pwr, lead_pMul (can_pwr p e) hp.can i2 hp.ne, i1, hp.mon]; grind
   ·rw [pwr] at h
    rw [h] at hl; simp at hl; omega
   ·rw [pwr]; omega
theorem lead_GL : ∀ {l : Fac}, Good l → lead (GL l) = 1 ∧ GL l ≠ []
 | [], _ => ⟨rfl, by simp [GL]⟩
 | y :: l, ⟨⟨h1, _⟩, _, h3⟩ => by
   obtain ⟨i1, i2⟩ := lead_GL h3
   obtain ⟨j1, j2, _⟩ := lead_pwr h1 (y.2 - 1)
   refine ⟨?_, fun e => ?_⟩
   ·rw [GL, lead_pMul (can_pwr _ _) (can_GL l) j2 i2, j1, i1]; grind
   ·rw [GL] at e
    rcases (pMul_eq_nil (can_pwr _ _) (can_GL l)).1 e with e | e
    ·exact j2 e
    ·exact i2 e
theorem lead_PwL : ∀ {l : Fac}, Good l → (lead (PwL l) = 1 ∧ PwL l ≠ []) ∧ ∀ y ∈ l, y.2 + 1 ≤ (PwL l).length
 | [], _ => ⟨⟨rfl, by simp [PwL]⟩, fun _ h => (by cases h)⟩
 | y :: l, ⟨⟨h1, _⟩, _, h3⟩ => by
   obtain ⟨⟨i1, i2⟩, i3⟩ := lead_PwL h3
   obtain ⟨j1, j2, j3⟩ := lead_pwr h1 y.2
   have hl := len_pMul (can_pwr y.1 y.2) (can_PwL l) j2 i2
   have := List.length_pos_iff.2 i2
   refine ⟨⟨?_, fun e => ?_⟩, fun z hz => ?_⟩
   ·rw [PwL, lead_pMul (can_pwr _ _) (can_PwL l) j2 i2, j1, i1]; grind
   ·rw [PwL] at e
    rw [e] at hl; simp at hl; omega
   ·rw [PwL]
    rcases List.mem_cons.1 hz with rfl | hz
    ·omega
    ·have := i3 z hz; omega
end Go.Proofs.YtlhapagililgmaaGreat


/- Squarefree parts. No program in sight. -/
namespace Go.Proofs.YtlhapagililgmaaGreat
set_option linter.unusedSimpArgs false
set_option linter.unusedVariables false

theorem PiL_sqf {l : Fac} (hl : Good l) : cop (PiL l) (pDiff (PiL l)) := by
 have h := cop_W (w := fun _ => 1) hl fun y _ => by decide
 obtain ⟨u, v, hc, h⟩ := h
 exact ⟨u, v, hc, fun x => by rw [diff_PiL]; exact h x⟩
theorem PiL_len {l : Fac} (hl : Good l) : (PiL l).length ≤ (PwL l).length := by
 obtain ⟨g1, g0⟩ := lead_GL hl
 obtain ⟨_, p0, _⟩ := lead_PiL hl
 have e : PwL l = pMul (GL l) (PiL l) := ev_inj (can_PwL _) (can_pMul _ _) fun x => by rw [GL_Pi hl x, ev_pMul]
 have h := len_pMul (can_GL l) (can_PiL l) g0 p0
 rw [← e] at h
 have := List.length_pos_iff.2 g0
 omega
end Go.Proofs.YtlhapagililgmaaGreat


/- Values of polynomials that are near each other. No program in sight. -/
namespace Go.Proofs.YtlhapagililgmaaGreat
set_option linter.unusedSimpArgs false
set_option linter.unusedVariables false

def ab (x : Rat) : Rat := if 0 ≤ x then x else -x
theorem ab_nn (x : Rat) : 0 ≤ ab x := by unfold ab; split <;> grind
theorem ab_le {x c : Rat} : ab x ≤ c ↔ -c ≤ x ∧ x ≤ c := by unfold ab; split <;> grind
theorem ab_neg (x : Rat) : ab (-x) = ab x := by unfold ab; split <;> split <;> grind
theorem ab_add (x y : Rat) : ab (x + y) ≤ ab x + ab y := by unfold ab; split <;> split <;> split <;> grind
theorem ab_sub (x y : Rat) : ab (x - y) ≤ ab x + ab y := by unfold ab; split <;> split <;> split <;> grind
theorem ab_comm (x y : Rat) : ab (x - y) = ab (y - x) := by unfold ab; split <;> split <;> grind
theorem ab_mul (x y : Rat) : ab (x * y) = ab x * ab y := by
 unfold ab
 by_cases hx : 0 ≤ x
 ·by_cases hy : 0 ≤ y
  ·have := Rat.mul_nonneg hx hy
   rw [if_pos hx, if_pos hy, if_pos this]
  ·have h1 : 0 ≤ -y := by grind
   have h2 := Rat.mul_nonneg hx h1
   rw [if_pos hx, if_neg hy]
   split <;> grind
 ·have h0 : 0 ≤ -x := by grind
  by_cases hy : 0 ≤ y
  ·have h2 := Rat.mul_nonneg h0 hy
   rw [if_neg hx, if_pos hy]
   split <;> grind
  ·have h1 : 0 ≤ -y := by grind
   have h2 := Rat.mul_nonneg h0 h1
   rw [if_neg hx, if_neg hy]
   split <;> grind
theorem mul_le2 {a b c d : Rat} (h1 : a ≤ c) (h2 : b ≤ d) (ha : 0 ≤ a) (hd : 0 ≤ d) : a * b ≤ c * d := by
 have k1 : a * b ≤ a * d := Rat.mul_le_mul_of_nonneg_left h2 ha
 have k2 : a * d ≤ c * d := Rat.mul_le_mul_of_nonneg_right h1 hd
 grind
theorem ev_bd {R : Rat} (hR : 0 ≤ R) : ∀ p : List Rat, ∃ B : Rat, 0 ≤ B ∧ ∀ x, ab x ≤ R → ab (ev p x) ≤ B
 | [] => ⟨0, by grind, fun x _ => by simp only [ev, ab]; grind⟩
 | c :: p => by
   obtain ⟨B, h0, h⟩ := ev_bd hR p
   refine ⟨ab c + R * B, ?_, fun x hx => ?_⟩
   ·have := ab_nn c
    have := Rat.mul_nonneg hR h0
    grind
   ·have h1 := h x hx
    show ab (c + x * ev p x) ≤ _
    have h2 := ab_add c (x * ev p x)
    rw [ab_mul] at h2
    have h3 := mul_le2 hx h1 (ab_nn x) h0
    grind
theorem ev_lip {R : Rat} (hR : 0 ≤ R) : ∀ p : List Rat, ∃ L : Rat, 0 ≤ L ∧ ∀ x y, ab x ≤ R → ab y ≤ R → ab (ev p x - ev p y) ≤ L * ab (x - y)
 | [] => ⟨0, by grind, fun x y _ _ => by simp only [ev, ab]; grind⟩
 | c :: p => by
   obtain ⟨L, h0, h⟩ := ev_lip hR p
   obtain ⟨B, b0, hb⟩ := ev_bd hR p
   refine ⟨R * L + B, ?_, fun x y hx hy => ?_⟩
   ·have := Rat.mul_nonneg hR h0
    grind
   ·have e : ev (c :: p) x - ev (c :: p) y = x * (ev p x - ev p y) + (x - y) * ev p y := by
     simp only [ev]; grind
    rw [e]
    have h1 := ab_add (x * (ev p x - ev p y)) ((x - y) * ev p y)
    rw [ab_mul, ab_mul] at h1
    have h2 := mul_le2 hx (h x y hx hy) (ab_nn x) (Rat.mul_nonneg h0 (ab_nn (x - y)))
    have h3 := mul_le2 (Std.le_refl (ab (x - y))) (hb y hy) (ab_nn (x - y)) b0
    grind
theorem ev_tay {R : Rat} (hR : 0 ≤ R) : ∀ p : List Rat, ∃ K : Rat, 0 ≤ K ∧ ∀ x y, ab x ≤ R → ab y ≤ R → ab (ev p y - ev p x - (y - x) * ev (dL p) x) ≤ K * (ab (y - x) * ab (y - x))
 | [] => ⟨0, by grind, fun x y _ _ => by simp only [ev, dL, ab]; grind⟩
 | c :: p => by
   obtain ⟨K, h0, h⟩ := ev_tay hR p
   obtain ⟨B, b0, hb⟩ := ev_bd hR (dL p)
   refine ⟨R * K + B, ?_, fun x y hx hy => ?_⟩
   ·have := Rat.mul_nonneg hR h0
    grind
   ·have e : ev (c :: p) y - ev (c :: p) x - (y - x) * ev (dL (c :: p)) x = y * (ev p y - ev p x - (y - x) * ev (dL p) x) + (y - x) * ((y - x) * ev (dL p) x) := by
     rw [ev_dL_cons]
     simp only [ev]; grind
    rw [e]
    have h1 := ab_add (y * (ev p y - ev p x - (y - x) * ev (dL p) x)) ((y - x) * ((y - x) * ev (dL p) x))
    rw [ab_mul, ab_mul, ab_mul] at h1
    have n1 := Rat.mul_nonneg (ab_nn (y - x)) (ab_nn (y - x))
    have h2 := mul_le2 hy (h x y hx hy) (ab_nn y) (Rat.mul_nonneg h0 n1)
    have h3 := mul_le2 (Std.le_refl (ab (y - x) * ab (y - x))) (hb x hx) n1 b0
    grind
def Near (R : Rat) (P : Rat → Rat → Prop) : Prop := ∃ d, 0 < d ∧ ∀ x y, ab x ≤ R → ab y ≤ R → ab (x - y) ≤ d → P x y
theorem Near.and {R : Rat} {P Q : Rat → Rat → Prop} (h : Near R P) (g : Near R Q) : Near R fun x y => P x y ∧ Q x y := by
 obtain ⟨d, d0, h⟩ := h
 obtain ⟨e, e0, g⟩ := g
 refine ⟨if d ≤ e then d else e, by split <;> assumption, fun x y hx hy hd => ⟨h x y hx hy ?_, g x y hx hy ?_⟩⟩
 ·split at hd <;> grind
 ·split at hd <;> grind
theorem Near.mono {R : Rat} {P Q : Rat → Rat → Prop} (h : Near R P) (g : ∀ x y, ab x ≤ R → ab y ≤ R → P x y → Q x y) : Near R Q := by
 obtain ⟨d, d0, h⟩ := h
 exact ⟨d, d0, fun x y hx hy hd => g x y hx hy (h x y hx hy hd)⟩
theorem Near.all {R : Rat} {P : Rat → Rat → Prop} (g : ∀ x y, ab x ≤ R → ab y ≤ R → P x y) : Near R P := ⟨1, by decide, fun x y hx hy _ => g x y hx hy⟩
theorem half {L e : Rat} (hL : 0 ≤ L) (he : 0 < e) : ∃ d, 0 < d ∧ L * d < e := by
 have hp : 0 < L + 1 := by grind
 have hi : 0 < (L + 1)⁻¹ := Rat.inv_pos.2 hp
 have hm : (L + 1) * (L + 1)⁻¹ = 1 := Rat.mul_inv_cancel _ (by grind)
 generalize (L + 1)⁻¹ = y at hi hm
 refine ⟨e * y, Rat.mul_pos he hi, ?_⟩
 have h2 : 0 < e * y := Rat.mul_pos he hi
 have h3 : L * (e * y) = e * ((L + 1) * y) - e * y := by grind
 rw [h3, hm]
 grind
theorem near_lip {R : Rat} (hR : 0 ≤ R) (p : List Rat) {e : Rat} (he : 0 < e) : Near R fun x y => ab (ev p x - ev p y) < e := by
 obtain ⟨L, h0, h⟩ := ev_lip hR p
 obtain ⟨d, d0, hd⟩ := half h0 he
 refine ⟨d, d0, fun x y hx hy hxy => ?_⟩
 have h1 := h x y hx hy
 have h2 : L * ab (x - y) ≤ L * d := Rat.mul_le_mul_of_nonneg_left hxy h0
 grind
def good (a : List Rat) (x y : Rat) : Prop := 0 < ev a x * ev a y
theorem good_of {a : List Rat} {x y c : Rat} (h1 : c ≤ ab (ev a x)) (h2 : ab (ev a x - ev a y) < c) : good a x y := by
 unfold good
 generalize ev a x = u at h1 h2 ⊢
 generalize ev a y = v at h2 ⊢
 unfold ab at h1 h2
 by_cases hu : 0 ≤ u
 ·rw [if_pos hu] at h1
  exact Rat.mul_pos (by split at h2 <;> grind) (by split at h2 <;> grind)
 ·rw [if_neg hu] at h1
  have : 0 < (-u) * (-v) := Rat.mul_pos (by split at h2 <;> grind) (by split at h2 <;> grind)
  grind
theorem bad_small {a : List Rat} {x y : Rat} (h : ¬ good a x y) : ab (ev a x) ≤ ab (ev a x - ev a y) ∧ ab (ev a y) ≤ ab (ev a x - ev a y) := by
 unfold good at h
 generalize ev a x = u at h ⊢
 generalize ev a y = v at h ⊢
 have key : ¬ (0 < u ∧ 0 < v) ∧ ¬ (u < 0 ∧ v < 0) := by
  refine ⟨fun ⟨h1, h2⟩ => h (Rat.mul_pos h1 h2), fun ⟨h1, h2⟩ => h ?_⟩
  have : 0 < (-u) * (-v) := Rat.mul_pos (by grind) (by grind)
  grind
 unfold ab
 constructor
 ·split <;> split <;> grind
 ·split <;> split <;> grind
end Go.Proofs.YtlhapagililgmaaGreat

