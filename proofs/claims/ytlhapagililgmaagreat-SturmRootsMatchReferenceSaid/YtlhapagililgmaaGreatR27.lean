/- Texts PM13 PM14 PM14a PM16 PM17a ST1 ST2 in one. -/
import Derived.Test.YtlhapagililgmaaGreatR26
import Derived.Test.YtlhapagililgmaaGreatR22
/- Polynomials over the rational numbers: residues. No program in sight. -/
namespace Go.Proofs.YtlhapagililgmaaGreat
set_option linter.unusedSimpArgs false
set_option linter.unusedVariables false
open Go.RowKit

end Go.Proofs.YtlhapagililgmaaGreat


/- Polynomials over the rational numbers: inverses of residues. No program in sight. -/
namespace Go.Proofs.YtlhapagililgmaaGreat
set_option linter.unusedSimpArgs false
set_option linter.unusedVariables false
open Go.RowKit

theorem len_pGcd {a b : List Rat} (ha : Can a) (hb : Can b) : (pGcd a b).length = (pG a b).length := len_pMonic (can_pG ha hb)
end Go.Proofs.YtlhapagililgmaaGreat


/- Powers. No program in sight. -/
namespace Go.Proofs.YtlhapagililgmaaGreat
set_option linter.unusedSimpArgs false
set_option linter.unusedVariables false

def pwr (a : List Rat) : Nat → List Rat
 | 0 => [1]
 | i + 1 => pMul (pwr a i) a
theorem can_pwr (a : List Rat) : ∀ i, Can (pwr a i)
 | 0 => by rw [pwr, Can_cons]; simp
 | _ + 1 => can_pMul _ _
end Go.Proofs.YtlhapagililgmaaGreat


/- Irreducible factors; Yun's algorithm. No program in sight. -/
namespace Go.Proofs.YtlhapagililgmaaGreat
set_option linter.unusedSimpArgs false
set_option linter.unusedVariables false

theorem can1 : Can ([1] : List Rat) := by rw [Can_cons]; simp
theorem ev1 (x : Rat) : ev [1] x = 1 := by show 1 + x * 0 = (1 : Rat); grind
theorem ev0 (x : Rat) : ev [] x = 0 := rfl
theorem ev_sing (c x : Rat) : ev [c] x = c := by show c + x * 0 = c; grind
def cop (a b : List Rat) : Prop := ∃ u v, (Can u ∧ Can v) ∧ ∀ x, ev u x * ev a x + ev v x * ev b x = 1
theorem cop.symm {a b : List Rat} (h : cop a b) : cop b a := by
 obtain ⟨u, v, ⟨h1, h2⟩, h⟩ := h
 exact ⟨v, u, ⟨h2, h1⟩, fun x => by have := h x; grind⟩
theorem cop_one (a : List Rat) : cop a [1] := ⟨[], [1], ⟨Can_nil, can1⟩, fun x => by rw [ev0, ev1]; grind⟩
theorem cop.mul {a b c : List Rat} (h : cop a b) (g : cop a c) : cop a (pMul b c) := by
 obtain ⟨u, v, ⟨_, _⟩, h⟩ := h
 obtain ⟨s, t, ⟨_, _⟩, g⟩ := g
 refine ⟨pAdd (pMul u (pAdd (pMul s a) (pMul t c))) (pMul (pMul v b) s), pMul v t, ⟨can_pAdd _ _, can_pMul _ _⟩, fun x => ?_⟩
 have h := h x
 have g := g x
 simp only [ev_pAdd, ev_pMul]
 grind
theorem cop.euclid {a b c : List Rat} (h : cop a b) (hd : pDvd a (pMul b c)) : pDvd a c := by
 obtain ⟨u, v, ⟨h1, h2⟩, h⟩ := h
 obtain ⟨k, ck, hk⟩ := hd
 refine ⟨pAdd (pMul u c) (pMul v k), can_pAdd _ _, fun x => ?_⟩
 have h := h x
 have hk := hk x
 rw [ev_pMul] at hk
 simp only [ev_pAdd, ev_pMul]
 grind
theorem cop.add {a b : List Rat} (h : cop a b) (k : List Rat) : cop a (pAdd b (pMul a k)) := by
 obtain ⟨u, v, ⟨h1, h2⟩, h⟩ := h
 refine ⟨pSub u (pMul v k), v, ⟨can_pSub _ _, h2⟩, fun x => ?_⟩
 have h := h x
 simp only [ev_pSub, ev_pAdd, ev_pMul]
 grind
theorem cop.sc {a b : List Rat} {c : Rat} (hc : c ≠ 0) (h : cop a b) : cop a (pSc c b) := by
 obtain ⟨u, v, ⟨h1, h2⟩, h⟩ := h
 refine ⟨u, pSc (1 / c) v, ⟨h1, can_pSc _ _⟩, fun x => ?_⟩
 have h := h x
 rw [ev_pSc, ev_pSc]
 have : 1 / c * c = 1 := by grind
 grind
theorem len_one {a : List Rat} (ha : Can a) (h : a.length = 1) : ∃ c, c ≠ 0 ∧ a = [c] := by
 match a, h with
 | [c], _ => exact ⟨c, by rw [Can_cons, if_pos rfl] at ha; exact ha, rfl⟩
theorem cop_len1 {a b : List Rat} (ha : Can a) (hb : Can b) (h : cop a b) : (pG a b).length = 1 := by
 obtain ⟨u, v, ⟨h1, h2⟩, h⟩ := h
 obtain ⟨⟨k, ck, hk⟩, ⟨j, cj, hj⟩⟩ := pG_dvd ha hb
 have d : pDvd (pG a b) [1] := ⟨pAdd (pMul u k) (pMul v j), can_pAdd _ _, fun x => by
  rw [ev1, ev_pAdd, ev_pMul, ev_pMul, ← h x, hk x, hj x]; grind⟩
 have := dvd_len can1 (can_pG ha hb) d (by simp)
 have h3 := List.length_pos_iff.2 this.2
 have h4 := this.1
 simp only [List.length_cons, List.length_nil] at h4
 omega
theorem len1_cop {a b : List Rat} (ha : Can a) (hb : Can b) (h : (pGcd a b).length = 1) : cop a b := by
 obtain ⟨e1, ⟨c1, c2⟩, e2⟩ := pExt_ok ha hb
 obtain ⟨c, c0, ec⟩ := len_one (can_pMonic _) h
 have ec : pGcd a b = [c] := ec
 refine ⟨pSc (1 / c) (pExt a b).2.1, pSc (1 / c) (pExt a b).2.2, ⟨can_pSc _ _, can_pSc _ _⟩, fun x => ?_⟩
 have := e2 x
 rw [ec, ev_sing] at this
 rw [ev_pSc, ev_pSc]
 have h3 : 1 / c * c = 1 := by grind
 grind
structure Irr (p : List Rat) : Prop where
 can : Can p
 two : 2 ≤ p.length
 mon : lead p = 1
 irr : ∀ d, Can d → pDvd d p → d.length = 1 ∨ d.length = p.length
theorem Irr.ne {p : List Rat} (h : Irr p) : p ≠ [] := fun e => by have := h.two; rw [e] at this; simp at this
theorem exists_irr : ∀ (n : Nat) (a : List Rat), a.length ≤ n → Can a → 2 ≤ a.length → ∃ p, Irr p ∧ pDvd p a
 | 0, a, h, _, h2 => by omega
 | n + 1, a, h, ha, h2 => by
   have a0 : a ≠ [] := fun e => by rw [e] at h2; simp at h2
   by_cases hd : ∃ d, Can d ∧ pDvd d a ∧ 2 ≤ d.length ∧ d.length < a.length
   ·obtain ⟨d, cd, dd, d2, dl⟩ := hd
    obtain ⟨p, hp, pd⟩ := exists_irr n d (by omega) cd d2
    exact ⟨p, hp, pDvd_trans pd dd⟩
   ·have l0 := lead_ne ha a0
    have dm : pDvd (pMonic a) a := ⟨[lead a], by rw [Can_cons, if_pos rfl]; exact l0, fun x => by rw [ev_sing, ev_pMonic a0]; grind⟩
    refine ⟨pMonic a, ⟨can_pMonic _, by rw [len_pMonic ha]; exact h2, lead_pMonic ha a0, fun d cd dd => ?_⟩, dm⟩
    have d1 : pDvd d a := pDvd_trans dd dm
    obtain ⟨l1, dne⟩ := dvd_len ha cd d1 a0
    have := List.length_pos_iff.2 dne
    rw [len_pMonic ha]
    by_cases h3 : 2 ≤ d.length ∧ d.length < a.length
    ·exact absurd ⟨d, cd, d1, h3.1, h3.2⟩ hd
    ·omega
theorem dvd_same {a b : List Rat} (ha : Can a) (hb : Can b) (b0 : b ≠ []) (h : pDvd a b) (hl : a.length = b.length) (h1 : lead a = 1) (h2 : lead b = 1) : a = b := by
 obtain ⟨k, ck, hk⟩ := h
 have k0 : k ≠ [] := fun e => b0 (ev_inj hb Can_nil fun x => by rw [hk x, e, ev0]; grind)
 have a0 : a ≠ [] := fun e => by rw [e] at hl; exact b0 (List.eq_nil_of_length_eq_zero hl.symm)
 have e1 : b = pMul k a := ev_inj hb (can_pMul _ _) fun x => by rw [hk x, ev_pMul]
 have e2 := len_pMul ck ha k0 a0
 rw [← e1] at e2
 have := List.length_pos_iff.2 k0
 have := List.length_pos_iff.2 a0
 obtain ⟨c, c0, ec⟩ := len_one ck (by omega)
 have e3 := lead_pMul ck ha k0 a0
 rw [← e1, h1, h2, ec] at e3
 have e4 : lead [c] = c := rfl
 rw [e4] at e3
 have : c = 1 := by grind
 rw [e1, ec, this]
 exact ev_inj ha (can_pMul _ _) fun x => by rw [ev_pMul, ev_sing]; grind
theorem Irr.cop {p a : List Rat} (h : Irr p) (ha : Can a) (hn : ¬ pDvd p a) : cop p a := by
 refine len1_cop h.can ha ?_
 obtain ⟨d1, d2⟩ := pG_dvd h.can ha
 unfold pGcd
 rw [len_pMonic (can_pG h.can ha)]
 rcases h.irr _ (can_pG h.can ha) d1 with e | e
 ·exact e
 ·refine absurd ?_ hn
  have cg := can_pG h.can ha
  have g0 : pG p a ≠ [] := fun e' => h.ne ((pG_eq_nil h.can ha).1 e').1
  have l0 := lead_ne cg g0
  have e1 : pMonic (pG p a) = p := dvd_same (can_pMonic _) h.can h.ne (pDvd_trans ⟨[lead (pG p a)], by rw [Can_cons, if_pos rfl]; exact l0, fun x => by rw [ev_sing, ev_pMonic g0]; grind⟩ d1) (by rw [len_pMonic cg]; exact e) (lead_pMonic cg g0) h.mon
  have d3 : pDvd p (pG p a) := ⟨[lead (pG p a)], by rw [Can_cons, if_pos rfl]; exact l0, fun x => by
   rw [ev_sing]
   have := congrArg (fun l => ev l x) e1
   simp only [ev_pMonic g0] at this
   rw [← this]; grind⟩
  exact pDvd_trans d3 d2
theorem Irr.der {p : List Rat} (h : Irr p) : Go.Proofs.YtlhapagililgmaaGreat.cop p (pDiff p) := by
 refine h.cop (can_pDiff p) fun hd => ?_
 have l := len_pDiff h.can
 have h2 := h.two
 have d0 : pDiff p ≠ [] := fun e => by rw [e] at l; simp at l; omega
 have := (dvd_len (can_pDiff p) h.can hd d0).1
 omega
theorem Irr.eq {p q : List Rat} (hp : Irr p) (hq : Irr q) (h : pDvd p q) : p = q := by
 refine dvd_same hp.can hq.can hq.ne h ?_ hp.mon hq.mon
 rcases hq.irr p hp.can h with e | e
 ·have := hp.two; omega
 ·exact e
theorem Irr.cop' {p q : List Rat} (hp : Irr p) (hq : Irr q) (h : p ≠ q) : Go.Proofs.YtlhapagililgmaaGreat.cop p q := hp.cop hq.can fun hd => h (hp.eq hq hd)
abbrev Fac := List (List Rat × Nat)
def Good : Fac → Prop
 | [] => True
 | x :: l => (Irr x.1 ∧ 1 ≤ x.2) ∧ (∀ y ∈ l, x.1 ≠ y.1) ∧ Good l
def PiL : Fac → List Rat
 | [] => [1]
 | x :: l => pMul x.1 (PiL l)
def PwL : Fac → List Rat
 | [] => [1]
 | x :: l => pMul (pwr x.1 x.2) (PwL l)
def GL : Fac → List Rat
 | [] => [1]
 | x :: l => pMul (pwr x.1 (x.2 - 1)) (GL l)
def WL (w : Nat → Rat) : Fac → List Rat
 | [] => []
 | x :: l => pAdd (pSc (w x.2) (pMul (pDiff x.1) (PiL l))) (pMul x.1 (WL w l))
theorem can_PiL : ∀ l, Can (PiL l)
 | [] => can1
 | _ :: _ => can_pMul _ _
theorem can_PwL : ∀ l, Can (PwL l)
 | [] => can1
 | _ :: _ => can_pMul _ _
theorem can_GL : ∀ l, Can (GL l)
 | [] => can1
 | _ :: _ => can_pMul _ _
theorem can_WL (w : Nat → Rat) : ∀ l, Can (WL w l)
 | [] => Can_nil
 | _ :: _ => can_pAdd _ _
theorem ev_pwr (a : List Rat) (x : Rat) : ∀ i, ev (pwr a i) x = ev a x ^ i
 | 0 => by rw [Rat.pow_zero]; exact ev1 x
 | i + 1 => by rw [pwr, ev_pMul, ev_pwr a x i, Rat.pow_succ]
theorem Good.mem : ∀ {l : Fac}, Good l → ∀ x ∈ l, Irr x.1 ∧ 1 ≤ x.2
 | [], _, x, h => by cases h
 | y :: l, ⟨h1, _, h3⟩, x, hx => by
   rcases List.mem_cons.1 hx with rfl | hx
   ·exact h1
   ·exact h3.mem x hx
theorem Good.filter {f : List Rat × Nat → Bool} : ∀ {l : Fac}, Good l → Good (l.filter f)
 | [], _ => trivial
 | y :: l, ⟨h1, h2, h3⟩ => by
   rw [List.filter_cons]
   split
   ·exact ⟨h1, fun z hz => h2 z (List.mem_filter.1 hz).1, h3.filter⟩
   ·exact h3.filter
theorem good_ins {p : List Rat} (hp : Irr p) : ∀ l : Fac, Good l → ∃ l', Good l' ∧ (∀ x, ev (PwL l') x = ev p x * ev (PwL l) x) ∧ ∀ y ∈ l', y.1 = p ∨ ∃ z ∈ l, y.1 = z.1
 | [], _ => ⟨[(p, 1)], ⟨⟨hp, Nat.le_refl _⟩, fun y h => (by cases h), trivial⟩, fun x => by
  show ev (pMul (pwr p 1) [1]) x = ev p x * ev [1] x
  rw [ev_pMul, ev_pwr, show (1 : Nat) = 0 + 1 from rfl, Rat.pow_succ, Rat.pow_zero]; grind, fun y h => .inl (by rw [List.mem_singleton.1 h])⟩
 | y :: l, ⟨⟨h1, h1'⟩, h2, h3⟩ => by
   by_cases e : p = y.1
   ·refine ⟨(y.1, y.2 + 1) :: l, ⟨⟨h1, by show 1 ≤ y.2 + 1; omega⟩, h2, h3⟩, fun x => ?_, fun z hz => ?_⟩
    ·rw [PwL, PwL, ev_pMul, ev_pMul, ev_pwr, ev_pwr, Rat.pow_succ, e]; grind
    ·rcases List.mem_cons.1 hz with rfl | hz
     ·exact .inl e.symm
     ·exact .inr ⟨z, List.mem_cons_of_mem _ hz, rfl⟩
   ·obtain ⟨l', g1, g2, g3⟩ := good_ins hp l h3
    refine ⟨y :: l', ⟨⟨h1, h1'⟩, fun z hz => ?_, g1⟩, fun x => ?_, fun z hz => ?_⟩
    ·rcases g3 z hz with e' | ⟨z', hz', e'⟩
     ·rw [e']; exact fun h => e h.symm
     ·rw [e']; exact h2 z' hz'
    ·rw [PwL, PwL, ev_pMul, ev_pMul, g2]; grind
    ·rcases List.mem_cons.1 hz with rfl | hz
     ·exact .inr ⟨_, List.mem_cons_self, rfl⟩
     ·rcases g3 z hz with e' | ⟨z', hz', e'⟩
      ·exact .inl e'
      ·exact .inr ⟨z', List.mem_cons_of_mem _ hz', e'⟩
theorem factor : ∀ (n : Nat) (a : List Rat), a.length ≤ n → Can a → a ≠ [] → ∃ (c : Rat) (l : Fac), c ≠ 0 ∧ Good l ∧ ∀ x, ev a x = c * ev (PwL l) x
 | 0, a, h, _, h0 => absurd (List.eq_nil_of_length_eq_zero (by omega)) h0
 | n + 1, a, h, ha, h0 => by
   have hl := List.length_pos_iff.2 h0
   by_cases h1 : a.length = 1
   ·obtain ⟨c, c0, ec⟩ := len_one ha h1
    exact ⟨c, [], c0, trivial, fun x => by rw [ec, ev_sing, PwL, ev1]; grind⟩
   ·obtain ⟨p, hp, k, ck, hk⟩ := exists_irr (n + 1) a h ha (by omega)
    have k0 : k ≠ [] := fun e => h0 (ev_inj ha Can_nil fun x => by rw [hk x, e, ev0]; grind)
    have e1 : a = pMul k p := ev_inj ha (can_pMul _ _) fun x => by rw [hk x, ev_pMul]
    have e2 := len_pMul ck hp.can k0 hp.ne
    rw [← e1] at e2
    have := hp.two
    obtain ⟨c, l, c0, g, hc⟩ := factor n k (by omega) ck k0
    obtain ⟨l', g1, g2, _⟩ := good_ins hp l g
    exact ⟨c, l', c0, g1, fun x => by rw [hk x, hc x, g2 x]; grind⟩
theorem GL_Pi : ∀ {l : Fac}, Good l → ∀ x, ev (PwL l) x = ev (GL l) x * ev (PiL l) x
 | [], _, x => by rw [PwL, GL, PiL, ev1]; grind
 | y :: l, ⟨⟨_, h1⟩, _, h3⟩, x => by
   rw [PwL, GL, PiL, ev_pMul, ev_pMul, ev_pMul, GL_Pi h3 x, ev_pwr, ev_pwr]
   obtain ⟨k, hk⟩ : ∃ k, y.2 = k + 1 := ⟨y.2 - 1, by omega⟩
   rw [hk, Nat.add_sub_cancel, Rat.pow_succ]; grind
theorem ev_diff_pwr (p : List Rat) (x : Rat) : ∀ e, ev (pDiff (pwr p (e + 1))) x = ((e + 1 : Nat) : Rat) * ev p x ^ e * ev (pDiff p) x
 | 0 => by
   rw [pwr, ev_pDiff_mul, Rat.pow_zero]
   have : pDiff (pwr p 0) = [] := rfl
   rw [this, ev0, show pwr p 0 = [1] from rfl, ev1]
   have : ((0 + 1 : Nat) : Rat) = 1 := rfl
   rw [this]; grind
 | e + 1 => by
   rw [pwr, ev_pDiff_mul, ev_diff_pwr p x e, ev_pwr, Rat.pow_succ, Rat.natCast_add (e + 1) 1]
   have : ((1 : Nat) : Rat) = 1 := rfl
   rw [this]; grind
theorem diff_PwL : ∀ {l : Fac}, Good l → ∀ x, ev (pDiff (PwL l)) x = ev (GL l) x * ev (WL (fun e => (e : Rat)) l) x
 | [], _, x => by
   have : pDiff (PwL []) = [] := rfl
   rw [this, WL, ev0]; grind
 | y :: l, ⟨⟨_, h1⟩, _, h3⟩, x => by
   obtain ⟨k, hk⟩ : ∃ k, y.2 = k + 1 := ⟨y.2 - 1, by omega⟩
   rw [PwL, ev_pDiff_mul, diff_PwL h3 x, GL_Pi h3 x, hk, ev_diff_pwr, GL, WL, hk, Nat.add_sub_cancel]
   simp only [ev_pMul, ev_pAdd, ev_pSc, ev_pwr]
   rw [Rat.pow_succ]
   grind
theorem diff_PiL : ∀ (l : Fac) (x : Rat), ev (pDiff (PiL l)) x = ev (WL (fun _ => 1) l) x
 | [], x => by
   have : pDiff (PiL []) = [] := rfl
   rw [this, WL, ev0]
 | y :: l, x => by
   rw [PiL, ev_pDiff_mul, diff_PiL l x, WL]
   simp only [ev_pMul, ev_pAdd, ev_pSc]
   grind
theorem cop_PiL {a : List Rat} : ∀ {l : Fac}, (∀ y ∈ l, cop a y.1) → cop a (PiL l)
 | [], _ => cop_one a
 | y :: l, h => (h y List.mem_cons_self).mul (cop_PiL fun z hz => h z (List.mem_cons_of_mem _ hz))
theorem WL_mod (w : Nat → Rat) : ∀ {l : Fac}, Good l → ∀ y ∈ l, w y.2 ≠ 0 → cop y.1 (WL w l)
 | [], _, y, h, _ => by cases h
 | z :: l, ⟨⟨h1, _⟩, h2, h3⟩, y, hy, hw => by
   rcases List.mem_cons.1 hy with rfl | hy
   ·rw [WL]
    refine cop.add (cop.sc hw (h1.der.mul (cop_PiL fun v hv => h1.cop' (h3.mem v hv).1 (h2 v hv)))) _
   ·have i1 := WL_mod w h3 y hy hw
    have hy1 := (h3.mem y hy).1
    have i2 : cop y.1 (pMul z.1 (WL w l)) := (hy1.cop' h1 fun e => h2 y hy e.symm).mul i1
    -- the first summand is a multiple of y
    obtain ⟨k, ck, hk⟩ : pDvd y.1 (PiL l) := by
     clear i1 i2
     induction l with
     | nil => cases hy
     | cons v l ih =>
       rcases List.mem_cons.1 hy with rfl | hy
       ·exact ⟨PiL l, can_PiL l, fun x => by rw [PiL, ev_pMul]; grind⟩
       ·obtain ⟨k, ck, hk⟩ := ih (fun u hu => h2 u (List.mem_cons_of_mem _ hu)) h3.2.2 (List.mem_cons_of_mem _ hy) hy
        exact ⟨pMul v.1 k, can_pMul _ _, fun x => by rw [PiL, ev_pMul, ev_pMul, hk x]; grind⟩
    have e : WL w (z :: l) = pAdd (pMul z.1 (WL w l)) (pMul y.1 (pSc (w z.2) (pMul (pDiff z.1) k))) := ev_inj (can_WL _ _) (can_pAdd _ _) fun x => by
     rw [WL]
     simp only [ev_pAdd, ev_pMul, ev_pSc]
     rw [hk x]; grind
    rw [e]
    exact i2.add _
theorem cop_W {w : Nat → Rat} {l : Fac} (hl : Good l) (h : ∀ y ∈ l, w y.2 ≠ 0) : cop (PiL l) (WL w l) := by
 refine cop.symm ?_
 exact cop_PiL fun y hy => (WL_mod w hl y hy (h y hy)).symm
theorem lead_PiL : ∀ {l : Fac}, Good l → lead (PiL l) = 1 ∧ PiL l ≠ [] ∧ (l ≠ [] → 2 ≤ (PiL l).length)
 | [], _ => ⟨rfl, by simp [PiL], fun h => absurd rfl h⟩
 | y :: l, ⟨⟨h1, _⟩, _, h3⟩ => by
   obtain ⟨i1, i2, i3⟩ := lead_PiL h3
   have hl := len_pMul h1.can (can_PiL l) h1.ne i2
   have h2 := h1.two
   have := List.length_pos_iff.2 i2
   refine ⟨?_, fun e => ?_, fun _ => ?_⟩
   ·rw [PiL, lead_pMul h1.can (can_PiL l) h1.ne i2, h1.mon, i1]; grind
   ·rw [PiL] at e
    rw [e] at hl; simp at hl; omega
   ·rw [PiL]; omega
theorem gcd_out {a b g u v : List Rat} (ha : Can a) (hb : Can b) (hg : Can g) (hu : Can u) (hv : Can v) (g0 : g ≠ []) (g1 : lead g = 1) (ea : ∀ x, ev a x = ev g x * ev u x) (eb : ∀ x, ev b x = ev g x * ev v x) (h : cop u v) : pGcd a b = g ∧ pDiv a g = u ∧ pDiv b g = v := by
 have e1 : a = pMul u g := ev_inj ha (can_pMul _ _) fun x => by rw [ea x, ev_pMul]; grind
 have e2 : b = pMul v g := ev_inj hb (can_pMul _ _) fun x => by rw [eb x, ev_pMul]; grind
 refine ⟨?_, ?_, ?_⟩
 ·unfold pGcd
  rw [e1, e2, pG_mul hu hv hg g0]
  obtain ⟨c, c0, ec⟩ := len_one (can_pG hu hv) (cop_len1 hu hv h)
  rw [ec]
  have : pMul [c] g = pSc c g := ev_inj (can_pMul _ _) (can_pSc _ _) fun x => by rw [ev_pMul, ev_sing, ev_pSc]
  rw [this, pMonic_pSc c0 hg]
  refine ev_inj (can_pMonic _) hg fun x => ?_
  rw [ev_pMonic g0, g1]; grind
 ·exact (dm_eq ha hg hu Can_nil (List.length_pos_iff.2 g0) fun x => by rw [ev0, ea x]; grind).1
 ·exact (dm_eq hb hg hv Can_nil (List.length_pos_iff.2 g0) fun x => by rw [ev0, eb x]; grind).1
theorem lead_pwr {p : List Rat} (hp : Irr p) : ∀ e, lead (pwr p e) = 1 ∧ pwr p e ≠ [] ∧ e + 1 ≤ (pwr p e).length
 | 0 => ⟨rfl, by simp [pwr], by simp [pwr]⟩
 | e + 1 => by
   obtain ⟨i1, i2, i3⟩ := lead_pwr hp e
   have hl := len_pMul (can_pwr p e) hp.can i2 hp.ne
   have h2 := hp.two
   refine ⟨?_, fun h => ?_, ?_⟩
   ·rw [pwr, lead_pMul (can_pwr p e) hp.can i2 hp.ne, i1, hp.mon]; grind
   ·rw [pwr] at h
    rw [h] at hl; simp at hl; omega
   ·rw [pwr]; omega
theorem lead_GL : ∀ {l : Fac}, Good l → lead (GL l) = 1 ∧ GL l ≠ []
 | [], _ => ⟨rfl, by simp [GL]⟩
 | y :: l, ⟨⟨h1, _⟩, _, h3⟩ => by
   obtain ⟨i1, i2⟩ := lead_GL h3
   obtain ⟨j1, j2, _⟩ := lead_pwr h1 (y.2 - 1)
   refine ⟨?_, fun e => ?_⟩
   ·rw [GL, lead_pMul (can_pwr _ _) (can_GL l) j2 i2, j1, i1]; grind
   ·rw [GL] at e
    rcases (pMul_eq_nil (can_pwr _ _) (can_GL l)).1 e with e | e
    ·exact j2 e
    ·exact i2 e
theorem lead_PwL : ∀ {l : Fac}, Good l → (lead (PwL l) = 1 ∧ PwL l ≠ []) ∧ ∀ y ∈ l, y.2 + 1 ≤ (PwL l).length
 | [], _ => ⟨⟨rfl, by simp [PwL]⟩, fun _ h => (by cases h)⟩
 | y :: l, ⟨⟨h1, _⟩, _, h3⟩ => by
   obtain ⟨⟨i1, i2⟩, i3⟩ := lead_PwL h3
   obtain ⟨j1, j2, j3⟩ := lead_pwr h1 y.2
   have hl := len_pMul (can_pwr y.1 y.2) (can_PwL l) j2 i2
   have := List.length_pos_iff.2 i2
   refine ⟨⟨?_, fun e => ?_⟩, fun z hz => ?_⟩
   ·rw [PwL, lead_pMul (can_pwr _ _) (can_PwL l) j2 i2, j1, i1]; grind
   ·rw [PwL] at e
    rw [e] at hl; simp at hl; omega
   ·rw [PwL]
    rcases List.mem_cons.1 hz with rfl | hz
    ·omega
    ·have := i3 z hz; omega
end Go.Proofs.YtlhapagililgmaaGreat


/- Squarefree parts. No program in sight. -/
namespace Go.Proofs.YtlhapagililgmaaGreat
set_option linter.unusedSimpArgs false
set_option linter.unusedVariables false

theorem PiL_sqf {l : Fac} (hl : Good l) : cop (PiL l) (pDiff (PiL l)) := by
 have h := cop_W (w := fun _ => 1) hl fun y _ => by decide
 obtain ⟨u, v, hc, h⟩ := h
 exact ⟨u, v, hc, fun x => by rw [diff_PiL]; exact h x⟩
theorem PiL_len {l : Fac} (hl : Good l) : (PiL l).length ≤ (PwL l).length := by
 obtain ⟨g1, g0⟩ := lead_GL hl
 obtain ⟨_, p0, _⟩ := lead_PiL hl
 have e : PwL l = pMul (GL l) (PiL l) := ev_inj (can_PwL _) (can_pMul _ _) fun x => by rw [GL_Pi hl x, ev_pMul]
 have h := len_pMul (can_GL l) (can_PiL l) g0 p0
 rw [← e] at h
 have := List.length_pos_iff.2 g0
 omega
end Go.Proofs.YtlhapagililgmaaGreat


/- Values of polynomials that are near each other. No program in sight. -/
namespace Go.Proofs.YtlhapagililgmaaGreat
set_option linter.unusedSimpArgs false
set_option linter.unusedVariables false

def ab (x : Rat) : Rat := if 0 ≤ x then x else -x
theorem ab_nn (x : Rat) : 0 ≤ ab x := by unfold ab; split <;> grind
theorem ab_le {x c : Rat} : ab x ≤ c ↔ -c ≤ x ∧ x ≤ c := by unfold ab; split <;> grind
theorem ab_neg (x : Rat) : ab (-x) = ab x := by unfold ab; split <;> split <;> grind
theorem ab_add (x y : Rat) : ab (x + y) ≤ ab x + ab y := by unfold ab; split <;> split <;> split <;> grind
theorem ab_sub (x y : Rat) : ab (x - y) ≤ ab x + ab y := by unfold ab; split <;> split <;> split <;> grind
theorem ab_comm (x y : Rat) : ab (x - y) = ab (y - x) := by unfold ab; split <;> split <;> grind
theorem ab_mul (x y : Rat) : ab (x * y) = ab x * ab y := by
 unfold ab
 by_cases hx : 0 ≤ x
 ·by_cases hy : 0 ≤ y
  ·have := Rat.mul_nonneg hx hy
   rw [if_pos hx, if_pos hy, if_pos this]
  ·have h1 : 0 ≤ -y := by grind
   have h2 := Rat.mul_nonneg hx h1
   rw [if_pos hx, if_neg hy]
   split <;> grind
 ·have h0 : 0 ≤ -x := by grind
  by_cases hy : 0 ≤ y
  ·have h2 := Rat.mul_nonneg h0 hy
   rw [if_neg hx, if_pos hy]
   split <;> grind
  ·have h1 : 0 ≤ -y := by grind
   have h2 := Rat.mul_nonneg h0 h1
   rw [if_neg hx, if_neg hy]
   split <;> grind
theorem mul_le2 {a b c d : Rat} (h1 : a ≤ c) (h2 : b ≤ d) (ha : 0 ≤ a) (hd : 0 ≤ d) : a * b ≤ c * d := by
 have k1 : a * b ≤ a * d := Rat.mul_le_mul_of_nonneg_left h2 ha
 have k2 : a * d ≤ c * d := Rat.mul_le_mul_of_nonneg_right h1 hd
 grind
theorem ev_bd {R : Rat} (hR : 0 ≤ R) : ∀ p : List Rat, ∃ B : Rat, 0 ≤ B ∧ ∀ x, ab x ≤ R → ab (ev p x) ≤ B
 | [] => ⟨0, by grind, fun x _ => by simp only [ev, ab]; grind⟩
 | c :: p => by
   obtain ⟨B, h0, h⟩ := ev_bd hR p
   refine ⟨ab c + R * B, ?_, fun x hx => ?_⟩
   ·have := ab_nn c
    have := Rat.mul_nonneg hR h0
    grind
   ·have h1 := h x hx
    show ab (c + x * ev p x) ≤ _
    have h2 := ab_add c (x * ev p x)
    rw [ab_mul] at h2
    have h3 := mul_le2 hx h1 (ab_nn x) h0
    grind
theorem ev_lip {R : Rat} (hR : 0 ≤ R) : ∀ p : List Rat, ∃ L : Rat, 0 ≤ L ∧ ∀ x y, ab x ≤ R → ab y ≤ R → ab (ev p x - ev p y) ≤ L * ab (x - y)
 | [] => ⟨0, by grind, fun x y _ _ => by simp only [ev, ab]; grind⟩
 | c :: p => by
   obtain ⟨L, h0, h⟩ := ev_lip hR p
   obtain ⟨B, b0, hb⟩ := ev_bd hR p
   refine ⟨R * L + B, ?_, fun x y hx hy => ?_⟩
   ·have := Rat.mul_nonneg hR h0
    grind
   ·have e : ev (c :: p) x - ev (c :: p) y = x * (ev p x - ev p y) + (x - y) * ev p y := by
     simp only [ev]; grind
    rw [e]
    have h1 := ab_add (x * (ev p x - ev p y)) ((x - y) * ev p y)
    rw [ab_mul, ab_mul] at h1
    have h2 := mul_le2 hx (h x y hx hy) (ab_nn x) (Rat.mul_nonneg h0 (ab_nn (x - y)))
    have h3 := mul_le2 (Std.le_refl (ab (x - y))) (hb y hy) (ab_nn (x - y)) b0
    grind
theorem ev_tay {R : Rat} (hR : 0 ≤ R) : ∀ p : List Rat, ∃ K : Rat, 0 ≤ K ∧ ∀ x y, ab x ≤ R → ab y ≤ R → ab (ev p y - ev p x - (y - x) * ev (dL p) x) ≤ K * (ab (y - x) * ab (y - x))
 | [] => ⟨0, by grind, fun x y _ _ => by simp only [ev, dL, ab]; grind⟩
 | c :: p => by
   obtain ⟨K, h0, h⟩ := ev_tay hR p
   obtain ⟨B, b0, hb⟩ := ev_bd hR (dL p)
   refine ⟨R * K + B, ?_, fun x y hx hy => ?_⟩
   ·have := Rat.mul_nonneg hR h0
    grind
   ·have e : ev (c :: p) y - ev (c :: p) x - (y - x) * ev (dL (c :: p)) x = y * (ev p y - ev p x - (y - x) * ev (dL p) x) + (y - x) * ((y - x) * ev (dL p) x) := by
     rw [ev_dL_cons]
     simp only [ev]; grind
    rw [e]
    have h1 := ab_add (y * (ev p y - ev p x - (y - x) * ev (dL p) x)) ((y - x) * ((y - x) * ev (dL p) x))
    rw [ab_mul, ab_mul, ab_mul] at h1
    have n1 := Rat.mul_nonneg (ab_nn (y - x)) (ab_nn (y - x))
    have h2 := mul_le2 hy (h x y hx hy) (ab_nn y) (Rat.mul_nonneg h0 n1)
    have h3 := mul_le2 (Std.le_refl (ab (y - x) * ab (y - x))) (hb x hx) n1 b0
    grind
def Near (R : Rat) (P : Rat → Rat → Prop) : Prop := ∃ d, 0 < d ∧ ∀ x y, ab x ≤ R → ab y ≤ R → ab (x - y) ≤ d → P x y
theorem Near.and {R : Rat} {P Q : Rat → Rat → Prop} (h : Near R P) (g : Near R Q) : Near R fun x y => P x y ∧ Q x y := by
 obtain ⟨d, d0, h⟩ := h
 obtain ⟨e, e0, g⟩ := g
 refine ⟨if d ≤ e then d else e, by split <;> assumption, fun x y hx hy hd => ⟨h x y hx hy ?_, g x y hx hy ?_⟩⟩
 ·split at hd <;> grind
 ·split at hd <;> grind
theorem Near.mono {R : Rat} {P Q : Rat → Rat → Prop} (h : Near R P) (g : ∀ x y, ab x ≤ R → ab y ≤ R → P x y → Q x y) : Near R Q := by
 obtain ⟨d, d0, h⟩ := h
 exact ⟨d, d0, fun x y hx hy hd => g x y hx hy (h x y hx hy hd)⟩
theorem Near.all {R : Rat} {P : Rat → Rat → Prop} (g : ∀ x y, ab x ≤ R → ab y ≤ R → P x y) : Near R P := ⟨1, by decide, fun x y hx hy _ => g x y hx hy⟩
theorem half {L e : Rat} (hL : 0 ≤ L) (he : 0 < e) : ∃ d, 0 < d ∧ L * d < e := by
 have hp : 0 < L + 1 := by grind
 have hi : 0 < (L + 1)⁻¹ := Rat.inv_pos.2 hp
 have hm : (L + 1) * (L + 1)⁻¹ = 1 := Rat.mul_inv_cancel _ (by grind)
 generalize (L + 1)⁻¹ = y at hi hm
 refine ⟨e * y, Rat.mul_pos he hi, ?_⟩
 have h2 : 0 < e * y := Rat.mul_pos he hi
 have h3 : L * (e * y) = e * ((L + 1) * y) - e * y := by grind
 rw [h3, hm]
 grind
theorem near_lip {R : Rat} (hR : 0 ≤ R) (p : List Rat) {e : Rat} (he : 0 < e) : Near R fun x y => ab (ev p x - ev p y) < e := by
 obtain ⟨L, h0, h⟩ := ev_lip hR p
 obtain ⟨d, d0, hd⟩ := half h0 he
 refine ⟨d, d0, fun x y hx hy hxy => ?_⟩
 have h1 := h x y hx hy
 have h2 : L * ab (x - y) ≤ L * d := Rat.mul_le_mul_of_nonneg_left hxy h0
 grind
def good (a : List Rat) (x y : Rat) : Prop := 0 < ev a x * ev a y
theorem good_of {a : List Rat} {x y c : Rat} (h1 : c ≤ ab (ev a x)) (h2 : ab (ev a x - ev a y) < c) : good a x y := by
 unfold good
 generalize ev a x = u at h1 h2 ⊢
 generalize ev a y = v at h2 ⊢
 unfold ab at h1 h2
 by_cases hu : 0 ≤ u
 ·rw [if_pos hu] at h1
  exact Rat.mul_pos (by split at h2 <;> grind) (by split at h2 <;> grind)
 ·rw [if_neg hu] at h1
  have : 0 < (-u) * (-v) := Rat.mul_pos (by split at h2 <;> grind) (by split at h2 <;> grind)
  grind
theorem bad_small {a : List Rat} {x y : Rat} (h : ¬ good a x y) : ab (ev a x) ≤ ab (ev a x - ev a y) ∧ ab (ev a y) ≤ ab (ev a x - ev a y) := by
 unfold good at h
 generalize ev a x = u at h ⊢
 generalize ev a y = v at h ⊢
 have key : ¬ (0 < u ∧ 0 < v) ∧ ¬ (u < 0 ∧ v < 0) := by
  refine ⟨fun ⟨h1, h2⟩ => h (Rat.mul_pos h1 h2), fun ⟨h1, h2⟩ => h ?_⟩
  have : 0 < (-u) * (-v) := Rat.mul_pos (by grind) (by grind)
  grind
 unfold ab
 constructor
 ·split <;> split <;> grind
 ·split <;> split <;> grind
end Go.Proofs.YtlhapagililgmaaGreat


/- Changes of sign along a chain, between numbers that are near each other. No program in sight. -/
namespace Go.Proofs.YtlhapagililgmaaGreat
set_option linter.unusedSimpArgs false
set_option linter.unusedVariables false

def vr : Rat → List Rat → Nat
 | _, [] => 0
 | u, s :: l => (if s * u < 0 then 1 else 0) + vr (if s = 0 then u else s) l
def vrL (l : List (List Rat)) (x : Rat) : Nat := vr 0 (l.map fun q => ev q x)
def copE (a b : List Rat) : Prop := ∃ u v, ∀ x, ev u x * ev a x + ev v x * ev b x = 1
def StC : List (List Rat) → Prop
 | [] => False
 | [a] => ∃ d, d ≠ 0 ∧ ∀ x, ev a x = d
 | [a, b] => copE a b ∧ ∃ d, d ≠ 0 ∧ ∀ x, ev b x = d
 | a :: b :: c :: l => copE a b ∧ copE b c ∧ (∃ k, ∀ x, ev a x + ev c x = ev k x * ev b x) ∧ StC (b :: c :: l)
def Loc (x y : Rat) : List (List Rat) → Prop
 | [] => True
 | [a] => good a x y
 | [_, b] => good b x y
 | a :: b :: c :: l => (¬ good b x y → (good a x y ∧ good c x y) ∧ ev a x * ev c x < 0 ∧ ev a y * ev c y < 0) ∧ Loc x y (b :: c :: l)
theorem cop_bd {R : Rat} (hR : 0 ≤ R) {a b : List Rat} (h : copE a b) : ∃ c, 0 < c ∧ ∀ x, ab x ≤ R → c ≤ ab (ev a x) ∨ c ≤ ab (ev b x) := by
 obtain ⟨u, v, h⟩ := h
 obtain ⟨A, a0, hA⟩ := ev_bd hR u
 obtain ⟨B, b0, hB⟩ := ev_bd hR v
 obtain ⟨c, c0, hc⟩ := half (L := A + B) (by grind) (show (0 : Rat) < 1 by decide)
 refine ⟨c, c0, fun x hx => ?_⟩
 by_cases h1 : c ≤ ab (ev a x)
 ·exact .inl h1
 ·refine .inr (Decidable.byContradiction fun h2 => ?_)
  have e := h x
  have k := ab_add (ev u x * ev a x) (ev v x * ev b x)
  rw [e, ab_mul, ab_mul] at k
  have k1 : ab (ev u x) * ab (ev a x) ≤ A * c := mul_le2 (hA x hx) (by grind) (ab_nn _) (by grind)
  have k2 : ab (ev v x) * ab (ev b x) ≤ B * c := mul_le2 (hB x hx) (by grind) (ab_nn _) (by grind)
  have k3 : ab 1 = 1 := by decide
  grind
theorem good_const {a : List Rat} {d : Rat} (h0 : d ≠ 0) (h : ∀ x, ev a x = d) (x y : Rat) : good a x y := by
 unfold good
 rw [h, h]
 rcases Rat.le_total (a := 0) (b := d) with h1 | h1
 ·exact Rat.mul_pos (by grind) (by grind)
 ·have : 0 < (-d) * (-d) := Rat.mul_pos (by grind) (by grind)
  grind
theorem opp_of {u w e c : Rat} (h1 : c ≤ ab u) (h2 : ab (u + w) < c) (h : e = e) : u * w < 0 := by
 unfold ab at h1 h2
 by_cases hu : 0 ≤ u
 ·rw [if_pos hu] at h1
  have : 0 < u * (-w) := Rat.mul_pos (by split at h2 <;> grind) (by split at h2 <;> grind)
  grind
 ·rw [if_neg hu] at h1
  have : 0 < (-u) * w := Rat.mul_pos (by split at h2 <;> grind) (by split at h2 <;> grind)
  grind
theorem near_tri {R : Rat} (hR : 0 ≤ R) {a b c : List Rat} (h1 : copE a b) (h2 : copE b c) (h3 : ∃ k, ∀ x, ev a x + ev c x = ev k x * ev b x) : Near R fun x y => ¬ good b x y → (good a x y ∧ good c x y) ∧ ev a x * ev c x < 0 ∧ ev a y * ev c y < 0 := by
 obtain ⟨c1, p1, g1⟩ := cop_bd hR h1
 obtain ⟨c2, p2, g2⟩ := cop_bd hR h2
 obtain ⟨k, hk⟩ := h3
 obtain ⟨K, k0, gk⟩ := ev_bd hR k
 obtain ⟨e, e0, he⟩ := half k0 p1
 refine (((near_lip hR a p1).and (near_lip hR c p2)).and (((near_lip hR b p1).and (near_lip hR b p2)).and (near_lip hR b e0))).mono fun x y hx hy ⟨⟨n1, n2⟩, ⟨n3, n4⟩, n5⟩ hb => ?_
 obtain ⟨s1, s2⟩ := bad_small hb
 have a1 : c1 ≤ ab (ev a x) := (g1 x hx).resolve_right (by grind)
 have a2 : c1 ≤ ab (ev a y) := (g1 y hy).resolve_right (by grind)
 have a3 : c2 ≤ ab (ev c x) := (g2 x hx).resolve_left (by grind)
 have o : ∀ z, ab z ≤ R → ab (ev b z) < e → ab (ev a z + ev c z) < c1 := fun z hz hbz => by
  rw [hk z, ab_mul]
  have := mul_le2 (gk z hz) (Std.le_of_lt hbz) (ab_nn _) (Std.le_of_lt e0)
  grind
 refine ⟨⟨good_of a1 n1, good_of a3 n2⟩, opp_of (e := 0) a1 (o x hx (by grind)) rfl, opp_of (e := 0) a2 (o y hy (by grind)) rfl⟩
theorem near_Loc {R : Rat} (hR : 0 ≤ R) : ∀ l : List (List Rat), StC l → Near R fun x y => Loc x y l
 | [], h => h.elim
 | [a], ⟨d, d0, h⟩ => Near.all fun x y _ _ => good_const d0 h x y
 | [a, b], ⟨_, d, d0, h⟩ => Near.all fun x y _ _ => good_const d0 h x y
 | a :: b :: c :: l, ⟨h1, h2, h3, h4⟩ => (near_tri hR h1 h2 h3).and (near_Loc hR (b :: c :: l) h4)
theorem sgn_cases (u : Rat) : u < 0 ∨ u = 0 ∨ 0 < u := by
 rcases Rat.le_total (a := 0) (b := u) with h | h
 ·by_cases e : u = 0
  ·exact .inr (.inl e)
  ·right; right; grind
 ·by_cases e : u = 0
  ·exact .inr (.inl e)
  ·left; grind
theorem neg_mul_iff {s v : Rat} : s * v < 0 ↔ (s < 0 ∧ 0 < v) ∨ (0 < s ∧ v < 0) := by
 constructor
 ·intro h
  rcases sgn_cases s with h1 | h1 | h1 <;> rcases sgn_cases v with h2 | h2 | h2
  ·have := Rat.mul_pos (show 0 < -s by grind) (show 0 < -v by grind); grind
  ·rw [h2] at h; grind
  ·exact .inl ⟨h1, h2⟩
  ·rw [h1] at h; grind
  ·rw [h1] at h; grind
  ·rw [h1] at h; grind
  ·exact .inr ⟨h1, h2⟩
  ·rw [h2] at h; grind
  ·have := Rat.mul_pos h1 h2; grind
 ·rintro (⟨h1, h2⟩ | ⟨h1, h2⟩)
  ·have := Rat.mul_pos (show 0 < -s by grind) h2; grind
  ·have := Rat.mul_pos h1 (show 0 < -v by grind); grind
theorem pos_mul_iff {s v : Rat} : 0 < s * v ↔ (s < 0 ∧ v < 0) ∨ (0 < s ∧ 0 < v) := by
 have := @neg_mul_iff s (-v)
 grind
theorem vr_mid {u b c : Rat} (h : u * c < 0) (l : List Rat) : vr u (b :: c :: l) = 1 + vr c l := by
 have hc : c ≠ 0 := fun e => by rw [e] at h; grind
 rcases neg_mul_iff.1 h with ⟨h1, h2⟩ | ⟨h1, h2⟩
 ·rcases sgn_cases b with hb | hb | hb
  ·rw [vr, vr, if_neg (show ¬ b * u < 0 by rw [neg_mul_iff]; grind), if_neg (show b ≠ 0 by grind), if_pos (show c * b < 0 by rw [neg_mul_iff]; grind), if_neg hc]; omega
  ·rw [vr, vr, if_neg (show ¬ b * u < 0 by rw [neg_mul_iff]; grind), if_pos hb, if_pos (show c * u < 0 by rw [neg_mul_iff]; grind), if_neg hc]; omega
  ·rw [vr, vr, if_pos (show b * u < 0 by rw [neg_mul_iff]; grind), if_neg (show b ≠ 0 by grind), if_neg (show ¬ c * b < 0 by rw [neg_mul_iff]; grind), if_neg hc]; omega
 ·rcases sgn_cases b with hb | hb | hb
  ·rw [vr, vr, if_pos (show b * u < 0 by rw [neg_mul_iff]; grind), if_neg (show b ≠ 0 by grind), if_neg (show ¬ c * b < 0 by rw [neg_mul_iff]; grind), if_neg hc]; omega
  ·rw [vr, vr, if_neg (show ¬ b * u < 0 by rw [neg_mul_iff]; grind), if_pos hb, if_pos (show c * u < 0 by rw [neg_mul_iff]; grind), if_neg hc]; omega
  ·rw [vr, vr, if_neg (show ¬ b * u < 0 by rw [neg_mul_iff]; grind), if_neg (show b ≠ 0 by grind), if_pos (show c * b < 0 by rw [neg_mul_iff]; grind), if_neg hc]; omega
theorem tail_same {x y : Rat} : ∀ (n : Nat) (a : List Rat) (l : List (List Rat)), l.length < n → Loc x y (a :: l) → good a x y → vr (ev a x) (l.map fun q => ev q x) = vr (ev a y) (l.map fun q => ev q y)
 | 0, _, _, h, _, _ => absurd h (Nat.not_lt_zero _)
 | n + 1, a, [], _, _, _ => rfl
 | n + 1, a, [b], hn, hL, ha => by
   have hb : good b x y := hL
   rcases pos_mul_iff.1 ha with ⟨h1, h2⟩ | ⟨h1, h2⟩ <;> rcases pos_mul_iff.1 hb with ⟨h3, h4⟩ | ⟨h3, h4⟩
   all_goals
    simp only [List.map_cons, List.map_nil, vr, neg_mul_iff]
    grind
 | n + 1, a, b :: c :: l, hn, hL, ha => by
   obtain ⟨h1, h2⟩ := hL
   by_cases hb : good b x y
   ·have ih := tail_same n b (c :: l) (by simp at hn ⊢; omega) h2 hb
    have b1 : ev b x ≠ 0 := fun e => by unfold good at hb; rw [e] at hb; grind
    have b2 : ev b y ≠ 0 := fun e => by unfold good at hb; rw [e] at hb; grind
    show (if ev b x * ev a x < 0 then 1 else 0) + vr (if ev b x = 0 then ev a x else ev b x) ((c :: l).map fun q => ev q x) = (if ev b y * ev a y < 0 then 1 else 0) + vr (if ev b y = 0 then ev a y else ev b y) ((c :: l).map fun q => ev q y)
    rw [if_neg b1, if_neg b2, ih]
    congr 1
    have : (ev b x * ev a x < 0) ↔ (ev b y * ev a y < 0) := by
     rw [neg_mul_iff, neg_mul_iff]
     rcases pos_mul_iff.1 ha with ⟨h3, h4⟩ | ⟨h3, h4⟩ <;> rcases pos_mul_iff.1 hb with ⟨h5, h6⟩ | ⟨h5, h6⟩ <;> grind
    simp only [this]
   ·obtain ⟨⟨g1, g2⟩, o1, o2⟩ := h1 hb
    have hc : Loc x y (c :: l) := by
     cases l with
     | nil => exact g2
     | cons d l => exact h2.2
    have ih := tail_same n c l (by simp at hn ⊢; omega) hc g2
    rw [List.map_cons, List.map_cons, List.map_cons, List.map_cons, vr_mid o1, vr_mid o2, ih]
end Go.Proofs.YtlhapagililgmaaGreat

