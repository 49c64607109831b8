/- Texts PM16 PM17a PM17 in one. -/
import Derived.Test.YtfbogelmgdojgaaGreatR31
import Derived.Test.YtfbogelmgdojgaaGreatR32
/- Irreducible factors; Yun's algorithm. No program in sight. -/
namespace Go.Proofs.YtfbogelmgdojgaaGreat
set_option linter.unusedSimpArgs false
set_option linter.unusedVariables false

theorem can1 : Can ([1] : List Rat) := by rw [Can_cons]; simp
theorem ev1 (x : Rat) : ev [1] x = 1 := by show 1 + x * 0 = (1 : Rat); grind
theorem ev0 (x : Rat) : ev [] x = 0 := rfl
theorem ev_sing (c x : Rat) : ev [c] x = c := by show c + x * 0 = c; grind
def cop (a b : List Rat) : Prop := ∃ u v, (Can u ∧ Can v) ∧ ∀ x, ev u x * ev a x + ev v x * ev b x = 1
theorem cop.symm {a b : List Rat} (h : cop a b) : cop b a := by
 obtain ⟨u, v, ⟨h1, h2⟩, h⟩ := h
 exact ⟨v, u, ⟨h2, h1⟩, fun x => by have := h x; grind⟩
theorem cop_one (a : List Rat) : cop a [1] := ⟨[], [1], ⟨Can_nil, can1⟩, fun x => by rw [ev0, ev1]; grind⟩
theorem cop.mul {a b c : List Rat} (h : cop a b) (g : cop a c) : cop a (pMul b c) := by
 obtain ⟨u, v, ⟨_, _⟩, h⟩ := h
 obtain ⟨s, t, ⟨_, _⟩, g⟩ := g
 refine ⟨pAdd (pMul u (pAdd (pMul s a) (pMul t c))) (pMul (pMul v b) s), pMul v t, ⟨can_pAdd _ _, can_pMul _ _⟩, fun x => ?_⟩
 have h := h x
 have g := g x
 simp only [ev_pAdd, ev_pMul]
 grind
theorem cop.dvd {a b d : List Rat} (h : cop a b) (hd : pDvd d b) : cop a d := by
 obtain ⟨u, v, ⟨h1, h2⟩, h⟩ := h
 obtain ⟨k, ck, hk⟩ := hd
 refine ⟨u, pMul v k, ⟨h1, can_pMul _ _⟩, fun x => ?_⟩
 have h := h x
 rw [hk x] at h
 rw [ev_pMul]; grind
theorem cop.euclid {a b c : List Rat} (h : cop a b) (hd : pDvd a (pMul b c)) : pDvd a c := by
 obtain ⟨u, v, ⟨h1, h2⟩, h⟩ := h
 obtain ⟨k, ck, hk⟩ := hd
 refine ⟨pAdd (pMul u c) (pMul v k), can_pAdd _ _, fun x => ?_⟩
 have h := h x
 have hk := hk x
 rw [ev_pMul] at hk
 simp only [ev_pAdd, ev_pMul]
 grind
theorem cop.add {a b : List Rat} (h : cop a b) (k : List Rat) : cop a (pAdd b (pMul a k)) := by
 obtain ⟨u, v, ⟨h1, h2⟩, h⟩ := h
 refine ⟨pSub u (pMul v k), v, ⟨can_pSub _ _, h2⟩, fun x => ?_⟩
 have h := h x
 simp only [ev_pSub, ev_pAdd, ev_pMul]
 grind
theorem cop.sc {a b : List Rat} {c : Rat} (hc : c ≠ 0) (h : cop a b) : cop a (pSc c b) := by
 obtain ⟨u, v, ⟨h1, h2⟩, h⟩ := h
 refine ⟨u, pSc (1 / c) v, ⟨h1, can_pSc _ _⟩, fun x => ?_⟩
 have h := h x
 rw [ev_pSc, ev_pSc]
 have : 1 / c * c = 1 := by grind
 grind
theorem len_one {a : List Rat} (ha : Can a) (h : a.length = 1) : ∃ c, c ≠ 0 ∧ a = [c] := by
 match a, h with
 | [c], _ => exact ⟨c, by rw [Can_cons, if_pos rfl] at ha; exact ha, rfl⟩
theorem cop_len1 {a b : List Rat} (ha : Can a) (hb : Can b) (h : cop a b) : (pG a b).length = 1 := by
 obtain ⟨u, v, ⟨h1, h2⟩, h⟩ := h
 obtain ⟨⟨k, ck, hk⟩, ⟨j, cj, hj⟩⟩ := pG_dvd ha hb
 have d : pDvd (pG a b) [1] := ⟨pAdd (pMul u k) (pMul v j), can_pAdd _ _, fun x => by
  rw [ev1, ev_pAdd, ev_pMul, ev_pMul, ← h x, hk x, hj x]; grind⟩
 have := dvd_len can1 (can_pG ha hb) d (by simp)
 have h3 := List.length_pos_iff.2 this.2
 have h4 := this.1
 simp only [List.length_cons, List.length_nil] at h4
 omega
theorem len1_cop {a b : List Rat} (ha : Can a) (hb : Can b) (h : (pGcd a b).length = 1) : cop a b := by
 obtain ⟨e1, ⟨c1, c2⟩, e2⟩ := pExt_ok ha hb
 obtain ⟨c, c0, ec⟩ := len_one (can_pMonic _) h
 have ec : pGcd a b = [c] := ec
 refine ⟨pSc (1 / c) (pExt a b).2.1, pSc (1 / c) (pExt a b).2.2, ⟨can_pSc _ _, can_pSc _ _⟩, fun x => ?_⟩
 have := e2 x
 rw [ec, ev_sing] at this
 rw [ev_pSc, ev_pSc]
 have h3 : 1 / c * c = 1 := by grind
 grind
theorem cop_gcd1 {a b : List Rat} (ha : Can a) (hb : Can b) (h : cop a b) : pGcd a b = [1] := by
 have h1 := cop_len1 ha hb h
 obtain ⟨c, c0, ec⟩ := len_one (can_pG ha hb) h1
 unfold pGcd
 rw [ec]
 refine ev_inj (can_pMonic _) can1 fun x => ?_
 rw [ev_pMonic (by simp), ev_sing, ev1]
 show 1 / cf [c] 0 * c = 1
 rw [cf_zero]; grind
structure Irr (p : List Rat) : Prop where
 can : Can p
 two : 2 ≤ p.length
 mon : lead p = 1
 irr : ∀ d, Can d → pDvd d p → d.length = 1 ∨ d.length = p.length
theorem Irr.ne {p : List Rat} (h : Irr p) : p ≠ [] := fun e => by have := h.two; rw [e] at this; simp at this
theorem exists_irr : ∀ (n : Nat) (a : List Rat), a.length ≤ n → Can a → 2 ≤ a.length → ∃ p, Irr p ∧ pDvd p a
 | 0, a, h, _, h2 => by omega
 | n + 1, a, h, ha, h2 => by
   have a0 : a ≠ [] := fun e => by rw [e] at h2; simp at h2
   by_cases hd : ∃ d, Can d ∧ pDvd d a ∧ 2 ≤ d.length ∧ d.length < a.length
   ·obtain ⟨d, cd, dd, d2, dl⟩ := hd
    obtain ⟨p, hp, pd⟩ := exists_irr n d (by omega) cd d2
    exact ⟨p, hp, pDvd_trans pd dd⟩
   ·have l0 := lead_ne ha a0
    have dm : pDvd (pMonic a) a := ⟨[lead a], by rw [Can_cons, if_pos rfl]; exact l0, fun x => by rw [ev_sing, ev_pMonic a0]; grind⟩
    refine ⟨pMonic a, ⟨can_pMonic _, by rw [len_pMonic ha]; exact h2, lead_pMonic ha a0, fun d cd dd => ?_⟩, dm⟩
    have d1 : pDvd d a := pDvd_trans dd dm
    obtain ⟨l1, dne⟩ := dvd_len ha cd d1 a0
    have := List.length_pos_iff.2 dne
    rw [len_pMonic ha]
    by_cases h3 : 2 ≤ d.length ∧ d.length < a.length
    ·exact absurd ⟨d, cd, d1, h3.1, h3.2⟩ hd
    ·omega
theorem dvd_same {a b : List Rat} (ha : Can a) (hb : Can b) (b0 : b ≠ []) (h : pDvd a b) (hl : a.length = b.length) (h1 : lead a = 1) (h2 : lead b = 1) : a = b := by
 obtain ⟨k, ck, hk⟩ := h
 have k0 : k ≠ [] := fun e => b0 (ev_inj hb Can_nil fun x => by rw [hk x, e, ev0]; grind)
 have a0 : a ≠ [] := fun e => by rw [e] at hl; exact b0 (List.eq_nil_of_length_eq_zero hl.symm)
 have e1 : b = pMul k a := ev_inj hb (can_pMul _ _) fun x => by rw [hk x, ev_pMul]
 have e2 := len_pMul ck ha k0 a0
 rw [← e1] at e2
 have := List.length_pos_iff.2 k0
 have := List.length_pos_iff.2 a0
 obtain ⟨c, c0, ec⟩ := len_one ck (by omega)
 have e3 := lead_pMul ck ha k0 a0
 rw [← e1, h1, h2, ec] at e3
 have e4 : lead [c] = c := rfl
 rw [e4] at e3
 have : c = 1 := by grind
 rw [e1, ec, this]
 exact ev_inj ha (can_pMul _ _) fun x => by rw [ev_pMul, ev_sing]; grind
theorem Irr.cop {p a : List Rat} (h : Irr p) (ha : Can a) (hn : ¬ pDvd p a) : cop p a := by
 refine len1_cop h.can ha ?_
 obtain ⟨d1, d2⟩ := pG_dvd h.can ha
 unfold pGcd
 rw [len_pMonic (can_pG h.can ha)]
 rcases h.irr _ (can_pG h.can ha) d1 with e | e
 ·exact e
 ·refine absurd ?_ hn
  have cg := can_pG h.can ha
  have g0 : pG p a ≠ [] := fun e' => h.ne ((pG_eq_nil h.can ha).1 e').1
  have l0 := lead_ne cg g0
  have e1 : pMonic (pG p a) = p := dvd_same (can_pMonic _) h.can h.ne (pDvd_trans ⟨[lead (pG p a)], by rw [Can_cons, if_pos rfl]; exact l0, fun x => by rw [ev_sing, ev_pMonic g0]; grind⟩ d1) (by rw [len_pMonic cg]; exact e) (lead_pMonic cg g0) h.mon
  have d3 : pDvd p (pG p a) := ⟨[lead (pG p a)], by rw [Can_cons, if_pos rfl]; exact l0, fun x => by
   rw [ev_sing]
   have := congrArg (fun l => ev l x) e1
   simp only [ev_pMonic g0] at this
   rw [← this]; grind⟩
  exact pDvd_trans d3 d2
theorem Irr.prime {p a b : List Rat} (h : Irr p) (ha : Can a) (hd : pDvd p (pMul a b)) : pDvd p a ∨ pDvd p b := by
 by_cases h1 : pDvd p a
 ·exact .inl h1
 ·exact .inr ((h.cop ha h1).euclid hd)
theorem Irr.der {p : List Rat} (h : Irr p) : Go.Proofs.YtfbogelmgdojgaaGreat.cop p (pDiff p) := by
 refine h.cop (can_pDiff p) fun hd => ?_
 have l := len_pDiff h.can
 have h2 := h.two
 have d0 : pDiff p ≠ [] := fun e => by rw [e] at l; simp at l; omega
 have := (dvd_len (can_pDiff p) h.can hd d0).1
 omega
theorem Irr.eq {p q : List Rat} (hp : Irr p) (hq : Irr q) (h : pDvd p q) : p = q := by
 refine dvd_same hp.can hq.can hq.ne h ?_ hp.mon hq.mon
 rcases hq.irr p hp.can h with e | e
 ·have := hp.two; omega
 ·exact e
theorem Irr.cop' {p q : List Rat} (hp : Irr p) (hq : Irr q) (h : p ≠ q) : Go.Proofs.YtfbogelmgdojgaaGreat.cop p q := hp.cop hq.can fun hd => h (hp.eq hq hd)
abbrev Fac := List (List Rat × Nat)
def Good : Fac → Prop
 | [] => True
 | x :: l => (Irr x.1 ∧ 1 ≤ x.2) ∧ (∀ y ∈ l, x.1 ≠ y.1) ∧ Good l
def PiL : Fac → List Rat
 | [] => [1]
 | x :: l => pMul x.1 (PiL l)
def PwL : Fac → List Rat
 | [] => [1]
 | x :: l => pMul (pwr x.1 x.2) (PwL l)
def GL : Fac → List Rat
 | [] => [1]
 | x :: l => pMul (pwr x.1 (x.2 - 1)) (GL l)
def WL (w : Nat → Rat) : Fac → List Rat
 | [] => []
 | x :: l => pAdd (pSc (w x.2) (pMul (pDiff x.1) (PiL l))) (pMul x.1 (WL w l))
theorem can_PiL : ∀ l, Can (PiL l)
 | [] => can1
 | _ :: _ => can_pMul _ _
theorem can_PwL : ∀ l, Can (PwL l)
 | [] => can1
 | _ :: _ => can_pMul _ _
theorem can_GL : ∀ l, Can (GL l)
 | [] => can1
 | _ :: _ => can_pMul _ _
theorem can_WL (w : Nat → Rat) : ∀ l, Can (WL w l)
 | [] => Can_nil
 | _ :: _ => can_pAdd _ _
theorem ev_pwr (a : List Rat) (x : Rat) : ∀ i, ev (pwr a i) x = ev a x ^ i
 | 0 => by rw [Rat.pow_zero]; exact ev1 x
 | i + 1 => by rw [pwr, ev_pMul, ev_pwr a x i, Rat.pow_succ]
theorem Good.mem : ∀ {l : Fac}, Good l → ∀ x ∈ l, Irr x.1 ∧ 1 ≤ x.2
 | [], _, x, h => by cases h
 | y :: l, ⟨h1, _, h3⟩, x, hx => by
   rcases List.mem_cons.1 hx with rfl | hx
   ·exact h1
   ·exact h3.mem x hx
theorem Good.filter {f : List Rat × Nat → Bool} : ∀ {l : Fac}, Good l → Good (l.filter f)
 | [], _ => trivial
 | y :: l, ⟨h1, h2, h3⟩ => by
   rw [List.filter_cons]
   split
   ·exact ⟨h1, fun z hz => h2 z (List.mem_filter.1 hz).1, h3.filter⟩
   ·exact h3.filter
theorem good_ins {p : List Rat} (hp : Irr p) : ∀ l : Fac, Good l → ∃ l', Good l' ∧ (∀ x, ev (PwL l') x = ev p x * ev (PwL l) x) ∧ ∀ y ∈ l', y.1 = p ∨ ∃ z ∈ l, y.1 = z.1
 | [], _ => ⟨[(p, 1)], ⟨⟨hp, Nat.le_refl _⟩, fun y h => (by cases h), trivial⟩, fun x => by
  show ev (pMul (pwr p 1) [1]) x = ev p x * ev [1] x
  rw [ev_pMul, ev_pwr, show (1 : Nat) = 0 + 1 from rfl, Rat.pow_succ, Rat.pow_zero]; grind, fun y h => .inl (by rw [List.mem_singleton.1 h])⟩
 | y :: l, ⟨⟨h1, h1'⟩, h2, h3⟩ => by
   by_cases e : p = y.1
   ·refine ⟨(y.1, y.2 + 1) :: l, ⟨⟨h1, by show 1 ≤ y.2 + 1; omega⟩, h2, h3⟩, fun x => ?_, fun z hz => ?_⟩
    ·rw [PwL, PwL, ev_pMul, ev_pMul, ev_pwr, ev_pwr, Rat.pow_succ, e]; grind
    ·rcases List.mem_cons.1 hz with rfl | hz
     ·exact .inl e.symm
     ·exact .inr ⟨z, List.mem_cons_of_mem _ hz, rfl⟩
   ·obtain ⟨l', g1, g2, g3⟩ := good_ins hp l h3
    refine ⟨y :: l', ⟨⟨h1, h1'⟩, fun z hz => ?_, g1⟩, fun x => ?_, fun z hz => ?_⟩
    ·rcases g3 z hz with e' | ⟨z', hz', e'⟩
     ·rw [e']; exact fun h => e h.symm
     ·rw [e']; exact h2 z' hz'
    ·rw [PwL, PwL, ev_pMul, ev_pMul, g2]; grind
    ·rcases List.mem_cons.1 hz with rfl | hz
     ·exact .inr ⟨_, List.mem_cons_self, rfl⟩
     ·rcases g3 z hz with e' | ⟨z', hz', e'⟩
      ·exact .inl e'
      ·exact .inr ⟨z', List.mem_cons_of_mem _ hz', e'⟩
theorem factor : ∀ (n : Nat) (a : List Rat), a.length ≤ n → Can a → a ≠ [] → ∃ (c : Rat) (l : Fac), c ≠ 0 ∧ Good l ∧ ∀ x, ev a x = c * ev (PwL l) x
 | 0, a, h, _, h0 => absurd (List.eq_nil_of_length_eq_zero (by omega)) h0
 | n + 1, a, h, ha, h0 => by
   have hl := List.length_pos_iff.2 h0
   by_cases h1 : a.length = 1
   ·obtain ⟨c, c0, ec⟩ := len_one ha h1
    exact ⟨c, [], c0, trivial, fun x => by rw [ec, ev_sing, PwL, ev1]; grind⟩
   ·obtain ⟨p, hp, k, ck, hk⟩ := exists_irr (n + 1) a h ha (by omega)
    have k0 : k ≠ [] := fun e => h0 (ev_inj ha Can_nil fun x => by rw [hk x, e, ev0]; grind)
    have e1 : a = pMul k p := ev_inj ha (can_pMul _ _) fun x => by rw [hk x, ev_pMul]
    have e2 := len_pMul ck hp.can k0 hp.ne
    rw [← e1] at e2
    have := hp.two
    obtain ⟨c, l, c0, g, hc⟩ := factor n k (by omega) ck k0
    obtain ⟨l', g1, g2, _⟩ := good_ins hp l g
    exact ⟨c, l', c0, g1, fun x => by rw [hk x, hc x, g2 x]; grind⟩
theorem GL_Pi : ∀ {l : Fac}, Good l → ∀ x, ev (PwL l) x = ev (GL l) x * ev (PiL l) x
 | [], _, x => by rw [PwL, GL, PiL, ev1]; grind
 | y :: l, ⟨⟨_, h1⟩, _, h3⟩, x => by
   rw [PwL, GL, PiL, ev_pMul, ev_pMul, ev_pMul, GL_Pi h3 x, ev_pwr, ev_pwr]
   obtain ⟨k, hk⟩ : ∃ k, y.2 = k + 1 := ⟨y.2 - 1, by omega⟩
   rw [hk, Nat.add_sub_cancel, Rat.pow_succ]; grind
theorem ev_diff_pwr (p : List Rat) (x : Rat) : ∀ e, ev (pDiff (pwr p (e + 1))) x = ((e + 1 : Nat) : Rat) * ev p x ^ e * ev (pDiff p) x
 | 0 => by
   rw [pwr, ev_pDiff_mul, Rat.pow_zero]
   have : pDiff (pwr p 0) = [] := rfl
   rw [this, ev0, show pwr p 0 = [1] from rfl, ev1]
   have : ((0 + 1 : Nat) : Rat) = 1 := rfl
   rw [this]; grind
 | e + 1 => by
   rw [pwr, ev_pDiff_mul, ev_diff_pwr p x e, ev_pwr, Rat.pow_succ, Rat.natCast_add (e + 1) 1]
   have : ((1 : Nat) : Rat) = 1 := rfl
   rw [this]; grind
theorem diff_PwL : ∀ {l : Fac}, Good l → ∀ x, ev (pDiff (PwL l)) x = ev (GL l) x * ev (WL (fun e => (e : Rat)) l) x
 | [], _, x => by
   have : pDiff (PwL []) = [] := rfl
   rw [this, WL, ev0]; grind
 | y :: l, ⟨⟨_, h1⟩, _, h3⟩, x => by
   obtain ⟨k, hk⟩ : ∃ k, y.2 = k + 1 := ⟨y.2 - 1, by omega⟩
   rw [PwL, ev_pDiff_mul, diff_PwL h3 x, GL_Pi h3 x, hk, ev_diff_pwr, GL, WL, hk, Nat.add_sub_cancel]
   simp only [ev_pMul, ev_pAdd, ev_pSc, ev_pwr]
   rw [Rat.pow_succ]
   grind
theorem diff_PiL : ∀ (l : Fac) (x : Rat), ev (pDiff (PiL l)) x = ev (WL (fun _ => 1) l) x
 | [], x => by
   have : pDiff (PiL []) = [] := rfl
   rw [this, WL, ev0]
 | y :: l, x => by
   rw [PiL, ev_pDiff_mul, diff_PiL l x, WL]
   simp only [ev_pMul, ev_pAdd, ev_pSc]
   grind
theorem cop_PiL {a : List Rat} : ∀ {l : Fac}, (∀ y ∈ l, cop a y.1) → cop a (PiL l)
 | [], _ => cop_one a
 | y :: l, h => (h y List.mem_cons_self).mul (cop_PiL fun z hz => h z (List.mem_cons_of_mem _ hz))
theorem WL_mod (w : Nat → Rat) : ∀ {l : Fac}, Good l → ∀ y ∈ l, w y.2 ≠ 0 → cop y.1 (WL w l)
 | [], _, y, h, _ => by cases h
 | z :: l, ⟨⟨h1, _⟩, h2, h3⟩, y, hy, hw => by
   rcases List.mem_cons.1 hy with rfl | hy
   ·rw [WL]
    refine cop.add (cop.sc hw (h1.der.mul (cop_PiL fun v hv => h1.cop' (h3.mem v hv).1 (h2 v hv)))) _
   ·have i1 := WL_mod w h3 y hy hw
    have hy1 := (h3.mem y hy).1
    have i2 : cop y.1 (pMul z.1 (WL w l)) := (hy1.cop' h1 fun e => h2 y hy e.symm).mul i1
    -- the first summand is a multiple of y
    obtain ⟨k, ck, hk⟩ : pDvd y.1 (PiL l) := by
     clear i1 i2
     induction l with
     | nil => cases hy
     | cons v l ih =>
       rcases List.mem_cons.1 hy with rfl | hy
       ·exact ⟨PiL l, can_PiL l, fun x => by rw [PiL, ev_pMul]; grind⟩
       ·obtain ⟨k, ck, hk⟩ := ih (fun u hu => h2 u (List.mem_cons_of_mem _ hu)) h3.2.2 (List.mem_cons_of_mem _ hy) hy
        exact ⟨pMul v.1 k, can_pMul _ _, fun x => by rw [PiL, ev_pMul, ev_pMul, hk x]; grind⟩
    have e : WL w (z :: l) = pAdd (pMul z.1 (WL w l)) (pMul y.1 (pSc (w z.2) (pMul (pDiff z.1) k))) := ev_inj (can_WL _ _) (can_pAdd _ _) fun x => by
     rw [WL]
     simp only [ev_pAdd, ev_pMul, ev_pSc]
     rw [hk x]; grind
    rw [e]
    exact i2.add _
theorem filt_Pi (f : List Rat × Nat → Bool) : ∀ (l : Fac) (x : Rat), ev (PiL l) x = ev (PiL (l.filter f)) x * ev (PiL (l.filter fun y => !f y)) x
 | [], x => by
   show ev (PiL []) x = ev (PiL []) x * ev (PiL []) x
   rw [PiL, ev1]; grind
 | y :: l, x => by
   rw [List.filter_cons, List.filter_cons, PiL, ev_pMul, filt_Pi f l x]
   rcases hf : f y with _ | _
   ·simp only [Bool.not_false, if_true, Bool.false_eq_true, if_false]
    rw [PiL, ev_pMul]; grind
   ·simp only [Bool.not_true, if_true, Bool.false_eq_true, if_false]
    rw [PiL, ev_pMul]; grind
theorem filt_W {w : Nat → Rat} {f : List Rat × Nat → Bool} (hf0 : ∀ y, f y = true → w y.2 = 0) : ∀ (l : Fac) (x : Rat), ev (WL w l) x = ev (PiL (l.filter f)) x * ev (WL w (l.filter fun y => !f y)) x
 | [], x => by
   show ev (WL w []) x = ev (PiL []) x * ev (WL w []) x
   rw [WL, ev0]; grind
 | y :: l, x => by
   rw [List.filter_cons, List.filter_cons, WL]
   simp only [ev_pAdd, ev_pMul, ev_pSc]
   rw [filt_W hf0 l x, filt_Pi f l x]
   rcases hf : f y with _ | _
   ·simp only [Bool.not_false, if_true, Bool.false_eq_true, if_false]
    rw [WL]
    simp only [ev_pAdd, ev_pMul, ev_pSc]
    grind
   ·simp only [Bool.not_true, if_true, Bool.false_eq_true, if_false]
    rw [hf0 y hf, PiL, ev_pMul]; grind
theorem cop_W {w : Nat → Rat} {l : Fac} (hl : Good l) (h : ∀ y ∈ l, w y.2 ≠ 0) : cop (PiL l) (WL w l) := by
 refine cop.symm ?_
 exact cop_PiL fun y hy => (WL_mod w hl y hy (h y hy)).symm
theorem lead_PiL : ∀ {l : Fac}, Good l → lead (PiL l) = 1 ∧ PiL l ≠ [] ∧ (l ≠ [] → 2 ≤ (PiL l).length)
 | [], _ => ⟨rfl, by simp [PiL], fun h => absurd rfl h⟩
 | y :: l, ⟨⟨h1, _⟩, _, h3⟩ => by
   obtain ⟨i1, i2, i3⟩ := lead_PiL h3
   have hl := len_pMul h1.can (can_PiL l) h1.ne i2
   have h2 := h1.two
   have := List.length_pos_iff.2 i2
   refine ⟨?_, fun e => ?_, fun _ => ?_⟩
   ·rw [PiL, lead_pMul h1.can (can_PiL l) h1.ne i2, h1.mon, i1]; grind
   ·rw [PiL] at e
    rw [e] at hl; simp at hl; omega
   ·rw [PiL]; omega
theorem gcd_out {a b g u v : List Rat} (ha : Can a) (hb : Can b) (hg : Can g) (hu : Can u) (hv : Can v) (g0 : g ≠ []) (g1 : lead g = 1) (ea : ∀ x, ev a x = ev g x * ev u x) (eb : ∀ x, ev b x = ev g x * ev v x) (h : cop u v) : pGcd a b = g ∧ pDiv a g = u ∧ pDiv b g = v := by
 have e1 : a = pMul u g := ev_inj ha (can_pMul _ _) fun x => by rw [ea x, ev_pMul]; grind
 have e2 : b = pMul v g := ev_inj hb (can_pMul _ _) fun x => by rw [eb x, ev_pMul]; grind
 refine ⟨?_, ?_, ?_⟩
 ·unfold pGcd
  rw [e1, e2, pG_mul hu hv hg g0]
  obtain ⟨c, c0, ec⟩ := len_one (can_pG hu hv) (cop_len1 hu hv h)
  rw [ec]
  have : pMul [c] g = pSc c g := ev_inj (can_pMul _ _) (can_pSc _ _) fun x => by rw [ev_pMul, ev_sing, ev_pSc]
  rw [this, pMonic_pSc c0 hg]
  refine ev_inj (can_pMonic _) hg fun x => ?_
  rw [ev_pMonic g0, g1]; grind
 ·exact (dm_eq ha hg hu Can_nil (List.length_pos_iff.2 g0) fun x => by rw [ev0, ea x]; grind).1
 ·exact (dm_eq hb hg hv Can_nil (List.length_pos_iff.2 g0) fun x => by rw [ev0, eb x]; grind).1
def partsL (l : Fac) : Nat → Nat → Fac
 | 0, _ => []
 | k + 1, n => if l.filter (fun y => y.2 == n) = [] then partsL l k (n + 1) else (PiL (l.filter fun y => y.2 == n), n) :: partsL l k (n + 1)
theorem len_sc1 {c : Rat} (hc : c ≠ 0) (l : Fac) (hl : Good l) : (pSc c (PiL l)).length ≤ 1 ↔ l = [] := by
 rw [len_pSc' hc (can_PiL l)]
 constructor
 ·intro h
  by_cases e : l = []
  ·exact e
  ·have := (lead_PiL hl).2.2 e; omega
 ·intro e; rw [e]; simp [PiL]
theorem WL_sub {w w' v : Nat → Rat} (h : ∀ e, v e = w e - w' e) : ∀ (l : Fac) (x : Rat), ev (WL v l) x = ev (WL w l) x - ev (WL w' l) x
 | [], x => by rw [WL, WL, WL, ev0]; grind
 | y :: l, x => by
   rw [WL, WL, WL]
   simp only [ev_pAdd, ev_pMul, ev_pSc]
   rw [WL_sub h l x, h]; grind
theorem partsL_nil {l : Fac} : ∀ (k n : Nat), (∀ y ∈ l, y.2 < n) → partsL l k n = []
 | 0, _, _ => rfl
 | k + 1, n, h => by
   rw [partsL, if_pos (List.filter_eq_nil_iff.2 fun y hy => by have := h y hy; simp; omega), partsL_nil k (n + 1) fun y hy => by have := h y hy; omega]
theorem filt_and {l : Fac} {f g h : List Rat × Nat → Bool} (e : ∀ y, (f y && g y) = h y) : (l.filter g).filter f = l.filter h := by
 rw [List.filter_filter]
 exact congrArg (fun k => l.filter k) (funext e)
def yB (l : Fac) (c : Rat) (n : Nat) : List Rat := pSc c (PiL (l.filter fun y => decide (n ≤ y.2)))
def yC (l : Fac) (c : Rat) (n : Nat) : List Rat := pSc c (WL (fun e => (e : Rat) - (n : Rat) + 1) (l.filter fun y => decide (n ≤ y.2)))
theorem yun_step {l : Fac} (hl : Good l) {c : Rat} (hc : c ≠ 0) (n : Nat) : (pGcd (yB l c n) (pSub (yC l c n) (pDiff (yB l c n))) = PiL (l.filter fun y => y.2 == n) ∧
 pDiv (yB l c n) (PiL (l.filter fun y => y.2 == n)) = yB l c (n + 1) ∧ pDiv (pSub (yC l c n) (pDiff (yB l c n))) (PiL (l.filter fun y => y.2 == n)) = yC l c (n + 1)) ∧
 pSub (yC l c n) (pDiff (yB l c n)) = pSc c (WL (fun e => (e : Rat) - (n : Rat)) (l.filter fun y => decide (n ≤ y.2))) := by
 unfold yB yC
 have e1 : (l.filter fun y => decide (n ≤ y.2)).filter (fun y => y.2 == n) = l.filter fun y => y.2 == n := filt_and fun y => by
  by_cases e : y.2 = n
  ·simp [e]
  ·simp [e]
 have e2 : (l.filter fun y => decide (n ≤ y.2)).filter (fun y => !(y.2 == n)) = l.filter fun y => decide (n + 1 ≤ y.2) := filt_and fun y => by
  by_cases e : y.2 = n
  ·simp [e]
  ·by_cases e' : n ≤ y.2
   ·have : n + 1 ≤ y.2 := by omega
    simp [e, e', this]
   ·have : ¬ n + 1 ≤ y.2 := by omega
    simp [e', this]
 have gZ := hl.filter (f := fun y => y.2 == n)
 have gL' := hl.filter (f := fun y => decide (n + 1 ≤ y.2))
 obtain ⟨z1, z0, _⟩ := lead_PiL gZ
 have ey : ∀ x, ev (pSub (pSc c (WL (fun e => (e : Rat) - (n : Rat) + 1) (l.filter fun y => decide (n ≤ y.2)))) (pDiff (pSc c (PiL (l.filter fun y => decide (n ≤ y.2)))))) x = ev (PiL (l.filter fun y => y.2 == n)) x * ev (pSc c (WL (fun e => (e : Rat) - ((n + 1 : Nat) : Rat) + 1) (l.filter fun y => decide (n + 1 ≤ y.2)))) x := fun x => by
  rw [ev_pSub, ev_pDiff_sc, ev_pSc, ev_pSc, diff_PiL]
  have h1 := WL_sub (w := fun e => (e : Rat) - (n : Rat) + 1) (w' := fun _ => 1) (v := fun e => (e : Rat) - (n : Rat)) (fun e => by grind) (l.filter fun y => decide (n ≤ y.2)) x
  have h2 := filt_W (w := fun e => (e : Rat) - (n : Rat)) (f := fun y => y.2 == n) (fun y hy => by
   have : y.2 = n := by simpa using hy
   show (y.2 : Rat) - (n : Rat) = 0
   rw [this]; grind) (l.filter fun y => decide (n ≤ y.2)) x
  rw [e1, e2] at h2
  have h3 : (fun e : Nat => (e : Rat) - ((n + 1 : Nat) : Rat) + 1) = fun e : Nat => (e : Rat) - (n : Rat) := funext fun e => by
   rw [Rat.natCast_add n 1]
   have : ((1 : Nat) : Rat) = 1 := rfl
   rw [this]; grind
  rw [h3]
  grind
 have eb : ∀ x, ev (pSc c (PiL (l.filter fun y => decide (n ≤ y.2)))) x = ev (PiL (l.filter fun y => y.2 == n)) x * ev (pSc c (PiL (l.filter fun y => decide (n + 1 ≤ y.2)))) x := fun x => by
  rw [ev_pSc, ev_pSc, filt_Pi (fun y => y.2 == n) (l.filter fun y => decide (n ≤ y.2)), e1, e2]; grind
 have hcop : cop (pSc c (PiL (l.filter fun y => decide (n + 1 ≤ y.2)))) (pSc c (WL (fun e => (e : Rat) - ((n + 1 : Nat) : Rat) + 1) (l.filter fun y => decide (n + 1 ≤ y.2)))) := by
  refine cop.sc hc (cop.symm (cop.sc hc (cop.symm (cop_W gL' fun y hy => ?_))))
  have hy := (List.mem_filter.1 hy).2
  simp at hy
  intro e
  have h3 : (y.2 : Rat) = (n : Rat) := by
   rw [Rat.natCast_add n 1] at e
   have : ((1 : Nat) : Rat) = 1 := rfl
   rw [this] at e; grind
  have : y.2 = n := by exact_mod_cast h3
  omega
 refine ⟨gcd_out (can_pSc _ _) (can_pSub _ _) (can_PiL _) (can_pSc _ _) (can_pSc _ _) z0 z1 eb ey hcop, ev_inj (can_pSub _ _) (can_pSc _ _) fun x => ?_⟩
 rw [ev_pSub, ev_pDiff_sc, ev_pSc, ev_pSc, diff_PiL, WL_sub (w := fun e => (e : Rat) - (n : Rat) + 1) (w' := fun _ => 1) (v := fun e => (e : Rat) - (n : Rat)) (fun e => by grind) (l.filter fun y => decide (n ≤ y.2)) x]
 grind
theorem sqL_ok {l : Fac} (hl : Good l) {c : Rat} (hc : c ≠ 0) (K : Nat) (hK : ∀ y ∈ l, y.2 ≤ K) : ∀ (k n : Nat), K + 2 ≤ n + k → n ≤ K + 1 →
 sqL k n (pSc c (PiL (l.filter fun y => decide (n ≤ y.2)))) (pSc c (WL (fun e => (e : Rat) - (n : Rat) + 1) (l.filter fun y => decide (n ≤ y.2)))) = some (partsL l (k - 1) n)
 | 0, n, h, hn => by omega
 | k + 1, n, h, hn => by
   rw [sqL, Nat.add_sub_cancel]
   have gL := hl.filter (f := fun y => decide (n ≤ y.2))
   by_cases hL : (l.filter fun y => decide (n ≤ y.2)) = []
   ·rw [if_pos ((len_sc1 hc _ gL).2 hL), partsL_nil]
    intro y hy
    have := List.filter_eq_nil_iff.1 hL y hy
    simp at this; omega
   ·rw [if_neg (fun e => hL ((len_sc1 hc _ gL).1 e))]
    obtain ⟨y0, hy0⟩ := List.exists_mem_of_ne_nil _ hL
    obtain ⟨hy1, hy2⟩ := List.mem_filter.1 hy0
    have hn' : n ≤ K := by have := hK y0 hy1; simp at hy2; omega
    obtain ⟨k, rfl⟩ : ∃ j, k = j + 1 := ⟨k - 1, by omega⟩
    have gZ := hl.filter (f := fun y => y.2 == n)
    obtain ⟨⟨g1, g2, g3⟩, _⟩ := yun_step hl hc n
    unfold yB at g2
    unfold yC at g3
    unfold yB yC at g1
    unfold yB at g3
    rw [g1, g2, g3, sqL_ok hl hc K hK (k + 1) (n + 1) (by omega) (by omega), partsL, Nat.add_sub_cancel]
    rw [Option.map_some]
    have z3 : (PiL (l.filter fun y => y.2 == n)).length ≤ 1 ↔ (l.filter fun y => y.2 == n) = [] := by
     constructor
     ·intro h
      by_cases e : (l.filter fun y => y.2 == n) = []
      ·exact e
      ·have := (lead_PiL gZ).2.2 e; omega
     ·intro e; rw [e]; simp [PiL]
    by_cases hz : (l.filter fun y => y.2 == n) = []
    ·rw [if_pos hz, if_pos (z3.2 hz)]
    ·rw [if_neg hz, if_neg (fun e => hz (z3.1 e))]
theorem lead_pwr {p : List Rat} (hp : Irr p) : ∀ e, lead (pwr p e) = 1 ∧ pwr p e ≠ [] ∧ e + 1 ≤ (pwr p e).length
 | 0 => ⟨rfl, by simp [pwr], by simp [pwr]⟩
 | e + 1 => by
   obtain ⟨i1, i2, i3⟩ := lead_pwr hp e
   have hl := len_pMul (can_pwr p e) hp.can i2 hp.ne
   have h2 := hp.two
   refine ⟨?_, fun h => ?_, ?_⟩
   ·rw [pwr, lead_pMul (can_pwr p e) hp.can i2 hp.ne, i1, hp.mon]; grind
   ·rw [pwr] at h
    rw [h] at hl; simp at hl; omega
   ·rw [pwr]; omega
theorem lead_GL : ∀ {l : Fac}, Good l → lead (GL l) = 1 ∧ GL l ≠ []
 | [], _ => ⟨rfl, by simp [GL]⟩
 | y :: l, ⟨⟨h1, _⟩, _, h3⟩ => by
   obtain ⟨i1, i2⟩ := lead_GL h3
   obtain ⟨j1, j2, _⟩ := lead_pwr h1 (y.2 - 1)
   refine ⟨?_, fun e => ?_⟩
   ·rw [GL, lead_pMul (can_pwr _ _) (can_GL l) j2 i2, j1, i1]; grind
   ·rw [GL] at e
    rcases (pMul_eq_nil (can_pwr _ _) (can_GL l)).1 e with e | e
    ·exact j2 e
    ·exact i2 e
theorem lead_PwL : ∀ {l : Fac}, Good l → (lead (PwL l) = 1 ∧ PwL l ≠ []) ∧ ∀ y ∈ l, y.2 + 1 ≤ (PwL l).length
 | [], _ => ⟨⟨rfl, by simp [PwL]⟩, fun _ h => (by cases h)⟩
 | y :: l, ⟨⟨h1, _⟩, _, h3⟩ => by
   obtain ⟨⟨i1, i2⟩, i3⟩ := lead_PwL h3
   obtain ⟨j1, j2, j3⟩ := lead_pwr h1 y.2
   have hl := len_pMul (can_pwr y.1 y.2) (can_PwL l) j2 i2
   have := List.length_pos_iff.2 i2
   refine ⟨⟨?_, fun e => ?_⟩, fun z hz => ?_⟩
   ·rw [PwL, lead_pMul (can_pwr _ _) (can_PwL l) j2 i2, j1, i1]; grind
   ·rw [PwL] at e
    rw [e] at hl; simp at hl; omega
   ·rw [PwL]
    rcases List.mem_cons.1 hz with rfl | hz
    ·omega
    ·have := i3 z hz; omega
theorem yun {a : List Rat} (ha : Can a) (h2 : 2 ≤ a.length) {c : Rat} {l : Fac} (hc : c ≠ 0) (hl : Good l) (e : ∀ x, ev a x = c * ev (PwL l) x) {k : Nat} (hk : a.length ≤ k) : pSqf k a = some (partsL l (k - 1) 1) := by
 have a0 : a ≠ [] := fun e => by rw [e] at h2; simp at h2
 obtain ⟨⟨p1, p2⟩, p3⟩ := lead_PwL hl
 have e1 : a = pSc c (PwL l) := ev_inj ha (can_pSc _ _) fun x => by rw [e x, ev_pSc]
 have hl1 : (PwL l).length = a.length := by rw [e1, len_pSc' hc (can_PwL l)]
 obtain ⟨g1, g0⟩ := lead_GL hl
 obtain ⟨r1, r2, r3⟩ := gcd_out ha (can_pDiff a) (can_GL l) (can_pSc c (PiL l)) (can_pSc c (WL (fun e => (e : Rat)) l)) g0 g1 (fun x => by rw [e x, GL_Pi hl x, ev_pSc]; grind) (fun x => by
  rw [e1, ev_pDiff_sc, diff_PwL hl x, ev_pSc]; grind) (cop.sc hc (cop.symm (cop.sc hc (cop.symm (cop_W hl fun y hy h => by
   have h1 := (hl.mem y hy).2
   have h3 : (y.2 : Rat) = ((0 : Nat) : Rat) := h
   have : y.2 = 0 := by exact_mod_cast h3
   omega)))))
 unfold pSqf
 rw [if_neg (by omega), r1, r2, r3]
 have f1 : (l.filter fun y => decide (1 ≤ y.2)) = l := List.filter_eq_self.2 fun y hy => by have := (hl.mem y hy).2; simp; omega
 have h := sqL_ok hl hc (a.length - 1) (fun y hy => by have := p3 y hy; omega) k 1 (by omega) (by omega)
 rw [f1] at h
 have f2 : (fun e : Nat => (e : Rat) - ((1 : Nat) : Rat) + 1) = fun e : Nat => (e : Rat) := funext fun e => by
  have : ((1 : Nat) : Rat) = 1 := rfl
  rw [this]; grind
 rw [f2] at h
 exact h
end Go.Proofs.YtfbogelmgdojgaaGreat


/- Squarefree parts. No program in sight. -/
namespace Go.Proofs.YtfbogelmgdojgaaGreat
set_option linter.unusedSimpArgs false
set_option linter.unusedVariables false

theorem partsL_mem {l : Fac} : ∀ (k n : Nat), ∀ y ∈ partsL l k n, (n ≤ y.2 ∧ y.2 < n + k) ∧ y.1 = PiL (l.filter fun z => z.2 == y.2) ∧ (l.filter fun z => z.2 == y.2) ≠ []
 | 0, _, y, h => by cases h
 | k + 1, n, y, h => by
   rw [partsL] at h
   split at h
   ·obtain ⟨h1, h2⟩ := partsL_mem k (n + 1) y h
    exact ⟨by omega, h2⟩
   ·rename_i hz
    rcases List.mem_cons.1 h with rfl | h
    ·exact ⟨⟨Nat.le_refl _, by show n < _; omega⟩, rfl, hz⟩
    ·obtain ⟨h1, h2⟩ := partsL_mem k (n + 1) y h
     exact ⟨by omega, h2⟩
theorem partsL_Pi {l : Fac} : ∀ (k n : Nat) (x : Rat), ev (PiL (partsL l k n)) x = ev (PiL (l.filter fun y => decide (n ≤ y.2) && decide (y.2 < n + k))) x
 | 0, n, x => by
   have : (l.filter fun y => decide (n ≤ y.2) && decide (y.2 < n + 0)) = [] := List.filter_eq_nil_iff.2 fun y _ => by simp
   rw [this]; rfl
 | k + 1, n, x => by
   have ih := partsL_Pi (l := l) k (n + 1) x
   have e1 : (l.filter fun y => decide (n ≤ y.2) && decide (y.2 < n + (k + 1))).filter (fun y => y.2 == n) = l.filter fun y => y.2 == n := filt_and fun y => by
    by_cases e : y.2 = n
    ·simp [e]
    ·simp [e]
   have e2 : (l.filter fun y => decide (n ≤ y.2) && decide (y.2 < n + (k + 1))).filter (fun y => !(y.2 == n)) = l.filter fun y => decide (n + 1 ≤ y.2) && decide (y.2 < n + 1 + k) := filt_and fun y => by
    by_cases e : y.2 = n
    ·have : ¬ n + 1 ≤ y.2 := by omega
     simp [e]
     omega
    ·by_cases e1 : n ≤ y.2 <;> by_cases e2 : y.2 < n + (k + 1) <;> by_cases e3 : n + 1 ≤ y.2 <;> by_cases e4 : y.2 < n + 1 + k <;> simp [e, e1, e2, e3, e4] <;> omega
   have h := filt_Pi (fun y => y.2 == n) (l.filter fun y => decide (n ≤ y.2) && decide (y.2 < n + (k + 1))) x
   rw [e1, e2] at h
   rw [h, ← ih, partsL]
   split
   ·rename_i hz
    rw [hz, PiL, ev1]; grind
   ·rw [PiL, ev_pMul]
theorem rad_parts {l : Fac} (hl : Good l) {k : Nat} (h : ∀ y ∈ l, y.2 ≤ k) : PiL (partsL l k 1) = PiL l := by
 refine ev_inj (can_PiL _) (can_PiL _) fun x => ?_
 rw [partsL_Pi]
 have : (l.filter fun y => decide (1 ≤ y.2) && decide (y.2 < 1 + k)) = l := List.filter_eq_self.2 fun y hy => by
  have h1 := (hl.mem y hy).2
  have h2 := h y hy
  simp; omega
 rw [this]
theorem PiL_sqf {l : Fac} (hl : Good l) : cop (PiL l) (pDiff (PiL l)) := by
 have h := cop_W (w := fun _ => 1) hl fun y _ => by decide
 obtain ⟨u, v, hc, h⟩ := h
 exact ⟨u, v, hc, fun x => by rw [diff_PiL]; exact h x⟩
theorem PiL_len {l : Fac} (hl : Good l) : (PiL l).length ≤ (PwL l).length := by
 obtain ⟨g1, g0⟩ := lead_GL hl
 obtain ⟨_, p0, _⟩ := lead_PiL hl
 have e : PwL l = pMul (GL l) (PiL l) := ev_inj (can_PwL _) (can_pMul _ _) fun x => by rw [GL_Pi hl x, ev_pMul]
 have h := len_pMul (can_GL l) (can_PiL l) g0 p0
 rw [← e] at h
 have := List.length_pos_iff.2 g0
 omega
end Go.Proofs.YtfbogelmgdojgaaGreat


/- Roots of powers modulo a squarefree polynomial. No program in sight. -/
namespace Go.Proofs.YtfbogelmgdojgaaGreat
set_option linter.unusedSimpArgs false
set_option linter.unusedVariables false

theorem prd_take (fs : Fac) : ∀ i, i ≤ fs.length → prd fs i = PiL (fs.take i)
 | 0, _ => rfl
 | i + 1, h => by
   rw [prd, prd_take fs i (by omega)]
   have e : fs.take (i + 1) = fs.take i ++ [fs.getD i ([], 0)] := by
    rw [List.take_add_one, List.getD_eq_getElem?_getD, List.getElem?_eq_getElem (by omega)]
    rfl
   have app : ∀ (l m : Fac) (x : Rat), ev (PiL (l ++ m)) x = ev (PiL l) x * ev (PiL m) x := fun l m x => by
    induction l with
    | nil => rw [List.nil_append, show PiL [] = [1] from rfl, ev1]; grind
    | cons y l ih => rw [List.cons_append, PiL, PiL, ev_pMul, ev_pMul, ih]; grind
   rw [e]
   refine ev_inj (can_pMul _ _) (can_PiL _) fun x => ?_
   rw [app, ev_pMul, PiL, ev_pMul, show PiL [] = [1] from rfl, ev1]; grind
theorem prd_Pi (fs : Fac) : prd fs fs.length = PiL fs := by rw [prd_take fs fs.length (Nat.le_refl _), List.take_length]
def cmpP (a : List Rat) : List Rat → List Rat
 | [] => []
 | c :: l => pAdd (pMul (cmpP a l) a) (tr [c])
theorem can_cmpP (a : List Rat) : ∀ l, Can (cmpP a l)
 | [] => Can_nil
 | _ :: _ => can_pAdd _ _
theorem ev_cmpP (a : List Rat) (x : Rat) : ∀ l, ev (cmpP a l) x = ev l (ev a x)
 | [] => rfl
 | c :: l => by
   rw [cmpP, ev_pAdd, ev_pMul, ev_cmpP a x l, ev_tr, ev_sing]
   show _ = c + ev a x * ev l (ev a x)
   grind
theorem atm_cmp {q : List Rat} (a : List Rat) (hq : Can q) (h2 : 2 ≤ q.length) : ∀ l, atm q a l = pMod (cmpP a l) q
 | [] => by
   have q0 : q ≠ [] := fun e => by rw [e] at h2; simp at h2
   exact ((dm_small Can_nil hq (List.length_pos_iff.2 q0)).2).symm
 | c :: l => by
   have q0 : q ≠ [] := fun e => by rw [e] at h2; simp at h2
   have l1 := tr_len [c]
   simp only [List.length_cons, List.length_nil] at l1
   rw [atm, atm_cmp a hq h2 l, mod_mul_l (can_cmpP a l) hq q0, cmpP, mod_add (can_pMul _ _) (tr_can _) hq q0, (dm_small (tr_can [c]) hq (by omega)).2]
theorem atm_dvd {q a l : List Rat} (hq : Can q) (h2 : 2 ≤ q.length) : atm q a l = [] ↔ pDvd q (cmpP a l) := by
 have q0 : q ≠ [] := fun e => by rw [e] at h2; simp at h2
 rw [atm_cmp a hq h2]
 exact ⟨dvd_of_mod (can_cmpP a l) hq q0, mod_of_dvd (can_cmpP a l) hq q0⟩
theorem Irr.pow {p v : List Rat} (hp : Irr p) (hv : Can v) : ∀ E, pDvd p (pwr v E) → pDvd p v
 | 0, h => by
   have := (dvd_len can1 hp.can h (by simp)).1
   have := hp.two
   simp at *; omega
 | E + 1, h => by
   rcases hp.prime (can_pwr v E) h with h | h
   ·exact hp.pow hv E h
   ·exact h
theorem PiL_dvd {v : List Rat} : ∀ {l : Fac}, Good l → (∀ y ∈ l, pDvd y.1 v) → Can v → pDvd (PiL l) v
 | [], _, _, hv => ⟨v, hv, fun x => by rw [PiL, ev1]; grind⟩
 | y :: l, ⟨⟨h1, _⟩, h2, h3⟩, h, hv => by
   obtain ⟨k, ck, hk⟩ := PiL_dvd h3 (fun z hz => h z (List.mem_cons_of_mem _ hz)) hv
   have hc : cop y.1 (PiL l) := cop_PiL fun z hz => h1.cop' (h3.mem z hz).1 (h2 z hz)
   obtain ⟨j, cj, hj⟩ := hc.euclid (c := k) (by
    obtain ⟨i, ci, hi⟩ := h y List.mem_cons_self
    exact ⟨i, ci, fun x => by rw [ev_pMul, ← hi x, hk x]; grind⟩)
   exact ⟨j, cj, fun x => by rw [PiL, ev_pMul, hk x, hj x]; grind⟩
theorem mem_dvd {l : Fac} : ∀ y ∈ l, pDvd y.1 (PiL l) := by
 induction l with
 | nil => intro y h; cases h
 | cons z l ih =>
   intro y h
   rcases List.mem_cons.1 h with rfl | h
   ·exact ⟨PiL l, can_PiL l, fun x => by rw [PiL, ev_pMul]; grind⟩
   ·obtain ⟨k, ck, hk⟩ := ih y h
    exact ⟨pMul z.1 k, can_pMul _ _, fun x => by rw [PiL, ev_pMul, ev_pMul, hk x]; grind⟩
theorem sqf_factor {q : List Rat} (hq : Can q) (q0 : q ≠ []) (hs : cop q (pDiff q)) : ∃ (c : Rat) (l : Fac), c ≠ 0 ∧ Good l ∧ (∀ y ∈ l, y.2 = 1) ∧ ∀ x, ev q x = c * ev (PiL l) x := by
 obtain ⟨c, l, c0, hl, hc⟩ := factor q.length q (Nat.le_refl _) hq q0
 have h1 : ∀ y ∈ l, y.2 = 1 := fun y hy => by
  by_cases e : y.2 = 1
  ·exact e
  ·exfalso
   obtain ⟨hp, hy1⟩ := hl.mem y hy
   -- y divides GL
   have dg : ∀ l : Fac, y ∈ l → pDvd y.1 (GL l) := fun l => by
    induction l with
    | nil => intro h; cases h
    | cons z l ih =>
      intro h
      rcases List.mem_cons.1 h with rfl | h
      ·obtain ⟨k, hk⟩ : ∃ k, y.2 - 1 = k + 1 := ⟨y.2 - 2, by omega⟩
       exact ⟨pMul (pwr y.1 k) (GL l), can_pMul _ _, fun x => by rw [GL, hk, ev_pMul, ev_pMul, pwr, ev_pMul]; grind⟩
      ·obtain ⟨k, ck, hk⟩ := ih h
       exact ⟨pMul (pwr z.1 (z.2 - 1)) k, can_pMul _ _, fun x => by rw [GL, ev_pMul, ev_pMul, hk x]; grind⟩
   obtain ⟨k, ck, hk⟩ := dg l hy
   have d1 : pDvd y.1 q := ⟨pSc c (pMul k (PiL l)), can_pSc _ _, fun x => by rw [hc x, GL_Pi hl x, ev_pSc, ev_pMul, hk x]; grind⟩
   have eq : q = pSc c (PwL l) := ev_inj hq (can_pSc _ _) fun x => by rw [hc x, ev_pSc]
   have d2 : pDvd y.1 (pDiff q) := ⟨pSc c (pMul k (WL (fun e => (e : Rat)) l)), can_pSc _ _, fun x => by rw [eq, ev_pDiff_sc, diff_PwL hl x, ev_pSc, ev_pMul, hk x]; grind⟩
   obtain ⟨u, v, _, h⟩ := (hs.symm.dvd d1).symm.dvd d2
   have d3 : pDvd y.1 [1] := ⟨pAdd u v, can_pAdd _ _, fun x => by rw [ev1, ev_pAdd, ← h x]; grind⟩
   have := (dvd_len can1 hp.can d3 (by simp)).1
   have := hp.two
   simp at *; omega
 refine ⟨c, l, c0, hl, h1, fun x => ?_⟩
 rw [hc x]
 congr 1
 clear hc hs
 induction l with
 | nil => rfl
 | cons y l ih =>
   rw [PwL, PiL, ev_pMul, ev_pMul, ih hl.2.2 (fun z hz => h1 z (List.mem_cons_of_mem _ hz)), ev_pwr, h1 y List.mem_cons_self, show (1 : Nat) = 0 + 1 from rfl, Rat.pow_succ, Rat.pow_zero]
   grind
theorem sqf_pow {q v : List Rat} (hq : Can q) (q0 : q ≠ []) (hs : cop q (pDiff q)) (hv : Can v) {E : Nat} (h : pDvd q (pwr v E)) : pDvd q v := by
 obtain ⟨c, l, c0, hl, h1, hc⟩ := sqf_factor hq q0 hs
 have d0 : pDvd (PiL l) q := ⟨[c], by rw [Can_cons, if_pos rfl]; exact c0, fun x => by rw [ev_sing, hc x]⟩
 obtain ⟨k, ck, hk⟩ := PiL_dvd hl (fun y hy => (hl.mem y hy).1.pow hv E (pDvd_trans (pDvd_trans (mem_dvd y hy) d0) h)) hv
 exact ⟨pSc (1 / c) k, can_pSc _ _, fun x => by
  rw [ev_pSc, hc x, hk x]
  have : 1 / c * c = 1 := by grind
  grind⟩
theorem PwL_dvd_pow {E : Nat} : ∀ {l : Fac}, (∀ y ∈ l, y.2 ≤ E) → ∃ k, Can k ∧ ∀ x, ev (PiL l) x ^ E = ev k x * ev (PwL l) x
 | [], _ => ⟨[1], can1, fun x => by
   rw [PiL, PwL, ev1]
   have : ∀ n : Nat, (1 : Rat) ^ n = 1 := fun n => by
    induction n with
    | zero => rw [Rat.pow_zero]
    | succ n ih => rw [Rat.pow_succ, ih]; grind
   rw [this]; grind⟩
 | y :: l, h => by
   obtain ⟨k, ck, hk⟩ := PwL_dvd_pow (l := l) fun z hz => h z (List.mem_cons_of_mem _ hz)
   have mp : ∀ (a b : Rat) (n : Nat), (a * b) ^ n = a ^ n * b ^ n := fun a b n => by
    induction n with
    | zero => rw [Rat.pow_zero, Rat.pow_zero, Rat.pow_zero]; grind
    | succ n ih => rw [Rat.pow_succ, Rat.pow_succ, Rat.pow_succ, ih]; grind
   refine ⟨pMul (pwr y.1 (E - y.2)) k, can_pMul _ _, fun x => ?_⟩
   have h1 := h y List.mem_cons_self
   rw [PiL, PwL, ev_pMul, ev_pMul, ev_pMul, ev_pwr, ev_pwr, mp, hk x]
   have := powq_add (ev y.1 x) (E - y.2) y.2
   rw [show E - y.2 + y.2 = E from by omega] at this
   rw [this]; grind
theorem rad_root {q a : List Rat} (hq : Can q) (h2 : 2 ≤ q.length) (hs : cop q (pDiff q)) {c : Rat} {l : Fac} (c0 : c ≠ 0) {f : List Rat} (hf : ∀ x, ev f x = c * ev (PwL l) x) (h : atm q a f = []) : atm q a (PiL l) = [] := by
 have q0 : q ≠ [] := fun e => by rw [e] at h2; simp at h2
 obtain ⟨E, hE⟩ : ∃ E, ∀ y ∈ l, y.2 ≤ E := by
  clear hf
  induction l with
  | nil => exact ⟨0, fun y h => by cases h⟩
  | cons y l ih =>
    obtain ⟨E, hE⟩ := ih
    refine ⟨max y.2 E, fun z hz => ?_⟩
    rcases List.mem_cons.1 hz with rfl | hz
    ·omega
    ·have := hE z hz; omega
 obtain ⟨k, ck, hk⟩ := PwL_dvd_pow hE
 obtain ⟨j, cj, hj⟩ := (atm_dvd hq h2).1 h
 refine (atm_dvd hq h2).2 (sqf_pow hq q0 hs (can_cmpP a _) (E := E) ⟨pMul (pSc (1 / c) (cmpP a k)) j, can_pMul _ _, fun x => ?_⟩)
 have h1 := hj x
 rw [ev_cmpP, hf] at h1
 rw [ev_pwr, ev_cmpP, hk, ev_pMul, ev_pSc, ev_cmpP]
 have : 1 / c * c = 1 := by grind
 grind
end Go.Proofs.YtfbogelmgdojgaaGreat

