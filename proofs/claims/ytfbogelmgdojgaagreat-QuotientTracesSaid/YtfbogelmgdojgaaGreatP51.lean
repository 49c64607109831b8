/- Texts PM9 PM10 PM11 PM12 in one. -/
import Derived.Test.YtfbogelmgdojgaaGreatP50
/- Polynomials over the rational numbers: derivatives, shifts, cofactors. No program in sight. -/
namespace Go.Proofs.YtfbogelmgdojgaaGreat
set_option linter.unusedSimpArgs false
set_option linter.unusedVariables false

theorem ev_of_cf {a b : List Rat} (h : ∀ i, cf a i = cf b i) (x : Rat) : ev a x = ev b x := by
  rw [← ev_tr a, ← ev_tr b, can_ext (tr_can a) (tr_can b) fun i => by rw [cf_tr, cf_tr, h]]
/-- The derivative. -/
def dL : List Rat → List Rat
  | [] => []
  | _ :: l => addL l (0 :: dL l)
def pDiff (a : List Rat) : List Rat := tr (dL a)
theorem cf_dL : ∀ (l : List Rat) (i : Nat), cf (dL l) i = ((i + 1 : Nat) : Rat) * cf l (i + 1)
  | [], i => by simp only [dL, cf_nil]; grind
  | c :: l, 0 => by
    simp only [dL, cf_addL, cf_zero, cf_succ]
    have : ((0 + 1 : Nat) : Rat) = 1 := rfl
    rw [this]; grind
  | c :: l, i + 1 => by
    simp only [dL, cf_addL, cf_succ, cf_dL l i]
    have : ((i + 1 + 1 : Nat) : Rat) = ((i + 1 : Nat) : Rat) + 1 := by rw [Rat.natCast_add (i + 1) 1]; rfl
    rw [this]; grind
theorem cf_pDiff (a : List Rat) (i : Nat) : cf (pDiff a) i = ((i + 1 : Nat) : Rat) * cf a (i + 1) := by unfold pDiff; rw [cf_tr, cf_dL]
theorem can_pDiff (a : List Rat) : Can (pDiff a) := tr_can _
theorem len_dL : ∀ l : List Rat, (dL l).length ≤ l.length - 1 ∨ (dL l).length ≤ l.length
  | [] => .inl (Nat.le_refl _)
  | c :: l => by
    have := len_dL l
    right
    simp only [dL, len_addL, List.length_cons]
    omega
theorem ev_dL_add (a b : List Rat) (x : Rat) : ev (dL (addL a b)) x = ev (dL a) x + ev (dL b) x := by
  rw [← ev_addL]
  exact ev_of_cf (fun i => by rw [cf_dL, cf_addL, cf_addL, cf_dL, cf_dL]; grind) x
theorem ev_dL_sc (c : Rat) (a : List Rat) (x : Rat) : ev (dL (scL c a)) x = c * ev (dL a) x := by
  rw [← ev_scL]
  exact ev_of_cf (fun i => by rw [cf_dL, cf_scL, cf_scL, cf_dL]; grind) x
theorem ev_dL_cons (c : Rat) (l : List Rat) (x : Rat) : ev (dL (c :: l)) x = ev l x + x * ev (dL l) x := by
  simp only [dL, ev_addL, ev]; grind
theorem ev_dL_tr (a : List Rat) (x : Rat) : ev (dL (tr a)) x = ev (dL a) x := ev_of_cf (fun i => by rw [cf_dL, cf_dL, cf_tr]) x
theorem ev_dL_mul : ∀ (a b : List Rat) (x : Rat), ev (dL (mulL a b)) x = ev (dL a) x * ev b x + ev a x * ev (dL b) x
  | [], b, x => by simp only [mulL, dL, ev]; grind
  | p :: a, b, x => by
    have ih := ev_dL_mul a b x
    simp only [mulL]
    rw [ev_dL_add, ev_dL_sc, ev_dL_cons, ev_dL_cons, ih, ev_mulL]
    simp only [ev]; grind
theorem ev_pDiff (a : List Rat) (x : Rat) : ev (pDiff a) x = ev (dL a) x := ev_tr _ _
theorem ev_pDiff_add (a b : List Rat) (x : Rat) : ev (pDiff (pAdd a b)) x = ev (pDiff a) x + ev (pDiff b) x := by
  unfold pAdd; rw [ev_pDiff, ev_pDiff, ev_pDiff, ev_dL_tr, ev_dL_add]
theorem ev_pDiff_sc (c : Rat) (a : List Rat) (x : Rat) : ev (pDiff (pSc c a)) x = c * ev (pDiff a) x := by
  unfold pSc; rw [ev_pDiff, ev_pDiff, ev_dL_tr, ev_dL_sc]
theorem ev_pDiff_mul (a b : List Rat) (x : Rat) : ev (pDiff (pMul a b)) x = ev (pDiff a) x * ev b x + ev a x * ev (pDiff b) x := by
  unfold pMul; rw [ev_pDiff, ev_pDiff, ev_pDiff, ev_dL_tr, ev_dL_mul]
/- Shifts. -/
def hd0 : List Rat → Rat
  | [] => 0
  | c :: _ => c
def tl0 : List Rat → List Rat
  | [] => []
  | _ :: l => l
/-- Division by x - c, from the top. -/
def syn (c : Rat) : List Rat → List Rat
  | [] => []
  | r :: l => (r + c * hd0 (syn c l)) :: syn c l
theorem syn_len (c : Rat) : ∀ l : List Rat, (syn c l).length = l.length
  | [] => rfl
  | r :: l => by simp only [syn, List.length_cons, syn_len c l]
theorem ev_hd (l : List Rat) (x : Rat) : ev l x = hd0 l + x * ev (tl0 l) x := by
  cases l with
  | nil => simp only [hd0, tl0, ev]; grind
  | cons c l => rfl
theorem ev_syn (c : Rat) : ∀ (l : List Rat) (y : Rat), ev l y = hd0 (syn c l) + (y - c) * ev (tl0 (syn c l)) y
  | [], y => by simp only [syn, hd0, tl0, ev]; grind
  | r :: l, y => by
    have ih := ev_syn c l y
    have h2 := ev_hd (syn c l) y
    show r + y * ev l y = (r + c * hd0 (syn c l)) + (y - c) * ev (syn c l) y
    rw [ih, h2]
    generalize hd0 (syn c l) = h
    generalize ev (tl0 (syn c l)) y = e
    grind
/-- The polynomial at x + c. -/
def shF : Nat → Rat → List Rat → List Rat
  | 0, _, _ => []
  | n + 1, c, l => hd0 (syn c l) :: shF n c (tl0 (syn c l))
def pShift (c : Rat) (a : List Rat) : List Rat := shF a.length c a
theorem tl0_len (l : List Rat) : (tl0 l).length = l.length - 1 := by cases l <;> rfl
theorem ev_shF : ∀ (n : Nat) (c : Rat) (l : List Rat) (x : Rat), l.length ≤ n → ev (shF n c l) x = ev l (x + c)
  | 0, c, l, x, h => by
    have : l = [] := List.eq_nil_of_length_eq_zero (by omega)
    subst this; rfl
  | n + 1, c, l, x, h => by
    have ih := ev_shF n c (tl0 (syn c l)) x (by rw [tl0_len, syn_len]; omega)
    have h2 := ev_syn c l (x + c)
    simp only [shF, ev, ih]
    rw [h2]; grind
theorem shF_len : ∀ (n : Nat) (c : Rat) (l : List Rat), (shF n c l).length = n
  | 0, _, _ => rfl
  | n + 1, c, l => by simp only [shF, List.length_cons, shF_len n]
theorem syn_top (c : Rat) : ∀ l : List Rat, cf (syn c l) (l.length - 1) = cf l (l.length - 1)
  | [] => rfl
  | r :: l => by
    have ih := syn_top c l
    cases l with
    | nil => simp only [syn, hd0, List.length_cons, List.length_nil, Nat.zero_add, Nat.sub_self, cf_zero]; grind
    | cons s l =>
      show cf (syn c (r :: s :: l)) (l.length + 1) = cf (r :: s :: l) (l.length + 1)
      rw [show syn c (r :: s :: l) = (r + c * hd0 (syn c (s :: l))) :: syn c (s :: l) from rfl, cf_succ, cf_succ]
      exact ih
theorem cf_tl0 (l : List Rat) (i : Nat) : cf (tl0 l) i = cf l (i + 1) := by cases l <;> rfl
theorem shF_top : ∀ (n : Nat) (c : Rat) (l : List Rat), l.length = n → cf (shF n c l) (n - 1) = cf l (n - 1)
  | 0, c, l, h => by
    have : l = [] := List.eq_nil_of_length_eq_zero h
    subst this; rfl
  | n + 1, c, l, h => by
    have h1 := syn_top c l
    rw [h] at h1
    cases n with
    | zero =>
      have h2 : hd0 (syn c l) = cf (syn c l) 0 := by cases syn c l <;> rfl
      simp only [shF, Nat.zero_add, Nat.sub_self, cf_zero, h2] at h1 ⊢
      exact h1
    | succ n =>
      show cf (shF (n + 2) c l) (n + 1) = cf l (n + 1)
      rw [show shF (n + 2) c l = hd0 (syn c l) :: shF (n + 1) c (tl0 (syn c l)) from rfl, cf_succ]
      have ih := shF_top (n + 1) c (tl0 (syn c l)) (by rw [tl0_len, syn_len, h]; rfl)
      rw [show n + 1 - 1 = n from rfl] at ih
      rw [ih, cf_tl0]
      exact h1
theorem ev_pShift (c : Rat) (a : List Rat) (x : Rat) : ev (pShift c a) x = ev a (x + c) := ev_shF _ c a x (Nat.le_refl _)
theorem can_pShift {c : Rat} {a : List Rat} (ha : Can a) : Can (pShift c a) := by
  intro h
  have hl : (pShift c a).length = a.length := shF_len _ _ _
  rw [hl]
  unfold pShift
  rw [shF_top a.length c a rfl]
  refine ha fun e => h ?_
  rw [e]; rfl
/- Cofactors. -/
def exF : Nat → List Rat → List Rat → List Rat → List Rat → List Rat → List Rat → List Rat × List Rat × List Rat
  | 0, a, _, s, _, t, _ => (a, s, t)
  | n + 1, a, b, s, u, t, v => if b = [] then (a, s, t) else exF n b (pMod a b) u (pSub s (pMul (pDiv a b) u)) v (pSub t (pMul (pDiv a b) v))
/-- The greatest common divisor and its cofactors, before they are scaled. -/
def pX (a b : List Rat) : List Rat × List Rat × List Rat := exF (b.length + 1) a b [1] [] [] [1]
def pExt (a b : List Rat) : List Rat × List Rat × List Rat :=
  let x := pX a b
  if x.1 = [] then x else (pSc (1 / lead x.1) x.1, pSc (1 / lead x.1) x.2.1, pSc (1 / lead x.1) x.2.2)
theorem exF_fuel : ∀ (n m : Nat) (a b s u t v : List Rat), Can a → Can b → b.length < n → b.length < m → exF n a b s u t v = exF m a b s u t v
  | 0, _, _, b, _, _, _, _, _, _, h, _ => by omega
  | _, 0, _, b, _, _, _, _, _, _, _, h => by omega
  | n + 1, m + 1, a, b, s, u, t, v, ha, hb, h1, h2 => by
    unfold exF
    split
    · rfl
    · rename_i h0
      obtain ⟨g1, g2, _⟩ := dm_ok ha hb h0
      exact exF_fuel n m _ _ _ _ _ _ hb g1.2 (by omega) (by omega)
theorem exF_ok {A B : List Rat} : ∀ (n : Nat) (a b s u t v : List Rat), Can a → Can b → Can s → Can u → Can t → Can v → b.length < n → (∀ x, ev s x * ev A x + ev t x * ev B x = ev a x) → (∀ x, ev u x * ev A x + ev v x * ev B x = ev b x) →
    (exF n a b s u t v).1 = pG a b ∧ (Can (exF n a b s u t v).2.1 ∧ Can (exF n a b s u t v).2.2) ∧ ∀ x, ev (exF n a b s u t v).2.1 x * ev A x + ev (exF n a b s u t v).2.2 x * ev B x = ev (pG a b) x
  | 0, _, b, _, _, _, _, _, _, _, _, _, _, h, _, _ => by omega
  | n + 1, a, b, s, u, t, v, ha, hb, hs, hu, ht, hv, h, e1, e2 => by
    unfold exF
    split
    · rename_i h0; subst h0; rw [pG_nil]; exact ⟨rfl, ⟨hs, ht⟩, e1⟩
    · rename_i h0
      obtain ⟨g1, g2, g3⟩ := dm_ok ha hb h0
      rw [pG_step ha hb h0]
      exact exF_ok n b (pMod a b) u _ v _ hb g1.2 hu (can_pSub _ _) hv (can_pSub _ _) (by omega) e2 fun x => by
        have := g3 x
        have := e1 x
        have := e2 x
        rw [ev_pSub, ev_pSub, ev_pMul, ev_pMul]; grind
theorem can_one : Can [1] := by rw [Can_cons]; simp
theorem pX_ok {a b : List Rat} (ha : Can a) (hb : Can b) : (pX a b).1 = pG a b ∧ (Can (pX a b).2.1 ∧ Can (pX a b).2.2) ∧ ∀ x, ev (pX a b).2.1 x * ev a x + ev (pX a b).2.2 x * ev b x = ev (pG a b) x :=
  exF_ok (b.length + 1) a b [1] [] [] [1] ha hb can_one Can_nil Can_nil can_one (Nat.lt_succ_self _) (fun x => by simp only [ev]; grind) (fun x => by simp only [ev]; grind)
theorem pExt_ok {a b : List Rat} (ha : Can a) (hb : Can b) : (pExt a b).1 = pGcd a b ∧ (Can (pExt a b).2.1 ∧ Can (pExt a b).2.2) ∧ ∀ x, ev (pExt a b).2.1 x * ev a x + ev (pExt a b).2.2 x * ev b x = ev (pGcd a b) x := by
  obtain ⟨h1, h2, h3⟩ := pX_ok ha hb
  unfold pExt pGcd
  by_cases h : pG a b = []
  · rw [if_pos (by rw [h1]; exact h)]
    have e : pMonic (pG a b) = pG a b := by rw [h]; rfl
    rw [e]
    exact ⟨h1, h2, h3⟩
  · rw [if_neg (by rw [h1]; exact h)]
    have e : pMonic (pG a b) = pSc (1 / lead (pG a b)) (pG a b) := if_neg h
    simp only [h1, e]
    refine ⟨trivial, ⟨can_pSc _ _, can_pSc _ _⟩, fun x => ?_⟩
    have := h3 x
    rw [ev_pSc, ev_pSc, ev_pSc]; grind
end Go.Proofs.YtfbogelmgdojgaaGreat

/- Polynomials over the rational numbers: squarefree parts and resultants as they are computed. No program in sight. -/
namespace Go.Proofs.YtfbogelmgdojgaaGreat
set_option linter.unusedSimpArgs false
set_option linter.unusedVariables false

/-- The parts from exponent n on, if they are found in k steps. -/
def sqL : Nat → Nat → List Rat → List Rat → Option (List (List Rat × Nat))
  | 0, _, _, _ => none
  | k + 1, n, b, c => if b.length ≤ 1 then some [] else
    (sqL k (n + 1) (pDiv b (pGcd b (pSub c (pDiff b)))) (pDiv (pSub c (pDiff b)) (pGcd b (pSub c (pDiff b))))).map fun l =>
      if (pGcd b (pSub c (pDiff b))).length ≤ 1 then l else (pGcd b (pSub c (pDiff b)), n) :: l
def pSqf (k : Nat) (a : List Rat) : Option (List (List Rat × Nat)) :=
  if a.length < 2 then some [] else sqL k 1 (pDiv a (pGcd a (pDiff a))) (pDiv (pDiff a) (pGcd a (pDiff a)))
/-- The resultant, as Euclid computes it. -/
def sgm (m n : Nat) (x : Rat) : Rat := if m * n % 2 = 1 then -x else x
def resF : Nat → List Rat → List Rat → Rat
  | 0, _, _ => 0
  | k + 1, a, b =>
    if a = [] ∨ b = [] then 0 else
    if b.length = 1 then lead b ^ (a.length - 1) else
    if a.length = 1 then lead a ^ (b.length - 1) else
    if a.length < b.length then sgm (a.length - 1) (b.length - 1) (resF k b a) else
    if pMod a b = [] then 0 else sgm (a.length - 1) (b.length - 1) (lead b ^ (a.length - (pMod a b).length) * resF k b (pMod a b))
def pRes (a b : List Rat) : Rat := resF (a.length + 2 * b.length + 1) a b
theorem resF_fuel : ∀ (n m : Nat) (a b : List Rat), Can a → Can b → a.length + 2 * b.length < n → a.length + 2 * b.length < m → resF n a b = resF m a b
  | 0, _, a, b, _, _, h, _ => by omega
  | _, 0, a, b, _, _, _, h => by omega
  | n + 1, m + 1, a, b, ha, hb, h1, h2 => by
    unfold resF
    split
    · rfl
    · rename_i h0
      have hb0 : b ≠ [] := fun e => h0 (.inr e)
      have hbl := List.length_pos_iff.2 hb0
      split
      · rfl
      · split
        · rfl
        · split
          · rw [resF_fuel n m b a hb ha (by omega) (by omega)]
          · obtain ⟨g1, g2, _⟩ := dm_ok ha hb hb0
            split
            · rfl
            · rw [resF_fuel n m b (pMod a b) hb g1.2 (by omega) (by omega)]
theorem pRes_step {a b : List Rat} (ha : Can a) (hb : Can b) : pRes a b =
    if a = [] ∨ b = [] then 0 else
    if b.length = 1 then lead b ^ (a.length - 1) else
    if a.length = 1 then lead a ^ (b.length - 1) else
    if a.length < b.length then sgm (a.length - 1) (b.length - 1) (pRes b a) else
    if pMod a b = [] then 0 else sgm (a.length - 1) (b.length - 1) (lead b ^ (a.length - (pMod a b).length) * pRes b (pMod a b)) := by
  have : pRes a b = resF (a.length + 2 * b.length + 1) a b := rfl
  rw [this]
  unfold resF
  split
  · rfl
  · rename_i h0
    have hb0 : b ≠ [] := fun e => h0 (.inr e)
    have hbl := List.length_pos_iff.2 hb0
    split
    · rfl
    · split
      · rfl
      · split
        · unfold pRes
          rw [resF_fuel (a.length + 2 * b.length) (b.length + 2 * a.length + 1) b a hb ha (by omega) (by omega)]
        · obtain ⟨g1, g2, _⟩ := dm_ok ha hb hb0
          split
          · rfl
          · unfold pRes
            rw [resF_fuel (a.length + 2 * b.length) (b.length + 2 * (pMod a b).length + 1) b (pMod a b) hb g1.2 (by omega) (by omega)]
theorem sgm_zero (m n : Nat) : sgm m n 0 = 0 := by unfold sgm; split <;> grind
theorem sgm_mul (m n : Nat) (x y : Rat) : sgm m n (x * y) = sgm m n x * y := by unfold sgm; split <;> grind
theorem powq_ne {x : Rat} (h : x ≠ 0) : ∀ n : Nat, x ^ n ≠ 0
  | 0 => by rw [Rat.pow_zero]; decide
  | n + 1 => by
    rw [Rat.pow_succ]
    intro e
    rcases Rat.mul_eq_zero.1 e with e | e
    · exact powq_ne h n e
    · exact h e
theorem sgm_ne {m n : Nat} {x : Rat} : sgm m n x = 0 ↔ x = 0 := by
  unfold sgm
  split
  · constructor <;> intro h <;> grind
  · exact Iff.rfl
theorem pG_swap_len {a b : List Rat} (ha : Can a) (hb : Can b) (h : a.length < b.length) : pG a b = pG b a := by
  have hb0 : b ≠ [] := fun e => by rw [e, List.length_nil] at h; omega
  rw [pG_step ha hb hb0, (dm_small ha hb h).2]
/-- The resultant vanishes exactly if there is a common factor. -/
theorem pRes_zero : ∀ (n : Nat) (a b : List Rat), Can a → Can b → a.length + 2 * b.length < n → a ≠ [] → b ≠ [] → (pRes a b = 0 ↔ 1 < (pG a b).length)
  | 0, a, b, _, _, h, _, _ => by omega
  | n + 1, a, b, ha, hb, h, a0, b0 => by
    have hal := List.length_pos_iff.2 a0
    have hbl := List.length_pos_iff.2 b0
    have hpg := (fun e => a0 ((pG_eq_nil ha hb).1 e).1 : pG a b ≠ [])
    have hpl := List.length_pos_iff.2 hpg
    have dv := pG_dvd ha hb
    rw [pRes_step ha hb, if_neg (by rintro (e | e); exact a0 e; exact b0 e)]
    split
    · rename_i h1
      have := (dvd_len hb (can_pG ha hb) dv.2 b0).1
      constructor
      · intro e; exact absurd e (powq_ne (lead_ne hb b0) _)
      · intro e; omega
    · split
      · rename_i h1
        have := (dvd_len ha (can_pG ha hb) dv.1 a0).1
        constructor
        · intro e; exact absurd e (powq_ne (lead_ne ha a0) _)
        · intro e; omega
      · split
        · rename_i h1 h2 h3
          rw [sgm_ne, pRes_zero n b a hb ha (by omega) b0 a0, pG_swap_len ha hb h3]
        · obtain ⟨g1, g2, g3⟩ := dm_ok ha hb b0
          split
          · rename_i h1 h2 h3 h4
            rw [pG_step ha hb b0, h4, pG_nil]
            constructor
            · intro _; omega
            · intro _; rfl
          · rename_i h1 h2 h3 h4
            rw [sgm_ne, pG_step ha hb b0, ← pRes_zero n b (pMod a b) hb g1.2 (by omega) b0 h4]
            constructor
            · intro e
              rcases Rat.mul_eq_zero.1 e with e | e
              · exact absurd e (powq_ne (lead_ne hb b0) _)
              · exact e
            · intro e; rw [e]; grind
end Go.Proofs.YtfbogelmgdojgaaGreat

/- Polynomials over the rational numbers: products step by step. No program in sight. -/
namespace Go.Proofs.YtfbogelmgdojgaaGreat
set_option linter.unusedSimpArgs false
set_option linter.unusedVariables false

theorem cf_cons_pos {c : Rat} {l : List Rat} {n : Nat} (h : n ≠ 0) : cf (c :: l) n = cf l (n - 1) := by
  cases n with
  | zero => exact absurd rfl h
  | succ n => rfl
theorem mulL_snoc : ∀ (l : List Rat) (x : Rat) (b : List Rat) (n : Nat), cf (mulL (l ++ [x]) b) n = cf (mulL l b) n + (if l.length ≤ n then x * cf b (n - l.length) else 0)
  | [], x, b, n => by
    simp only [List.nil_append, mulL, cf_addL, cf_scL, cf_nil, List.length_nil, Nat.zero_le, if_true, Nat.sub_zero]
    have : cf [0] n = 0 := by
      cases n with
      | zero => rfl
      | succ n => rfl
    rw [this]; grind
  | y :: l, x, b, n => by
    have ih := mulL_snoc l x b (n - 1)
    simp only [List.cons_append, mulL, cf_addL, cf_scL, List.length_cons]
    by_cases hn : n = 0
    · subst hn
      simp only [cf_zero]
      rw [if_neg (by omega)]; grind
    · rw [cf_cons_pos hn, cf_cons_pos hn, ih]
      by_cases h : l.length ≤ n - 1
      · rw [if_pos h, if_pos (by omega), show n - (l.length + 1) = n - 1 - l.length from by omega]; grind
      · rw [if_neg h, if_neg (by omega)]; grind
/-- A product, row by row. -/
def mp (a b : List Rat) (i k n : Nat) : Rat := cf (mulL (a.take i) b) n + (if i ≤ n ∧ n < i + k then cf a i * cf b (n - i) else 0)
theorem take_snoc {a : List Rat} {i : Nat} (h : i < a.length) : a.take (i + 1) = a.take i ++ [cf a i] := by
  rw [List.take_add_one, List.getElem?_eq_getElem h, cf_lt h]; rfl
theorem mp_zero (a b : List Rat) (n : Nat) : mp a b 0 0 n = 0 := by
  unfold mp
  rw [List.take_zero, if_neg (by omega)]
  show 0 + 0 = (0 : Rat)
  grind
theorem mp_row {a b : List Rat} {i n : Nat} (h : i < a.length) : mp a b i b.length n = mp a b (i + 1) 0 n := by
  unfold mp
  rw [take_snoc h, mulL_snoc, List.length_take, Nat.min_eq_left (by omega)]
  by_cases h1 : i ≤ n
  · by_cases h2 : n < i + b.length
    · rw [if_pos ⟨h1, h2⟩, if_pos h1, if_neg (by omega)]; grind
    · rw [if_neg (by omega), if_pos h1, if_neg (by omega), cf_ge (l := b) (by omega)]; grind
  · rw [if_neg (by omega), if_neg h1, if_neg (by omega)]; grind
theorem mp_step {a b : List Rat} {i k n : Nat} : mp a b i (k + 1) n = if n = i + k then mp a b i k n + cf a i * cf b k else mp a b i k n := by
  unfold mp
  by_cases h : n = i + k
  · subst h
    rw [if_pos ⟨by omega, by omega⟩, if_pos rfl, if_neg (by omega), show i + k - i = k from by omega]; grind
  · rw [if_neg h]
    by_cases h1 : i ≤ n ∧ n < i + k
    · rw [if_pos h1, if_pos ⟨h1.1, by omega⟩]
    · rw [if_neg h1, if_neg (by omega)]
theorem mp_end {a b : List Rat} {n : Nat} : mp a b a.length 0 n = cf (mulL a b) n := by
  unfold mp
  rw [List.take_length, if_neg (by omega)]; grind
/-- A list with given coefficients, trimmed. -/
theorem tr_of_cf {l m : List Rat} (h : ∀ i, cf l i = cf m i) : tr l = tr m := can_ext (tr_can l) (tr_can m) fun i => by rw [cf_tr, cf_tr, h]
end Go.Proofs.YtfbogelmgdojgaaGreat

/- Polynomials over the rational numbers: division step by step. No program in sight. -/
namespace Go.Proofs.YtfbogelmgdojgaaGreat
set_option linter.unusedSimpArgs false
set_option linter.unusedVariables false

def shl (i : Nat) (l : List Rat) : List Rat := List.replicate i 0 ++ l
theorem cf_shl (i : Nat) (l : List Rat) (n : Nat) : cf (shl i l) n = if i ≤ n then cf l (n - i) else 0 := by
  unfold shl cf
  rw [List.getD_eq_getElem?_getD, List.getD_eq_getElem?_getD]
  by_cases h : i ≤ n
  · rw [if_pos h, List.getElem?_append_right (by simpa using h), List.length_replicate]
  · rw [if_neg h, List.getElem?_append_left (by simp; omega), List.getElem?_replicate, if_pos (by omega)]; rfl
theorem shl_zero (l : List Rat) : shl 0 l = l := rfl
theorem cf_mon (c : Rat) (k n : Nat) : cf (mon c k) n = if n = k then c else 0 := by
  by_cases h : n = k
  · rw [if_pos h, h, mon_top]
  · rw [if_neg h, mon_low c k n h]
theorem cf_mulL_mon (c : Rat) (b : List Rat) : ∀ (k n : Nat), cf (mulL (mon c k) b) n = if k ≤ n then c * cf b (n - k) else 0
  | 0, n => by
    show cf (mulL [c] b) n = _
    have h := mulL_snoc [] c b n
    rw [List.nil_append, List.length_nil] at h
    rw [h]
    show 0 + _ = _
    simp only [Nat.zero_le, if_true, Nat.sub_zero]; grind
  | k + 1, n => by
    have e : mon c (k + 1) = 0 :: mon c k := rfl
    rw [e]
    simp only [mulL, cf_addL, cf_scL]
    cases n with
    | zero => rw [cf_zero, if_neg (by omega)]; grind
    | succ n =>
      rw [cf_succ, cf_mulL_mon c b k n]
      by_cases h : k ≤ n
      · rw [if_pos h, if_pos (by omega), show n + 1 - (k + 1) = n - k from by omega]; grind
      · rw [if_neg h, if_neg (by omega)]; grind
/-- One step of a division. -/
theorem pdiv_step {a b r r' ql : List Rat} {i : Nat} {c : Rat} (h : ∀ x, ev (shl (i + 1) ql) x * ev b x + ev r x = ev a x) (hr : ∀ n, cf r' n = cf r n - (if i ≤ n then c * cf b (n - i) else 0)) (x : Rat) :
    ev (shl i (c :: ql)) x * ev b x + ev r' x = ev a x := by
  have e1 : ev (shl i (c :: ql)) x = ev (shl (i + 1) ql) x + ev (mon c i) x := by
    rw [← ev_addL]
    refine ev_of_cf (fun n => ?_) x
    rw [cf_addL, cf_shl, cf_shl, cf_mon]
    by_cases h1 : n = i
    · subst h1
      rw [if_pos (Nat.le_refl _), Nat.sub_self, cf_zero, if_neg (by omega), if_pos rfl]; grind
    · by_cases h2 : i ≤ n
      · rw [if_pos h2, if_pos (by omega), if_neg h1, cf_cons_pos (by omega), show n - i - 1 = n - (i + 1) from by omega]; grind
      · rw [if_neg h2, if_neg (by omega), if_neg h1]; grind
  have e2 : ev r' x = ev r x - ev (mon c i) x * ev b x := by
    have : ev r' x = ev (addL r (scL (-1) (mulL (mon c i) b))) x := ev_of_cf (fun n => by rw [hr, cf_addL, cf_scL, cf_mulL_mon]; grind) x
    rw [this, ev_addL, ev_scL, ev_mulL]; grind
  have := h x
  rw [e1, e2]; grind
theorem pdiv_top {b r r' : List Rat} {i : Nat} (hb : Can b) (h0 : b ≠ []) (ht : ∀ n, i + b.length ≤ n → cf r n = 0) (hr : ∀ n, cf r' n = cf r n - (if i ≤ n then cf r (i + b.length - 1) / lead b * cf b (n - i) else 0)) (n : Nat) (hn : i + b.length - 1 ≤ n) : cf r' n = 0 := by
  have hb' := List.length_pos_iff.2 h0
  have hl := lead_ne hb h0
  rw [hr, if_pos (by omega)]
  by_cases h : n = i + b.length - 1
  · subst h
    rw [show i + b.length - 1 - i = b.length - 1 from by omega]
    show cf r (i + b.length - 1) - cf r (i + b.length - 1) / lead b * lead b = 0
    grind
  · rw [ht n (by omega), cf_ge (l := b) (by omega)]; grind
/-- What a division ends with. -/
theorem pdiv_end {a b r q : List Rat} (ha : Can a) (hb : Can b) (h0 : b ≠ []) (h : ∀ x, ev q x * ev b x + ev r x = ev a x) (ht : ∀ n, b.length - 1 ≤ n → cf r n = 0) : pDiv a b = tr q ∧ pMod a b = tr r := by
  have hb' := List.length_pos_iff.2 h0
  refine dm_eq ha hb (tr_can _) (tr_can _) ?_ fun x => by rw [ev_tr, ev_tr, h]
  refine Nat.lt_of_not_le fun hl => ?_
  have h1 : tr r ≠ [] := fun e => by rw [e, List.length_nil] at hl; omega
  have h2 := tr_can r h1
  rw [cf_tr, ht _ (by omega)] at h2
  exact h2 rfl
end Go.Proofs.YtfbogelmgdojgaaGreat
