/- Texts PM7 PM8 PM9 PM10 PM11 in one. -/
/- Polynomials over the rational numbers: values determine coefficients. No program in sight. -/
namespace Go.Proofs.YtfbogelmgdojgaaGreat
set_option linter.unusedSimpArgs false
set_option linter.unusedVariables false

def ev : List Rat → Rat → Rat
 | [], _ => 0
 | c :: l, x => c + x * ev l x
def cf (l : List Rat) (i : Nat) : Rat := l.getD i 0
def tr : List Rat → List Rat
 | [] => []
 | c :: l => if tr l = [] ∧ c = 0 then [] else c :: tr l
def Can (l : List Rat) : Prop := l ≠ [] → cf l (l.length - 1) ≠ 0
def addL : List Rat → List Rat → List Rat
 | [], b => b
 | a, [] => a
 | x :: a, y :: b => (x + y) :: addL a b
def scL (c : Rat) (l : List Rat) : List Rat := l.map (c * ·)
def mulL : List Rat → List Rat → List Rat
 | [], _ => []
 | x :: a, b => addL (scL x b) (0 :: mulL a b)

theorem cf_nil (i : Nat) : cf [] i = 0 := rfl
theorem cf_zero (c : Rat) (l : List Rat) : cf (c :: l) 0 = c := rfl
theorem cf_succ (c : Rat) (l : List Rat) (i : Nat) : cf (c :: l) (i + 1) = cf l i := rfl
theorem cf_ge {l : List Rat} {i : Nat} (h : l.length ≤ i) : cf l i = 0 := by
 unfold cf
 rw [List.getD_eq_getElem?_getD, List.getElem?_eq_none h]; rfl
theorem cf_lt {l : List Rat} {i : Nat} (h : i < l.length) : cf l i = l[i] := by
 unfold cf
 rw [List.getD_eq_getElem?_getD, List.getElem?_eq_getElem h]; rfl
theorem Can_nil : Can [] := fun h => absurd rfl h
theorem Can_cons {c : Rat} {l : List Rat} : Can (c :: l) ↔ if l = [] then c ≠ 0 else Can l := by
 cases l with
 | nil => simp [Can, cf]
 | cons d l => simp [Can, cf]
theorem tr_can : ∀ l : List Rat, Can (tr l)
 | [] => Can_nil
 | c :: l => by
   unfold tr
   split
   ·exact Can_nil
   ·rename_i h
    rw [Can_cons]
    split
    ·rename_i h1; exact fun h2 => h ⟨h1, h2⟩
    ·exact tr_can l
theorem tr_of_can : ∀ {l : List Rat}, Can l → tr l = l
 | [], _ => rfl
 | c :: l, h => by
   rw [Can_cons] at h
   unfold tr
   split at h
   ·rename_i h1; subst h1; simp [tr, h]
   ·rename_i h1
    rw [tr_of_can h, if_neg fun h2 => h1 h2.1]
theorem ev_tr : ∀ (l : List Rat) (x : Rat), ev (tr l) x = ev l x
 | [], _ => rfl
 | c :: l, x => by
   have ih := ev_tr l x
   unfold tr
   split
   ·rename_i h
    rw [h.1] at ih
    simp only [ev] at ih ⊢
    rw [← ih, h.2]; grind
   ·simp only [ev, ih]
theorem ev_addL : ∀ (a b : List Rat) (x : Rat), ev (addL a b) x = ev a x + ev b x
 | [], b, x => by simp only [addL, ev]; grind
 | x' :: a, [], x => by simp only [addL, ev]; grind
 | p :: a, q :: b, x => by
   simp only [addL, ev, ev_addL a b x]; grind
theorem ev_scL (c : Rat) : ∀ (l : List Rat) (x : Rat), ev (scL c l) x = c * ev l x
 | [], x => by simp only [scL, List.map_nil, ev]; grind
 | p :: l, x => by
   have ih := ev_scL c l x
   simp only [scL, List.map_cons, ev] at ih ⊢
   rw [ih]; grind
theorem ev_mulL : ∀ (a b : List Rat) (x : Rat), ev (mulL a b) x = ev a x * ev b x
 | [], b, x => by simp only [mulL, ev]; grind
 | p :: a, b, x => by
   simp only [mulL, ev_addL, ev_scL, ev, ev_mulL a b x]; grind
theorem ev_bound : ∀ l : List Rat, ∃ M : Rat, 0 ≤ M ∧ ∀ x, 0 < x → x ≤ 1 → -M ≤ ev l x ∧ ev l x ≤ M
 | [] => ⟨0, by grind, fun x _ _ => by simp only [ev]; grind⟩
 | c :: l => by
   obtain ⟨M, h0, h⟩ := ev_bound l
   refine ⟨M + (if 0 ≤ c then c else -c), ?_, fun x h1 h2 => ?_⟩
   ·split <;> grind
   ·obtain ⟨g1, g2⟩ := h x h1 h2
    simp only [ev]
    generalize ev l x = e at g1 g2 ⊢
    have k1 : x * e ≤ x * M := Rat.mul_le_mul_of_nonneg_left g2 (by grind)
    have k2 : x * (-M) ≤ x * e := Rat.mul_le_mul_of_nonneg_left g1 (by grind)
    have k3 : x * M ≤ 1 * M := Rat.mul_le_mul_of_nonneg_right h2 h0
    split <;> grind
theorem const_zero {c M : Rat} (h0 : 0 ≤ M) (h : ∀ x, 0 < x → x ≤ 1 → c ≤ x * M) : c ≤ 0 := by
 refine Decidable.byContradiction fun hc => ?_
 have hc : 0 < c := by grind
 have hd : 0 < c + M + 1 := by grind
 have hi : 0 < (c + M + 1)⁻¹ := Rat.inv_pos.2 hd
 have hm : (c + M + 1) * (c + M + 1)⁻¹ = 1 := Rat.mul_inv_cancel _ (by grind)
 generalize (c + M + 1)⁻¹ = y at hi hm
 have h1 := h (c * y) (Rat.mul_pos hc hi) (by
  have : c * y ≤ (c + M + 1) * y := Rat.mul_le_mul_of_nonneg_right (by grind) (by grind)
  grind)
 have h2 : c * (c + M + 1) ≤ c * y * M * (c + M + 1) := Rat.mul_le_mul_of_nonneg_right h1 (by grind)
 have h3 : c * y * M * (c + M + 1) = c * M := by grind
 rw [h3] at h2
 have h4 : 0 < c * c := Rat.mul_pos hc hc
 grind
theorem ev_zero : ∀ l : List Rat, (∀ x, 0 < x → x ≤ 1 → ev l x = 0) → ∀ c ∈ l, c = 0
 | [], _, c, hc => by simp at hc
 | c :: l, h, d, hd => by
   obtain ⟨M, h0, hM⟩ := ev_bound l
   have hc : c = 0 := by
    have h1 : c ≤ 0 := const_zero h0 fun x x0 x1 => by
     have := h x x0 x1
     simp only [ev] at this
     have k2 : x * (-M) ≤ x * ev l x := Rat.mul_le_mul_of_nonneg_left (hM x x0 x1).1 (by grind)
     grind
    have h2 : -c ≤ 0 := const_zero h0 fun x x0 x1 => by
     have := h x x0 x1
     simp only [ev] at this
     have k2 : x * ev l x ≤ x * M := Rat.mul_le_mul_of_nonneg_left (hM x x0 x1).2 (by grind)
     grind
    grind
   rcases List.mem_cons.1 hd with rfl | hd
   ·exact hc
   ·refine ev_zero l (fun x x0 x1 => ?_) d hd
    have := h x x0 x1
    simp only [ev, hc] at this
    have : x * ev l x = 0 := by grind
    rcases Rat.mul_eq_zero.1 this with e | e
    ·grind
    ·exact e
theorem cf_addL : ∀ (a b : List Rat) (i : Nat), cf (addL a b) i = cf a i + cf b i
 | [], b, i => by simp only [addL, cf_nil]; grind
 | x :: a, [], i => by simp only [addL, cf_nil]; grind
 | x :: a, y :: b, 0 => rfl
 | x :: a, y :: b, i + 1 => by simp only [addL, cf_succ, cf_addL a b i]
theorem cf_scL (c : Rat) : ∀ (l : List Rat) (i : Nat), cf (scL c l) i = c * cf l i
 | [], i => by simp only [scL, List.map_nil, cf_nil]; grind
 | x :: l, 0 => rfl
 | x :: l, i + 1 => by
   have := cf_scL c l i
   simp only [scL, List.map_cons, cf_succ] at this ⊢
   exact this
theorem cf_all_zero {l : List Rat} (h : ∀ c ∈ l, c = 0) (i : Nat) : cf l i = 0 := by
 by_cases hi : i < l.length
 ·rw [cf_lt hi]; exact h _ (List.getElem_mem hi)
 ·exact cf_ge (by omega)
theorem cf_of_ev {a b : List Rat} (h : ∀ x, ev a x = ev b x) (i : Nat) : cf a i = cf b i := by
 have h1 := ev_zero (addL a (scL (-1) b)) fun x _ _ => by rw [ev_addL, ev_scL, h]; grind
 have h2 := cf_all_zero h1 i
 rw [cf_addL, cf_scL] at h2
 grind
theorem can_len {a b : List Rat} (ha : Can a) (h : ∀ i, cf a i = cf b i) : a.length ≤ b.length := by
 refine Nat.le_of_not_lt fun hl => ?_
 have h1 : a ≠ [] := fun e => by rw [e] at hl; simp at hl
 have h2 := ha h1
 rw [h, cf_ge (by omega)] at h2
 exact h2 rfl
theorem list_of_cf {a b : List Rat} (hl : a.length = b.length) (h : ∀ i, cf a i = cf b i) : a = b := by
 refine List.ext_getElem hl fun i h1 h2 => ?_
 rw [← cf_lt h1, ← cf_lt h2, h]
theorem can_ext {a b : List Rat} (ha : Can a) (hb : Can b) (h : ∀ i, cf a i = cf b i) : a = b :=
 list_of_cf (Nat.le_antisymm (can_len ha h) (can_len hb fun i => (h i).symm)) h
theorem ev_inj {a b : List Rat} (ha : Can a) (hb : Can b) (h : ∀ x, ev a x = ev b x) : a = b := can_ext ha hb (cf_of_ev h)
theorem cf_tr (l : List Rat) (i : Nat) : cf (tr l) i = cf l i := cf_of_ev (fun x => ev_tr l x) i
theorem tr_len : ∀ l : List Rat, (tr l).length ≤ l.length
 | [] => Nat.le_refl _
 | c :: l => by
   have := tr_len l
   unfold tr
   split
   ·simp
   ·simp; exact this
theorem tr_at {l : List Rat} {n : Nat} (hn : n ≤ l.length) (h0 : ∀ i, n ≤ i → cf l i = 0) (h1 : n ≠ 0 → cf l (n - 1) ≠ 0) : tr l = l.take n := by
 have hc : ∀ i, cf (l.take n) i = cf l i := fun i => by
  by_cases hi : i < n
  ·unfold cf
   rw [List.getD_eq_getElem?_getD, List.getD_eq_getElem?_getD, List.getElem?_take, if_pos hi]
  ·rw [h0 i (by omega), cf_ge]; rw [List.length_take]; omega
 refine can_ext (tr_can l) (fun h => ?_) fun i => by rw [cf_tr, hc]
 have hl : (l.take n).length = n := by rw [List.length_take]; omega
 rw [hl, hc]
 refine h1 fun e => h ?_
 rw [e]; rfl
/- The operations. -/
def pAdd (a b : List Rat) : List Rat := tr (addL a b)
def pSc (c : Rat) (a : List Rat) : List Rat := tr (scL c a)
def pSub (a b : List Rat) : List Rat := tr (addL a (scL (-1) b))
def pMul (a b : List Rat) : List Rat := tr (mulL a b)
theorem ev_pAdd (a b : List Rat) (x : Rat) : ev (pAdd a b) x = ev a x + ev b x := by unfold pAdd; rw [ev_tr, ev_addL]
theorem ev_pSc (c : Rat) (a : List Rat) (x : Rat) : ev (pSc c a) x = c * ev a x := by unfold pSc; rw [ev_tr, ev_scL]
theorem ev_pSub (a b : List Rat) (x : Rat) : ev (pSub a b) x = ev a x - ev b x := by unfold pSub; rw [ev_tr, ev_addL, ev_scL]; grind
theorem ev_pMul (a b : List Rat) (x : Rat) : ev (pMul a b) x = ev a x * ev b x := by unfold pMul; rw [ev_tr, ev_mulL]
theorem can_pAdd (a b : List Rat) : Can (pAdd a b) := tr_can _
theorem can_pSc (c : Rat) (a : List Rat) : Can (pSc c a) := tr_can _
theorem can_pSub (a b : List Rat) : Can (pSub a b) := tr_can _
theorem can_pMul (a b : List Rat) : Can (pMul a b) := tr_can _
theorem cf_pAdd (a b : List Rat) (i : Nat) : cf (pAdd a b) i = cf a i + cf b i := by unfold pAdd; rw [cf_tr, cf_addL]
theorem cf_pSc (c : Rat) (a : List Rat) (i : Nat) : cf (pSc c a) i = c * cf a i := by unfold pSc; rw [cf_tr, cf_scL]
theorem cf_pSub (a b : List Rat) (i : Nat) : cf (pSub a b) i = cf a i - cf b i := by unfold pSub; rw [cf_tr, cf_addL, cf_scL]; grind
/- Lengths. -/
theorem len_addL : ∀ a b : List Rat, (addL a b).length = max a.length b.length
 | [], b => by simp [addL]
 | x :: a, [] => by simp [addL]
 | x :: a, y :: b => by simp only [addL, List.length_cons, len_addL a b]; omega
theorem len_scL (c : Rat) (l : List Rat) : (scL c l).length = l.length := by simp [scL]
theorem len_mulL : ∀ a b : List Rat, b ≠ [] → (mulL a b).length = if a = [] then 0 else a.length + b.length - 1
 | [], b, _ => by simp [mulL]
 | x :: a, b, hb => by
   have := List.length_pos_iff.2 hb
   simp only [mulL, len_addL, len_scL, List.length_cons, len_mulL a b hb]
   split
   ·rename_i h; subst h; simp; omega
   ·rename_i h
    have := List.length_pos_iff.2 h
    simp; omega
theorem top_mulL : ∀ a b : List Rat, a ≠ [] → b ≠ [] → cf (mulL a b) (a.length + b.length - 2) = cf a (a.length - 1) * cf b (b.length - 1)
 | [], b, h, _ => absurd rfl h
 | x :: a, b, _, hb => by
   have hb' := List.length_pos_iff.2 hb
   simp only [mulL, cf_addL, cf_scL, List.length_cons]
   by_cases ha : a = []
   ·subst ha
    rw [show ([] : List Rat).length + 1 + b.length - 2 = b.length - 1 from by simp; omega]
    simp only [mulL, List.length_nil, Nat.zero_add, Nat.sub_self, cf_zero]
    have : cf [0] (b.length - 1) = 0 := by
     cases b.length - 1 with
     | zero => rfl
     | succ n => rfl
    rw [this]; grind
   ·have ha' := List.length_pos_iff.2 ha
    rw [show a.length + 1 + b.length - 2 = (a.length + b.length - 2) + 1 from by omega, cf_succ, top_mulL a b ha hb, cf_ge (by omega : b.length ≤ _)]
    rw [show a.length + 1 - 1 = (a.length - 1) + 1 from by omega, cf_succ]
    grind
theorem mulL_can {a b : List Rat} (ha : Can a) (hb : Can b) (h1 : a ≠ []) (h2 : b ≠ []) : Can (mulL a b) := by
 intro _
 rw [len_mulL a b h2, if_neg h1, show a.length + b.length - 1 - 1 = a.length + b.length - 2 from by omega, top_mulL a b h1 h2]
 intro h
 rcases Rat.mul_eq_zero.1 h with e | e
 ·exact ha h1 e
 ·exact hb h2 e
theorem len_pMul {a b : List Rat} (ha : Can a) (hb : Can b) (h1 : a ≠ []) (h2 : b ≠ []) : (pMul a b).length = a.length + b.length - 1 := by
 unfold pMul
 rw [tr_of_can (mulL_can ha hb h1 h2), len_mulL a b h2, if_neg h1]
theorem mulL_nil : ∀ a : List Rat, tr (mulL a []) = []
 | a => can_ext (tr_can _) Can_nil fun i => by
   rw [cf_tr]
   have : ∀ x, ev (mulL a []) x = ev [] x := fun x => by rw [ev_mulL]; simp only [ev]; grind
   exact cf_of_ev this i
theorem pMul_nil_r (a : List Rat) : pMul a [] = [] := mulL_nil a
theorem pMul_nil_l (b : List Rat) : pMul [] b = [] := rfl
theorem pMul_eq_nil {a b : List Rat} (ha : Can a) (hb : Can b) : pMul a b = [] ↔ a = [] ∨ b = [] := by
 constructor
 ·intro h
  by_cases h1 : a = []
  ·exact .inl h1
  ·by_cases h2 : b = []
   ·exact .inr h2
   ·have := len_pMul ha hb h1 h2
    rw [h] at this
    have := List.length_pos_iff.2 h1
    have := List.length_pos_iff.2 h2
    simp at *; omega
 ·rintro (h | h)
  ·rw [h]; rfl
  ·rw [h]; exact pMul_nil_r a
theorem len_pAdd (a b : List Rat) : (pAdd a b).length ≤ max a.length b.length := Nat.le_trans (tr_len _) (by rw [len_addL]; exact Nat.le_refl _)
theorem len_pSub (a b : List Rat) : (pSub a b).length ≤ max a.length b.length := Nat.le_trans (tr_len _) (by rw [len_addL, len_scL]; exact Nat.le_refl _)
theorem len_pSc (c : Rat) (a : List Rat) : (pSc c a).length ≤ a.length := Nat.le_trans (tr_len _) (by rw [len_scL]; exact Nat.le_refl _)
theorem len_pSc' {c : Rat} {a : List Rat} (hc : c ≠ 0) (ha : Can a) : (pSc c a).length = a.length := by
 refine Nat.le_antisymm (len_pSc c a) ?_
 refine Nat.le_of_not_lt fun h => ?_
 have h1 : a ≠ [] := fun e => by rw [e] at h; simp at h
 have := ha h1
 have h2 := cf_pSc c a (a.length - 1)
 rw [cf_ge (by omega)] at h2
 rcases Rat.mul_eq_zero.1 h2.symm with e | e
 ·exact hc e
 ·exact this e
end Go.Proofs.YtfbogelmgdojgaaGreat


/- Polynomials over the rational numbers: division, greatest common divisors. No program in sight. -/
namespace Go.Proofs.YtfbogelmgdojgaaGreat
set_option linter.unusedSimpArgs false
set_option linter.unusedVariables false

def lead (a : List Rat) : Rat := cf a (a.length - 1)
def mon (c : Rat) (k : Nat) : List Rat := List.replicate k 0 ++ [c]
def dmF : Nat → List Rat → List Rat → List Rat → List Rat × List Rat
 | 0, q, r, _ => (q, r)
 | n + 1, q, r, b => if r.length < b.length then (q, r) else
   dmF n (pAdd q (mon (lead r / lead b) (r.length - b.length))) (pSub r (pMul (mon (lead r / lead b) (r.length - b.length)) b)) b
def pDM (a b : List Rat) : List Rat × List Rat := dmF a.length [] a b
def pDiv (a b : List Rat) : List Rat := (pDM a b).1
def pMod (a b : List Rat) : List Rat := (pDM a b).2
theorem lead_ne {a : List Rat} (h : Can a) (h0 : a ≠ []) : lead a ≠ 0 := h h0
theorem mon_len (c : Rat) (k : Nat) : (mon c k).length = k + 1 := by simp [mon]
theorem mon_ne (c : Rat) (k : Nat) : mon c k ≠ [] := by simp [mon]
theorem mon_top (c : Rat) (k : Nat) : cf (mon c k) k = c := by
 rw [cf_lt (by rw [mon_len]; omega)]
 simp [mon]
theorem mon_low (c : Rat) (k i : Nat) (h : i ≠ k) : cf (mon c k) i = 0 := by
 by_cases hi : i < k
 ·rw [cf_lt (by rw [mon_len]; omega)]
  simp [mon, List.getElem_append_left (show i < (List.replicate k (0 : Rat)).length by simpa using hi)]
 ·exact cf_ge (by rw [mon_len]; omega)
theorem mon_can {c : Rat} (k : Nat) (hc : c ≠ 0) : Can (mon c k) := fun _ => by
 rw [mon_len, Nat.add_sub_cancel, mon_top]; exact hc
theorem len_lt_of_top {s : List Rat} {n : Nat} (hs : Can s) (hl : s.length ≤ n + 1) (h : cf s n = 0) : s.length ≤ n := by
 refine Nat.le_of_not_lt fun h' => ?_
 have h1 : s ≠ [] := fun e => by rw [e] at h'; simp at h'
 have := hs h1
 rw [show s.length - 1 = n from by omega] at this
 exact this h
theorem dm_step {r b : List Rat} (hr : Can r) (hb : Can b) (h0 : b ≠ []) (hl : b.length ≤ r.length) :
 (pSub r (pMul (mon (lead r / lead b) (r.length - b.length)) b)).length < r.length := by
 have hb' := List.length_pos_iff.2 h0
 have hr0 : r ≠ [] := fun e => by rw [e, List.length_nil] at hl; omega
 have lb := lead_ne hb h0
 have lr := lead_ne hr hr0
 have hc : lead r / lead b ≠ 0 := by grind
 obtain ⟨c, hcE⟩ : ∃ c, lead r / lead b = c := ⟨_, rfl⟩
 rw [hcE] at hc ⊢
 have hm := len_pMul (mon_can (r.length - b.length) hc) hb (mon_ne _ _) h0
 rw [mon_len] at hm
 have h1 := len_pSub r (pMul (mon c (r.length - b.length)) b)
 have h2 : (pSub r (pMul (mon c (r.length - b.length)) b)).length ≤ r.length - 1 := by
  refine len_lt_of_top (can_pSub _ _) (by omega) ?_
  rw [cf_pSub]
  unfold pMul
  rw [cf_tr]
  have := top_mulL (mon c (r.length - b.length)) b (mon_ne _ _) h0
  rw [mon_len, show r.length - b.length + 1 + b.length - 2 = r.length - 1 from by omega, show r.length - b.length + 1 - 1 = r.length - b.length from by omega, mon_top] at this
  rw [this]
  show lead r - c * lead b = 0
  rw [← hcE]; grind
 omega
theorem dmF_ok {b : List Rat} (hb : Can b) (h0 : b ≠ []) : ∀ (n : Nat) (q r : List Rat), Can q → Can r → r.length ≤ n →
 (Can (dmF n q r b).1 ∧ Can (dmF n q r b).2) ∧ (dmF n q r b).2.length < b.length ∧ ∀ x, ev (dmF n q r b).1 x * ev b x + ev (dmF n q r b).2 x = ev q x * ev b x + ev r x
 | 0, q, r, hq, hr, hl => by
   have := List.length_pos_iff.2 h0
   exact ⟨⟨hq, hr⟩, by show r.length < _; omega, fun x => rfl⟩
 | n + 1, q, r, hq, hr, hl => by
   unfold dmF
   split
   ·rename_i h; exact ⟨⟨hq, hr⟩, h, fun x => rfl⟩
   ·rename_i h
    have hs := dm_step hr hb h0 (by omega)
    obtain ⟨h1, h2, h3⟩ := dmF_ok hb h0 n (pAdd q (mon (lead r / lead b) (r.length - b.length))) (pSub r (pMul (mon (lead r / lead b) (r.length - b.length)) b)) (can_pAdd _ _) (can_pSub _ _) (by omega)
    refine ⟨h1, h2, fun x => ?_⟩
    rw [h3, ev_pAdd, ev_pSub, ev_pMul]; grind
theorem dm_ok {a b : List Rat} (ha : Can a) (hb : Can b) (h0 : b ≠ []) : (Can (pDiv a b) ∧ Can (pMod a b)) ∧ (pMod a b).length < b.length ∧ ∀ x, ev (pDiv a b) x * ev b x + ev (pMod a b) x = ev a x := by
 obtain ⟨h1, h2, h3⟩ := dmF_ok hb h0 a.length [] a Can_nil ha (Nat.le_refl _)
 refine ⟨h1, h2, fun x => ?_⟩
 have h4 := h3 x
 have h5 : ev [] x = 0 := rfl
 rw [h5] at h4
 show ev (dmF a.length [] a b).1 x * ev b x + ev (dmF a.length [] a b).2 x = ev a x
 rw [h4]; grind
theorem pdm_uniq {a b q r q' r' : List Rat} (hq : Can q) (hr : Can r) (hq' : Can q') (hr' : Can r') (hb : Can b) (hl : r.length < b.length) (hl' : r'.length < b.length)
 (h : ∀ x, ev q x * ev b x + ev r x = ev a x) (h' : ∀ x, ev q' x * ev b x + ev r' x = ev a x) : q = q' ∧ r = r' := by
 have h0 : b ≠ [] := fun e => by rw [e] at hl; simp at hl
 have e1 : pMul (pSub q q') b = pSub r' r := ev_inj (can_pMul _ _) (can_pSub _ _) fun x => by
  have g1 := h x
  have g2 := h' x
  rw [ev_pMul, ev_pSub, ev_pSub]; grind
 have e2 : pSub q q' = [] := by
  refine Decidable.byContradiction fun hd => ?_
  have g1 := len_pMul (can_pSub q q') hb hd h0
  have g2 := List.length_pos_iff.2 hd
  have g3 := len_pSub r' r
  rw [e1] at g1
  omega
 have e3 : q = q' := ev_inj hq hq' fun x => by
  have := ev_pSub q q' x
  rw [e2] at this
  simp only [ev] at this
  grind
 subst e3
 exact ⟨rfl, ev_inj hr hr' fun x => by
  have g1 := h x
  have g2 := h' x
  grind⟩
theorem dm_eq {a b q r : List Rat} (ha : Can a) (hb : Can b) (hq : Can q) (hr : Can r) (hl : r.length < b.length) (h : ∀ x, ev q x * ev b x + ev r x = ev a x) : pDiv a b = q ∧ pMod a b = r := by
 have h0 : b ≠ [] := fun e => by rw [e] at hl; simp at hl
 obtain ⟨h1, h2, h3⟩ := dm_ok ha hb h0
 exact pdm_uniq h1.1 h1.2 hq hr hb h2 hl h3 h
theorem dm_small {a b : List Rat} (ha : Can a) (hb : Can b) (h : a.length < b.length) : pDiv a b = [] ∧ pMod a b = a :=
 dm_eq ha hb Can_nil ha h fun x => by simp only [ev]; grind
def pMonic (a : List Rat) : List Rat := if a = [] then [] else pSc (1 / lead a) a
theorem pMonic_nil : pMonic [] = [] := rfl
theorem can_pMonic (a : List Rat) : Can (pMonic a) := by
 unfold pMonic
 split
 ·exact Can_nil
 ·exact can_pSc _ _
theorem ev_pMonic {a : List Rat} (h : a ≠ []) (x : Rat) : ev (pMonic a) x = 1 / lead a * ev a x := by
 unfold pMonic
 rw [if_neg h, ev_pSc]
theorem len_pMonic {a : List Rat} (ha : Can a) : (pMonic a).length = a.length := by
 unfold pMonic
 split
 ·rename_i h; rw [h]
 ·rename_i h
  refine len_pSc' ?_ ha
  have := lead_ne ha h
  grind
theorem lead_pSc {c : Rat} {a : List Rat} (hc : c ≠ 0) (ha : Can a) : lead (pSc c a) = c * lead a := by
 unfold lead
 rw [len_pSc' hc ha, cf_pSc]
theorem pMonic_pSc {c : Rat} {a : List Rat} (hc : c ≠ 0) (ha : Can a) : pMonic (pSc c a) = pMonic a := by
 by_cases h : a = []
 ·subst h; rfl
 ·have h' : pSc c a ≠ [] := fun e => by
   have := len_pSc' hc ha
   rw [e] at this
   exact h (List.eq_nil_of_length_eq_zero this.symm)
  refine ev_inj (can_pMonic _) (can_pMonic _) fun x => ?_
  rw [ev_pMonic h', ev_pMonic h, lead_pSc hc ha, ev_pSc]
  have := lead_ne ha h
  grind
def gcF : Nat → List Rat → List Rat → List Rat
 | 0, a, _ => a
 | n + 1, a, b => if b = [] then a else gcF n b (pMod a b)
def pG (a b : List Rat) : List Rat := gcF (b.length + 1) a b
def pGcd (a b : List Rat) : List Rat := pMonic (pG a b)
theorem gcF_fuel : ∀ (n m : Nat) (a b : List Rat), Can a → Can b → b.length < n → b.length < m → gcF n a b = gcF m a b
 | 0, _, _, b, _, _, h, _ => by omega
 | _, 0, _, b, _, _, _, h => by omega
 | n + 1, m + 1, a, b, ha, hb, h1, h2 => by
   unfold gcF
   split
   ·rfl
   ·rename_i h0
    obtain ⟨g1, g2, _⟩ := dm_ok ha hb h0
    exact gcF_fuel n m b (pMod a b) hb g1.2 (by omega) (by omega)
theorem pG_nil (a : List Rat) : pG a [] = a := rfl
theorem pG_step {a b : List Rat} (ha : Can a) (hb : Can b) (h0 : b ≠ []) : pG a b = pG b (pMod a b) := by
 obtain ⟨g1, g2, _⟩ := dm_ok ha hb h0
 have : pG a b = gcF b.length b (pMod a b) := if_neg h0
 rw [this]
 exact gcF_fuel _ _ _ _ hb g1.2 g2 (by omega)
theorem euclid {Q : List Rat → List Rat → Prop} (h0 : ∀ a, Can a → Q a []) (h1 : ∀ a b, Can a → Can b → b ≠ [] → Q b (pMod a b) → Q a b) : ∀ (n : Nat) (a b : List Rat), Can a → Can b → b.length < n → Q a b
 | 0, _, b, _, _, h => by omega
 | n + 1, a, b, ha, hb, h => by
   by_cases hb0 : b = []
   ·subst hb0; exact h0 a ha
   ·obtain ⟨g1, g2, _⟩ := dm_ok ha hb hb0
    exact h1 a b ha hb hb0 (euclid h0 h1 n b (pMod a b) hb g1.2 (by omega))
theorem can_pG {a b : List Rat} (ha : Can a) (hb : Can b) : Can (pG a b) :=
 euclid (Q := fun a b => Can (pG a b)) (fun a ha => by rw [pG_nil]; exact ha) (fun a b ha hb h ih => by rw [pG_step ha hb h]; exact ih) _ a b ha hb (Nat.lt_succ_self _)
def pDvd (b a : List Rat) : Prop := ∃ q, Can q ∧ ∀ x, ev a x = ev q x * ev b x
theorem pDvd_refl (a : List Rat) : pDvd a a := ⟨[1], by rw [Can_cons]; simp, fun x => by simp only [ev]; grind⟩
theorem pDvd_nil (a : List Rat) : pDvd a [] := ⟨[], Can_nil, fun x => by simp only [ev]; grind⟩
theorem pDvd_trans {a b c : List Rat} (h : pDvd a b) (g : pDvd b c) : pDvd a c := by
 obtain ⟨q, h1, h2⟩ := h
 obtain ⟨p, g1, g2⟩ := g
 exact ⟨pMul p q, can_pMul _ _, fun x => by rw [g2, h2, ev_pMul]; grind⟩
theorem pG_dvd {a b : List Rat} (ha : Can a) (hb : Can b) : pDvd (pG a b) a ∧ pDvd (pG a b) b :=
 euclid (Q := fun a b => pDvd (pG a b) a ∧ pDvd (pG a b) b) (fun a ha => by rw [pG_nil]; exact ⟨pDvd_refl a, pDvd_nil a⟩) (fun a b ha hb h ih => by
  rw [pG_step ha hb h]
  obtain ⟨⟨q, q1, q2⟩, ⟨p, p1, p2⟩⟩ := ih
  obtain ⟨_, _, g⟩ := dm_ok ha hb h
  refine ⟨⟨pAdd (pMul (pDiv a b) q) p, can_pAdd _ _, fun x => ?_⟩, ⟨q, q1, q2⟩⟩
  have := g x
  have := q2 x
  have := p2 x
  rw [ev_pAdd, ev_pMul]; grind) _ a b ha hb (Nat.lt_succ_self _)
theorem dvd_pG {a b d : List Rat} (ha : Can a) (hb : Can b) (h1 : pDvd d a) (h2 : pDvd d b) : pDvd d (pG a b) :=
 euclid (Q := fun a b => pDvd d a → pDvd d b → pDvd d (pG a b)) (fun a ha h _ => by rw [pG_nil]; exact h) (fun a b ha hb h ih g1 g2 => by
  rw [pG_step ha hb h]
  obtain ⟨_, _, g⟩ := dm_ok ha hb h
  refine ih g2 ?_
  obtain ⟨q, q1, q2⟩ := g1
  obtain ⟨p, p1, p2⟩ := g2
  refine ⟨pSub q (pMul (pDiv a b) p), can_pSub _ _, fun x => ?_⟩
  have := g x
  have := q2 x
  have := p2 x
  rw [ev_pSub, ev_pMul]; grind) _ a b ha hb (Nat.lt_succ_self _) h1 h2
theorem pG_eq_nil {a b : List Rat} (ha : Can a) (hb : Can b) : pG a b = [] ↔ a = [] ∧ b = [] := by
 constructor
 ·intro h
  obtain ⟨⟨q, q1, q2⟩, ⟨p, p1, p2⟩⟩ := pG_dvd ha hb
  rw [h] at q2 p2
  exact ⟨ev_inj ha Can_nil fun x => by rw [q2]; simp only [ev]; grind, ev_inj hb Can_nil fun x => by rw [p2]; simp only [ev]; grind⟩
 ·rintro ⟨rfl, rfl⟩; rfl
theorem dvd_len {a b : List Rat} (ha : Can a) (hb : Can b) (h : pDvd b a) (h0 : a ≠ []) : b.length ≤ a.length ∧ b ≠ [] := by
 obtain ⟨q, q1, q2⟩ := h
 have e : a = pMul q b := ev_inj ha (can_pMul _ _) fun x => by rw [q2, ev_pMul]
 have h1 : q ≠ [] := fun h => h0 (by rw [e, h]; rfl)
 have h2 : b ≠ [] := fun h => h0 (by rw [e, h]; exact pMul_nil_r q)
 have := len_pMul q1 hb h1 h2
 have := List.length_pos_iff.2 h1
 rw [← e] at *
 exact ⟨by omega, h2⟩
theorem mod_of_dvd {a b : List Rat} (ha : Can a) (hb : Can b) (h0 : b ≠ []) (h : pDvd b a) : pMod a b = [] := by
 obtain ⟨q, q1, q2⟩ := h
 exact (dm_eq ha hb q1 Can_nil (List.length_pos_iff.2 h0) fun x => by rw [q2]; simp only [ev]; grind).2
theorem dvd_of_mod {a b : List Rat} (ha : Can a) (hb : Can b) (h0 : b ≠ []) (h : pMod a b = []) : pDvd b a := by
 obtain ⟨g1, _, g⟩ := dm_ok ha hb h0
 refine ⟨pDiv a b, g1.1, fun x => ?_⟩
 rw [← g x, h]; simp only [ev]; grind
theorem mod_mul {a b c : List Rat} (ha : Can a) (hb : Can b) (hc : Can c) (h0 : b ≠ []) (h1 : c ≠ []) : pMod (pMul a c) (pMul b c) = pMul (pMod a b) c := by
 obtain ⟨g1, g2, g⟩ := dm_ok ha hb h0
 have hlb := len_pMul hb hc h0 h1
 have hc' := List.length_pos_iff.2 h1
 have hb' := List.length_pos_iff.2 h0
 refine (dm_eq (can_pMul _ _) (can_pMul _ _) g1.1 (can_pMul _ _) ?_ fun x => ?_).2
 ·by_cases hm : pMod a b = []
  ·rw [hm, pMul_nil_l, hlb]; show 0 < _; omega
  ·rw [len_pMul g1.2 hc hm h1, hlb]
   have := List.length_pos_iff.2 hm
   omega
 ·have := g x
  rw [ev_pMul, ev_pMul, ev_pMul]; grind
theorem pG_mul {a b c : List Rat} (ha : Can a) (hb : Can b) (hc : Can c) (h1 : c ≠ []) : pG (pMul a c) (pMul b c) = pMul (pG a b) c :=
 euclid (Q := fun a b => pG (pMul a c) (pMul b c) = pMul (pG a b) c) (fun a ha => by rw [pMul_nil_l, pG_nil, pG_nil]) (fun a b ha hb h ih => by
  have hne : pMul b c ≠ [] := fun e => by
   rcases (pMul_eq_nil hb hc).1 e with e | e
   ·exact h e
   ·exact h1 e
  rw [pG_step (can_pMul _ _) (can_pMul _ _) hne, mod_mul ha hb hc h h1, ih, pG_step ha hb h]) _ a b ha hb (Nat.lt_succ_self _)
theorem lead_pMul {a b : List Rat} (ha : Can a) (hb : Can b) (h1 : a ≠ []) (h2 : b ≠ []) : lead (pMul a b) = lead a * lead b := by
 have := List.length_pos_iff.2 h1
 have := List.length_pos_iff.2 h2
 unfold lead
 rw [len_pMul ha hb h1 h2, show a.length + b.length - 1 - 1 = a.length + b.length - 2 from by omega]
 unfold pMul
 rw [cf_tr, top_mulL a b h1 h2]
theorem lead_pMonic {a : List Rat} (ha : Can a) (h : a ≠ []) : lead (pMonic a) = 1 := by
 have := lead_ne ha h
 unfold pMonic
 rw [if_neg h, lead_pSc (by grind) ha]; grind
end Go.Proofs.YtfbogelmgdojgaaGreat


/- Polynomials over the rational numbers: derivatives, shifts, cofactors. No program in sight. -/
namespace Go.Proofs.YtfbogelmgdojgaaGreat
set_option linter.unusedSimpArgs false
set_option linter.unusedVariables false

theorem ev_of_cf {a b : List Rat} (h : ∀ i, cf a i = cf b i) (x : Rat) : ev a x = ev b x := by
 rw [← ev_tr a, ← ev_tr b, can_ext (tr_can a) (tr_can b) fun i => by rw [cf_tr, cf_tr, h]]
def dL : List Rat → List Rat
 | [] => []
 | _ :: l => addL l (0 :: dL l)
def pDiff (a : List Rat) : List Rat := tr (dL a)
theorem cf_dL : ∀ (l : List Rat) (i : Nat), cf (dL l) i = ((i + 1 : Nat) : Rat) * cf l (i + 1)
 | [], i => by simp only [dL, cf_nil]; grind
 | c :: l, 0 => by
   simp only [dL, cf_addL, cf_zero, cf_succ]
   have : ((0 + 1 : Nat) : Rat) = 1 := rfl
   rw [this]; grind
 | c :: l, i + 1 => by
   simp only [dL, cf_addL, cf_succ, cf_dL l i]
   have : ((i + 1 + 1 : Nat) : Rat) = ((i + 1 : Nat) : Rat) + 1 := by rw [Rat.natCast_add (i + 1) 1]; rfl
   rw [this]; grind
theorem cf_pDiff (a : List Rat) (i : Nat) : cf (pDiff a) i = ((i + 1 : Nat) : Rat) * cf a (i + 1) := by unfold pDiff; rw [cf_tr, cf_dL]
theorem can_pDiff (a : List Rat) : Can (pDiff a) := tr_can _
theorem len_dL : ∀ l : List Rat, (dL l).length ≤ l.length - 1 ∨ (dL l).length ≤ l.length
 | [] => .inl (Nat.le_refl _)
 | c :: l => by
   have := len_dL l
   right
   simp only [dL, len_addL, List.length_cons]
   omega
theorem ev_dL_add (a b : List Rat) (x : Rat) : ev (dL (addL a b)) x = ev (dL a) x + ev (dL b) x := by
 rw [← ev_addL]
 exact ev_of_cf (fun i => by rw [cf_dL, cf_addL, cf_addL, cf_dL, cf_dL]; grind) x
theorem ev_dL_sc (c : Rat) (a : List Rat) (x : Rat) : ev (dL (scL c a)) x = c * ev (dL a) x := by
 rw [← ev_scL]
 exact ev_of_cf (fun i => by rw [cf_dL, cf_scL, cf_scL, cf_dL]; grind) x
theorem ev_dL_cons (c : Rat) (l : List Rat) (x : Rat) : ev (dL (c :: l)) x = ev l x + x * ev (dL l) x := by
 simp only [dL, ev_addL, ev]; grind
theorem ev_dL_tr (a : List Rat) (x : Rat) : ev (dL (tr a)) x = ev (dL a) x := ev_of_cf (fun i => by rw [cf_dL, cf_dL, cf_tr]) x
theorem ev_dL_mul : ∀ (a b : List Rat) (x : Rat), ev (dL (mulL a b)) x = ev (dL a) x * ev b x + ev a x * ev (dL b) x
 | [], b, x => by simp only [mulL, dL, ev]; grind
 | p :: a, b, x => by
   have ih := ev_dL_mul a b x
   simp only [mulL]
   rw [ev_dL_add, ev_dL_sc, ev_dL_cons, ev_dL_cons, ih, ev_mulL]
   simp only [ev]; grind
theorem ev_pDiff (a : List Rat) (x : Rat) : ev (pDiff a) x = ev (dL a) x := ev_tr _ _
theorem ev_pDiff_sc (c : Rat) (a : List Rat) (x : Rat) : ev (pDiff (pSc c a)) x = c * ev (pDiff a) x := by
 unfold pSc; rw [ev_pDiff, ev_pDiff, ev_dL_tr, ev_dL_sc]
theorem ev_pDiff_mul (a b : List Rat) (x : Rat) : ev (pDiff (pMul a b)) x = ev (pDiff a) x * ev b x + ev a x * ev (pDiff b) x := by
 unfold pMul; rw [ev_pDiff, ev_pDiff, ev_pDiff, ev_dL_tr, ev_dL_mul]
/- Shifts. -/
def hd0 : List Rat → Rat
 | [] => 0
 | c :: _ => c
def tl0 : List Rat → List Rat
 | [] => []
 | _ :: l => l
def syn (c : Rat) : List Rat → List Rat
 | [] => []
 | r :: l => (r + c * hd0 (syn c l)) :: syn c l
theorem syn_len (c : Rat) : ∀ l : List Rat, (syn c l).length = l.length
 | [] => rfl
 | r :: l => by simp only [syn, List.length_cons, syn_len c l]
def shF : Nat → Rat → List Rat → List Rat
 | 0, _, _ => []
 | n + 1, c, l => hd0 (syn c l) :: shF n c (tl0 (syn c l))
theorem tl0_len (l : List Rat) : (tl0 l).length = l.length - 1 := by cases l <;> rfl
/- Cofactors. -/
def exF : Nat → List Rat → List Rat → List Rat → List Rat → List Rat → List Rat → List Rat × List Rat × List Rat
 | 0, a, _, s, _, t, _ => (a, s, t)
 | n + 1, a, b, s, u, t, v => if b = [] then (a, s, t) else exF n b (pMod a b) u (pSub s (pMul (pDiv a b) u)) v (pSub t (pMul (pDiv a b) v))
def pX (a b : List Rat) : List Rat × List Rat × List Rat := exF (b.length + 1) a b [1] [] [] [1]
def pExt (a b : List Rat) : List Rat × List Rat × List Rat :=
 let x := pX a b
 if x.1 = [] then x else (pSc (1 / lead x.1) x.1, pSc (1 / lead x.1) x.2.1, pSc (1 / lead x.1) x.2.2)
theorem exF_fuel : ∀ (n m : Nat) (a b s u t v : List Rat), Can a → Can b → b.length < n → b.length < m → exF n a b s u t v = exF m a b s u t v
 | 0, _, _, b, _, _, _, _, _, _, h, _ => by omega
 | _, 0, _, b, _, _, _, _, _, _, _, h => by omega
 | n + 1, m + 1, a, b, s, u, t, v, ha, hb, h1, h2 => by
   unfold exF
   split
   ·rfl
   ·rename_i h0
    obtain ⟨g1, g2, _⟩ := dm_ok ha hb h0
    exact exF_fuel n m _ _ _ _ _ _ hb g1.2 (by omega) (by omega)
theorem exF_ok {A B : List Rat} : ∀ (n : Nat) (a b s u t v : List Rat), Can a → Can b → Can s → Can u → Can t → Can v → b.length < n → (∀ x, ev s x * ev A x + ev t x * ev B x = ev a x) → (∀ x, ev u x * ev A x + ev v x * ev B x = ev b x) →
 (exF n a b s u t v).1 = pG a b ∧ (Can (exF n a b s u t v).2.1 ∧ Can (exF n a b s u t v).2.2) ∧ ∀ x, ev (exF n a b s u t v).2.1 x * ev A x + ev (exF n a b s u t v).2.2 x * ev B x = ev (pG a b) x
 | 0, _, b, _, _, _, _, _, _, _, _, _, _, h, _, _ => by omega
 | n + 1, a, b, s, u, t, v, ha, hb, hs, hu, ht, hv, h, e1, e2 => by
   unfold exF
   split
   ·rename_i h0; subst h0; rw [pG_nil]; exact ⟨rfl, ⟨hs, ht⟩, e1⟩
   ·rename_i h0
    obtain ⟨g1, g2, g3⟩ := dm_ok ha hb h0
    rw [pG_step ha hb h0]
    exact exF_ok n b (pMod a b) u _ v _ hb g1.2 hu (can_pSub _ _) hv (can_pSub _ _) (by omega) e2 fun x => by
     have := g3 x
     have := e1 x
     have := e2 x
     rw [ev_pSub, ev_pSub, ev_pMul, ev_pMul]; grind
theorem can_one : Can [1] := by rw [Can_cons]; simp
theorem pX_ok {a b : List Rat} (ha : Can a) (hb : Can b) : (pX a b).1 = pG a b ∧ (Can (pX a b).2.1 ∧ Can (pX a b).2.2) ∧ ∀ x, ev (pX a b).2.1 x * ev a x + ev (pX a b).2.2 x * ev b x = ev (pG a b) x :=
 exF_ok (b.length + 1) a b [1] [] [] [1] ha hb can_one Can_nil Can_nil can_one (Nat.lt_succ_self _) (fun x => by simp only [ev]; grind) (fun x => by simp only [ev]; grind)
theorem pExt_ok {a b : List Rat} (ha : Can a) (hb : Can b) : (pExt a b).1 = pGcd a b ∧ (Can (pExt a b).2.1 ∧ Can (pExt a b).2.2) ∧ ∀ x, ev (pExt a b).2.1 x * ev a x + ev (pExt a b).2.2 x * ev b x = ev (pGcd a b) x := by
 obtain ⟨h1, h2, h3⟩ := pX_ok ha hb
 unfold pExt pGcd
 by_cases h : pG a b = []
 ·rw [if_pos (by rw [h1]; exact h)]
  have e : pMonic (pG a b) = pG a b := by rw [h]; rfl
  rw [e]
  exact ⟨h1, h2, h3⟩
 ·rw [if_neg (by rw [h1]; exact h)]
  have e : pMonic (pG a b) = pSc (1 / lead (pG a b)) (pG a b) := if_neg h
  simp only [h1, e]
  refine ⟨trivial, ⟨can_pSc _ _, can_pSc _ _⟩, fun x => ?_⟩
  have := h3 x
  rw [ev_pSc, ev_pSc, ev_pSc]; grind
end Go.Proofs.YtfbogelmgdojgaaGreat


/- Polynomials over the rational numbers: squarefree parts and resultants as they are computed. No program in sight. -/
namespace Go.Proofs.YtfbogelmgdojgaaGreat
set_option linter.unusedSimpArgs false
set_option linter.unusedVariables false

def sqL : Nat → Nat → List Rat → List Rat → Option (List (List Rat × Nat))
 | 0, _, _, _ => none
 | k + 1, n, b, c => if b.length ≤ 1 then some [] else
   (sqL k (n + 1) (pDiv b (pGcd b (pSub c (pDiff b)))) (pDiv (pSub c (pDiff b)) (pGcd b (pSub c (pDiff b))))).map fun l =>
    if (pGcd b (pSub c (pDiff b))).length ≤ 1 then l else (pGcd b (pSub c (pDiff b)), n) :: l
def pSqf (k : Nat) (a : List Rat) : Option (List (List Rat × Nat)) :=
 if a.length < 2 then some [] else sqL k 1 (pDiv a (pGcd a (pDiff a))) (pDiv (pDiff a) (pGcd a (pDiff a)))
def sgm (m n : Nat) (x : Rat) : Rat := if m * n % 2 = 1 then -x else x
def resF : Nat → List Rat → List Rat → Rat
 | 0, _, _ => 0
 | k + 1, a, b =>
   if a = [] ∨ b = [] then 0 else
   if b.length = 1 then lead b ^ (a.length - 1) else
   if a.length = 1 then lead a ^ (b.length - 1) else
   if a.length < b.length then sgm (a.length - 1) (b.length - 1) (resF k b a) else
   if pMod a b = [] then 0 else sgm (a.length - 1) (b.length - 1) (lead b ^ (a.length - (pMod a b).length) * resF k b (pMod a b))
def pRes (a b : List Rat) : Rat := resF (a.length + 2 * b.length + 1) a b
theorem resF_fuel : ∀ (n m : Nat) (a b : List Rat), Can a → Can b → a.length + 2 * b.length < n → a.length + 2 * b.length < m → resF n a b = resF m a b
 | 0, _, a, b, _, _, h, _ => by omega
 | _, 0, a, b, _, _, _, h => by omega
 | n + 1, m + 1, a, b, ha, hb, h1, h2 => by
   unfold resF
   split
   ·rfl
   ·rename_i h0
    have hb0 : b ≠ [] := fun e => h0 (.inr e)
    have hbl := List.length_pos_iff.2 hb0
    split
    ·rfl
    ·split
     ·rfl
     ·split
      ·rw [resF_fuel n m b a hb ha (by omega) (by omega)]
      ·obtain ⟨g1, g2, _⟩ := dm_ok ha hb hb0
       split
       ·rfl
       ·rw [resF_fuel n m b (pMod a b) hb g1.2 (by omega) (by omega)]
theorem pRes_step {a b : List Rat} (ha : Can a) (hb : Can b) : pRes a b =
 if a = [] ∨ b = [] then 0 else
 if b.length = 1 then lead b ^ (a.length - 1) else
 if a.length = 1 then lead a ^ (b.length - 1) else
 if a.length < b.length then sgm (a.length - 1) (b.length - 1) (pRes b a) else
 if pMod a b = [] then 0 else sgm (a.length - 1) (b.length - 1) (lead b ^ (a.length - (pMod a b).length) * pRes b (pMod a b)) := by
 have : pRes a b = resF (a.length + 2 * b.length + 1) a b := rfl
 rw [this]
 unfold resF
 split
 ·rfl
 ·rename_i h0
  have hb0 : b ≠ [] := fun e => h0 (.inr e)
  have hbl := List.length_pos_iff.2 hb0
  split
  ·rfl
  ·split
   ·rfl
   ·split
    ·unfold pRes
     rw [resF_fuel (a.length + 2 * b.length) (b.length + 2 * a.length + 1) b a hb ha (by omega) (by omega)]
    ·obtain ⟨g1, g2, _⟩ := dm_ok ha hb hb0
     split
     ·rfl
     ·unfold pRes
      rw [resF_fuel (a.length + 2 * b.length) (b.length + 2 * (pMod a b).length + 1) b (pMod a b) hb g1.2 (by omega) (by omega)]
theorem powq_ne {x : Rat} (h : x ≠ 0) : ∀ n : Nat, x ^ n ≠ 0
 | 0 => by rw [Rat.pow_zero]; decide
 | n + 1 => by
   rw [Rat.pow_succ]
   intro e
   rcases Rat.mul_eq_zero.1 e with e | e
   ·exact powq_ne h n e
   ·exact h e
theorem sgm_ne {m n : Nat} {x : Rat} : sgm m n x = 0 ↔ x = 0 := by
 unfold sgm
 split
 ·constructor <;> intro h <;> grind
 ·exact Iff.rfl
theorem pG_swap_len {a b : List Rat} (ha : Can a) (hb : Can b) (h : a.length < b.length) : pG a b = pG b a := by
 have hb0 : b ≠ [] := fun e => by rw [e, List.length_nil] at h; omega
 rw [pG_step ha hb hb0, (dm_small ha hb h).2]
theorem pRes_zero : ∀ (n : Nat) (a b : List Rat), Can a → Can b → a.length + 2 * b.length < n → a ≠ [] → b ≠ [] → (pRes a b = 0 ↔ 1 < (pG a b).length)
 | 0, a, b, _, _, h, _, _ => by omega
 | n + 1, a, b, ha, hb, h, a0, b0 => by
   have hal := List.length_pos_iff.2 a0
   have hbl := List.length_pos_iff.2 b0
   have hpg := (fun e => a0 ((pG_eq_nil ha hb).1 e).1 : pG a b ≠ [])
   have hpl := List.length_pos_iff.2 hpg
   have dv := pG_dvd ha hb
   rw [pRes_step ha hb, if_neg (by rintro (e | e); exact a0 e; exact b0 e)]
   split
   ·rename_i h1
    have := (dvd_len hb (can_pG ha hb) dv.2 b0).1
    constructor
    ·intro e; exact absurd e (powq_ne (lead_ne hb b0) _)
    ·intro e; omega
   ·split
    ·rename_i h1
     have := (dvd_len ha (can_pG ha hb) dv.1 a0).1
     constructor
     ·intro e; exact absurd e (powq_ne (lead_ne ha a0) _)
     ·intro e; omega
    ·split
     ·rename_i h1 h2 h3
      rw [sgm_ne, pRes_zero n b a hb ha (by omega) b0 a0, pG_swap_len ha hb h3]
     ·obtain ⟨g1, g2, g3⟩ := dm_ok ha hb b0
      split
      ·rename_i h1 h2 h3 h4
       rw [pG_step ha hb b0, h4, pG_nil]
       constructor
       ·intro _; omega
       ·intro _; rfl
      ·rename_i h1 h2 h3 h4
       rw [sgm_ne, pG_step ha hb b0, ← pRes_zero n b (pMod a b) hb g1.2 (by omega) b0 h4]
       constructor
       ·intro e
        rcases Rat.mul_eq_zero.1 e with e | e
        ·exact absurd e (powq_ne (lead_ne hb b0) _)
        ·exact e
       ·intro e; rw [e]; grind
end Go.Proofs.YtfbogelmgdojgaaGreat


/- Polynomials over the rational numbers: products step by step. No program in sight. -/
namespace Go.Proofs.YtfbogelmgdojgaaGreat
set_option linter.unusedSimpArgs false
set_option linter.unusedVariables false

theorem cf_cons_pos {c : Rat} {l : List Rat} {n : Nat} (h : n ≠ 0) : cf (c :: l) n = cf l (n - 1) := by
 cases n with
 | zero => exact absurd rfl h
 | succ n => rfl
theorem mulL_snoc : ∀ (l : List Rat) (x : Rat) (b : List Rat) (n : Nat), cf (mulL (l ++ [x]) b) n = cf (mulL l b) n + (if l.length ≤ n then x * cf b (n - l.length) else 0)
 | [], x, b, n => by
   simp only [List.nil_append, mulL, cf_addL, cf_scL, cf_nil, List.length_nil, Nat.zero_le, if_true, Nat.sub_zero]
   have : cf [0] n = 0 := by
    cases n with
    | zero => rfl
    | succ n => rfl
   rw [this]; grind
 | y :: l, x, b, n => by
   have ih := mulL_snoc l x b (n - 1)
   simp only [List.cons_append, mulL, cf_addL, cf_scL, List.length_cons]
   by_cases hn : n = 0
   ·subst hn
    simp only [cf_zero]
    rw [if_neg (by omega)]; grind
   ·rw [cf_cons_pos hn, cf_cons_pos hn, ih]
    by_cases h : l.length ≤ n - 1
    ·rw [if_pos h, if_pos (by omega), show n - (l.length + 1) = n - 1 - l.length from by omega]; grind
    ·rw [if_neg h, if_neg (by omega)]; grind
def mp (a b : List Rat) (i k n : Nat) : Rat := cf (mulL (a.take i) b) n + (if i ≤ n ∧ n < i + k then cf a i * cf b (n - i) else 0)
theorem take_snoc {a : List Rat} {i : Nat} (h : i < a.length) : a.take (i + 1) = a.take i ++ [cf a i] := by
 rw [List.take_add_one, List.getElem?_eq_getElem h, cf_lt h]; rfl
theorem mp_zero (a b : List Rat) (n : Nat) : mp a b 0 0 n = 0 := by
 unfold mp
 rw [List.take_zero, if_neg (by omega)]
 show 0 + 0 = (0 : Rat)
 grind
theorem mp_row {a b : List Rat} {i n : Nat} (h : i < a.length) : mp a b i b.length n = mp a b (i + 1) 0 n := by
 unfold mp
 rw [take_snoc h, mulL_snoc, List.length_take, Nat.min_eq_left (by omega)]
 by_cases h1 : i ≤ n
 ·by_cases h2 : n < i + b.length
  ·rw [if_pos ⟨h1, h2⟩, if_pos h1, if_neg (by omega)]; grind
  ·rw [if_neg (by omega), if_pos h1, if_neg (by omega), cf_ge (l := b) (by omega)]; grind
 ·rw [if_neg (by omega), if_neg h1, if_neg (by omega)]; grind
theorem mp_step {a b : List Rat} {i k n : Nat} : mp a b i (k + 1) n = if n = i + k then mp a b i k n + cf a i * cf b k else mp a b i k n := by
 unfold mp
 by_cases h : n = i + k
 ·subst h
  rw [if_pos ⟨by omega, by omega⟩, if_pos rfl, if_neg (by omega), show i + k - i = k from by omega]; grind
 ·rw [if_neg h]
  by_cases h1 : i ≤ n ∧ n < i + k
  ·rw [if_pos h1, if_pos ⟨h1.1, by omega⟩]
  ·rw [if_neg h1, if_neg (by omega)]
theorem mp_end {a b : List Rat} {n : Nat} : mp a b a.length 0 n = cf (mulL a b) n := by
 unfold mp
 rw [List.take_length, if_neg (by omega)]; grind
theorem tr_of_cf {l m : List Rat} (h : ∀ i, cf l i = cf m i) : tr l = tr m := can_ext (tr_can l) (tr_can m) fun i => by rw [cf_tr, cf_tr, h]
end Go.Proofs.YtfbogelmgdojgaaGreat

