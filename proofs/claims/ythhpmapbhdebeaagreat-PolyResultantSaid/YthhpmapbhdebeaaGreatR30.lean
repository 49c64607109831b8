/- Texts DT3 DT5 A33 A34 in one. -/
import Derived.Test.YthhpmapbhdebeaaGreatR29
import Derived.Test.YthhpmapbhdebeaaGreatR20
import Derived.Test.YthhpmapbhdebeaaGreatR23
/- Resultants: the Sylvester matrix and the norm. No program in sight. -/
namespace Go.Proofs.YthhpmapbhdebeaaGreat
set_option linter.unusedSimpArgs false
set_option linter.unusedVariables false

theorem GM_red {p q : Nat} {a b r c : List Rat} (hc : c.length + p ≤ q + 1) (h : ∀ d, cf a d = cf (mulL c b) d + cf r d) : det (p + q) (GM p q a b) = det (p + q) (GM p q r b) := by
  rw [← (det_ML (p + q)).combs (GM p q r b) (fun i k => sh (p - 1 - i) c (q - 1 - k)) (s := p) (q := q) (u := 0) (Nat.le_refl _) p (by omega) (by omega)]
  refine (det_ML (p + q)).congr fun i hi j _ => ?_
  by_cases e : i < p
  · rw [if_pos (by omega)]
    have e1 : sm q (fun k => sh (p - 1 - i) c (q - 1 - k) * GM p q r b (p + k) j) = sh (p - 1 - i) (pMul c b) (p + q - 1 - j) := by
      rw [sh_mul _ _ _ (q := q) (by omega), ← sm_rev]
      refine sm_congr fun k _ => ?_
      unfold GM HM
      rw [if_neg (by omega)]
      show sh (p - 1 - i) c (q - 1 - (q - 1 - k)) * sh (q - 1 - (p + (q - 1 - k) - p)) b _ = _
      rw [show q - 1 - (q - 1 - k) = k from by omega, show q - 1 - (p + (q - 1 - k) - p) = k from by omega]
    show GM p q a b i j = GM p q r b i j + _
    rw [e1]
    unfold GM HM
    rw [if_pos e, if_pos e]
    unfold sh
    by_cases e2 : p + q - 1 - j < p - 1 - i
    · rw [if_pos e2, if_pos e2, if_pos e2]; grind
    · rw [if_neg e2, if_neg e2, if_neg e2, h, cf_pMul]; grind
  · rw [if_neg (by omega)]
    unfold GM HM
    rw [if_neg e, if_neg e]
theorem HM_red {p q : Nat} {a : List Rat} {B B' : Nat → Nat → Rat} (Q : Nat → List Rat) (hQ : ∀ i, i < q → (Q i).length ≤ p) (h : ∀ i, i < q → ∀ d, B i d = cf (mulL (Q i) a) d + B' i d) : det (p + q) (HM p q a B) = det (p + q) (HM p q a B') := by
  rw [← (det_ML (p + q)).combs (HM p q a B') (fun i k => cf (Q (i - p)) (p - 1 - k)) (s := 0) (q := p) (u := p) (by omega) q (Nat.le_refl _) (by omega)]
  refine (det_ML (p + q)).congr fun i hi j _ => ?_
  by_cases e : i < p
  · rw [if_neg (by omega)]
    unfold HM
    rw [if_pos e, if_pos e]
  · rw [if_pos (by omega)]
    have e1 : sm p (fun k => cf (Q (i - p)) (p - 1 - k) * HM p q a B' (0 + k) j) = cf (mulL (Q (i - p)) a) (p + q - 1 - j) := by
      rw [sh_sm a _ p _ (hQ _ (by omega)), ← sm_rev]
      refine sm_congr fun k hk => ?_
      unfold HM
      rw [if_pos (by omega), show p - 1 - (0 + (p - 1 - k)) = k from by omega, show p - 1 - (p - 1 - k) = k from by omega]
    show HM p q a B i j = HM p q a B' i j + _
    rw [e1]
    unfold HM
    rw [if_neg e, if_neg e, h _ (by omega)]
    grind
theorem sgm_sg (m n : Nat) (x : Rat) : sgm m n x = sg (m * n) * x := by
  unfold sgm
  rw [sg_mod]
  split <;> grind
theorem det_zero_row {n : Nat} (M : Mat) {p : Nat} (hp : p < n) (h : ∀ j, j < n → M p j = 0) : det n M = 0 := (det_ML n).zero M hp h
theorem syl_const {p : Nat} {a : List Rat} (ha : a.length = 1) (b : List Rat) : det (p + 0) (GM p 0 a b) = lead a ^ p := by
  have := HM_tops (q := 0) (a := a) (p := 0) (B := fun i d => sh (0 - 1 - i) b d) (by omega) p (fun i hi => by omega)
  rw [Nat.zero_add] at this
  show det (p + 0) (HM p 0 a _) = _
  rw [this, show det (0 + 0) (HM 0 0 a fun i d => sh (0 - 1 - i) b d) = 1 from rfl, lead, ha]
  grind
/-- The resultant is the determinant of the Sylvester matrix. -/
theorem pRes_syl : ∀ (N : Nat) (a b : List Rat), Can a → Can b → a.length + 2 * b.length < N → a ≠ [] → b ≠ [] → pRes a b = det (b.length - 1 + (a.length - 1)) (GM (b.length - 1) (a.length - 1) a b)
  | 0, a, b, _, _, h, _, _ => by omega
  | N + 1, a, b, ha, hb, h, a0, b0 => by
    have hal := List.length_pos_iff.2 a0
    have hbl := List.length_pos_iff.2 b0
    rw [pRes_step ha hb, if_neg (by rintro (e | e); exact a0 e; exact b0 e)]
    by_cases h1 : b.length = 1
    · rw [if_pos h1, h1, GM_swap, show 1 - 1 = 0 from rfl, syl_const h1, Nat.zero_mul, sg]
      grind
    · rw [if_neg h1]
      by_cases h2 : a.length = 1
      · rw [if_pos h2, h2, show 1 - 1 = 0 from rfl, syl_const h2]
      · rw [if_neg h2]
        by_cases h3 : a.length < b.length
        · rw [if_pos h3, pRes_syl N b a hb ha (by omega) b0 a0, GM_swap (b.length - 1), sgm_sg, Nat.mul_comm]
        · rw [if_neg h3]
          obtain ⟨⟨d1, d2⟩, d3, d4⟩ := dm_ok ha hb b0
          have lq : (pDiv a b).length + (b.length - 1) ≤ a.length - 1 + 1 := by
            by_cases q0 : pDiv a b = []
            · rw [q0, List.length_nil]; omega
            · have l1 := len_pMul d1 hb q0 b0
              have l2 : (pMul (pDiv a b) b) = pSub a (pMod a b) := ev_inj (can_pMul _ _) (can_pSub _ _) fun x => by rw [ev_pMul, ev_pSub]; have := d4 x; grind
              have l3 := len_pSub a (pMod a b)
              rw [← l2] at l3
              have := List.length_pos_iff.2 q0
              omega
          have e1 := GM_red (p := b.length - 1) (q := a.length - 1) (r := pMod a b) lq (fun d => by
            have := cf_of_ev (a := addL (mulL (pDiv a b) b) (pMod a b)) (b := a) (fun x => by rw [ev_addL, ev_mulL]; exact d4 x) d
            rw [← this, cf_addL])
          rw [e1]
          by_cases h4 : pMod a b = []
          · rw [if_pos h4]
            refine (det_zero_row _ (p := 0) (by omega) fun j _ => ?_).symm
            unfold GM HM sh
            rw [if_pos (by omega), h4]
            split <;> rfl
          · rw [if_neg h4, pRes_syl N b (pMod a b) hb d2 (by omega) b0 h4, GM_swap (b.length - 1) (a.length - 1), sgm_sg, Nat.mul_comm (a.length - 1)]
            have hrl := List.length_pos_iff.2 h4
            have e2 := HM_tops (q := b.length - 1) (a := b) (p := (pMod a b).length - 1) (B := fun i d => sh (b.length - 1 - 1 - i) (pMod a b) d) (by omega) (a.length - (pMod a b).length) (fun i hi d hd => by
              unfold sh
              rw [if_neg (by omega), cf_ge (by omega)])
            rw [show (pMod a b).length - 1 + (a.length - (pMod a b).length) = a.length - 1 from by omega] at e2
            show _ = sg ((b.length - 1) * (a.length - 1)) * det (a.length - 1 + (b.length - 1)) (HM _ _ b _)
            rw [e2]
            rfl
/-- A polynomial times a power of the variable. -/
def xs (e : Nat) (b : List Rat) : List Rat := pMul (mon 1 e) b
theorem ev_mon : ∀ (e : Nat) (x : Rat), ev (mon 1 e) x = x ^ e
  | 0, x => by rw [Rat.pow_zero]; show 1 + x * 0 = 1; grind
  | e + 1, x => by
    rw [Rat.pow_succ]
    show 0 + x * ev (mon 1 e) x = _
    rw [ev_mon e x]; grind
theorem ev_xs (e : Nat) (b : List Rat) (x : Rat) : ev (xs e b) x = x ^ e * ev b x := by unfold xs; rw [ev_pMul, ev_mon]
theorem can_xs (e : Nat) (b : List Rat) : Can (xs e b) := can_pMul _ _
theorem cf_xs (e : Nat) (b : List Rat) (d : Nat) : cf (xs e b) d = sh e b d := by
  unfold xs
  rw [cf_pMul, sh_sm b (mon 1 e) (e + 1) d (by rw [mon_len]; exact Nat.le_refl _), sm_one e (by omega) fun i _ hi => by rw [mon_low _ _ _ hi]; grind]
  rw [mon_top]; grind
theorem len_xs {e : Nat} {b : List Rat} (hb : Can b) : (xs e b).length ≤ e + b.length := by
  by_cases b0 : b = []
  · subst b0
    unfold xs
    rw [pMul_nil_r]; simp
  · unfold xs
    rw [len_pMul (mon_can e (by decide)) hb (mon_ne _ _) b0, mon_len]; omega
/-- The matrix of a multiplication. -/
def NM (m : Nat) (a b : List Rat) : Mat := fun i j => cf (pMod (xs (m - 1 - i) b) a) (m - 1 - j)
def Nm (a b : List Rat) : Rat := det (a.length - 1) (NM (a.length - 1) a b)
theorem Nm_det (a b : List Rat) : Nm a b = det (0 + (a.length - 1)) (HM 0 (a.length - 1) a (fun i d => cf (pMod (xs (a.length - 1 - 1 - i) b) a) d)) := by
  unfold Nm
  rw [Nat.zero_add]
  refine (det_ML _).congr fun i _ j _ => ?_
  unfold NM HM
  rw [if_neg (by omega), Nat.zero_add]
  rfl
theorem pRes_norm {a b : List Rat} (ha : Can a) (hb : Can b) (a0 : a ≠ []) (b0 : b ≠ []) : pRes a b = lead a ^ (b.length - 1) * Nm a b := by
  have hal := List.length_pos_iff.2 a0
  have hbl := List.length_pos_iff.2 b0
  rw [pRes_syl _ a b ha hb (Nat.lt_succ_self _) a0 b0]
  unfold GM
  rw [HM_red (B' := fun i d => cf (pMod (xs (a.length - 1 - 1 - i) b) a) d) (fun i => pDiv (xs (a.length - 1 - 1 - i) b) a) (fun i hi => ?_) (fun i hi d => ?_)]
  · have e2 := HM_tops (q := a.length - 1) (a := a) (p := 0) (B := fun i d => cf (pMod (xs (a.length - 1 - 1 - i) b) a) d) (by omega) (b.length - 1) (fun i hi d hd => cf_ge (by
      have := (dm_ok (can_xs (a.length - 1 - 1 - i) b) ha a0).2.1
      omega))
    rw [Nat.zero_add] at e2
    rw [e2, Nm_det]
    rfl
  · obtain ⟨⟨d1, d2⟩, d3, d4⟩ := dm_ok (can_xs (a.length - 1 - 1 - i) b) ha a0
    by_cases q0 : pDiv (xs (a.length - 1 - 1 - i) b) a = []
    · rw [q0, List.length_nil]; omega
    · have l1 := len_pMul d1 ha q0 a0
      have l2 : (pMul (pDiv (xs (a.length - 1 - 1 - i) b) a) a) = pSub (xs (a.length - 1 - 1 - i) b) (pMod (xs (a.length - 1 - 1 - i) b) a) := ev_inj (can_pMul _ _) (can_pSub _ _) fun x => by rw [ev_pMul, ev_pSub]; have := d4 x; grind
      have l3 := len_pSub (xs (a.length - 1 - 1 - i) b) (pMod (xs (a.length - 1 - 1 - i) b) a)
      rw [← l2] at l3
      have l4 := len_xs (e := a.length - 1 - 1 - i) hb
      have := List.length_pos_iff.2 q0
      omega
  · obtain ⟨⟨d1, d2⟩, d3, d4⟩ := dm_ok (can_xs (a.length - 1 - 1 - i) b) ha a0
    have := cf_of_ev (a := addL (mulL (pDiv (xs (a.length - 1 - 1 - i) b) a) a) (pMod (xs (a.length - 1 - 1 - i) b) a)) (b := xs (a.length - 1 - 1 - i) b) (fun x => by rw [ev_addL, ev_mulL]; exact d4 x) d
    rw [← cf_addL, this, cf_xs]
/-- Residues of combinations. -/
theorem mod_sc {a q : List Rat} (c : Rat) (ha : Can a) (hq : Can q) (q0 : q ≠ []) : pMod (pSc c a) q = pSc c (pMod a q) := by
  obtain ⟨⟨c1, c2⟩, l1, e1⟩ := dm_ok ha hq q0
  refine (dm_eq (can_pSc c a) hq (can_pSc c (pDiv a q)) (can_pSc _ _) (by have := len_pSc c (pMod a q); omega) fun t => ?_).2
  simp only [ev_pSc]
  have h1 := e1 t
  grind
theorem mod_comb {c a : List Rat} (ha : Can a) (a0 : a ≠ []) (d : Nat) : ∀ (q : Nat) (u : List Rat), u.length ≤ q → cf (pMod (pMul u c) a) d = sm q (fun s => cf u s * cf (pMod (xs s c) a) d)
  | 0, u, h => by
    obtain rfl : u = [] := List.eq_nil_of_length_eq_zero (by omega)
    rw [pMul_nil_l, (dm_small Can_nil ha (List.length_pos_iff.2 a0)).2]
    rfl
  | q + 1, u, h => by
    have ih := mod_comb ha a0 (c := c) d q (u.take q) (by rw [List.length_take]; omega)
    have cu : ∀ s, cf (u.take q) s = if s < q then cf u s else 0 := fun s => by
      unfold cf
      rw [List.getD_eq_getElem?_getD, List.getElem?_take, List.getD_eq_getElem?_getD]
      split <;> rfl
    have e1 : pMul u c = pAdd (pMul (u.take q) c) (pSc (cf u q) (xs q c)) := can_ext (can_pMul _ _) (can_pAdd _ _) fun i => by
      rw [cf_pAdd, cf_pSc, cf_pMul, cf_pMul, cf_xs, sh_sm c u (q + 1) i h, sh_sm c (u.take q) q i (by rw [List.length_take]; omega), sm]
      congr 1
      exact sm_congr fun s hs => by rw [cu, if_pos hs]
    rw [e1, mod_add (can_pMul _ _) (can_pSc _ _) ha a0, cf_pAdd, mod_sc _ (can_xs _ _) ha a0, cf_pSc, ih, sm]
    congr 1
    exact sm_congr fun s hs => by rw [cu, if_pos hs]
theorem Nm_mul {a b c : List Rat} (ha : Can a) (hb : Can b) (hc : Can c) (a0 : a ≠ []) : Nm a (pMul b c) = Nm a b * Nm a c := by
  unfold Nm
  rw [← det_mul]
  refine (det_ML _).congr fun i hi j _ => ?_
  unfold mul NM
  have h1 := mod_comb (c := c) ha a0 (a.length - 1 - 1 - j) (a.length - 1) (pMod (xs (a.length - 1 - 1 - i) b) a) (by have := (dm_ok (can_xs (a.length - 1 - 1 - i) b) ha a0).2.1; omega)
  rw [mod_mul_l (can_xs _ _) ha a0, ← sm_rev] at h1
  rw [← h1]
  congr 2
  exact ev_inj (can_xs _ _) (can_pMul _ _) fun x => by rw [ev_xs, ev_pMul, ev_pMul, ev_xs]; grind
theorem powq_add (x : Rat) (m : Nat) : ∀ n, x ^ (m + n) = x ^ m * x ^ n
  | 0 => by rw [Nat.add_zero, Rat.pow_zero]; grind
  | n + 1 => by rw [← Nat.add_assoc, Rat.pow_succ, Rat.pow_succ, powq_add x m n]; grind
/-- The resultant is multiplicative. -/
theorem pRes_mul {a b c : List Rat} (ha : Can a) (hb : Can b) (hc : Can c) (a0 : a ≠ []) (b0 : b ≠ []) (c0 : c ≠ []) : pRes a (pMul b c) = pRes a b * pRes a c := by
  have m0 : pMul b c ≠ [] := fun e => by rcases (pMul_eq_nil hb hc).1 e with e | e; exact b0 e; exact c0 e
  have hbl := List.length_pos_iff.2 b0
  have hcl := List.length_pos_iff.2 c0
  rw [pRes_norm ha (can_pMul _ _) a0 m0, pRes_norm ha hb a0 b0, pRes_norm ha hc a0 c0, Nm_mul ha hb hc a0, len_pMul hb hc b0 c0, show b.length + c.length - 1 - 1 = b.length - 1 + (c.length - 1) from by omega, powq_add]
  grind
theorem pRes_swap {a b : List Rat} (ha : Can a) (hb : Can b) (a0 : a ≠ []) (b0 : b ≠ []) : pRes b a = sgm (a.length - 1) (b.length - 1) (pRes a b) := by
  rw [pRes_syl _ a b ha hb (Nat.lt_succ_self _) a0 b0, pRes_syl _ b a hb ha (Nat.lt_succ_self _) b0 a0, GM_swap, sgm_sg]
end Go.Proofs.YthhpmapbhdebeaaGreat


/- Gaussian elimination for determinants. No program in sight. -/
namespace Go.Proofs.YthhpmapbhdebeaaGreat
set_option linter.unusedSimpArgs false
set_option linter.unusedVariables false

/-- The matrix of a list of rows, without the first k rows and columns. -/
def subM (k : Nat) (M : List (List Rat)) : Mat := fun i j => cf (M.getD (k + i) []) (k + j)
theorem gd_set {M : List (List Rat)} {i : Nat} (hi : i < M.length) (l : List Rat) (j : Nat) : (M.set i l).getD j [] = if j = i then l else M.getD j [] := by
  rw [List.getD_eq_getElem?_getD, List.getD_eq_getElem?_getD]
  by_cases h : j = i
  · subst h
    rw [List.getElem?_set_self hi, if_pos rfl]; rfl
  · rw [List.getElem?_set_ne (fun e => h e.symm), if_neg h]
theorem cf_setL {l : List Rat} {i : Nat} (hi : i < l.length) (x : Rat) (j : Nat) : cf (l.set i x) j = if j = i then x else cf l j := by
  unfold cf
  rw [List.getD_eq_getElem?_getD, List.getD_eq_getElem?_getD]
  by_cases h : j = i
  · subst h
    rw [List.getElem?_set_self hi, if_pos rfl]; rfl
  · rw [List.getElem?_set_ne (fun e => h e.symm), if_neg h]
/-- No pivot. -/
theorem sub_none {k n : Nat} {M : List (List Rat)} (hk : k < n) (h : ∀ i, k ≤ i → i < n → cf (M.getD i []) k = 0) : det (n - k) (subM k M) = 0 := by
  rw [← det_tp]
  refine det_zero_row _ (p := 0) (by omega) fun j hj => ?_
  exact h (k + j) (by omega) (by omega)
/-- Two rows exchanged. -/
def swM (M : List (List Rat)) (k p : Nat) : List (List Rat) := (M.set p (M.getD k [])).set k (M.getD p [])
theorem swM_len (M : List (List Rat)) (k p : Nat) : (swM M k p).length = M.length := by unfold swM; rw [List.length_set, List.length_set]
theorem swM_get {M : List (List Rat)} {k p : Nat} (hk : k < M.length) (hp : p < M.length) (j : Nat) : (swM M k p).getD j [] = if j = k then M.getD p [] else if j = p then M.getD k [] else M.getD j [] := by
  unfold swM
  rw [gd_set (by rw [List.length_set]; exact hk), gd_set hp]
theorem sub_swap {k p n : Nat} {M : List (List Rat)} (hn : n ≤ M.length) (hk : k < p) (hp : p < n) : det (n - k) (subM k (swM M k p)) = - det (n - k) (subM k M) := by
  rw [← (det_ML (n - k)).swap (subM k M) (p := 0) (q := p - k) (by omega) (by omega) (by omega)]
  refine (det_ML (n - k)).congr fun i hi j hj => ?_
  unfold subM swp
  rw [swM_get (by omega) (by omega)]
  by_cases h1 : i = p - k
  · subst h1
    rw [upd_same, if_neg (by omega), if_pos (by omega)]; rfl
  · rw [upd_ne _ h1]
    by_cases h2 : i = 0
    · subst h2
      rw [upd_same, if_pos (by omega)]
      show _ = cf (M.getD (k + (p - k)) []) (k + j)
      rw [show k + (p - k) = p from by omega]
    · rw [upd_ne _ h2, if_neg (by omega), if_neg (by omega)]
/-- A row less a multiple of another one, from column k on. -/
def elR (f : Rat) (rk ri : List Rat) (k : Nat) : Nat → List Rat
  | 0 => ri
  | s + 1 => (elR f rk ri k s).set (k + s) (cf (elR f rk ri k s) (k + s) - f * cf rk (k + s))
theorem elR_len (f : Rat) (rk ri : List Rat) (k : Nat) : ∀ s, (elR f rk ri k s).length = ri.length
  | 0 => rfl
  | s + 1 => by rw [elR, List.length_set, elR_len f rk ri k s]
theorem elR_cf (f : Rat) (rk ri : List Rat) (k : Nat) : ∀ s, k + s ≤ ri.length → ∀ c, cf (elR f rk ri k s) c = if k ≤ c ∧ c < k + s then cf ri c - f * cf rk c else cf ri c
  | 0, _, c => by rw [if_neg (by omega)]; rfl
  | s + 1, h, c => by
    rw [elR, cf_setL (by rw [elR_len]; omega), elR_cf f rk ri k s (by omega), elR_cf f rk ri k s (by omega)]
    by_cases h1 : c = k + s
    · rw [if_pos h1, if_neg (by omega), if_pos (by omega), h1]
    · rw [if_neg h1]
      by_cases h2 : k ≤ c ∧ c < k + s
      · rw [if_pos h2, if_pos (by omega)]
      · rw [if_neg h2, if_neg (by omega)]
/-- Row i cleared. -/
def elF (M : List (List Rat)) (k i : Nat) : Rat := cf (M.getD i []) k * (1 / cf (M.getD k []) k)
def elS (M : List (List Rat)) (k n i : Nat) : List (List Rat) := M.set i (elR (elF M k i) (M.getD k []) (M.getD i []) k (n - k))
theorem elS_len (M : List (List Rat)) (k n i : Nat) : (elS M k n i).length = M.length := by unfold elS; rw [List.length_set]
theorem elS_get {M : List (List Rat)} {k n i : Nat} (hi : i < M.length) (j : Nat) : (elS M k n i).getD j [] = if j = i then elR (elF M k i) (M.getD k []) (M.getD i []) k (n - k) else M.getD j [] := gd_set hi _ _
theorem sub_el {M : List (List Rat)} {k n i : Nat} (hn : n ≤ M.length) (hk : k < i) (hi : i < n) (hr : n ≤ (M.getD i []).length) : det (n - k) (subM k (elS M k n i)) = det (n - k) (subM k M) := by
  rw [← (det_ML (n - k)).addrow (subM k M) (p := i - k) (q := 0) (by omega) (by omega) (by omega) (- elF M k i)]
  refine (det_ML (n - k)).congr fun a ha j hj => ?_
  unfold subM
  rw [elS_get (by omega)]
  by_cases h1 : a = i - k
  · subst h1
    rw [upd_same, if_pos (by omega), elR_cf _ _ _ _ _ (by omega), if_pos (by omega), show k + (i - k) = i from by omega, Nat.add_zero]
    grind
  · rw [upd_ne _ h1, if_neg (by omega)]
/-- The first column cleared. -/
theorem sub_pivot {M : List (List Rat)} {k n : Nat} (hk : k < n) (h : ∀ i, k < i → i < n → cf (M.getD i []) k = 0) : det (n - k) (subM k M) = cf (M.getD k []) k * det (n - (k + 1)) (subM (k + 1) M) := by
  obtain ⟨m, hm⟩ : ∃ m, n - k = m + 1 := ⟨n - k - 1, by omega⟩
  rw [hm, show n - (k + 1) = m from by omega, ← dtc_eq, dtc, sm_one 0 (by omega) fun i hi h0 => ?_]
  · rw [dtc_eq, sg]
    have e : mino (subM k M) 0 = subM (k + 1) M := by
      funext i j
      unfold mino subM
      rw [if_neg (Nat.not_lt_zero i), show k + (i + 1) = k + 1 + i from by omega, show k + (j + 1) = k + 1 + j from by omega]
    rw [e]
    show 1 * cf (M.getD (k + 0) []) (k + 0) * _ = _
    rw [Nat.add_zero]; grind
  · have : subM k M i 0 = 0 := h (k + i) (by omega) (by omega)
    rw [this]; grind
theorem el_zero {M : List (List Rat)} {k n i : Nat} (hk : k < n) (hi : i < M.length) (hr : n ≤ (M.getD i []).length) (hp : cf (M.getD k []) k ≠ 0) : cf ((elS M k n i).getD i []) k = 0 := by
  rw [elS_get hi, if_pos rfl, elR_cf _ _ _ _ _ (by omega), if_pos (by omega)]
  unfold elF
  grind
end Go.Proofs.YthhpmapbhdebeaaGreat


/- Matrices whose rows are owned: heaps with any number of rows. No program in sight. -/
namespace Go.Proofs.YthhpmapbhdebeaaGreat
set_option linter.unusedSimpArgs false
set_option linter.unusedVariables false
open Go.RowKit

/-- The name of a row. -/
def rid (b i : Nat) : Nat := b + i
/-- What the outer slice holds. -/
def V.rwG (ρ : Nat → Nat) (w n : Nat) : List V := (List.range n).map fun i => .sl (ρ i) 4 0 w
def V.rwI (b w n : Nat) : List V := V.rwG (rid b) w n
/-- A heap with the rows of a matrix: the outer slice has the name o, the rows the names from b on. -/
def matH (o b : Nat) (tO t : TypeId) (w : Nat) (M : List (List Rat)) (H : Hp) : Hp := fun j =>
  if j = o then some ⟨tO, 1, V.rwI b w M.length⟩ else if b ≤ j ∧ j < b + M.length then some ⟨t, 4, V.rats (M.getD (j - b) [])⟩ else H j
section
variable {o b : Nat} {tO t : TypeId} {w : Nat} {M : List (List Rat)} {H : Hp}
@[go_sem] theorem rid_s (b n k : Nat) : rid b n + k + 1 = rid b n + (k + 1) := rfl
@[go_sem] theorem rwG_len (ρ : Nat → Nat) (w n : Nat) : (V.rwG ρ w n).length = n := by simp [V.rwG]
@[go_sem] theorem rwI_len (b w n : Nat) : (V.rwI b w n).length = n := rwG_len _ _ _
theorem rwG_get {ρ : Nat → Nat} {w n i : Nat} (h : i < n) : (V.rwG ρ w n)[i]? = some (.sl (ρ i) 4 0 w) := by
  unfold V.rwG
  rw [List.getElem?_map, List.getElem?_range h]; rfl
@[go_sem ↓, go_sem] theorem ev_rwI_get {b w n i : Nat} {k : V → Prop} : optC (V.rwI b w n)[i]? k = (i < n ∧ k (.sl (rid b i) 4 0 w)) := by
  unfold V.rwI
  by_cases h : i < n
  · rw [rwG_get h]; simp [optC, h]
  · rw [List.getElem?_eq_none (by rw [rwG_len]; omega)]; simp [optC, h]
@[go_sem ↓, go_sem] theorem ev_rwG_get {ρ : Nat → Nat} {w n i : Nat} {k : V → Prop} : optC (V.rwG ρ w n)[i]? k = (i < n ∧ k (.sl (ρ i) 4 0 w)) := by
  by_cases h : i < n
  · rw [rwG_get h]; simp [optC, h]
  · rw [List.getElem?_eq_none (by rw [rwG_len]; omega)]; simp [optC, h]
@[go_sem] theorem matH_o : matH o b tO t w M H o = some ⟨tO, 1, V.rwI b w M.length⟩ := if_pos rfl
theorem matH_row {i : Nat} (ho : o < b) (hi : i < M.length) : matH o b tO t w M H (rid b i) = some ⟨t, 4, V.rats (M.getD i [])⟩ := by
  unfold matH rid
  rw [if_neg (by omega), if_pos (by omega), Nat.add_sub_cancel_left]
theorem matH_lo {k : Nat} (ho : ¬ k = o) (hk : k < b) : matH o b tO t w M H k = H k := by
  unfold matH
  rw [if_neg ho, if_neg (by omega)]
theorem matH_up {i : Nat} (ho : o < b) (hi : i < M.length) (l : List Rat) : (matH o b tO t w M H).up (rid b i) (some ⟨t, 4, V.rats l⟩) = matH o b tO t w (M.set i l) H := by
  funext j
  unfold Hp.up matH rid
  rw [List.length_set]
  by_cases e : j = b + i
  · subst e
    rw [if_pos rfl, if_neg (by omega), if_pos (by omega), Nat.add_sub_cancel_left, List.getD_eq_getElem?_getD, List.getElem?_set_self hi]; rfl
  · rw [if_neg e]
    by_cases h1 : j = o
    · rw [if_pos h1, if_pos h1]
    · rw [if_neg h1, if_neg h1]
      by_cases h2 : b ≤ j ∧ j < b + M.length
      · rw [if_pos h2, if_pos h2, List.getD_eq_getElem?_getD, List.getD_eq_getElem?_getD, List.getElem?_set_ne (by omega)]
      · rw [if_neg h2, if_neg h2]
theorem rid_nn {b n c k : Nat} (h : k < b) : (k = rid b n + c) = False := eq_false (by unfold rid; omega)
theorem rid_nl {b n c k : Nat} (h : k < b) : (rid b n + c = k) = False := eq_false (by unfold rid; omega)
theorem rid_rl {b j k : Nat} (h : k < b) : (rid b j = k) = False := eq_false (by unfold rid; omega)
theorem rid_lr {b j k : Nat} (h : k < b) : (k = rid b j) = False := eq_false (by unfold rid; omega)
theorem rid_rn {b n c j : Nat} (h : j < n) : (rid b j = rid b n + c) = False := eq_false (by unfold rid; omega)
theorem rid_nr {b n c j : Nat} (h : j < n) : (rid b n + c = rid b j) = False := eq_false (by unfold rid; omega)
theorem rid_rr {b i j : Nat} : (rid b i = rid b j) = (i = j) := propext ⟨fun h => by unfold rid at h; omega, fun h => by rw [h]⟩
theorem rid_cc {b n c d : Nat} : (rid b n + c = rid b n + d) = (c = d) := propext ⟨fun h => by omega, fun h => by rw [h]⟩
theorem up_swap {k k' : Nat} (h : k ≠ k') (x y : Option Blk) : (H.up k x).up k' y = (H.up k' y).up k x := by
  funext j
  unfold Hp.up
  by_cases h1 : j = k'
  · subst h1
    rw [if_pos rfl, if_neg (fun e => h e.symm), if_pos rfl]
  · rw [if_neg h1]
    by_cases h2 : j = k
    · rw [if_pos h2, if_pos h2]
    · rw [if_neg h2, if_neg h2, if_neg h1]
end
/-- The checks of a region are the same under other names, as long as different names may become one. -/
def mapF (φ : Nat → Nat) (f : Foot) : Foot := (f.1.map φ, f.2.map φ)
theorem meets_map (φ : Nat → Nat) {x y : List Nat} (h : meets x y = true) : meets (x.map φ) (y.map φ) = true := by
  unfold meets at h ⊢
  rw [List.any_eq_true] at h ⊢
  obtain ⟨a, h1, h2⟩ := h
  refine ⟨φ a, List.mem_map_of_mem h1, ?_⟩
  rw [List.contains_eq_mem] at h2 ⊢
  exact decide_eq_true (List.mem_map_of_mem (of_decide_eq_true h2))
theorem noConf_map (φ : Nat → Nat) {f g : Foot} (h : noConf (mapF φ f) (mapF φ g) = true) : noConf f g = true := by
  unfold noConf mapF at *
  simp only [Bool.and_eq_true, Bool.not_eq_true'] at h ⊢
  refine ⟨?_, ?_⟩
  · rcases hm : meets f.2 (g.1 ++ g.2) with _ | _
    · rfl
    · have := meets_map φ hm
      rw [List.map_append] at this
      rw [this] at h; exact absurd h.1 (by decide)
  · rcases hm : meets g.2 f.1 with _ | _
    · rfl
    · have := meets_map φ hm
      rw [this] at h; exact absurd h.2 (by decide)
theorem chk_map (φ : Nat → Nat) {ops : Array Oper} {tr : List Foot} (h : chk ops (tr.map (mapF φ)) = true) : chk ops tr = true := by
  unfold chk at h ⊢
  simp only [Bool.and_eq_true] at h ⊢
  refine ⟨h.1, ?_⟩
  have h2 := h.2
  rw [List.all_eq_true] at h2 ⊢
  intro p hp
  have mem : ∀ q ∈ tr.zipIdx, (mapF φ q.1, q.2) ∈ (tr.map (mapF φ)).zipIdx := fun q hq => by
    rw [List.zipIdx_map]
    exact List.mem_map.2 ⟨q, hq, rfl⟩
  have h3 := h2 _ (mem p hp)
  simp only [Bool.or_eq_true, Bool.and_eq_true] at h3 ⊢
  rcases h3 with ⟨h3, h4⟩ | h3
  · left
    refine ⟨?_, ?_⟩
    · have : (p.1.1.map φ) = [] := eq_of_beq h3
      rw [List.map_eq_nil_iff.1 this]; rfl
    · have : (p.1.2.map φ) = [] := eq_of_beq h4
      rw [List.map_eq_nil_iff.1 this]; rfl
  · right
    rw [List.all_eq_true] at h3 ⊢
    intro q hq
    have h4 := h3 _ (mem q hq)
    unfold chkPair at h4 ⊢
    simp only [Bool.or_eq_true] at h4 ⊢
    rcases h4 with h4 | h4
    · exact .inl h4
    · exact .inr (noConf_map φ h4)
/-- The names of rows become one. -/
def rnm (b n : Nat) (x : Nat) : Nat := if x < b then x else if x < b + n then 1000000 else x - (b + n) + 1000001
theorem rnm_row {b n i : Nat} (h : i < n) : rnm b n (rid b i) = 1000000 := by
  unfold rnm rid
  rw [if_neg (by omega), if_pos (by omega)]
theorem rnm_new (b n c : Nat) : rnm b n (rid b n + c) = c + 1000001 := by
  unfold rnm rid
  rw [if_neg (by omega), if_neg (by omega)]; omega
theorem rnm_lo {b n k : Nat} (h : k < b) : rnm b n k = k := if_pos h
/-- A state with a matrix. -/
def mkR (o b : Nat) (tO t : TypeId) (w : Nat) (ss : List (Nat × V)) (hs : List (Nat × Bool × Blk)) (M : List (List Rat)) (N : Nat) : St := { s := mkS ss, H := matH o b tO t w M (mkH hs), n := rid b M.length, N := N }
theorem vc_atR {P : Program} {Γ : Tab} {Δ : Gab} (T : Tabs P Γ Δ) {c : Code} {Q : Exit → St → Prop} {o b : Nat} {tO t : TypeId} {w : Nat} {ss : List (Nat × V)} {hs : List (Nat × Bool × Blk)} {M : List (List Rat)} {N : Nat}
    (h : vc P Γ Δ c Q { s := mkS ss, H := matH o b tO t w M (mkH hs), n := rid b M.length, N := N }) : AWp P c Q (mkR o b tO t w ss hs M N) := vc_ok T _ _ _ h
def thR (θ : List Nat) (ρ : Nat → Nat) (n : Nat) : List Nat := θ ++ (List.range n).map ρ
@[go_sem] theorem thR_lo {θ : List Nat} {ρ : Nat → Nat} {n k : Nat} (h : k < θ.length) : (thR θ ρ n)[k]? = θ[k]? := by
  unfold thR
  rw [List.getElem?_append_left h]
theorem thR_row {θ : List Nat} {ρ : Nat → Nat} {n i : Nat} (h : i < n) : (thR θ ρ n)[rid θ.length i]? = some (ρ i) := by
  unfold thR rid
  rw [List.getElem?_append_right (by omega), Nat.add_sub_cancel_left, List.getElem?_map, List.getElem?_range h]; rfl
theorem Wk.ofR (θ : List Nat) (ρ : Nat → Nat) {o b : Nat} {tO t : TypeId} {w : Nat} {σ : St} {ss : List (Nat × V)} {hs : List (Nat × Bool × Blk)} {M : List (List Rat)} {N : Nat} (hb : b = θ.length) (ho : o < b) (hhs : ∀ x ∈ hs, x.1 < b)
    (hnd : (thR θ ρ M.length).Nodup) (h0 : N = σ.N ∧ σ.m = 0 ∧ σ.q = false) (hss : wkS (thR θ ρ M.length) σ.s ss) (hH : wkH (thR θ ρ M.length) σ.H hs)
    (hO : optC θ[o]? fun k0 => σ.H k0 = some ⟨tO, 1, V.rwG ρ w M.length⟩) (hR : ∀ i, i < M.length → σ.H (ρ i) = some ⟨t, 4, V.rats (M.getD i [])⟩) : Wk σ (mkR o b tO t w ss hs M N) := by
  obtain ⟨h1, h2, h3⟩ := h0
  have hS : ∀ (l : List (Nat × V)), wkS (thR θ ρ M.length) σ.s l → RenS (thR θ ρ M.length) (mkS l) σ.s ∧ ∀ t m, mkS l t ≠ .tup m := by
    intro l
    induction l with
    | nil => intro _; exact ⟨fun t => trivial, fun t m h => by simp [mkS] at h⟩
    | cons p l ih =>
      intro hl
      obtain ⟨⟨q1, q2⟩, q3⟩ := hl
      obtain ⟨i1, i2⟩ := ih q3
      refine ⟨fun t => ?_, fun t m => ?_⟩
      · simp only [mkS, upS]
        split
        · rename_i e; subst e; exact q2
        · exact i1 t
      · simp only [mkS, upS]
        split
        · intro e; rw [e] at q1; simp [V.noTup] at q1
        · exact i2 t m
  have hHH : ∀ (l : List (Nat × Bool × Blk)), wkH (thR θ ρ M.length) σ.H l → RenH (thR θ ρ M.length) (mkH l) σ.H := by
    intro l
    induction l with
    | nil => intro _ k x hk; simp [mkH] at hk
    | cons p l ih =>
      intro hl k x hk
      obtain ⟨q1, q2⟩ := hl
      simp only [mkH, Hp.up] at hk
      split at hk
      · rename_i e
        subst e
        injection hk with hk
        subst hk
        unfold optC at q1
        split at q1
        · rename_i k0 hk0
          split at q1
          · rename_i y hy
            obtain ⟨r1, r2, r3⟩ := q1
            refine ⟨k0, y, hk0, hy, r1, r2, ?_⟩
            split at r3
            · rw [← r3.1]; exact renL_refl r3.2
            · exact renL_of _ _ r3
          · exact q1.elim
        · exact q1.elim
      · exact ih q2 k x hk
  refine Wk.mk (thR θ ρ M.length) h1 h2.symm h3.symm (fun k hk => by omega) (by show rid b M.length = _; unfold thR rid; rw [List.length_append, List.length_map, List.length_range, hb]) (hS ss hss).1 ?_ hnd (hS ss hss).2
  intro k x hk
  have hk : matH o b tO t w M (mkH hs) k = some x := hk
  unfold matH at hk
  by_cases ek : k = o
  · rw [if_pos ek] at hk
    injection hk with hk
    subst hk ek
    rcases hθ : θ[k]? with _ | k0
    · rw [hθ] at hO; exact hO.elim
    · rw [hθ] at hO
      have hO : σ.H k0 = some ⟨tO, 1, V.rwG ρ w M.length⟩ := hO
      refine ⟨k0, _, by rw [thR_lo (by omega)]; exact hθ, hO, rfl, rfl, by simp only [rwI_len, rwG_len], fun i x y hx hy => ?_⟩
      have hi : i < M.length := by have := (List.getElem?_eq_some_iff.1 hx).1; rw [rwI_len] at this; exact this
      have hx : (V.rwI b w M.length)[i]? = some x := hx
      have hy : (V.rwG ρ w M.length)[i]? = some y := hy
      unfold V.rwI at hx
      rw [rwG_get hi] at hx hy
      injection hx with hx
      injection hy with hy
      subst hx hy
      exact ⟨⟨by rw [hb]; exact thR_row hi, rfl, rfl, rfl⟩, rfl, fun h => by cases h⟩
  · rw [if_neg ek] at hk
    by_cases hr : b ≤ k ∧ k < b + M.length
    · rw [if_pos hr] at hk
      injection hk with hk
      subst hk
      have hi : k - b < M.length := by omega
      refine ⟨ρ (k - b), _, ?_, hR _ hi, rfl, rfl, renL_refl ?_⟩
      · have := thR_row (θ := θ) (ρ := ρ) hi
        rw [← hb] at this
        unfold rid at this
        rw [show b + (k - b) = k from by omega] at this
        exact this
      · exact of_eq_true (rats_pure _)
    · rw [if_neg hr] at hk
      exact hHH hs hH k x hk
end Go.Proofs.YthhpmapbhdebeaaGreat


/- Matrices as plain values; rows let go at the end of a round. No program in sight. -/
namespace Go.Proofs.YthhpmapbhdebeaaGreat
set_option linter.unusedSimpArgs false
set_option linter.unusedVariables false
open Go.RowKit

def V.mat (M : List (List Rat)) : List V := M.map fun p => .lst (V.rats p)
@[go_sem] theorem mat_len (l : List (List Rat)) : (V.mat l).length = l.length := by simp [V.mat]
@[go_sem ↓, go_sem] theorem ev_mat_get {l : List (List Rat)} {i : Nat} {k : V → Prop} : optC (V.mat l)[i]? k = (i < l.length ∧ k (.lst (V.rats (l.getD i [])))) := by
  unfold V.mat
  rw [List.getElem?_map, List.getD_eq_getElem?_getD]
  by_cases h : i < l.length
  · simp [List.getElem?_eq_getElem h, optC, h]
  · simp [List.getElem?_eq_none (Nat.le_of_not_lt h), optC, h]
@[go_sem] theorem mat_frz (l : List (List Rat)) : frzOk (V.mat l) = True := eq_true (frzOk_map (fun a => ⟨rfl, by simp, by simp⟩) l)
@[go_sem] theorem mat_wid (l : List (List Rat)) : allWid (V.mat l) 1 = True := eq_true fun y hy => by
  obtain ⟨p, _, rfl⟩ := List.mem_map.1 hy
  rfl
@[go_sem] theorem mat_pure (l : List (List Rat)) : allPure (V.mat l) = True := eq_true fun y hy => by
  obtain ⟨p, _, rfl⟩ := List.mem_map.1 hy
  rfl
@[go_sem] theorem mat_take (l : List (List Rat)) (n : Nat) : (V.mat l).take n = V.mat (l.take n) := by simp [V.mat]
theorem mat_snoc (l : List (List Rat)) (p : List Rat) : V.mat l ++ [.lst (V.rats p)] = V.mat (l ++ [p]) := by simp [V.mat]
def unmat : List V → Option (List (List Rat))
  | [] => some []
  | .lst l :: t => (unrat l).bind fun r => (unmat t).map fun s => r :: s
  | _ => none
theorem unmat_ok : ∀ (l : List V) (m : List (List Rat)), unmat l = some m → l = V.mat m
  | [], m, h => by injection h with h; subst h; rfl
  | x :: t, m, h => by
    cases x with
    | lst l =>
      rw [unmat] at h
      rcases hr : unrat l with _ | r
      · rw [hr] at h; cases h
      · rw [hr] at h
        have h : ((unmat t).map fun s => r :: s) = some m := h
        rcases ht : unmat t with _ | s
        · rw [ht] at h; cases h
        · rw [ht] at h
          injection h with h
          subst h
          rw [unmat_ok t s ht, unrat_ok l r hr]; rfl
    | _ => cases h
@[go_sem ↓, go_sem] theorem unmat_mat : ∀ m : List (List Rat), unmat (V.mat m) = some m
  | [] => rfl
  | r :: m => by
    show unmat (.lst (V.rats r) :: V.mat m) = _
    rw [unmat, unrat_rats, unmat_mat m]; rfl
/-- A matrix. -/
def pMt : Pat (List (List Rat)) where
  p
    | .lst l => (unmat l).map fun m => (True, m)
    | .raw (.slice none 0 0) => some (True, [])
    | .emp => some (True, [])
    | _ => none
  val l := .lst (V.mat l)
  ok x c a h hc := by
    split at h
    · rename_i l
      rcases hm : unmat l with _ | m <;> rw [hm] at h
      · cases h
      · injection h with h; injection h with h1 h2; subst h2
        rw [unmat_ok l m hm]; exact .refl _
    · injection h with h; injection h with h1 h2; subst h2; exact .inr (.inr ⟨rfl, rfl, rfl, rfl⟩)
    · injection h with h; injection h with h1 h2; subst h2; exact .inr (.inr ⟨rfl, rfl, rfl⟩)
    · cases h
@[go_sem ↓, go_sem] theorem ev_pMt {l : List V} : pMt.p (.lst l) = (unmat l).map fun m => (True, m) := rfl
@[go_sem ↓, go_sem] theorem ev_pMt_nil : pMt.p (.raw (.slice none 0 0)) = some (True, []) := rfl
@[go_sem ↓, go_sem] theorem ev_pMt_emp : pMt.p .emp = some (True, []) := rfl
@[go_sem ↓, go_sem] theorem ev_pMt_mk {l : List (List Rat)} : pMt.val l = .lst (V.mat l) := rfl
/-- A matrix of owned rows is let go. -/
theorem frzs_rows {H : Hp} {t : TypeId} {w m : Nat} {ρ : Nat → Nat} {M : List (List Rat)} {k : List V → List Nat → Prop} : ∀ (n i : Nat), i + n = M.length → (∀ j, j < M.length → H (ρ j) = some ⟨t, 4, V.rats (M.getD j [])⟩ ∧ (M.getD j []).length = w) →
    frzs (frzE (argN H (m + 2))) ((List.range' i n).map fun j => .sl (ρ j) 4 0 w) k = k (V.mat (M.drop i)) ((List.range' i n).map ρ)
  | 0, i, hi, _ => by
    rw [List.drop_of_length_le (by omega)]; rfl
  | n + 1, i, hi, h => by
    obtain ⟨h1, h2⟩ := h i (by omega)
    rw [List.range'_succ, List.map_cons, List.map_cons, frzs]
    have e : frzE (argN H (m + 2)) (.sl (ρ i) 4 0 w) = fun kA => kA (.lst (V.rats (M.getD i []))) [ρ i] := by
      funext kA
      unfold frzE
      rw [if_neg (show ¬ (V.sl (ρ i) 4 0 w).isAgg = true from fun h => by cases h), ev_argN_sl]
      have e1 : aElems H (.sl (ρ i) 4 0 w) = some (V.rats (M.getD i []), [ρ i]) := by
        show (match H (ρ i) with | some x => (if x.e = 4 ∧ 0 + w ≤ x.l.length then some ((x.l.drop 0).take w, [ρ i]) else none) | none => none) = _
        rw [h1]
        show (if (4 : Nat) = 4 ∧ 0 + w ≤ (V.rats (M.getD i [])).length then _ else _) = _
        rw [if_pos ⟨rfl, by rw [rats_len, h2]; omega⟩, List.drop_zero, List.take_of_length_le (by rw [rats_len, h2]; exact Nat.le_refl _)]
      rw [e1]
      show frzs (frzE (argN H (m + 1))) (V.rats (M.getD i [])) _ = _
      have e2 : frzOk (V.rats (M.getD i [])) := frzOk_map (fun a => ⟨rfl, by simp, by simp⟩) (M.getD i [])
      rw [frzs_same e2]
      rfl
    rw [e]
    show frzs _ _ _ = _
    rw [frzs_rows n (i + 1) (by omega) h]
    have e2 : M.drop i = M.getD i [] :: M.drop (i + 1) := by
      rw [List.drop_eq_getElem_cons (by omega), List.getD_eq_getElem?_getD, List.getElem?_eq_getElem (by omega)]; rfl
    rw [e2]
    rfl
theorem frzs_rwG {H : Hp} {t : TypeId} {w m n : Nat} {ρ : Nat → Nat} {M : List (List Rat)} {k : List V → List Nat → Prop} (hn : M.length = n) (h : ∀ j, j < M.length → H (ρ j) = some ⟨t, 4, V.rats (M.getD j [])⟩ ∧ (M.getD j []).length = w) :
    frzs (frzE (argN H (m + 2))) (V.rwG ρ w n) k = k (V.mat M) ((List.range n).map ρ) := by
  have := frzs_rows (m := m) (k := k) (ρ := ρ) n 0 (by omega) h
  rw [List.drop_zero, ← List.range_eq_range'] at this
  exact this
/-- At the end of a round, what the slice in slot t holds is let go. -/
def frzT (t : Nat) (Q : Exit → St → Prop) : Exit → St → Prop
  | .normal, τ => match τ.s t with
    | .sl k _ _ _ => optC (τ.H k) fun y => frzs (frzE (argN τ.H 3)) y.l fun l' rs => (rs.all fun i => !(i == k)) = true ∧ Q .normal { τ with H := (τ.H.drops rs).up k (some ⟨y.t, y.e, l'⟩) }
    | _ => False
  | e, τ => Q e τ
/-- The state after a block's cells are let go. -/
theorem Sim.frz {B A W σ a w ρ} (hs : Sim B A W σ a w ρ) (st : Stat B A W) (k : Nat) {K : St → Prop} (h : optC (σ.H k) fun y => frzs (frzE (argN σ.H 3)) y.l fun l' rs => (rs.all fun i => !(i == k)) = true ∧ K { σ with H := (σ.H.drops rs).up k (some ⟨y.t, y.e, l'⟩) }) :
    ∃ σ', K σ' ∧ Sim B A W σ' a w ρ := by
  rcases hk : σ.H k with _ | y
  · rw [hk] at h; exact h.elim
  · rw [hk] at h
    obtain ⟨b, arr, g1, g2, g3, g4, g5⟩ := hs.heap.row k y hk
    have hH := hs.heap
    obtain ⟨L', rs, ⟨h1, h2⟩, e1, e2, e3, e4⟩ := frzL_ok (argN_ok hH (hs.hfar st) 3) y.l (arr.toList.take (V.atomsL y.l).length) _ (by rw [List.length_take]; simp; omega) (fun j x u hj hu => by
      rw [List.getElem?_take] at hu
      split at hu
      · exact g5 j x u hj (by simpa using hu)
      · cases hu) h
    have hid : k ∉ rs := fun hm => by
      have := List.all_eq_true.1 h1 k hm
      simp at this
    have live : ∀ i q, (σ.H.drops rs) i = some q → σ.H i = some q := fun i q hi => by
      unfold Hp.drops at hi
      split at hi
      · cases hi
      · exact hi
    obtain ⟨hD, _⟩ := hH.drops rs
    have hown : own B ρ ((σ.H.drops rs).up k (some ⟨y.t, y.e, L'⟩)) = own B ρ (σ.H.drops rs) := by
      funext b'
      exact propext (drops_up_own hk hid b')
    have hx := drops_ext (w := w) (B := B) (ρ := ρ) σ.H rs
    have back : ∀ i q, ((σ.H.drops rs).up k (some ⟨y.t, y.e, L'⟩)) i = some q → ∃ q0, σ.H i = some q0 := fun i q hi => by
      unfold Hp.up at hi
      split at hi
      · rename_i e; subst e; exact ⟨y, hk⟩
      · exact ⟨q, live i q hi⟩
    refine ⟨_, h2, ⟨hs.defers, hs.size, fun t => ?_, ⟨fun i q hi => ?_, fun i i' q q' b' h3 h4 h5 h6 => ?_⟩, hs.fresh, fun i q b' h3 h4 => ?_, hs.os, hs.tape, hs.output, hs.grow, hs.same, hs.row, hs.pins, hs.marks⟩⟩
    · show RepV w (own B ρ ((σ.H.drops rs).up k (some ⟨y.t, y.e, L'⟩))) ρ _ _
      rw [hown]
      exact (hs.slots t).mono hx
    · show ∃ (b : Nat) (arr : Array Value), _ ∧ _ ∧ _ ∧ _ ∧ ∀ (j : Nat) (y_1 : V) (u : Value), _ → _ → RepA w (own B ρ ((σ.H.drops rs).up k (some ⟨y.t, y.e, L'⟩))) ρ y_1 u
      rw [hown]
      have hi : (σ.H.drops rs).up k (some ⟨y.t, y.e, L'⟩) i = some q := hi
      by_cases e : i = k
      · subst e
        have hq : q = ⟨y.t, y.e, L'⟩ := by
          have : (some (⟨y.t, y.e, L'⟩ : Blk)) = some q := by
            rw [← hi]; unfold Hp.up; rw [if_pos rfl]
          injection this with this; exact this.symm
        subst hq
        refine ⟨b, arr, g1, g2, fun z hz => ?_, by simp only; rw [e3]; exact g4, fun j z u hz hu => ?_⟩
        · obtain ⟨n, hn⟩ := List.getElem?_of_mem hz
          have hl : n < y.l.length := by rw [← e1]; exact (List.getElem?_eq_some_iff.1 hn).1
          rw [(e2 n z _ hn (List.getElem?_eq_getElem hl)).1]
          exact g3 _ (List.getElem_mem hl)
        · have hj := (List.getElem?_eq_some_iff.1 hz).1
          refine (e4 rs (fun _ h => h) j z u hz ?_).mono ((Ext.refl _ _ _).into _)
          simp only at hj
          rw [List.getElem?_take, if_pos (by omega)]
          simpa using hu
      · exact hD.row i q (by unfold Hp.up at hi; rw [if_neg e] at hi; exact hi)
    · obtain ⟨q0, h0⟩ := back i q h3
      obtain ⟨q1, h1'⟩ := back i' q' h4
      exact hH.inj i i' q0 q1 b' h0 h1' h5 h6
    · obtain ⟨q0, h0⟩ := back i q h3
      exact hs.mine i q0 b' h0 h4
theorem AWp.endFrz (t : Nat) {P : Program} {c : Code} {Q : Exit → St → Prop} {σ : St} (h : AWp P c (frzT t Q) σ) : AWp P c Q σ := by
  intro B A W st a w ρ hs r _
  refine wpIn_mono (h B A W st a w ρ hs) fun e a' w' hq => ?_
  obtain ⟨τ, ρ', hq, hs'⟩ := hq
  cases e with
  | normal =>
    unfold frzT at hq
    simp only at hq
    split at hq
    · rename_i k _ _ _ _
      obtain ⟨σ', h1, h2⟩ := hs'.frz st k hq
      exact ⟨σ', ρ', h1, h2⟩
    · exact hq.elim
  | _ => exact ⟨τ, ρ', hq, hs'⟩
@[go_sem ↓, go_sem] theorem ev_frzT_e {t : Nat} {Q : Exit → St → Prop} {σ : St} : frzT t Q .ret σ = Q .ret σ := rfl
@[go_sem ↓, go_sem] theorem ev_frzT_x {t id : Nat} {Q : Exit → St → Prop} {σ : St} : frzT t Q (.exit id) σ = Q (.exit id) σ := rfl
theorem ev_frzT_n {t : Nat} {Q : Exit → St → Prop} {σ : St} : frzT t Q .normal σ = (match σ.s t with
    | .sl k _ _ _ => optC (σ.H k) fun y => frzs (frzE (argN σ.H 3)) y.l fun l' rs => (rs.all fun i => !(i == k)) = true ∧ Q .normal { σ with H := (σ.H.drops rs).up k (some ⟨y.t, y.e, l'⟩) }
    | _ => False) := rfl
end Go.Proofs.YthhpmapbhdebeaaGreat

