/- Texts DT3 PM15 SZ7 LQ4 DT4 CH1 in one. -/
import Derived.Test.YtfbogelmgdojgaaGreatR29
import Derived.Test.YtfbogelmgdojgaaGreatR27
import Derived.Test.YtfbogelmgdojgaaGreatR28
/- Resultants: the Sylvester matrix and the norm. No program in sight. -/
namespace Go.Proofs.YtfbogelmgdojgaaGreat
set_option linter.unusedSimpArgs false
set_option linter.unusedVariables false

theorem GM_red {p q : Nat} {a b r c : List Rat} (hc : c.length + p ≤ q + 1) (h : ∀ d, cf a d = cf (mulL c b) d + cf r d) : det (p + q) (GM p q a b) = det (p + q) (GM p q r b) := by
  rw [← (det_ML (p + q)).combs (GM p q r b) (fun i k => sh (p - 1 - i) c (q - 1 - k)) (s := p) (q := q) (u := 0) (Nat.le_refl _) p (by omega) (by omega)]
  refine (det_ML (p + q)).congr fun i hi j _ => ?_
  by_cases e : i < p
  · rw [if_pos (by omega)]
    have e1 : sm q (fun k => sh (p - 1 - i) c (q - 1 - k) * GM p q r b (p + k) j) = sh (p - 1 - i) (pMul c b) (p + q - 1 - j) := by
      rw [sh_mul _ _ _ (q := q) (by omega), ← sm_rev]
      refine sm_congr fun k _ => ?_
      unfold GM HM
      rw [if_neg (by omega)]
      show sh (p - 1 - i) c (q - 1 - (q - 1 - k)) * sh (q - 1 - (p + (q - 1 - k) - p)) b _ = _
      rw [show q - 1 - (q - 1 - k) = k from by omega, show q - 1 - (p + (q - 1 - k) - p) = k from by omega]
    show GM p q a b i j = GM p q r b i j + _
    rw [e1]
    unfold GM HM
    rw [if_pos e, if_pos e]
    unfold sh
    by_cases e2 : p + q - 1 - j < p - 1 - i
    · rw [if_pos e2, if_pos e2, if_pos e2]; grind
    · rw [if_neg e2, if_neg e2, if_neg e2, h, cf_pMul]; grind
  · rw [if_neg (by omega)]
    unfold GM HM
    rw [if_neg e, if_neg e]
theorem HM_red {p q : Nat} {a : List Rat} {B B' : Nat → Nat → Rat} (Q : Nat → List Rat) (hQ : ∀ i, i < q → (Q i).length ≤ p) (h : ∀ i, i < q → ∀ d, B i d = cf (mulL (Q i) a) d + B' i d) : det (p + q) (HM p q a B) = det (p + q) (HM p q a B') := by
  rw [← (det_ML (p + q)).combs (HM p q a B') (fun i k => cf (Q (i - p)) (p - 1 - k)) (s := 0) (q := p) (u := p) (by omega) q (Nat.le_refl _) (by omega)]
  refine (det_ML (p + q)).congr fun i hi j _ => ?_
  by_cases e : i < p
  · rw [if_neg (by omega)]
    unfold HM
    rw [if_pos e, if_pos e]
  · rw [if_pos (by omega)]
    have e1 : sm p (fun k => cf (Q (i - p)) (p - 1 - k) * HM p q a B' (0 + k) j) = cf (mulL (Q (i - p)) a) (p + q - 1 - j) := by
      rw [sh_sm a _ p _ (hQ _ (by omega)), ← sm_rev]
      refine sm_congr fun k hk => ?_
      unfold HM
      rw [if_pos (by omega), show p - 1 - (0 + (p - 1 - k)) = k from by omega, show p - 1 - (p - 1 - k) = k from by omega]
    show HM p q a B i j = HM p q a B' i j + _
    rw [e1]
    unfold HM
    rw [if_neg e, if_neg e, h _ (by omega)]
    grind
theorem sgm_sg (m n : Nat) (x : Rat) : sgm m n x = sg (m * n) * x := by
  unfold sgm
  rw [sg_mod]
  split <;> grind
theorem det_zero_row {n : Nat} (M : Mat) {p : Nat} (hp : p < n) (h : ∀ j, j < n → M p j = 0) : det n M = 0 := (det_ML n).zero M hp h
theorem syl_const {p : Nat} {a : List Rat} (ha : a.length = 1) (b : List Rat) : det (p + 0) (GM p 0 a b) = lead a ^ p := by
  have := HM_tops (q := 0) (a := a) (p := 0) (B := fun i d => sh (0 - 1 - i) b d) (by omega) p (fun i hi => by omega)
  rw [Nat.zero_add] at this
  show det (p + 0) (HM p 0 a _) = _
  rw [this, show det (0 + 0) (HM 0 0 a fun i d => sh (0 - 1 - i) b d) = 1 from rfl, lead, ha]
  grind
/-- The resultant is the determinant of the Sylvester matrix. -/
theorem pRes_syl : ∀ (N : Nat) (a b : List Rat), Can a → Can b → a.length + 2 * b.length < N → a ≠ [] → b ≠ [] → pRes a b = det (b.length - 1 + (a.length - 1)) (GM (b.length - 1) (a.length - 1) a b)
  | 0, a, b, _, _, h, _, _ => by omega
  | N + 1, a, b, ha, hb, h, a0, b0 => by
    have hal := List.length_pos_iff.2 a0
    have hbl := List.length_pos_iff.2 b0
    rw [pRes_step ha hb, if_neg (by rintro (e | e); exact a0 e; exact b0 e)]
    by_cases h1 : b.length = 1
    · rw [if_pos h1, h1, GM_swap, show 1 - 1 = 0 from rfl, syl_const h1, Nat.zero_mul, sg]
      grind
    · rw [if_neg h1]
      by_cases h2 : a.length = 1
      · rw [if_pos h2, h2, show 1 - 1 = 0 from rfl, syl_const h2]
      · rw [if_neg h2]
        by_cases h3 : a.length < b.length
        · rw [if_pos h3, pRes_syl N b a hb ha (by omega) b0 a0, GM_swap (b.length - 1), sgm_sg, Nat.mul_comm]
        · rw [if_neg h3]
          obtain ⟨⟨d1, d2⟩, d3, d4⟩ := dm_ok ha hb b0
          have lq : (pDiv a b).length + (b.length - 1) ≤ a.length - 1 + 1 := by
            by_cases q0 : pDiv a b = []
            · rw [q0, List.length_nil]; omega
            · have l1 := len_pMul d1 hb q0 b0
              have l2 : (pMul (pDiv a b) b) = pSub a (pMod a b) := ev_inj (can_pMul _ _) (can_pSub _ _) fun x => by rw [ev_pMul, ev_pSub]; have := d4 x; grind
              have l3 := len_pSub a (pMod a b)
              rw [← l2] at l3
              have := List.length_pos_iff.2 q0
              omega
          have e1 := GM_red (p := b.length - 1) (q := a.length - 1) (r := pMod a b) lq (fun d => by
            have := cf_of_ev (a := addL (mulL (pDiv a b) b) (pMod a b)) (b := a) (fun x => by rw [ev_addL, ev_mulL]; exact d4 x) d
            rw [← this, cf_addL])
          rw [e1]
          by_cases h4 : pMod a b = []
          · rw [if_pos h4]
            refine (det_zero_row _ (p := 0) (by omega) fun j _ => ?_).symm
            unfold GM HM sh
            rw [if_pos (by omega), h4]
            split <;> rfl
          · rw [if_neg h4, pRes_syl N b (pMod a b) hb d2 (by omega) b0 h4, GM_swap (b.length - 1) (a.length - 1), sgm_sg, Nat.mul_comm (a.length - 1)]
            have hrl := List.length_pos_iff.2 h4
            have e2 := HM_tops (q := b.length - 1) (a := b) (p := (pMod a b).length - 1) (B := fun i d => sh (b.length - 1 - 1 - i) (pMod a b) d) (by omega) (a.length - (pMod a b).length) (fun i hi d hd => by
              unfold sh
              rw [if_neg (by omega), cf_ge (by omega)])
            rw [show (pMod a b).length - 1 + (a.length - (pMod a b).length) = a.length - 1 from by omega] at e2
            show _ = sg ((b.length - 1) * (a.length - 1)) * det (a.length - 1 + (b.length - 1)) (HM _ _ b _)
            rw [e2]
            rfl
/-- A polynomial times a power of the variable. -/
def xs (e : Nat) (b : List Rat) : List Rat := pMul (mon 1 e) b
theorem ev_mon : ∀ (e : Nat) (x : Rat), ev (mon 1 e) x = x ^ e
  | 0, x => by rw [Rat.pow_zero]; show 1 + x * 0 = 1; grind
  | e + 1, x => by
    rw [Rat.pow_succ]
    show 0 + x * ev (mon 1 e) x = _
    rw [ev_mon e x]; grind
theorem ev_xs (e : Nat) (b : List Rat) (x : Rat) : ev (xs e b) x = x ^ e * ev b x := by unfold xs; rw [ev_pMul, ev_mon]
theorem can_xs (e : Nat) (b : List Rat) : Can (xs e b) := can_pMul _ _
theorem cf_xs (e : Nat) (b : List Rat) (d : Nat) : cf (xs e b) d = sh e b d := by
  unfold xs
  rw [cf_pMul, sh_sm b (mon 1 e) (e + 1) d (by rw [mon_len]; exact Nat.le_refl _), sm_one e (by omega) fun i _ hi => by rw [mon_low _ _ _ hi]; grind]
  rw [mon_top]; grind
theorem len_xs {e : Nat} {b : List Rat} (hb : Can b) : (xs e b).length ≤ e + b.length := by
  by_cases b0 : b = []
  · subst b0
    unfold xs
    rw [pMul_nil_r]; simp
  · unfold xs
    rw [len_pMul (mon_can e (by decide)) hb (mon_ne _ _) b0, mon_len]; omega
/-- The matrix of a multiplication. -/
def NM (m : Nat) (a b : List Rat) : Mat := fun i j => cf (pMod (xs (m - 1 - i) b) a) (m - 1 - j)
def Nm (a b : List Rat) : Rat := det (a.length - 1) (NM (a.length - 1) a b)
theorem Nm_det (a b : List Rat) : Nm a b = det (0 + (a.length - 1)) (HM 0 (a.length - 1) a (fun i d => cf (pMod (xs (a.length - 1 - 1 - i) b) a) d)) := by
  unfold Nm
  rw [Nat.zero_add]
  refine (det_ML _).congr fun i _ j _ => ?_
  unfold NM HM
  rw [if_neg (by omega), Nat.zero_add]
  rfl
theorem pRes_norm {a b : List Rat} (ha : Can a) (hb : Can b) (a0 : a ≠ []) (b0 : b ≠ []) : pRes a b = lead a ^ (b.length - 1) * Nm a b := by
  have hal := List.length_pos_iff.2 a0
  have hbl := List.length_pos_iff.2 b0
  rw [pRes_syl _ a b ha hb (Nat.lt_succ_self _) a0 b0]
  unfold GM
  rw [HM_red (B' := fun i d => cf (pMod (xs (a.length - 1 - 1 - i) b) a) d) (fun i => pDiv (xs (a.length - 1 - 1 - i) b) a) (fun i hi => ?_) (fun i hi d => ?_)]
  · have e2 := HM_tops (q := a.length - 1) (a := a) (p := 0) (B := fun i d => cf (pMod (xs (a.length - 1 - 1 - i) b) a) d) (by omega) (b.length - 1) (fun i hi d hd => cf_ge (by
      have := (dm_ok (can_xs (a.length - 1 - 1 - i) b) ha a0).2.1
      omega))
    rw [Nat.zero_add] at e2
    rw [e2, Nm_det]
    rfl
  · obtain ⟨⟨d1, d2⟩, d3, d4⟩ := dm_ok (can_xs (a.length - 1 - 1 - i) b) ha a0
    by_cases q0 : pDiv (xs (a.length - 1 - 1 - i) b) a = []
    · rw [q0, List.length_nil]; omega
    · have l1 := len_pMul d1 ha q0 a0
      have l2 : (pMul (pDiv (xs (a.length - 1 - 1 - i) b) a) a) = pSub (xs (a.length - 1 - 1 - i) b) (pMod (xs (a.length - 1 - 1 - i) b) a) := ev_inj (can_pMul _ _) (can_pSub _ _) fun x => by rw [ev_pMul, ev_pSub]; have := d4 x; grind
      have l3 := len_pSub (xs (a.length - 1 - 1 - i) b) (pMod (xs (a.length - 1 - 1 - i) b) a)
      rw [← l2] at l3
      have l4 := len_xs (e := a.length - 1 - 1 - i) hb
      have := List.length_pos_iff.2 q0
      omega
  · obtain ⟨⟨d1, d2⟩, d3, d4⟩ := dm_ok (can_xs (a.length - 1 - 1 - i) b) ha a0
    have := cf_of_ev (a := addL (mulL (pDiv (xs (a.length - 1 - 1 - i) b) a) a) (pMod (xs (a.length - 1 - 1 - i) b) a)) (b := xs (a.length - 1 - 1 - i) b) (fun x => by rw [ev_addL, ev_mulL]; exact d4 x) d
    rw [← cf_addL, this, cf_xs]
/-- Residues of combinations. -/
theorem mod_sc {a q : List Rat} (c : Rat) (ha : Can a) (hq : Can q) (q0 : q ≠ []) : pMod (pSc c a) q = pSc c (pMod a q) := by
  obtain ⟨⟨c1, c2⟩, l1, e1⟩ := dm_ok ha hq q0
  refine (dm_eq (can_pSc c a) hq (can_pSc c (pDiv a q)) (can_pSc _ _) (by have := len_pSc c (pMod a q); omega) fun t => ?_).2
  simp only [ev_pSc]
  have h1 := e1 t
  grind
theorem mod_comb {c a : List Rat} (ha : Can a) (a0 : a ≠ []) (d : Nat) : ∀ (q : Nat) (u : List Rat), u.length ≤ q → cf (pMod (pMul u c) a) d = sm q (fun s => cf u s * cf (pMod (xs s c) a) d)
  | 0, u, h => by
    obtain rfl : u = [] := List.eq_nil_of_length_eq_zero (by omega)
    rw [pMul_nil_l, (dm_small Can_nil ha (List.length_pos_iff.2 a0)).2]
    rfl
  | q + 1, u, h => by
    have ih := mod_comb ha a0 (c := c) d q (u.take q) (by rw [List.length_take]; omega)
    have cu : ∀ s, cf (u.take q) s = if s < q then cf u s else 0 := fun s => by
      unfold cf
      rw [List.getD_eq_getElem?_getD, List.getElem?_take, List.getD_eq_getElem?_getD]
      split <;> rfl
    have e1 : pMul u c = pAdd (pMul (u.take q) c) (pSc (cf u q) (xs q c)) := can_ext (can_pMul _ _) (can_pAdd _ _) fun i => by
      rw [cf_pAdd, cf_pSc, cf_pMul, cf_pMul, cf_xs, sh_sm c u (q + 1) i h, sh_sm c (u.take q) q i (by rw [List.length_take]; omega), sm]
      congr 1
      exact sm_congr fun s hs => by rw [cu, if_pos hs]
    rw [e1, mod_add (can_pMul _ _) (can_pSc _ _) ha a0, cf_pAdd, mod_sc _ (can_xs _ _) ha a0, cf_pSc, ih, sm]
    congr 1
    exact sm_congr fun s hs => by rw [cu, if_pos hs]
theorem Nm_mul {a b c : List Rat} (ha : Can a) (hb : Can b) (hc : Can c) (a0 : a ≠ []) : Nm a (pMul b c) = Nm a b * Nm a c := by
  unfold Nm
  rw [← det_mul]
  refine (det_ML _).congr fun i hi j _ => ?_
  unfold mul NM
  have h1 := mod_comb (c := c) ha a0 (a.length - 1 - 1 - j) (a.length - 1) (pMod (xs (a.length - 1 - 1 - i) b) a) (by have := (dm_ok (can_xs (a.length - 1 - 1 - i) b) ha a0).2.1; omega)
  rw [mod_mul_l (can_xs _ _) ha a0, ← sm_rev] at h1
  rw [← h1]
  congr 2
  exact ev_inj (can_xs _ _) (can_pMul _ _) fun x => by rw [ev_xs, ev_pMul, ev_pMul, ev_xs]; grind
theorem powq_add (x : Rat) (m : Nat) : ∀ n, x ^ (m + n) = x ^ m * x ^ n
  | 0 => by rw [Nat.add_zero, Rat.pow_zero]; grind
  | n + 1 => by rw [← Nat.add_assoc, Rat.pow_succ, Rat.pow_succ, powq_add x m n]; grind
/-- The resultant is multiplicative. -/
theorem pRes_mul {a b c : List Rat} (ha : Can a) (hb : Can b) (hc : Can c) (a0 : a ≠ []) (b0 : b ≠ []) (c0 : c ≠ []) : pRes a (pMul b c) = pRes a b * pRes a c := by
  have m0 : pMul b c ≠ [] := fun e => by rcases (pMul_eq_nil hb hc).1 e with e | e; exact b0 e; exact c0 e
  have hbl := List.length_pos_iff.2 b0
  have hcl := List.length_pos_iff.2 c0
  rw [pRes_norm ha (can_pMul _ _) a0 m0, pRes_norm ha hb a0 b0, pRes_norm ha hc a0 c0, Nm_mul ha hb hc a0, len_pMul hb hc b0 c0, show b.length + c.length - 1 - 1 = b.length - 1 + (c.length - 1) from by omega, powq_add]
  grind
theorem pRes_swap {a b : List Rat} (ha : Can a) (hb : Can b) (a0 : a ≠ []) (b0 : b ≠ []) : pRes b a = sgm (a.length - 1) (b.length - 1) (pRes a b) := by
  rw [pRes_syl _ a b ha hb (Nat.lt_succ_self _) a0 b0, pRes_syl _ b a hb ha (Nat.lt_succ_self _) b0 a0, GM_swap, sgm_sg]
/-- The norm of a residue. -/
theorem mod_monic {a q : List Rat} (ha : Can a) (hq : Can q) (q0 : q ≠ []) : pMod a (pMonic q) = pMod a q := by
  obtain ⟨⟨c1, c2⟩, l1, e1⟩ := dm_ok ha hq q0
  have l0 := lead_ne hq q0
  refine (dm_eq ha (can_pMonic q) (can_pSc (lead q) (pDiv a q)) c2 (by rw [len_pMonic hq]; exact l1) fun t => ?_).2
  rw [ev_pSc, ev_pMonic q0]
  have h1 := e1 t
  grind
theorem Nm_mod {a q : List Rat} (ha : Can a) (hq : Can q) (q0 : q ≠ []) : Nm q (pMod a q) = Nm q a := by
  unfold Nm
  refine (det_ML _).congr fun i hi j _ => ?_
  unfold NM
  rw [show pMod (xs (q.length - 1 - 1 - i) (pMod a q)) q = pMod (xs (q.length - 1 - 1 - i) a) q from mod_mul_r ha hq q0]
theorem norm_Nm {a q : List Rat} (ha : Can a) (hq : Can q) (h2 : 2 ≤ q.length) : pRes (pMonic q) (pMod a q) = Nm (pMonic q) a := by
  have q0 : q ≠ [] := fun e => by rw [e] at h2; simp at h2
  have m0 : pMonic q ≠ [] := fun e => by have := len_pMonic hq; rw [e] at this; simp at this; omega
  have cr := (dm_ok ha hq q0).1.2
  rw [← Nm_mod ha (can_pMonic q) m0, mod_monic ha hq q0]
  by_cases r0 : pMod a q = []
  · rw [r0, pRes_step (can_pMonic q) Can_nil, if_pos (.inr rfl)]
    unfold Nm
    refine (det_zero_row _ (p := 0) (by rw [len_pMonic hq]; omega) fun j _ => ?_).symm
    unfold NM
    rw [show ∀ e, xs e [] = [] from fun e => pMul_nil_r _, (dm_small Can_nil (can_pMonic q) (List.length_pos_iff.2 m0)).2]
    rfl
  · rw [pRes_norm (can_pMonic q) cr m0 r0, lead_pMonic hq q0]
    have : ∀ n : Nat, (1 : Rat) ^ n = 1 := fun n => by
      induction n with
      | zero => rw [Rat.pow_zero]
      | succ n ih => rw [Rat.pow_succ, ih]; grind
    rw [this]; grind
end Go.Proofs.YtfbogelmgdojgaaGreat


/- Power sums and traces. No program in sight. -/
namespace Go.Proofs.YtfbogelmgdojgaaGreat
set_option linter.unusedSimpArgs false
set_option linter.unusedVariables false

/-- The power sums, each by itself. -/
def nw (q : List Rat) (k : Nat) : Rat := nwV q k (nwL q k)
theorem nwL_get (q : List Rat) : ∀ (k j : Nat), j < k → cf (nwL q k) j = nw q j
  | 0, j, h => by omega
  | k + 1, j, h => by
    have hl := nwL_len q k
    unfold cf
    rw [nwL, List.getD_eq_getElem?_getD]
    by_cases e : j = k
    · subst e
      rw [List.getElem?_append_right (by omega), hl, Nat.sub_self]
      rfl
    · rw [List.getElem?_append_left (by omega), ← List.getD_eq_getElem?_getD]
      exact nwL_get q k j (by omega)
theorem trF_sm (r p : List Rat) : ∀ n, trF r p n = sm n (fun j => cf r j * cf p j)
  | 0 => by simp [trF, sm]
  | n + 1 => by rw [trF, sm, trF_sm r p n]
theorem sm_more {f : Nat → Rat} {m n : Nat} (h : m ≤ n) (h0 : ∀ i, m ≤ i → i < n → f i = 0) : sm n f = sm m f := by
  induction n with
  | zero => rw [show m = 0 from by omega]
  | succ n ih =>
    by_cases e : m = n + 1
    · rw [e]
    · rw [sm, ih (by omega) (fun i h1 h2 => h0 i h1 (by omega)), h0 n (by omega) (by omega)]; grind
theorem trQ_sm (q a : List Rat) {m : Nat} (h : (pMod a q).length ≤ m) : trQ q a = sm m (fun j => cf (pMod a q) j * nw (pMonic q) j) := by
  unfold trQ
  rw [trF_sm, sm_more h fun i hi _ => by rw [cf_ge hi]; grind]
  refine sm_congr fun j hj => ?_
  rw [show nwR (pMonic q) (pMod a q).length = nwL (pMonic q) (pMod a q).length from rfl, nwL_get _ _ _ hj]
theorem nwN_sm (q : List Rat) (k : Nat) (l : List Rat) : ∀ i, nwN q k l i = - sm i (fun t => cf q (q.length - 1 - (t + 1)) * nwBy k l (t + 1))
  | 0 => by simp [nwN, sm]
  | i + 1 => by rw [nwN, sm, nwN_sm q k l i]; grind
theorem xs_mon (s e : Nat) : xs s (mon 1 e) = mon 1 (s + e) := ev_inj (can_xs _ _) (mon_can _ (by decide)) fun x => by rw [ev_xs, ev_mon, ev_mon, powq_add]
theorem nw_zero {q : List Rat} (hq : Can q) : nw (pMonic q) 0 = (((q.length - 1 : Nat) : Int) : Rat) := by
  unfold nw nwV
  rw [if_pos rfl, len_pMonic hq]
end Go.Proofs.YtfbogelmgdojgaaGreat


/- Sizes of power sums and traces. No program in sight. -/
namespace Go.Proofs.YtfbogelmgdojgaaGreat
set_option linter.unusedSimpArgs false
set_option linter.unusedVariables false
open Go.RowKit

def nwZ (E : Nat) : Nat → Nat
  | 0 => 1
  | k + 1 => 4 * (E + nwZ E k + 1) + 1
theorem nwZ_pos (E : Nat) : ∀ k, 1 ≤ nwZ E k
  | 0 => Nat.le_refl _
  | k + 1 => by rw [nwZ]; omega
theorem nwBy_sz {l : List Rat} {S k i : Nat} (hl : PB l S) (h1 : 1 ≤ S) (hk : k < 4294967296) : qs (nwBy k l i) ≤ S := by
  unfold nwBy
  split
  · exact hl _
  · exact Nat.le_trans (qs_nat hk) h1
theorem nwN_sz {q l : List Rat} {E S k : Nat} (hq : PB q E) (hl : PB l S) (h1 : 1 ≤ S) (hk : k < 4294967296) : ∀ i, qs (nwN q k l i) ≤ i * (E + S + 1) + 1
  | 0 => by
    rw [nwN, Nat.zero_mul]
    exact qs_0
  | i + 1 => by
    have ih := nwN_sz hq hl h1 hk i
    rw [nwN, Nat.succ_mul]
    have e1 := qs_sub (nwN q k l i) (cf q (q.length - 1 - (i + 1)) * nwBy k l (i + 1))
    have e2 := qs_mul (cf q (q.length - 1 - (i + 1))) (nwBy k l (i + 1))
    have e3 := hq (q.length - 1 - (i + 1))
    have e4 := nwBy_sz (i := i + 1) hl h1 hk
    omega
theorem nwL_sz {q : List Rat} {E : Nat} (hq : PB q E) (hl : q.length ≤ 5) : ∀ k, k < 1000 → PB (nwL q k) (nwZ E k)
  | 0, _ => PB_nil (Nat.le_refl _)
  | k + 1, hk => fun i => by
    have ih := nwL_sz hq hl k (by omega)
    have hp := nwZ_pos E k
    have hle : nwZ E k ≤ nwZ E (k + 1) := by rw [nwZ]; omega
    by_cases e : i < k
    · have : cf (nwL q (k + 1)) i = cf (nwL q k) i := by rw [nwL_get _ _ _ (by omega), nwL_get _ _ _ e]
      rw [this]
      exact Nat.le_trans (ih i) hle
    · by_cases e' : i = k
      · rw [nwL_get _ _ _ (by omega), e']
        show qs (nwV q k (nwL q k)) ≤ _
        unfold nwV
        split
        · exact Nat.le_trans (qs_nat (z := q.length - 1) (by omega)) (by omega)
        · have h1 := nwN_sz (k := k) hq ih hp (by omega) (min k (q.length - 1))
          refine Nat.le_trans h1 ?_
          rw [nwZ]
          have : min k (q.length - 1) * (E + nwZ E k + 1) ≤ 4 * (E + nwZ E k + 1) := Nat.mul_le_mul_right _ (by omega)
          omega
      · rw [cf_ge (by rw [nwL_len]; omega)]
        exact Nat.le_trans qs_0 (Nat.le_trans hp hle)
theorem nwZ_step (E : Nat) {j : Nat} : ∀ {k}, j ≤ k → nwZ E j ≤ nwZ E k
  | 0, h => by rw [show j = 0 from by omega]; exact Nat.le_refl _
  | k + 1, h => by
    by_cases e : j = k + 1
    · rw [e]; exact Nat.le_refl _
    · have := nwZ_step E (j := j) (k := k) (by omega)
      rw [nwZ]; omega
theorem nw_ok {q : List Rat} {E L : Nat} (hq : PB q E) (hl : q.length ≤ 5) (h : L ≤ 100 ∧ 5 * (E + nwZ E L + 1) + 1 ≤ 5000000000000) : NwOk q L := by
  refine ⟨⟨by omega, hq.mono (by omega), by omega⟩, fun k hk => ?_⟩
  have h1 := nwL_sz hq hl k (by omega)
  have h2 := nwZ_step E hk
  refine ⟨h1.mono (by omega), fun i hi => ⟨?_, ?_⟩⟩
  · refine Nat.le_trans (nwN_sz hq h1 (nwZ_pos E k) (by omega) i) ?_
    have : i * (E + nwZ E k + 1) ≤ 5 * (E + nwZ E k + 1) := Nat.mul_le_mul_right _ (by omega)
    omega
  · have e1 := qs_mul (cf q (q.length - 1 - (i + 1))) (nwBy k (nwL q k) (i + 1))
    have e2 := hq (q.length - 1 - (i + 1))
    have e3 := nwBy_sz (k := k) (i := i + 1) h1 (nwZ_pos E k) (by omega)
    omega
theorem Md0.mon {q : List Rat} {n k : Nat} (hq : Md0 q n k) : PB (pMonic q) 11009 ∧ (pMonic q).length ≤ 5 := by
  have := hq.sz
  exact ⟨monic_PB this.pb, by rw [len_pMonic hq.can]; exact this.len⟩
theorem Md0.po {q : List Rat} {n k : Nat} (hq : Md0 q n k) {L : Nat} (hL : L ≤ 6) : PoOk q L := by
  have h2 := hq.two
  have h3 := hq.sz.len
  refine ⟨⟨hq.can, by omega, 5504, hq.sz.pb, by decide⟩, ⟨by rw [len_pMonic hq.can]; omega, by rw [len_pMonic hq.can]; omega⟩, nw_ok hq.mon.1 hq.mon.2 ⟨by omega, ?_⟩⟩
  have := nwZ_step 11009 hL
  exact Nat.le_trans (show _ ≤ 5 * (11009 + nwZ 11009 6 + 1) + 1 by omega) (by decide)
/-- The sizes of a trace. -/
theorem trF_sz {r p : List Rat} {R S : Nat} (hr : PB r R) (hp : PB p S) : ∀ i, qs (trF r p i) ≤ i * (R + S + 1) + 1
  | 0 => by
    rw [trF, Nat.zero_mul]
    exact qs_0
  | i + 1 => by
    have ih := trF_sz hr hp i
    rw [trF, Nat.succ_mul]
    have e1 := qs_add (trF r p i) (cf r i * cf p i)
    have e2 := qs_mul (cf r i) (cf p i)
    have e3 := hr i
    have e4 := hp i
    omega
def trB7 (m j : Nat) : Nat := 4 * (2 ^ (m - 1) * (j + 11009) + nwZ 11009 4 + 1) + 1
theorem Md0.tr {q a : List Rat} {n k m j : Nat} (hq : Md0 q n k) (ha : Sz a m j) (h : ((2 ≤ m ∧ m ≤ 1000) ∧ 2 ^ (m - 1) * (j + 11009) ≤ 1000000000) := by decide) : TrOk q a ∧ qs (trQ q a) ≤ trB7 m j := by
  have hd := hq.dv ha ⟨h.1, by omega⟩
  have hr := hq.rm ha h.1.1
  have hn := nwL_sz hq.mon.1 hq.mon.2 (pMod a q).length (by have := hr.len; omega)
  have hn' : PB (nwL (pMonic q) (pMod a q).length) (nwZ 11009 4) := hn.mono (nwZ_step _ hr.len)
  have hS : nwZ 11009 4 ≤ 100000000 := by decide
  unfold trB7
  have h6 := h.2
  generalize nwZ 11009 4 = Y at hS hn' ⊢
  generalize 2 ^ (m - 1) * (j + 11009) = X at hr h6 ⊢
  refine ⟨⟨hd, fun _ => hq.po (by have := hr.len; omega), hr.pb.mono (by omega), hn'.mono (by omega), fun i hi => ⟨?_, ?_⟩⟩, ?_⟩
  · refine Nat.le_trans (trF_sz hr.pb hn' i) ?_
    have : i * (X + Y + 1) ≤ 4 * (X + Y + 1) := Nat.mul_le_mul_right _ (by have := hr.len; omega)
    omega
  · have e2 := qs_mul (cf (pMod a q) i) (cf (nwR (pMonic q) (pMod a q).length) i)
    have e3 := hr.pb i
    have e4 := hn' i
    exact Nat.le_trans e2 (by show _ + qs (cf (nwL (pMonic q) (pMod a q).length) i) ≤ _; omega)
  · unfold trQ
    refine Nat.le_trans (trF_sz hr.pb hn' _) ?_
    have : (pMod a q).length * (X + Y + 1) ≤ 4 * (X + Y + 1) := Nat.mul_le_mul_right _ hr.len
    omega
/-- The size of a resultant. -/
def reM : Nat → Nat → Nat → Nat → Nat → Nat
  | 0, _, _, _, _ => 0
  | n + 1, la, sa, lb, sb => if la = 0 ∨ lb = 0 then 1 else if lb = 1 then (la - 1) * sb + 1 else if la = 1 then (lb - 1) * sa + 1 else
      if la < lb then reM n lb sb la sa else mxB lb fun l => if l = 0 then 1 else (la - l) * sb + 1 + reM n lb sb l (rmB la sa lb sb)
theorem reM_ok : ∀ (n : Nat) {la sa lb sb : Nat} {a b : List Rat}, la + 2 * lb < n → Can a → Can b → a.length = la → b.length = lb → PB a sa → PB b sb → qs (pRes a b) ≤ reM n la sa lb sb
  | 0, _, _, _, _, _, _, h, _, _, _, _, _, _ => by omega
  | n + 1, la, sa, lb, sb, a, b, h, ca, cb, e1, e2, pa, pb => by
    subst e1 e2
    rw [pRes_step ca cb, reM]
    by_cases h0 : a = [] ∨ b = []
    · rw [if_pos h0, if_pos (by rcases h0 with e | e <;> rw [e] <;> simp)]
      exact qs_0
    · have a0 : a ≠ [] := fun e => h0 (.inl e)
      have b0 : b ≠ [] := fun e => h0 (.inr e)
      have hal := List.length_pos_iff.2 a0
      have hbl := List.length_pos_iff.2 b0
      rw [if_neg h0, if_neg (show ¬ (a.length = 0 ∨ b.length = 0) by omega)]
      by_cases h1 : b.length = 1
      · rw [if_pos h1, if_pos h1]
        exact qs_powN (pb _) _
      · rw [if_neg h1, if_neg h1]
        by_cases h2 : a.length = 1
        · rw [if_pos h2, if_pos h2]
          exact qs_powN (pa _) _
        · rw [if_neg h2, if_neg h2]
          by_cases h3 : a.length < b.length
          · rw [if_pos h3, if_pos h3, qs_sgm]
            exact reM_ok n (by omega) cb ca rfl rfl pb pa
          · rw [if_neg h3, if_neg h3]
            obtain ⟨⟨_, cr⟩, hr, _⟩ := dm_ok ca cb b0
            refine Nat.le_trans ?_ (mxB_ok (f := fun l => if l = 0 then 1 else (a.length - l) * sb + 1 + reM n b.length sb l (rmB a.length sa b.length sb)) _ hr)
            by_cases h4 : pMod a b = []
            · rw [if_pos h4, h4]
              exact qs_0
            · have := List.length_pos_iff.2 h4
              rw [if_neg h4, qs_sgm, if_neg (by omega)]
              refine Nat.le_trans (qs_mul _ _) (Nat.add_le_add (qs_powN (pb _) _) ?_)
              exact reM_ok n (by omega) cb cr rfl rfl pb (rm_PB ca cb b0 pa pb)
end Go.Proofs.YtfbogelmgdojgaaGreat


/- The law of traces and norms. -/
namespace Go.Proofs.YtfbogelmgdojgaaGreat
set_option linter.unusedSimpArgs false
set_option linter.unusedVariables false
open Go.RowKit

theorem cmpQ_self (x : Rat) : cmpQ x x = 0 := by
  have := cmpQ_eq0 x x
  rw [decide_eq_true rfl] at this
  exact eq_of_beq this
/-- The sizes of a norm. -/
def nmC (m j n k : Nat) : Bool := allB n fun l => reC 16 1 n (2 * k + 1) l (2 ^ (m - n + 1) * (j + 2 * k + 1)) && decide (reM 16 n (2 * k + 1) l (2 ^ (m - n + 1) * (j + 2 * k + 1)) ≤ 2500000000000)
end Go.Proofs.YtfbogelmgdojgaaGreat


/- Determinants: cofactors, matrices that depend on a number. No program in sight. -/
namespace Go.Proofs.YtfbogelmgdojgaaGreat
set_option linter.unusedSimpArgs false
set_option linter.unusedVariables false

/-- Rows and columns in reverse order. -/
def rvM (n : Nat) (M : Mat) : Mat := fun i j => M (n - 1 - i) (n - 1 - j)
theorem rv_ML (n : Nat) : ML n (fun M => det n (rvM n M)) where
  congr := fun {M M'} h => (det_ML n).congr fun i hi j hj => h _ (by omega) _ (by omega)
  lin := fun M p u v a b hp => by
    have e : ∀ w, det n (rvM n (upd M p w)) = det n (upd (rvM n M) (n - 1 - p) (fun j => w (n - 1 - j))) := fun w => (det_ML n).congr fun i hi j _ => by
      unfold rvM
      by_cases h : i = n - 1 - p
      · subst h
        rw [upd_same, show n - 1 - (n - 1 - p) = p from by omega, upd_same]
      · rw [upd_ne _ h, upd_ne _ (show n - 1 - i ≠ p by omega)]
    rw [e, e, e, ← (det_ML n).lin _ (n - 1 - p) _ _ a b (by omega)]
  alt := fun M p q hpq hq h => (det_ML n).alt _ (n - 1 - q) (n - 1 - p) (by omega) (by omega) (by
    unfold rvM
    funext j
    rw [show n - 1 - (n - 1 - q) = q from by omega, show n - 1 - (n - 1 - p) = p from by omega, h])
theorem det_rv (n : Nat) (M : Mat) : det n (rvM n M) = det n M := by
  rw [(rv_ML n).eq M]
  have : det n (rvM n one) = 1 := by
    rw [(det_ML n).congr (M' := one) fun i hi j hj => ?_, det_one]
    unfold rvM one
    by_cases e : i = j
    · rw [if_pos e, if_pos (by omega)]
    · rw [if_neg e, if_neg (by omega)]
  rw [this]; grind
/-- The cofactors of the first column. -/
def cofa (n : Nat) (M : Mat) (k : Nat) : Rat := sg k * det n (mino M k)
theorem cofa_sum (n : Nat) (M : Mat) {j : Nat} (hj : j < n + 1) : sm (n + 1) (fun k => cofa n M k * M k j) = if j = 0 then det (n + 1) M else 0 := by
  have e1 : sm (n + 1) (fun k => cofa n M k * M k j) = det (n + 1) (fun i c => if c = 0 then M i j else M i c) := by
    rw [← dtc_eq, dtc]
    refine sm_congr fun k _ => ?_
    rw [if_pos rfl, dtc_eq]
    unfold cofa
    have : mino (fun i c => if c = 0 then M i j else M i c) k = mino M k := by
      funext i c
      show (if c + 1 = 0 then M (if i < k then i else i + 1) j else M (if i < k then i else i + 1) (c + 1)) = M (if i < k then i else i + 1) (c + 1)
      rw [if_neg (by omega)]
    rw [this]; grind
  rw [e1]
  by_cases h : j = 0
  · subst h
    rw [if_pos rfl]
    congr 1
    funext i c
    split
    · rename_i h; rw [h]
    · rfl
  · rw [if_neg h, ← det_tp]
    refine (det_ML (n + 1)).alt _ 0 j (by omega) hj ?_
    funext i
    show (if 0 = 0 then M i j else M i 0) = (if j = 0 then M i j else M i j)
    rw [if_pos rfl, if_neg h]
/-- A matrix that depends linearly on a number. -/
def lnM (A D : Mat) (t : Rat) : Mat := fun i j => A i j + t * D i j
def smP : Nat → (Nat → List Rat) → List Rat
  | 0, _ => []
  | n + 1, f => addL (smP n f) (f n)
theorem ev_smP (f : Nat → List Rat) (t : Rat) : ∀ n, ev (smP n f) t = sm n (fun i => ev (f i) t)
  | 0 => rfl
  | n + 1 => by rw [smP, ev_addL, ev_smP f t n, sm]
theorem cf_smP (f : Nat → List Rat) (d : Nat) : ∀ n, cf (smP n f) d = sm n (fun i => cf (f i) d)
  | 0 => rfl
  | n + 1 => by rw [smP, cf_addL, cf_smP f d n, sm]
theorem len_smP {f : Nat → List Rat} {m : Nat} : ∀ {n}, (∀ i, i < n → (f i).length ≤ m) → (smP n f).length ≤ m
  | 0, _ => Nat.zero_le _
  | n + 1, h => by
    rw [smP, len_addL]
    have := len_smP (n := n) fun i hi => h i (by omega)
    have := h n (by omega)
    omega
/-- The determinant is a polynomial in the number. -/
def pdP : Nat → Mat → Mat → List Rat
  | 0, _, _ => [1]
  | n + 1, A, D => smP (n + 1) (fun k => scL (sg k) (mulL [A 0 k, D 0 k] (pdP n (minor A k) (minor D k))))
theorem pdP_ok : ∀ (n : Nat) (A D : Mat), (pdP n A D).length ≤ n + 1 ∧ (∀ t, ev (pdP n A D) t = det n (lnM A D t)) ∧ cf (pdP n A D) n = det n D
  | 0, A, D => ⟨Nat.le_refl _, fun t => by show 1 + t * 0 = (1 : Rat); grind, rfl⟩
  | n + 1, A, D => by
    have hP := fun k => pdP_ok n (minor A k) (minor D k)
    refine ⟨len_smP fun k _ => ?_, fun t => ?_, ?_⟩
    · rw [len_scL]
      show (addL (scL (A 0 k) (pdP n (minor A k) (minor D k))) (0 :: addL (scL (D 0 k) (pdP n (minor A k) (minor D k))) (0 :: []))).length ≤ _
      rw [len_addL, List.length_cons, len_addL, len_scL, len_scL]
      have := (hP k).1
      simp only [List.length_cons, List.length_nil]
      omega
    · rw [pdP, ev_smP, det]
      refine sm_congr fun k _ => ?_
      rw [ev_scL, ev_mulL, (hP k).2.1]
      have : minor (lnM A D t) k = lnM (minor A k) (minor D k) t := rfl
      rw [this]
      show sg k * ((A 0 k + t * (D 0 k + t * 0)) * _) = sg k * (A 0 k + t * D 0 k) * _
      grind
    · rw [pdP, cf_smP, det]
      refine sm_congr fun k _ => ?_
      rw [cf_scL]
      have e : cf (mulL [A 0 k, D 0 k] (pdP n (minor A k) (minor D k))) (n + 1) = A 0 k * cf (pdP n (minor A k) (minor D k)) (n + 1) + (D 0 k * cf (pdP n (minor A k) (minor D k)) n + 0) := by
        show cf (addL (scL (A 0 k) (pdP n (minor A k) (minor D k))) (0 :: addL (scL (D 0 k) (pdP n (minor A k) (minor D k))) (0 :: []))) (n + 1) = _
        rw [cf_addL, cf_scL, cf_succ, cf_addL, cf_scL]
        congr 2
        cases n <;> rfl
      rw [e, cf_ge (hP k).1, (hP k).2.2]
      grind
theorem pdet (n : Nat) (A D : Mat) : ∃ P : List Rat, P.length ≤ n + 1 ∧ (∀ t, ev P t = det n (lnM A D t)) ∧ cf P n = det n D := ⟨_, pdP_ok n A D⟩
/-- The determinant near the unit matrix. -/
theorem det_near : ∀ (n : Nat) (D : Mat), ∃ R : List Rat, ∀ h, det n (lnM one D h) = 1 + h * sm n (fun i => D i i) + h * h * ev R h
  | 0, D => ⟨[], fun h => by show (1 : Rat) = 1 + h * 0 + h * h * 0; grind⟩
  | n + 1, D => by
    obtain ⟨R, hR⟩ := det_near n (minor D 0)
    have key : ∀ k, ∃ S : List Rat, ∀ h, k < n → det n (minor (lnM one D h) (k + 1)) = h * ev S h := fun k => by
      obtain ⟨P, _, h2, _⟩ := pdet n (upd (minor one (k + 1)) k (minor D (k + 1) k)) (upd (minor D (k + 1)) k (fun _ => 0))
      refine ⟨P, fun h hk => ?_⟩
      rw [h2]
      have e := (det_ML n).lin (lnM (upd (minor one (k + 1)) k (minor D (k + 1) k)) (upd (minor D (k + 1)) k (fun _ => 0)) h) k (minor D (k + 1) k) (fun _ => 0) h 0 hk
      have e2 : upd (lnM (upd (minor one (k + 1)) k (minor D (k + 1) k)) (upd (minor D (k + 1)) k (fun _ => 0)) h) k (minor D (k + 1) k) = lnM (upd (minor one (k + 1)) k (minor D (k + 1) k)) (upd (minor D (k + 1)) k (fun _ => 0)) h := by
        funext i j
        by_cases hi : i = k
        · subst hi
          rw [upd_same]
          unfold lnM
          rw [upd_same, upd_same]; grind
        · rw [upd_ne _ hi]
      rw [e2] at e
      rw [show ∀ x y : Rat, h * x + 0 * y = h * x from fun x y => by grind] at e
      rw [← e]
      refine (det_ML n).congr fun i hi j hj => ?_
      by_cases hi : i = k
      · subst hi
        rw [upd_same]
        unfold minor lnM one
        rw [if_neg (by split <;> omega)]
        grind
      · rw [upd_ne _ hi]
        unfold lnM
        rw [upd_ne _ hi, upd_ne _ hi]
        rfl
    obtain ⟨S, hS⟩ : ∃ S : Nat → List Rat, ∀ k h, k < n → det n (minor (lnM one D h) (k + 1)) = h * ev (S k) h := ⟨fun k => (key k).choose, fun k => (key k).choose_spec⟩
    refine ⟨addL (addL R (scL (D 0 0) [sm n (fun i => minor D 0 i i)])) (addL (scL (D 0 0) (0 :: R)) (smP n (fun k => scL (sg (k + 1) * D 0 (k + 1)) (S k)))), fun h => ?_⟩
    rw [det, sm_first]
    have e0 : minor (lnM one D h) 0 = lnM one (minor D 0) h := by
      funext i j
      show one (i + 1) (if j < 0 then j else j + 1) + h * D (i + 1) (if j < 0 then j else j + 1) = one i j + h * D (i + 1) (if j < 0 then j else j + 1)
      rw [if_neg (Nat.not_lt_zero j)]
      unfold one
      by_cases e : i = j
      · rw [if_pos e, if_pos (by omega)]
      · rw [if_neg e, if_neg (by omega)]
    have e1 : lnM one D h 0 0 = 1 + h * D 0 0 := rfl
    rw [e0, hR h, e1, sm_congr (f := fun i => sg (i + 1) * lnM one D h 0 (i + 1) * det n (minor (lnM one D h) (i + 1))) (g := fun k => (h * h) * (sg (k + 1) * D 0 (k + 1) * ev (S k) h)) fun k hk => by
      rw [hS k h hk]
      have : lnM one D h 0 (k + 1) = h * D 0 (k + 1) := by
        unfold lnM one
        rw [if_neg (by omega)]; grind
      rw [this]; grind, sm_mul, sm_first (fun i => D i i)]
    simp only [ev_addL, ev_scL, ev_smP]
    have e3 : ev [sm n fun i => minor D 0 i i] h = sm n fun i => minor D 0 i i := by
      show _ + h * 0 = _
      grind
    have e4 : ev (0 :: R) h = h * ev R h := by
      show 0 + h * _ = _
      grind
    have e5 : (sm n fun i => minor D 0 i i) = sm n fun i => D (i + 1) (i + 1) := sm_congr fun i _ => by
      show D (i + 1) (if i < 0 then i else i + 1) = _
      rw [if_neg (Nat.not_lt_zero i)]
    rw [e3, e4, e5, sg]
    grind
end Go.Proofs.YtfbogelmgdojgaaGreat


/- The characteristic polynomial of a residue. No program in sight. -/
namespace Go.Proofs.YtfbogelmgdojgaaGreat
set_option linter.unusedSimpArgs false
set_option linter.unusedVariables false

/-- The matrix of a multiplication, lowest degrees first. -/
def MA (q b : List Rat) : Mat := fun i j => cf (pMod (xs i b) q) j
theorem Nm_MA (q b : List Rat) : Nm q b = det (q.length - 1) (MA q b) := by
  rw [← det_rv]
  rfl
theorem MA_row {q b u : List Rat} (hq : Can q) (q0 : q ≠ []) (hu : u.length ≤ q.length - 1) (j : Nat) : cf (pMod (pMul u b) q) j = sm (q.length - 1) (fun k => cf u k * MA q b k j) := mod_comb hq q0 j _ u hu
/-- A list of values. -/
def lsF (f : Nat → Rat) (n : Nat) : List Rat := tr ((List.range n).map f)
theorem cf_lsF (f : Nat → Rat) (n k : Nat) : cf (lsF f n) k = if k < n then f k else 0 := by
  unfold lsF
  rw [cf_tr]
  unfold cf
  rw [List.getD_eq_getElem?_getD, List.getElem?_map]
  by_cases h : k < n
  · rw [List.getElem?_range h, if_pos h]; rfl
  · rw [List.getElem?_eq_none (by simp; omega), if_neg h]; rfl
theorem len_lsF (f : Nat → Rat) (n : Nat) : (lsF f n).length ≤ n := Nat.le_trans (tr_len _) (by simp)
theorem can_lsF (f : Nat → Rat) (n : Nat) : Can (lsF f n) := tr_can _
theorem cf_m2 (x y : Rat) (u : List Rat) (s : Nat) : cf (mulL [x, y] u) s = x * cf u s + (if s = 0 then 0 else y * cf u (s - 1)) := by
  show cf (addL (scL x u) (0 :: addL (scL y u) (0 :: []))) s = _
  rw [cf_addL, cf_scL]
  congr 1
  cases s with
  | zero => rfl
  | succ s =>
    rw [cf_succ, cf_addL, cf_scL, if_neg (by omega), Nat.add_sub_cancel]
    have : cf (0 :: []) s = 0 := by cases s <;> rfl
    rw [this]; grind
theorem cf_const (c : Rat) (j : Nat) : cf (tr [c]) j = if j = 0 then c else 0 := by
  rw [cf_tr]
  cases j with
  | zero => rfl
  | succ j => rfl
/-- The characteristic polynomial. -/
def chi (q a : List Rat) : List Rat := pdP (q.length - 1) (fun i j => - MA q a i j) one
def chU (q a : List Rat) (k : Nat) : List Rat := scL (sg k) (pdP (q.length - 2) (mino (fun i j => - MA q a i j) k) (mino one k))
theorem chi_len (q a : List Rat) : (chi q a).length ≤ q.length - 1 + 1 := (pdP_ok (q.length - 1) (fun i j => - MA q a i j) one).1
theorem chi_ev (q a : List Rat) (t : Rat) : ev (chi q a) t = det (q.length - 1) (lnM (fun i j => - MA q a i j) one t) := (pdP_ok (q.length - 1) (fun i j => - MA q a i j) one).2.1 t
theorem chi_top (q a : List Rat) : cf (chi q a) (q.length - 1) = 1 := by
  rw [chi, (pdP_ok (q.length - 1) (fun i j => - MA q a i j) one).2.2, det_one]
theorem chi_length (q a : List Rat) : (chi q a).length = q.length - 1 + 1 := by
  have h1 := chi_len q a
  have h2 := chi_top q a
  rcases Nat.lt_or_ge (chi q a).length (q.length - 1 + 1) with h | h
  · rw [cf_ge (by omega)] at h2
    exact absurd h2 (by decide)
  · omega
theorem chi_can (q a : List Rat) : Can (chi q a) := fun _ => by
  rw [chi_length, Nat.add_sub_cancel, chi_top]; decide
theorem chU_len (q a : List Rat) (k : Nat) : (chU q a k).length ≤ q.length - 2 + 1 := by
  unfold chU
  rw [len_scL]
  exact (pdP_ok (q.length - 2) (mino (fun i j => - MA q a i j) k) (mino one k)).1
theorem chU_ev (q a : List Rat) (k : Nat) (t : Rat) : ev (chU q a k) t = cofa (q.length - 2) (lnM (fun i j => - MA q a i j) one t) k := by
  unfold chU
  rw [ev_scL, (pdP_ok (q.length - 2) (mino (fun i j => - MA q a i j) k) (mino one k)).2.1 t]
  rfl
theorem chU_sum {q : List Rat} (a : List Rat) (h2 : 2 ≤ q.length) (t : Rat) {j : Nat} (hj : j < q.length - 1) : sm (q.length - 1) (fun k => ev (chU q a k) t * (- MA q a k j + t * one k j)) = if j = 0 then ev (chi q a) t else 0 := by
  have h := cofa_sum (q.length - 2) (lnM (fun i j => - MA q a i j) one t) (j := j) (by omega)
  rw [show q.length - 2 + 1 = q.length - 1 from by omega, ← chi_ev] at h
  rw [← h]
  exact sm_congr fun k _ => by rw [chU_ev]; rfl
theorem chU_cf {q : List Rat} (a : List Rat) (h2 : 2 ≤ q.length) (s : Nat) {j : Nat} (hj : j < q.length - 1) :
    sm (q.length - 1) (fun k => cf (chU q a k) s * MA q a k j) = (if s = 0 then 0 else cf (chU q a j) (s - 1)) - (if j = 0 then cf (chi q a) s else 0) := by
  have h := cf_of_ev (a := smP (q.length - 1) (fun k => mulL [- MA q a k j, one k j] (chU q a k))) (b := if j = 0 then chi q a else []) (fun t => by
    rw [ev_smP]
    have := chU_sum a h2 t hj
    rw [sm_congr (g := fun k => ev (chU q a k) t * (- MA q a k j + t * one k j)) fun k _ => by
      rw [ev_mulL]
      show (- MA q a k j + t * (one k j + t * 0)) * _ = _
      grind, this]
    split <;> rfl) s
  rw [cf_smP, sm_congr fun k _ => cf_m2 _ _ _ _, sm_add] at h
  have e1 : sm (q.length - 1) (fun k => - MA q a k j * cf (chU q a k) s) = - sm (q.length - 1) (fun k => cf (chU q a k) s * MA q a k j) := by
    rw [show ∀ x : Rat, -x = (-1) * x from fun x => by grind, ← sm_mul]
    exact sm_congr fun k _ => by grind
  have e2 : sm (q.length - 1) (fun k => if s = 0 then 0 else one k j * cf (chU q a k) (s - 1)) = if s = 0 then 0 else cf (chU q a j) (s - 1) := by
    by_cases hs : s = 0
    · rw [if_pos hs]
      exact sm_zero fun k _ => if_pos hs
    · rw [if_neg hs, sm_one j hj fun k _ hk => by rw [if_neg hs]; unfold one; rw [if_neg hk]; grind]
      rw [if_neg hs]
      unfold one
      rw [if_pos rfl]; grind
  rw [e1, e2] at h
  have e3 : cf (if j = 0 then chi q a else []) s = if j = 0 then cf (chi q a) s else 0 := by split <;> rfl
  rw [e3] at h
  grind
/-- The coefficients of the adjoint element. -/
def chB (q a : List Rat) : Nat → List Rat
  | 0 => []
  | s + 1 => lsF (fun k => cf (chU q a k) s) (q.length - 1)
theorem can_chB (q a : List Rat) : ∀ s, Can (chB q a s)
  | 0 => Can_nil
  | _ + 1 => can_lsF _ _
theorem chB_step {q a : List Rat} (ha : Can a) (hq : Can q) (h2 : 2 ≤ q.length) (s : Nat) : pMod (pMul (chB q a (s + 1)) a) q = pSub (chB q a s) (tr [cf (chi q a) s]) := by
  have q0 : q ≠ [] := fun e => by rw [e] at h2; simp at h2
  obtain ⟨⟨_, cr⟩, hr, _⟩ := dm_ok (can_pMul (chB q a (s + 1)) a) hq q0
  refine can_ext cr (can_pSub _ _) fun j => ?_
  rw [cf_pSub, cf_const]
  by_cases hj : j < q.length - 1
  · rw [MA_row hq q0 (u := chB q a (s + 1)) (len_lsF _ _), sm_congr (g := fun k => cf (chU q a k) s * MA q a k j) fun k hk => by
      show cf (lsF (fun k => cf (chU q a k) s) (q.length - 1)) k * _ = _
      rw [cf_lsF, if_pos hk], chU_cf a h2 s hj]
    cases s with
    | zero => rw [if_pos rfl]; rfl
    | succ s =>
      rw [if_neg (by omega), Nat.add_sub_cancel]
      show _ = cf (lsF (fun k => cf (chU q a k) s) (q.length - 1)) j - _
      rw [cf_lsF, if_pos hj]
  · rw [cf_ge (by omega), if_neg (show ¬ j = 0 by omega)]
    have : cf (chB q a s) j = 0 := by
      cases s with
      | zero => rfl
      | succ s =>
        show cf (lsF _ _) j = 0
        rw [cf_lsF, if_neg hj]
    rw [this]; grind
/-- The value of a polynomial at a residue. -/
def atm (q a : List Rat) : List Rat → List Rat
  | [] => []
  | c :: l => pAdd (pMod (pMul (atm q a l) a) q) (tr [c])
theorem can_atm (q a : List Rat) : ∀ l, Can (atm q a l)
  | [] => Can_nil
  | _ :: _ => can_pAdd _ _
theorem chB_at {q a : List Rat} (ha : Can a) (hq : Can q) (h2 : 2 ≤ q.length) : ∀ (n s : Nat), q.length ≤ s + n → atm q a ((chi q a).drop s) = chB q a s
  | 0, s, h => by
    rw [List.drop_of_length_le (by rw [chi_length]; omega)]
    cases s with
    | zero => rfl
    | succ s =>
      refine can_ext Can_nil (can_lsF _ _) fun j => ?_
      show 0 = cf (lsF (fun k => cf (chU q a k) s) (q.length - 1)) j
      rw [cf_lsF, cf_ge (l := chU q a j) (by have := chU_len q a j; omega)]
      split <;> rfl
  | n + 1, s, h => by
    by_cases hs : q.length ≤ s
    · exact chB_at ha hq h2 0 s (by omega)
    · have hl := chi_length q a
      have e : (chi q a).drop s = cf (chi q a) s :: (chi q a).drop (s + 1) := by
        rw [List.drop_eq_getElem_cons (by omega), cf_lt (by omega)]
      rw [e, atm, chB_at ha hq h2 n (s + 1) (by omega), chB_step ha hq h2]
      refine can_ext (can_pAdd _ _) (can_chB _ _ _) fun j => ?_
      rw [cf_pAdd, cf_pSub]; grind
/-- A residue is a root of its characteristic polynomial. -/
theorem cayley {q a : List Rat} (ha : Can a) (hq : Can q) (h2 : 2 ≤ q.length) : atm q a (chi q a) = [] := chB_at ha hq h2 q.length 0 (by omega)
end Go.Proofs.YtfbogelmgdojgaaGreat

