/- Texts PM13 DT1 DT2 in one. -/
import Derived.Test.YthhpmapbhdebeaaGreatR28
import Derived.Test.YthhpmapbhdebeaaGreatR22
/- Polynomials over the rational numbers: residues. No program in sight. -/
namespace Go.Proofs.YthhpmapbhdebeaaGreat
set_option linter.unusedSimpArgs false
set_option linter.unusedVariables false
open Go.RowKit

/-- Equal residues. -/
theorem mod_congr {x y q : List Rat} (hx : Can x) (hy : Can y) (hq : Can q) (q0 : q ≠ []) (h : ∃ k, Can k ∧ ∀ t, ev x t = ev y t + ev k t * ev q t) : pMod x q = pMod y q := by
  obtain ⟨k, ck, hk⟩ := h
  obtain ⟨⟨c1, c2⟩, l1, e1⟩ := dm_ok hy hq q0
  refine (dm_eq hx hq (can_pAdd (pDiv y q) k) c2 l1 fun t => ?_).2
  rw [ev_pAdd, hk t]
  have := e1 t
  grind
theorem mod_self {x q : List Rat} (hx : Can x) (hq : Can q) (q0 : q ≠ []) : ∃ k, Can k ∧ ∀ t, ev x t = ev (pMod x q) t + ev k t * ev q t := by
  obtain ⟨⟨c1, c2⟩, l1, e1⟩ := dm_ok hx hq q0
  exact ⟨pDiv x q, c1, fun t => by have := e1 t; grind⟩
/-- A product of residues is the residue of the product. -/
theorem mod_mul_l {a b q : List Rat} (ha : Can a) (hq : Can q) (q0 : q ≠ []) : pMod (pMul (pMod a q) b) q = pMod (pMul a b) q := by
  obtain ⟨k, ck, hk⟩ := mod_self ha hq q0
  refine mod_congr (can_pMul _ _) (can_pMul _ _) hq q0 ⟨pSub [] (pMul k b), can_pSub _ _, fun t => ?_⟩
  simp only [ev_pMul, ev_pSub, hk t]
  have e0 : ev [] t = 0 := rfl
  rw [e0]
  grind
theorem mod_add {a b q : List Rat} (ha : Can a) (hb : Can b) (hq : Can q) (q0 : q ≠ []) : pMod (pAdd a b) q = pAdd (pMod a q) (pMod b q) := by
  obtain ⟨⟨c1, c2⟩, l1, e1⟩ := dm_ok ha hq q0
  obtain ⟨⟨c3, c4⟩, l2, e2⟩ := dm_ok hb hq q0
  refine (dm_eq (can_pAdd a b) hq (can_pAdd (pDiv a q) (pDiv b q)) (can_pAdd _ _) (by have := len_pAdd (pMod a q) (pMod b q); omega) fun t => ?_).2
  simp only [ev_pAdd]
  have h1 := e1 t
  have h2 := e2 t
  grind
end Go.Proofs.YthhpmapbhdebeaaGreat


/- Determinants of matrices of rational numbers. No program in sight. -/
namespace Go.Proofs.YthhpmapbhdebeaaGreat
set_option linter.unusedSimpArgs false
set_option linter.unusedVariables false

abbrev Mat := Nat → Nat → Rat
/-- The sum of the first values. -/
def sm : Nat → (Nat → Rat) → Rat
  | 0, _ => 0
  | n + 1, f => sm n f + f n
theorem sm_congr {f g : Nat → Rat} : ∀ {n}, (∀ i, i < n → f i = g i) → sm n f = sm n g
  | 0, _ => rfl
  | n + 1, h => by rw [sm, sm, sm_congr fun i hi => h i (by omega), h n (by omega)]
theorem sm_add (f g : Nat → Rat) : ∀ n, sm n (fun i => f i + g i) = sm n f + sm n g
  | 0 => by simp only [sm]; grind
  | n + 1 => by simp only [sm, sm_add f g n]; grind
theorem sm_mul (c : Rat) (f : Nat → Rat) : ∀ n, sm n (fun i => c * f i) = c * sm n f
  | 0 => by simp [sm]
  | n + 1 => by simp only [sm, sm_mul c f n]; grind
theorem sm_zero {f : Nat → Rat} : ∀ {n}, (∀ i, i < n → f i = 0) → sm n f = 0
  | 0, _ => rfl
  | n + 1, h => by rw [sm, sm_zero fun i hi => h i (by omega), h n (by omega)]; grind
theorem sm_one {f : Nat → Rat} : ∀ {n} (p : Nat), p < n → (∀ i, i < n → i ≠ p → f i = 0) → sm n f = f p
  | 0, _, h, _ => by omega
  | n + 1, p, h, h0 => by
    rw [sm]
    by_cases e : p = n
    · subst e
      rw [sm_zero fun i hi => h0 i (by omega) (by omega)]
      grind
    · rw [sm_one p (by omega) fun i hi hp => h0 i (by omega) hp, h0 n (by omega) (by omega)]
      grind
theorem sm_two {f : Nat → Rat} {n p q : Nat} (h : p < q) (hq : q < n) (h0 : ∀ i, i < n → i ≠ p → i ≠ q → f i = 0) : sm n f = f p + f q := by
  have e1 : sm n f = sm n (fun i => (if i = p then f p else 0) + (if i = q then f q else 0)) := sm_congr fun i hi => by
    by_cases e : i = p
    · subst e; rw [if_pos rfl, if_neg (by omega)]; grind
    · by_cases e' : i = q
      · subst e'; rw [if_neg e, if_pos rfl]; grind
      · rw [if_neg e, if_neg e', h0 i hi e e']; grind
  rw [e1, sm_add, sm_one p (by omega) (fun i _ hi => if_neg hi), sm_one q hq (fun i _ hi => if_neg hi), if_pos rfl, if_pos rfl]
theorem sm_first (f : Nat → Rat) : ∀ n, sm (n + 1) f = f 0 + sm n (fun i => f (i + 1))
  | 0 => by simp only [sm]; grind
  | n + 1 => by rw [sm, sm_first f n, sm]; grind
/-- The sign of a place. -/
def sg : Nat → Rat
  | 0 => 1
  | n + 1 => - sg n
theorem sg_add (m : Nat) : ∀ n, sg (m + n) = sg m * sg n
  | 0 => by simp [sg]
  | n + 1 => by rw [← Nat.add_assoc, sg, sg, sg_add m n]; grind
/-- A matrix with another row. -/
def upd (M : Mat) (p : Nat) (u : Nat → Rat) : Mat := fun i => if i = p then u else M i
theorem upd_same (M : Mat) (p : Nat) (u : Nat → Rat) : upd M p u p = u := if_pos rfl
theorem upd_ne (M : Mat) {p i : Nat} (h : i ≠ p) (u : Nat → Rat) : upd M p u i = M i := if_neg h
theorem upd_self (M : Mat) (p : Nat) : upd M p (M p) = M := by
  funext i; unfold upd; split
  · rename_i h; rw [h]
  · rfl
theorem upd_comm (M : Mat) {p q : Nat} (h : p ≠ q) (u v : Nat → Rat) : upd (upd M p u) q v = upd (upd M q v) p u := by
  funext i; unfold upd; split
  · rename_i e; subst e; rw [if_neg (fun e => h e.symm)]
  · rfl
/-- A function of n rows that is linear in each row and vanishes when two rows agree. -/
structure ML (n : Nat) (F : Mat → Rat) : Prop where
  congr : ∀ {M M' : Mat}, (∀ i, i < n → ∀ j, j < n → M i j = M' i j) → F M = F M'
  lin : ∀ (M : Mat) (p : Nat) (u v : Nat → Rat) (a b : Rat), p < n → F (upd M p fun j => a * u j + b * v j) = a * F (upd M p u) + b * F (upd M p v)
  alt : ∀ (M : Mat) (p q : Nat), p < q → q < n → M p = M q → F M = 0
theorem ML.zero {n F} (h : ML n F) (M : Mat) {p : Nat} (hp : p < n) (h0 : ∀ j, j < n → M p j = 0) : F M = 0 := by
  have := h.lin M p (M p) (M p) 0 0 hp
  rw [h.congr (M := M) (M' := upd M p fun j => 0 * M p j + 0 * M p j) fun i hi j hj => ?_, this]
  · grind
  · by_cases e : i = p
    · subst e; rw [upd_same, h0 j hj]; grind
    · rw [upd_ne _ e]
theorem ML.alt' {n F} (h : ML n F) (M : Mat) {p q : Nat} (hp : p < n) (hq : q < n) (hpq : p ≠ q) (e : M p = M q) : F M = 0 := by
  by_cases hlt : p < q
  · exact h.alt M p q hlt hq e
  · exact h.alt M q p (by omega) hp e.symm
/-- Adding a multiple of another row. -/
theorem ML.addrow {n F} (h : ML n F) (M : Mat) {p q : Nat} (hp : p < n) (hq : q < n) (hpq : p ≠ q) (c : Rat) : F (upd M p fun j => M p j + c * M q j) = F M := by
  have e := h.lin M p (M p) (M q) 1 c hp
  rw [upd_self] at e
  rw [h.alt' (upd M p (M q)) hp hq hpq (by rw [upd_same, upd_ne _ (fun e => hpq e.symm)])] at e
  rw [show (fun j => M p j + c * M q j) = fun j => 1 * M p j + c * M q j from funext fun j => by grind, e]
  grind
def swp (M : Mat) (p q : Nat) : Mat := upd (upd M p (M q)) q (M p)
theorem ML.swap {n F} (h : ML n F) (M : Mat) {p q : Nat} (hp : p < n) (hq : q < n) (hpq : p ≠ q) : F (swp M p q) = - F M := by
  have hqp : q ≠ p := fun e => hpq e.symm
  -- rows u + v at both places
  have z : ∀ u : Nat → Rat, F (upd (upd M p u) q u) = 0 := fun u => h.alt' _ hp hq hpq (by rw [upd_same, upd_ne _ hpq, upd_same])
  have e0 := z (fun j => 1 * M p j + 1 * M q j)
  rw [h.lin _ q _ _ _ _ hq] at e0
  rw [upd_comm M hpq, upd_comm M hpq, h.lin _ p _ _ _ _ hp, h.lin _ p _ _ _ _ hp] at e0
  rw [← upd_comm M hpq, ← upd_comm M hpq, ← upd_comm M hpq, ← upd_comm M hpq, z, z] at e0
  have e1 : upd (upd M p (M p)) q (M q) = M := by rw [upd_self, upd_self]
  rw [e1] at e0
  unfold swp
  grind
theorem ML.sum {n F} (h : ML n F) (M : Mat) {p : Nat} (hp : p < n) (u : Nat → Nat → Rat) (a : Nat → Rat) : ∀ k, F (upd M p fun j => sm k fun i => a i * u i j) = sm k fun i => a i * F (upd M p (u i))
  | 0 => h.zero _ hp fun j _ => by rw [upd_same]; rfl
  | k + 1 => by
    have e := h.lin M p (fun j => sm k fun i => a i * u i j) (u k) 1 (a k) hp
    rw [h.sum M hp u a k] at e
    rw [show (fun j => sm (k + 1) fun i => a i * u i j) = fun j => 1 * (sm k fun i => a i * u i j) + a k * u k j from funext fun j => by rw [sm]; grind, e, sm]
    grind
def one : Mat := fun i j => if i = j then 1 else 0
theorem sm_one_r (a : Nat → Rat) {n j : Nat} (hj : j < n) : sm n (fun i => a i * one i j) = a j := by
  rw [sm_one j hj fun i _ hi => by unfold one; rw [if_neg hi]; grind]
  unfold one; rw [if_pos rfl]; grind
/-- Many rows cleared by row 0. -/
theorem ML.clear {n F} (h : ML n F) (M : Mat) (c : Nat → Rat) : ∀ k, k < n → F (fun i j => if i = 0 then M 0 j else if i ≤ k then M i j + c i * M 0 j else M i j) = F M
  | 0, hk => h.congr fun i _ j _ => by
    by_cases e : i = 0
    · subst e; rw [if_pos rfl]
    · rw [if_neg e, if_neg (by omega)]
  | k + 1, hk => by
    rw [← h.clear M c k (by omega)]
    rw [← h.addrow (fun i j => if i = 0 then M 0 j else if i ≤ k then M i j + c i * M 0 j else M i j) (p := k + 1) (q := 0) hk (by omega) (by omega) (c (k + 1))]
    refine h.congr fun i _ j _ => ?_
    by_cases e : i = k + 1
    · subst e
      rw [upd_same, if_neg (by omega), if_pos (Nat.le_refl _), if_neg (by omega), if_neg (by omega), if_pos rfl]
    · rw [upd_ne _ e]
      by_cases e0 : i = 0
      · rw [if_pos e0, if_pos e0]
      · rw [if_neg e0, if_neg e0]
        by_cases hle : i ≤ k
        · rw [if_pos hle, if_pos (by omega)]
        · rw [if_neg hle, if_neg (by omega)]
/-- Expansion along the first row. -/
def minor (M : Mat) (k : Nat) : Mat := fun i j => M (i + 1) (if j < k then j else j + 1)
def det : Nat → Mat → Rat
  | 0, _ => 1
  | n + 1, M => sm (n + 1) fun k => sg k * M 0 k * det n (minor M k)
def embR (k : Nat) (N : Mat) : Mat
  | 0 => one k
  | i + 1 => fun c => if c < k then N i c else if c = k then 0 else N i (c - 1)
theorem embR_upd (k : Nat) (N : Mat) (p : Nat) (u : Nat → Rat) : embR k (upd N p u) = upd (embR k N) (p + 1) (fun c => if c < k then u c else if c = k then 0 else u (c - 1)) := by
  funext i
  cases i with
  | zero => rw [upd_ne _ (by omega)]; rfl
  | succ i =>
    by_cases e : i = p
    · subst e
      rw [upd_same]
      funext c
      show (if c < k then upd N i u i c else if c = k then 0 else upd N i u i (c - 1)) = _
      rw [upd_same]
    · rw [upd_ne _ (by omega)]
      funext c
      show (if c < k then upd N p u i c else if c = k then 0 else upd N p u i (c - 1)) = (if c < k then N i c else if c = k then 0 else N i (c - 1))
      rw [upd_ne N e]
theorem ML.embM {n F} (h : ML (n + 1) F) {k : Nat} (hk : k ≤ n) : ML n (fun N => F (embR k N)) where
  congr := fun {N N'} hN => h.congr fun i hi j hj => by
    cases i with
    | zero => rfl
    | succ i =>
      show (if j < k then N i j else if j = k then 0 else N i (j - 1)) = (if j < k then N' i j else if j = k then 0 else N' i (j - 1))
      by_cases h1 : j < k
      · rw [if_pos h1, if_pos h1, hN i (by omega) j (by omega)]
      · rw [if_neg h1, if_neg h1]
        by_cases h2 : j = k
        · rw [if_pos h2, if_pos h2]
        · rw [if_neg h2, if_neg h2, hN i (by omega) (j - 1) (by omega)]
  lin := fun N p u v a b hp => by
    rw [embR_upd, embR_upd, embR_upd, ← h.lin _ (p + 1) _ _ a b (by omega)]
    congr 2
    funext c
    by_cases h1 : c < k
    · rw [if_pos h1, if_pos h1, if_pos h1]
    · rw [if_neg h1, if_neg h1, if_neg h1]
      by_cases h2 : c = k
      · rw [if_pos h2, if_pos h2, if_pos h2]; grind
      · rw [if_neg h2, if_neg h2, if_neg h2]
  alt := fun N p q hpq hq e => h.alt _ (p + 1) (q + 1) (by omega) (by omega) (by
    show (fun c => if c < k then N p c else if c = k then 0 else N p (c - 1)) = (fun c => if c < k then N q c else if c = k then 0 else N q (c - 1))
    rw [e])
theorem emb_one {n F} (h : ML (n + 1) F) : ∀ k, k ≤ n → F (embR k one) = sg k * F one
  | 0, _ => by
    rw [sg, h.congr (M := embR 0 one) (M' := one) fun i _ j _ => ?_]
    · grind
    · cases i with
      | zero => rfl
      | succ i =>
        show (if j < 0 then one i j else if j = 0 then 0 else one i (j - 1)) = one (i + 1) j
        unfold one
        by_cases e : j = 0
        · subst e; rw [if_neg (by omega), if_pos rfl, if_neg (by omega)]
        · rw [if_neg (by omega), if_neg e]
          by_cases e' : i = j - 1
          · rw [if_pos e', if_pos (by omega)]
          · rw [if_neg e', if_neg (by omega)]
  | k + 1, hk => by
    have e1 := emb_one h k (by omega)
    have e2 := h.swap (embR k one) (p := 0) (q := k + 1) (by omega) (by omega) (by omega)
    rw [h.congr (M := embR (k + 1) one) (M' := swp (embR k one) 0 (k + 1)) fun i _ j _ => ?_, e2, e1, sg]
    · grind
    · unfold swp
      by_cases i1 : i = k + 1
      · subst i1
        rw [upd_same]
        show (if j < k + 1 then one k j else if j = k + 1 then 0 else one k (j - 1)) = one k j
        unfold one
        by_cases h1 : j < k + 1
        · rw [if_pos h1]
        · rw [if_neg h1, if_neg (show ¬ k = j by omega)]
          by_cases h2 : j = k + 1
          · rw [if_pos h2]
          · rw [if_neg h2, if_neg (by omega)]
      · rw [upd_ne _ i1]
        cases i with
        | zero =>
          rw [upd_same]
          show one (k + 1) j = (if j < k then one k j else if j = k then 0 else one k (j - 1))
          unfold one
          by_cases h1 : j < k
          · rw [if_pos h1, if_neg (by omega), if_neg (by omega)]
          · rw [if_neg h1]
            by_cases h2 : j = k
            · rw [if_pos h2, if_neg (by omega)]
            · rw [if_neg h2]
              by_cases h3 : j = k + 1
              · rw [if_pos h3.symm, if_pos (by omega)]
              · rw [if_neg (by omega), if_neg (by omega)]
        | succ i =>
          rw [upd_ne _ (by omega)]
          show (if j < k + 1 then one i j else if j = k + 1 then 0 else one i (j - 1)) = (if j < k then one i j else if j = k then 0 else one i (j - 1))
          unfold one
          by_cases h1 : j < k
          · rw [if_pos (show j < k + 1 by omega), if_pos h1]
          · rw [if_neg h1]
            by_cases h2 : j = k
            · rw [if_pos (show j < k + 1 by omega), if_pos h2, if_neg (by omega)]
            · rw [if_neg (show ¬ j < k + 1 by omega), if_neg h2]
              by_cases h3 : j = k + 1
              · rw [if_pos h3, if_neg (by omega)]
              · rw [if_neg h3]
theorem ML.eq : ∀ {n : Nat} {F : Mat → Rat}, ML n F → ∀ M, F M = det n M * F one
  | 0, F, h, M => by rw [det, h.congr (M := M) (M' := one) fun i hi => by omega]; grind
  | n + 1, F, h, M => by
    have e1 : F M = sm (n + 1) fun k => M 0 k * F (upd M 0 (one k)) := by
      rw [← h.sum M (by omega) one (M 0) (n + 1)]
      refine h.congr fun i _ j hj => ?_
      by_cases e : i = 0
      · subst e; rw [upd_same, sm_one_r _ hj]
      · rw [upd_ne _ e]
    have e2 : ∀ k, k < n + 1 → M 0 k * F (upd M 0 (one k)) = F one * (sg k * M 0 k * det n (minor M k)) := fun k hk => by
      have e3 := (h.embM (k := k) (by omega)).eq (minor M k)
      rw [emb_one h k (by omega)] at e3
      have e4 := h.clear (upd M 0 (one k)) (fun i => - M i k) n (by omega)
      rw [h.congr (M' := embR k (minor M k)) fun i hi j hj => ?_] at e4
      · rw [← e4, e3]; grind
      · cases i with
        | zero => rw [if_pos rfl, upd_same]; rfl
        | succ i =>
          rw [if_neg (by omega), if_pos (by omega), upd_ne _ (by omega), upd_same]
          show _ = (if j < k then minor M k i j else if j = k then 0 else minor M k i (j - 1))
          unfold minor one
          by_cases h1 : j < k
          · rw [if_pos h1, if_neg (by omega), if_pos h1]; grind
          · rw [if_neg h1]
            by_cases h2 : j = k
            · subst h2; rw [if_pos rfl, if_pos rfl]; grind
            · rw [if_neg h2, if_neg (by omega), if_neg (by omega), show j - 1 + 1 = j from by omega]; grind
    rw [e1, det, sm_congr e2, sm_mul]
    grind
/-- Expansion along the first column. -/
def mino (M : Mat) (k : Nat) : Mat := fun i j => M (if i < k then i else i + 1) (j + 1)
def dtc : Nat → Mat → Rat
  | 0, _ => 1
  | n + 1, M => sm (n + 1) fun k => sg k * M k 0 * dtc n (mino M k)
theorem dtc_ML : ∀ n, ML n (dtc n)
  | 0 => ⟨fun _ => rfl, fun _ _ _ _ _ _ h => by omega, fun _ _ _ h1 h2 => by omega⟩
  | n + 1 => by
    have ih := dtc_ML n
    have mu : ∀ (M : Mat) (p k : Nat) (u : Nat → Rat), p ≠ k → mino (upd M p u) k = upd (mino M k) (if p < k then p else p - 1) (fun j => u (j + 1)) := fun M p k u hp => by
      funext i j
      unfold mino upd
      by_cases h1 : i < k
      · rw [if_pos h1]
        by_cases h2 : i = p
        · subst h2; rw [if_pos rfl, if_pos h1, if_pos rfl]
        · rw [if_neg h2, if_neg (by split <;> omega)]
          show _ = M (if i < k then i else i + 1) (j + 1)
          rw [if_pos h1]
      · rw [if_neg h1]
        by_cases h2 : i + 1 = p
        · rw [if_pos h2, if_pos (by split <;> omega)]
        · rw [if_neg h2, if_neg (by split <;> omega)]
          show _ = M (if i < k then i else i + 1) (j + 1)
          rw [if_neg h1]
    have ms : ∀ (M : Mat) (k : Nat) (u : Nat → Rat), mino (upd M k u) k = mino M k := fun M k u => by
      funext i j
      unfold mino upd
      by_cases h1 : i < k
      · rw [if_pos h1, if_neg (by omega)]
      · rw [if_neg h1, if_neg (by omega)]
    have adj : ∀ (M : Mat) (p : Nat), p + 1 < n + 1 → M p = M (p + 1) → dtc (n + 1) M = 0 := fun M p hp e => by
      rw [dtc, sm_two (p := p) (q := p + 1) (by omega) hp fun i hi h1 h2 => ?_]
      · have : mino M p = mino M (p + 1) := by
          funext i j
          unfold mino
          by_cases h1 : i < p
          · rw [if_pos h1, if_pos (by omega)]
          · rw [if_neg h1]
            by_cases h2 : i = p
            · subst h2; rw [if_pos (by omega), e]
            · rw [if_neg (by omega)]
        rw [this, e, sg]
        grind
      · rw [ih.alt (mino M i) (if p < i then p else p - 1) ((if p < i then p else p - 1) + 1) (by omega) (by split <;> omega) (by
          funext j
          unfold mino
          by_cases h3 : p < i
          · rw [if_pos h3, if_pos h3, if_pos (by omega), e]
          · rw [if_neg h3, if_neg (by omega), if_neg (by omega), show p - 1 + 1 = p from by omega, e])]
        grind
    have lin : ∀ (M : Mat) (p : Nat) (u v : Nat → Rat) (a b : Rat), p < n + 1 → dtc (n + 1) (upd M p fun j => a * u j + b * v j) = a * dtc (n + 1) (upd M p u) + b * dtc (n + 1) (upd M p v) := fun M p u v a b hp => by
      simp only [dtc]
      rw [← sm_mul, ← sm_mul, ← sm_add]
      refine sm_congr fun k hk => ?_
      by_cases e : k = p
      · subst e
        simp only [upd_same, ms]
        grind
      · rw [upd_ne _ e, upd_ne _ e, upd_ne _ e, mu _ _ _ _ (fun x => e x.symm), mu _ _ _ _ (fun x => e x.symm), mu _ _ _ _ (fun x => e x.symm)]
        rw [ih.lin (mino M k) (if p < k then p else p - 1) (fun j => u (j + 1)) (fun j => v (j + 1)) a b (by split <;> omega)]
        grind
    refine ⟨fun {M M'} h => ?_, lin, ?_⟩
    · rw [dtc, dtc]
      refine sm_congr fun k hk => ?_
      rw [h k hk 0 (by omega), ih.congr fun i hi j hj => ?_]
      unfold mino
      split
      · exact h _ (by omega) _ (by omega)
      · exact h _ (by omega) _ (by omega)
    · -- adjacent rows change the sign
      have z : ∀ (M : Mat) (p : Nat) (u : Nat → Rat), p + 1 < n + 1 → dtc (n + 1) (upd (upd M p u) (p + 1) u) = 0 := fun M p u hp => adj _ p hp (by rw [upd_ne _ (by omega), upd_same, upd_same])
      have sw : ∀ (M : Mat) (p : Nat), p + 1 < n + 1 → dtc (n + 1) (swp M p (p + 1)) = - dtc (n + 1) M := fun M p hp => by
        have e0 := z M p (fun j => 1 * M p j + 1 * M (p + 1) j) hp
        have hpq : p ≠ p + 1 := by omega
        rw [lin _ (p + 1) _ _ _ _ hp] at e0
        rw [upd_comm M hpq, upd_comm M hpq, lin _ p _ _ _ _ (by omega), lin _ p _ _ _ _ (by omega)] at e0
        rw [← upd_comm M hpq, ← upd_comm M hpq, ← upd_comm M hpq, ← upd_comm M hpq, z _ _ _ hp, z _ _ _ hp] at e0
        have e1 : upd (upd M p (M p)) (p + 1) (M (p + 1)) = M := by rw [upd_self, upd_self]
        rw [e1] at e0
        unfold swp
        grind
      have far : ∀ (d : Nat) (M : Mat) (p : Nat), p + d + 1 < n + 1 → M p = M (p + d + 1) → dtc (n + 1) M = 0 := fun d => by
        induction d with
        | zero => exact fun M p hp e => adj M p hp e
        | succ d ih2 =>
            intro M p hp e
            have e1 := sw M (p + d + 1) (by omega)
            rw [ih2 (swp M (p + d + 1) (p + d + 1 + 1)) p (by omega) ?_] at e1
            · grind
            · unfold swp
              rw [upd_ne _ (by omega), upd_ne _ (by omega), upd_ne _ (by omega), upd_same, e]
              rfl
      intro M p q hpq hq e
      exact far (q - p - 1) M p (by omega) (by rw [show p + (q - p - 1) + 1 = q from by omega]; exact e)
theorem dtc_one : ∀ n, dtc n one = 1
  | 0 => rfl
  | n + 1 => by
    rw [dtc, sm_one 0 (by omega) fun i _ hi => by unfold one; rw [if_neg hi]; grind]
    rw [(dtc_ML n).congr (M' := one) fun i hi j hj => ?_, dtc_one n]
    · unfold one; rw [if_pos rfl, sg]; grind
    · show one (if i < 0 then i else i + 1) (j + 1) = one i j
      rw [if_neg (by omega)]
      unfold one
      by_cases e : i = j
      · rw [if_pos e, if_pos (by omega)]
      · rw [if_neg e, if_neg (by omega)]
theorem dtc_eq (n : Nat) (M : Mat) : dtc n M = det n M := by
  rw [(dtc_ML n).eq M, dtc_one]; grind
theorem det_ML (n : Nat) : ML n (det n) := by
  have : dtc n = det n := funext fun M => dtc_eq n M
  rw [← this]
  exact dtc_ML n
/-- The transpose. -/
def tp (M : Mat) : Mat := fun i j => M j i
theorem det_tp : ∀ (n : Nat) (M : Mat), det n (tp M) = det n M := fun n M => by
  rw [← dtc_eq n M]
  induction n generalizing M with
  | zero => rfl
  | succ n ih =>
    rw [det, dtc]
    refine sm_congr fun k _ => ?_
    rw [show minor (tp M) k = tp (mino M k) from rfl, ih]
    rfl
def mul (n : Nat) (A B : Mat) : Mat := fun i j => sm n fun k => A i k * B k j
theorem mul_ML (n : Nat) (B : Mat) : ML n (fun A => det n (mul n A B)) where
  congr := fun {M M'} h => (det_ML n).congr fun i hi j hj => sm_congr fun k hk => by rw [h i hi k hk]
  lin := fun M p u v a b hp => by
    have mu : ∀ u, mul n (upd M p u) B = upd (mul n M B) p (fun j => sm n fun k => u k * B k j) := fun u => by
      funext i j
      unfold mul upd
      split <;> rfl
    rw [mu, mu, mu, ← (det_ML n).lin _ p _ _ a b hp]
    congr 2
    funext j
    rw [← sm_mul, ← sm_mul, ← sm_add]
    exact sm_congr fun k _ => by grind
  alt := fun M p q hpq hq e => (det_ML n).alt _ p q hpq hq (by
    show (fun j => sm n fun k => M p k * B k j) = (fun j => sm n fun k => M q k * B k j)
    rw [e])
theorem det_mul (n : Nat) (A B : Mat) : det n (mul n A B) = det n A * det n B := by
  rw [(mul_ML n B).eq A]
  congr 1
  refine (det_ML n).congr fun i hi j hj => ?_
  unfold mul
  rw [sm_one i hi fun k _ hk => by unfold one; rw [if_neg (fun e => hk e.symm)]; grind]
  unfold one
  rw [if_pos rfl]; grind
end Go.Proofs.YthhpmapbhdebeaaGreat


/- Resultants and determinants. No program in sight. -/
namespace Go.Proofs.YthhpmapbhdebeaaGreat
set_option linter.unusedSimpArgs false
set_option linter.unusedVariables false

/-- Row k brought to the front. -/
def mvf (k : Nat) (M : Mat) : Mat := fun i => if i = 0 then M k else if i ≤ k then M (i - 1) else M i
theorem ML.front {n F} (h : ML n F) (M : Mat) : ∀ k, k < n → F (mvf k M) = sg k * F M
  | 0, _ => by
    rw [sg, h.congr (M := mvf 0 M) (M' := M) fun i _ j _ => ?_]
    · grind
    · unfold mvf
      by_cases e : i = 0
      · subst e; rw [if_pos rfl]
      · rw [if_neg e, if_neg (by omega)]
  | k + 1, hk => by
    have e1 := h.front M k (by omega)
    have e2 := h.swap (mvf k M) (p := 0) (q := k + 1) (by omega) hk (by omega)
    rw [h.congr (M := mvf (k + 1) M) (M' := swp (mvf k M) 0 (k + 1)) fun i _ j _ => ?_, e2, e1, sg]
    · grind
    · unfold swp
      by_cases i1 : i = k + 1
      · subst i1
        rw [upd_same]
        unfold mvf
        rw [if_neg (by omega), if_pos (Nat.le_refl _), if_pos rfl]; rfl
      · rw [upd_ne _ i1]
        by_cases e : i = 0
        · subst e
          rw [upd_same]
          unfold mvf
          rw [if_pos rfl, if_neg (by omega), if_neg (by omega)]
        · rw [upd_ne _ e]
          unfold mvf
          rw [if_neg e, if_neg e]
          by_cases hle : i ≤ k
          · rw [if_pos hle, if_pos (by omega)]
          · rw [if_neg hle, if_neg (by omega)]
/-- The last s rows brought to the front. -/
def rotR (n s : Nat) (M : Mat) : Mat := fun i => if i < s then M (n - s + i) else M (i - s)
theorem ML.rot {n F} (h : ML n F) (M : Mat) : ∀ s, s ≤ n → F (rotR n s M) = sg ((n - 1) * s) * F M
  | 0, _ => by
    rw [Nat.mul_zero, sg, h.congr (M := rotR n 0 M) (M' := M) fun i _ j _ => rfl]
    grind
  | s + 1, hs => by
    have e1 := h.rot M s (by omega)
    have e2 := h.front (rotR n s M) (n - 1) (by omega)
    rw [h.congr (M := rotR n (s + 1) M) (M' := mvf (n - 1) (rotR n s M)) fun i hi j _ => ?_, e2, e1, Nat.mul_succ, sg_add]
    · grind
    · unfold mvf
      by_cases e : i = 0
      · subst e
        rw [if_pos rfl]
        unfold rotR
        rw [if_pos (by omega), if_neg (by omega), show n - (s + 1) + 0 = n - 1 - s from by omega]
      · rw [if_neg e, if_pos (by omega)]
        unfold rotR
        by_cases hlt : i < s + 1
        · rw [if_pos hlt, if_pos (by omega), show n - (s + 1) + i = n - s + (i - 1) from by omega]
        · rw [if_neg hlt, if_neg (by omega), show i - 1 - s = i - (s + 1) from by omega]
theorem sg_even : ∀ k, sg (2 * k) = 1
  | 0 => rfl
  | k + 1 => by rw [show 2 * (k + 1) = 2 * k + 1 + 1 from by omega, sg, sg, sg_even k]; grind
theorem sg_mod (a : Nat) : sg a = if a % 2 = 1 then -1 else 1 := by
  have h1 := sg_add (2 * (a / 2)) (a % 2)
  rw [show 2 * (a / 2) + a % 2 = a from by omega, sg_even] at h1
  rw [h1]
  by_cases e : a % 2 = 1
  · rw [if_pos e, e, sg, sg]; grind
  · rw [if_neg e, show a % 2 = 0 from by omega, sg]; grind
theorem even_mul_pred : ∀ s : Nat, (s * (s - 1)) % 2 = 0
  | 0 => rfl
  | s + 1 => by
    rw [Nat.add_sub_cancel]
    rcases Nat.mod_two_eq_zero_or_one s with e | e
    · rw [Nat.mul_mod, e, Nat.mul_zero]
    · rw [Nat.mul_mod, show (s + 1) % 2 = 0 from by omega, Nat.zero_mul]
theorem sg_block (p s : Nat) : sg ((p + s - 1) * s) = sg (p * s) := by
  by_cases h : s = 0
  · subst h; rfl
  · rw [show p + s - 1 = p + (s - 1) from by omega, Nat.add_mul, sg_add, sg_mod ((s - 1) * s), Nat.mul_comm (s - 1) s, even_mul_pred, if_neg (by omega)]
    grind
/-- Adding a combination of other rows. -/
theorem ML.comb {n F} (h : ML n F) (M : Mat) {p s : Nat} (hp : p < n) (c : Nat → Rat) : ∀ q, s + q ≤ n → (p < s ∨ s + q ≤ p) → F (upd M p fun j => M p j + sm q fun k => c k * M (s + k) j) = F M
  | 0, _, _ => h.congr fun i _ j _ => by
    by_cases e : i = p
    · subst e; rw [upd_same, sm]; grind
    · rw [upd_ne _ e]
  | q + 1, hq, hd => by
    have e1 := h.comb M (s := s) hp c q (by omega) (by omega)
    have e2 := h.addrow (upd M p fun j => M p j + sm q fun k => c k * M (s + k) j) (p := p) (q := s + q) hp (by omega) (by omega) (c q)
    rw [e1] at e2
    rw [← e2]
    refine h.congr fun i _ j _ => ?_
    by_cases e : i = p
    · subst e
      rw [upd_same, upd_same, upd_same, upd_ne _ (show s + q ≠ i from by omega), sm]
      grind
    · rw [upd_ne _ e, upd_ne _ e, upd_ne _ e]
/-- Combinations added to the rows from u up to u + r, of rows from s up to s + q. -/
theorem ML.combs {n F} (h : ML n F) (M : Mat) (c : Nat → Nat → Rat) {s q u : Nat} (hq : s + q ≤ n) : ∀ r, u + r ≤ n → (u + r ≤ s ∨ s + q ≤ u) →
    F (fun i => if u ≤ i ∧ i < u + r then (fun j => M i j + sm q fun k => c i k * M (s + k) j) else M i) = F M
  | 0, _, _ => h.congr fun i _ j _ => by rw [if_neg (by omega)]
  | r + 1, hr, hd => by
    rw [← h.combs M c hq (u := u) r (by omega) (by omega)]
    rw [← h.comb (fun i => if u ≤ i ∧ i < u + r then (fun j => M i j + sm q fun k => c i k * M (s + k) j) else M i) (p := u + r) (s := s) (by omega) (c (u + r)) q hq (by omega)]
    refine h.congr fun i _ j _ => ?_
    by_cases e : i = u + r
    · subst e
      rw [upd_same, if_pos (by omega), if_neg (by omega)]
      congr 1
      refine sm_congr fun k hk => ?_
      rw [if_neg (by omega)]
    · rw [upd_ne _ e]
      by_cases e' : u ≤ i ∧ i < u + r
      · rw [if_pos e', if_pos (by omega)]
      · rw [if_neg e', if_neg (by omega)]
theorem sm_rev (f : Nat → Rat) : ∀ n, sm n (fun i => f (n - 1 - i)) = sm n f
  | 0 => rfl
  | n + 1 => by
    rw [sm_first, sm, ← sm_rev f n]
    have : sm n (fun i => f (n + 1 - 1 - (i + 1))) = sm n (fun i => f (n - 1 - i)) := sm_congr fun i _ => by rw [show n + 1 - 1 - (i + 1) = n - 1 - i from by omega]
    rw [this, show n + 1 - 1 - 0 = n from by omega]
    grind
/-- The coefficients of a polynomial times a power. -/
def sh (e : Nat) (a : List Rat) (d : Nat) : Rat := if d < e then 0 else cf a (d - e)
theorem sh_sm (b : List Rat) : ∀ (u : List Rat) (q d : Nat), u.length ≤ q → cf (mulL u b) d = sm q (fun s => cf u s * sh s b d)
  | [], q, d, _ => by
    rw [sm_zero fun s _ => by rw [cf_nil]; grind]
    rfl
  | c :: u, 0, d, h => by simp at h
  | c :: u, q + 1, d, h => by
    rw [sm_first, mulL, cf_addL, cf_scL]
    have e1 : sm q (fun i => cf (c :: u) (i + 1) * sh (i + 1) b d) = cf (0 :: mulL u b) d := by
      cases d with
      | zero =>
        rw [cf_zero]
        refine sm_zero fun i _ => ?_
        unfold sh
        rw [if_pos (by omega)]; grind
      | succ d =>
        rw [cf_succ, sh_sm b u q d (by simp at h; omega)]
        refine sm_congr fun i _ => ?_
        unfold sh
        rw [cf_succ]
        by_cases e : d < i
        · rw [if_pos e, if_pos (by omega)]
        · rw [if_neg e, if_neg (by omega), show d + 1 - (i + 1) = d - i from by omega]
    rw [e1, cf_zero]
    have e2 : sh 0 b d = cf b d := if_neg (by omega)
    rw [e2]
theorem cf_pMul (a b : List Rat) (d : Nat) : cf (pMul a b) d = cf (mulL a b) d := by unfold pMul; rw [cf_tr]
theorem sh_mul (e : Nat) (c b : List Rat) {q : Nat} (h : c.length + e ≤ q) (d : Nat) : sh e (pMul c b) d = sm q (fun s => sh e c s * sh s b d) := by
  induction e generalizing q d with
  | zero =>
    rw [show sh 0 (pMul c b) d = cf (pMul c b) d from if_neg (by omega), cf_pMul, sh_sm b c q d (by omega)]
    exact sm_congr fun s _ => by rw [show sh 0 c s = cf c s from if_neg (by omega)]
  | succ e ih =>
    obtain ⟨q, rfl⟩ : ∃ r, q = r + 1 := ⟨q - 1, by omega⟩
    rw [sm_first, show sh (e + 1) c 0 = 0 from if_pos (by omega)]
    cases d with
    | zero =>
      rw [show sh (e + 1) (pMul c b) 0 = 0 from if_pos (by omega), sm_zero fun i _ => ?_]
      · grind
      · rw [show sh (i + 1) b 0 = 0 from if_pos (by omega)]; grind
    | succ d =>
      have e1 : ∀ (k d : Nat) (l : List Rat), sh (k + 1) l (d + 1) = sh k l d := fun k d l => by
        unfold sh
        by_cases h : d < k
        · rw [if_pos h, if_pos (by omega)]
        · rw [if_neg h, if_neg (by omega), show d + 1 - (k + 1) = d - k from by omega]
      rw [e1, ih (q := q) (by omega)]
      rw [sm_congr (f := fun i => sh (e + 1) c (i + 1) * sh (i + 1) b (d + 1)) (g := fun s => sh e c s * sh s b d) fun i _ => by rw [e1, e1]]
      grind
/-- The matrix of p multiples of a, and of other rows. -/
def HM (p q : Nat) (a : List Rat) (B : Nat → Nat → Rat) : Mat := fun i j => if i < p then sh (p - 1 - i) a (p + q - 1 - j) else B (i - p) (p + q - 1 - j)
def GM (p q : Nat) (a b : List Rat) : Mat := HM p q a (fun i d => sh (q - 1 - i) b d)
/-- Blocks exchanged. -/
theorem GM_swap (p q : Nat) (a b : List Rat) : det (p + q) (GM p q a b) = sg (p * q) * det (q + p) (GM q p b a) := by
  have h := (det_ML (q + p)).rot (GM q p b a) p (by omega)
  rw [sg_block, Nat.mul_comm q p] at h
  rw [← h, Nat.add_comm p q]
  refine (det_ML (q + p)).congr fun i hi j hj => ?_
  unfold rotR GM HM
  by_cases e : i < p
  · rw [if_pos e, if_pos e, show q + p - p + i = q + i from by omega, if_neg (by omega), show q + i - q = i from by omega, Nat.add_comm p q]
  · rw [if_neg e, if_neg e, if_pos (by omega), Nat.add_comm p q]
/-- The first column. -/
theorem HM_top {p q : Nat} {a : List Rat} {B : Nat → Nat → Rat} (ha : a.length ≤ q + 1) (hB : ∀ i, i < q → B i (p + q) = 0) : det (p + 1 + q) (HM (p + 1) q a B) = cf a q * det (p + q) (HM p q a B) := by
  rw [show p + 1 + q = p + q + 1 from by omega, ← dtc_eq, dtc, sm_one 0 (by omega) fun i hi h0 => ?_]
  · have e1 : HM (p + 1) q a B 0 0 = cf a q := by
      unfold HM sh
      rw [if_pos (by omega), if_neg (by omega), show p + 1 + q - 1 - 0 - (p + 1 - 1 - 0) = q from by omega]
    rw [e1, sg, dtc_eq]
    rw [(det_ML (p + q)).congr (M := mino (HM (p + 1) q a B) 0) (M' := HM p q a B) fun i _ j _ => ?_]
    · grind
    · unfold mino HM
      rw [if_neg (show ¬ i < 0 by omega)]
      by_cases e : i < p
      · rw [if_pos e, if_pos (by omega), show p + 1 - 1 - (i + 1) = p - 1 - i from by omega, show p + 1 + q - 1 - (j + 1) = p + q - 1 - j from by omega]
      · rw [if_neg e, if_neg (by omega), show i + 1 - (p + 1) = i - p from by omega, show p + 1 + q - 1 - (j + 1) = p + q - 1 - j from by omega]
  · have e1 : HM (p + 1) q a B i 0 = 0 := by
      unfold HM sh
      by_cases e : i < p + 1
      · rw [if_pos e, if_neg (by omega), cf_ge (by omega)]
      · rw [if_neg e, show p + 1 + q - 1 - 0 = p + q from by omega, hB _ (by omega)]
    rw [e1]; grind
theorem HM_tops {q : Nat} {a : List Rat} {B : Nat → Nat → Rat} (ha : a.length ≤ q + 1) {p : Nat} : ∀ s, (∀ i, i < q → ∀ d, p + q ≤ d → B i d = 0) → det (p + s + q) (HM (p + s) q a B) = cf a q ^ s * det (p + q) (HM p q a B)
  | 0, _ => by rw [Rat.pow_zero]; show det (p + q) (HM p q a B) = _; grind
  | s + 1, hB => by
    have := HM_top (p := p + s) ha (fun i hi => hB i hi _ (by omega))
    rw [← Nat.add_assoc, this, HM_tops ha s hB, Rat.pow_succ]
    grind
end Go.Proofs.YthhpmapbhdebeaaGreat

