/- Texts DT1 DT2 DT3 PM15 SZ7 LQ4 in one. -/
import Derived.Test.YtfbogelmgdojgaaGreatR22
import Derived.Test.YtfbogelmgdojgaaGreatR27
import Derived.Test.YtfbogelmgdojgaaGreatR28
import Derived.Test.YtfbogelmgdojgaaGreatR29
/- Determinants of matrices of rational numbers. No program in sight. -/
namespace Go.Proofs.YtfbogelmgdojgaaGreat
set_option linter.unusedSimpArgs false
set_option linter.unusedVariables false

abbrev Mat := Nat → Nat → Rat
/-- The sum of the first values. -/
def sm : Nat → (Nat → Rat) → Rat
  | 0, _ => 0
  | n + 1, f => sm n f + f n
theorem sm_congr {f g : Nat → Rat} : ∀ {n}, (∀ i, i < n → f i = g i) → sm n f = sm n g
  | 0, _ => rfl
  | n + 1, h => by rw [sm, sm, sm_congr fun i hi => h i (by omega), h n (by omega)]
theorem sm_add (f g : Nat → Rat) : ∀ n, sm n (fun i => f i + g i) = sm n f + sm n g
  | 0 => by simp only [sm]; grind
  | n + 1 => by simp only [sm, sm_add f g n]; grind
theorem sm_mul (c : Rat) (f : Nat → Rat) : ∀ n, sm n (fun i => c * f i) = c * sm n f
  | 0 => by simp [sm]
  | n + 1 => by simp only [sm, sm_mul c f n]; grind
theorem sm_zero {f : Nat → Rat} : ∀ {n}, (∀ i, i < n → f i = 0) → sm n f = 0
  | 0, _ => rfl
  | n + 1, h => by rw [sm, sm_zero fun i hi => h i (by omega), h n (by omega)]; grind
theorem sm_one {f : Nat → Rat} : ∀ {n} (p : Nat), p < n → (∀ i, i < n → i ≠ p → f i = 0) → sm n f = f p
  | 0, _, h, _ => by omega
  | n + 1, p, h, h0 => by
    rw [sm]
    by_cases e : p = n
    · subst e
      rw [sm_zero fun i hi => h0 i (by omega) (by omega)]
      grind
    · rw [sm_one p (by omega) fun i hi hp => h0 i (by omega) hp, h0 n (by omega) (by omega)]
      grind
theorem sm_two {f : Nat → Rat} {n p q : Nat} (h : p < q) (hq : q < n) (h0 : ∀ i, i < n → i ≠ p → i ≠ q → f i = 0) : sm n f = f p + f q := by
  have e1 : sm n f = sm n (fun i => (if i = p then f p else 0) + (if i = q then f q else 0)) := sm_congr fun i hi => by
    by_cases e : i = p
    · subst e; rw [if_pos rfl, if_neg (by omega)]; grind
    · by_cases e' : i = q
      · subst e'; rw [if_neg e, if_pos rfl]; grind
      · rw [if_neg e, if_neg e', h0 i hi e e']; grind
  rw [e1, sm_add, sm_one p (by omega) (fun i _ hi => if_neg hi), sm_one q hq (fun i _ hi => if_neg hi), if_pos rfl, if_pos rfl]
theorem sm_swap (f : Nat → Nat → Rat) (m : Nat) : ∀ n, sm n (fun i => sm m (f i)) = sm m (fun j => sm n (fun i => f i j))
  | 0 => by rw [sm]; exact (sm_zero fun i _ => rfl).symm
  | n + 1 => by simp only [sm, sm_swap f m n, sm_add]
theorem sm_first (f : Nat → Rat) : ∀ n, sm (n + 1) f = f 0 + sm n (fun i => f (i + 1))
  | 0 => by simp only [sm]; grind
  | n + 1 => by rw [sm, sm_first f n, sm]; grind
/-- The sign of a place. -/
def sg : Nat → Rat
  | 0 => 1
  | n + 1 => - sg n
theorem sg_add (m : Nat) : ∀ n, sg (m + n) = sg m * sg n
  | 0 => by simp [sg]
  | n + 1 => by rw [← Nat.add_assoc, sg, sg, sg_add m n]; grind
/-- A matrix with another row. -/
def upd (M : Mat) (p : Nat) (u : Nat → Rat) : Mat := fun i => if i = p then u else M i
theorem upd_same (M : Mat) (p : Nat) (u : Nat → Rat) : upd M p u p = u := if_pos rfl
theorem upd_ne (M : Mat) {p i : Nat} (h : i ≠ p) (u : Nat → Rat) : upd M p u i = M i := if_neg h
theorem upd_self (M : Mat) (p : Nat) : upd M p (M p) = M := by
  funext i; unfold upd; split
  · rename_i h; rw [h]
  · rfl
theorem upd_comm (M : Mat) {p q : Nat} (h : p ≠ q) (u v : Nat → Rat) : upd (upd M p u) q v = upd (upd M q v) p u := by
  funext i; unfold upd; split
  · rename_i e; subst e; rw [if_neg (fun e => h e.symm)]
  · rfl
/-- A function of n rows that is linear in each row and vanishes when two rows agree. -/
structure ML (n : Nat) (F : Mat → Rat) : Prop where
  congr : ∀ {M M' : Mat}, (∀ i, i < n → ∀ j, j < n → M i j = M' i j) → F M = F M'
  lin : ∀ (M : Mat) (p : Nat) (u v : Nat → Rat) (a b : Rat), p < n → F (upd M p fun j => a * u j + b * v j) = a * F (upd M p u) + b * F (upd M p v)
  alt : ∀ (M : Mat) (p q : Nat), p < q → q < n → M p = M q → F M = 0
theorem ML.zero {n F} (h : ML n F) (M : Mat) {p : Nat} (hp : p < n) (h0 : ∀ j, j < n → M p j = 0) : F M = 0 := by
  have := h.lin M p (M p) (M p) 0 0 hp
  rw [h.congr (M := M) (M' := upd M p fun j => 0 * M p j + 0 * M p j) fun i hi j hj => ?_, this]
  · grind
  · by_cases e : i = p
    · subst e; rw [upd_same, h0 j hj]; grind
    · rw [upd_ne _ e]
theorem ML.alt' {n F} (h : ML n F) (M : Mat) {p q : Nat} (hp : p < n) (hq : q < n) (hpq : p ≠ q) (e : M p = M q) : F M = 0 := by
  by_cases hlt : p < q
  · exact h.alt M p q hlt hq e
  · exact h.alt M q p (by omega) hp e.symm
/-- Adding a multiple of another row. -/
theorem ML.addrow {n F} (h : ML n F) (M : Mat) {p q : Nat} (hp : p < n) (hq : q < n) (hpq : p ≠ q) (c : Rat) : F (upd M p fun j => M p j + c * M q j) = F M := by
  have e := h.lin M p (M p) (M q) 1 c hp
  rw [upd_self] at e
  rw [h.alt' (upd M p (M q)) hp hq hpq (by rw [upd_same, upd_ne _ (fun e => hpq e.symm)])] at e
  rw [show (fun j => M p j + c * M q j) = fun j => 1 * M p j + c * M q j from funext fun j => by grind, e]
  grind
def swp (M : Mat) (p q : Nat) : Mat := upd (upd M p (M q)) q (M p)
theorem ML.swap {n F} (h : ML n F) (M : Mat) {p q : Nat} (hp : p < n) (hq : q < n) (hpq : p ≠ q) : F (swp M p q) = - F M := by
  have hqp : q ≠ p := fun e => hpq e.symm
  -- rows u + v at both places
  have z : ∀ u : Nat → Rat, F (upd (upd M p u) q u) = 0 := fun u => h.alt' _ hp hq hpq (by rw [upd_same, upd_ne _ hpq, upd_same])
  have e0 := z (fun j => 1 * M p j + 1 * M q j)
  rw [h.lin _ q _ _ _ _ hq] at e0
  rw [upd_comm M hpq, upd_comm M hpq, h.lin _ p _ _ _ _ hp, h.lin _ p _ _ _ _ hp] at e0
  rw [← upd_comm M hpq, ← upd_comm M hpq, ← upd_comm M hpq, ← upd_comm M hpq, z, z] at e0
  have e1 : upd (upd M p (M p)) q (M q) = M := by rw [upd_self, upd_self]
  rw [e1] at e0
  unfold swp
  grind
theorem ML.sum {n F} (h : ML n F) (M : Mat) {p : Nat} (hp : p < n) (u : Nat → Nat → Rat) (a : Nat → Rat) : ∀ k, F (upd M p fun j => sm k fun i => a i * u i j) = sm k fun i => a i * F (upd M p (u i))
  | 0 => h.zero _ hp fun j _ => by rw [upd_same]; rfl
  | k + 1 => by
    have e := h.lin M p (fun j => sm k fun i => a i * u i j) (u k) 1 (a k) hp
    rw [h.sum M hp u a k] at e
    rw [show (fun j => sm (k + 1) fun i => a i * u i j) = fun j => 1 * (sm k fun i => a i * u i j) + a k * u k j from funext fun j => by rw [sm]; grind, e, sm]
    grind
def one : Mat := fun i j => if i = j then 1 else 0
theorem sm_one_r (a : Nat → Rat) {n j : Nat} (hj : j < n) : sm n (fun i => a i * one i j) = a j := by
  rw [sm_one j hj fun i _ hi => by unfold one; rw [if_neg hi]; grind]
  unfold one; rw [if_pos rfl]; grind
/-- Many rows cleared by row 0. -/
theorem ML.clear {n F} (h : ML n F) (M : Mat) (c : Nat → Rat) : ∀ k, k < n → F (fun i j => if i = 0 then M 0 j else if i ≤ k then M i j + c i * M 0 j else M i j) = F M
  | 0, hk => h.congr fun i _ j _ => by
    by_cases e : i = 0
    · subst e; rw [if_pos rfl]
    · rw [if_neg e, if_neg (by omega)]
  | k + 1, hk => by
    rw [← h.clear M c k (by omega)]
    rw [← h.addrow (fun i j => if i = 0 then M 0 j else if i ≤ k then M i j + c i * M 0 j else M i j) (p := k + 1) (q := 0) hk (by omega) (by omega) (c (k + 1))]
    refine h.congr fun i _ j _ => ?_
    by_cases e : i = k + 1
    · subst e
      rw [upd_same, if_neg (by omega), if_pos (Nat.le_refl _), if_neg (by omega), if_neg (by omega), if_pos rfl]
    · rw [upd_ne _ e]
      by_cases e0 : i = 0
      · rw [if_pos e0, if_pos e0]
      · rw [if_neg e0, if_neg e0]
        by_cases hle : i ≤ k
        · rw [if_pos hle, if_pos (by omega)]
        · rw [if_neg hle, if_neg (by omega)]
/-- Expansion along the first row. -/
def minor (M : Mat) (k : Nat) : Mat := fun i j => M (i + 1) (if j < k then j else j + 1)
def det : Nat → Mat → Rat
  | 0, _ => 1
  | n + 1, M => sm (n + 1) fun k => sg k * M 0 k * det n (minor M k)
def embR (k : Nat) (N : Mat) : Mat
  | 0 => one k
  | i + 1 => fun c => if c < k then N i c else if c = k then 0 else N i (c - 1)
theorem embR_upd (k : Nat) (N : Mat) (p : Nat) (u : Nat → Rat) : embR k (upd N p u) = upd (embR k N) (p + 1) (fun c => if c < k then u c else if c = k then 0 else u (c - 1)) := by
  funext i
  cases i with
  | zero => rw [upd_ne _ (by omega)]; rfl
  | succ i =>
    by_cases e : i = p
    · subst e
      rw [upd_same]
      funext c
      show (if c < k then upd N i u i c else if c = k then 0 else upd N i u i (c - 1)) = _
      rw [upd_same]
    · rw [upd_ne _ (by omega)]
      funext c
      show (if c < k then upd N p u i c else if c = k then 0 else upd N p u i (c - 1)) = (if c < k then N i c else if c = k then 0 else N i (c - 1))
      rw [upd_ne N e]
theorem ML.embM {n F} (h : ML (n + 1) F) {k : Nat} (hk : k ≤ n) : ML n (fun N => F (embR k N)) where
  congr := fun {N N'} hN => h.congr fun i hi j hj => by
    cases i with
    | zero => rfl
    | succ i =>
      show (if j < k then N i j else if j = k then 0 else N i (j - 1)) = (if j < k then N' i j else if j = k then 0 else N' i (j - 1))
      by_cases h1 : j < k
      · rw [if_pos h1, if_pos h1, hN i (by omega) j (by omega)]
      · rw [if_neg h1, if_neg h1]
        by_cases h2 : j = k
        · rw [if_pos h2, if_pos h2]
        · rw [if_neg h2, if_neg h2, hN i (by omega) (j - 1) (by omega)]
  lin := fun N p u v a b hp => by
    rw [embR_upd, embR_upd, embR_upd, ← h.lin _ (p + 1) _ _ a b (by omega)]
    congr 2
    funext c
    by_cases h1 : c < k
    · rw [if_pos h1, if_pos h1, if_pos h1]
    · rw [if_neg h1, if_neg h1, if_neg h1]
      by_cases h2 : c = k
      · rw [if_pos h2, if_pos h2, if_pos h2]; grind
      · rw [if_neg h2, if_neg h2, if_neg h2]
  alt := fun N p q hpq hq e => h.alt _ (p + 1) (q + 1) (by omega) (by omega) (by
    show (fun c => if c < k then N p c else if c = k then 0 else N p (c - 1)) = (fun c => if c < k then N q c else if c = k then 0 else N q (c - 1))
    rw [e])
theorem emb_one {n F} (h : ML (n + 1) F) : ∀ k, k ≤ n → F (embR k one) = sg k * F one
  | 0, _ => by
    rw [sg, h.congr (M := embR 0 one) (M' := one) fun i _ j _ => ?_]
    · grind
    · cases i with
      | zero => rfl
      | succ i =>
        show (if j < 0 then one i j else if j = 0 then 0 else one i (j - 1)) = one (i + 1) j
        unfold one
        by_cases e : j = 0
        · subst e; rw [if_neg (by omega), if_pos rfl, if_neg (by omega)]
        · rw [if_neg (by omega), if_neg e]
          by_cases e' : i = j - 1
          · rw [if_pos e', if_pos (by omega)]
          · rw [if_neg e', if_neg (by omega)]
  | k + 1, hk => by
    have e1 := emb_one h k (by omega)
    have e2 := h.swap (embR k one) (p := 0) (q := k + 1) (by omega) (by omega) (by omega)
    rw [h.congr (M := embR (k + 1) one) (M' := swp (embR k one) 0 (k + 1)) fun i _ j _ => ?_, e2, e1, sg]
    · grind
    · unfold swp
      by_cases i1 : i = k + 1
      · subst i1
        rw [upd_same]
        show (if j < k + 1 then one k j else if j = k + 1 then 0 else one k (j - 1)) = one k j
        unfold one
        by_cases h1 : j < k + 1
        · rw [if_pos h1]
        · rw [if_neg h1, if_neg (show ¬ k = j by omega)]
          by_cases h2 : j = k + 1
          · rw [if_pos h2]
          · rw [if_neg h2, if_neg (by omega)]
      · rw [upd_ne _ i1]
        cases i with
        | zero =>
          rw [upd_same]
          show one (k + 1) j = (if j < k then one k j else if j = k then 0 else one k (j - 1))
          unfold one
          by_cases h1 : j < k
          · rw [if_pos h1, if_neg (by omega), if_neg (by omega)]
          · rw [if_neg h1]
            by_cases h2 : j = k
            · rw [if_pos h2, if_neg (by omega)]
            · rw [if_neg h2]
              by_cases h3 : j = k + 1
              · rw [if_pos h3.symm, if_pos (by omega)]
              · rw [if_neg (by omega), if_neg (by omega)]
        | succ i =>
          rw [upd_ne _ (by omega)]
          show (if j < k + 1 then one i j else if j = k + 1 then 0 else one i (j - 1)) = (if j < k then one i j else if j = k then 0 else one i (j - 1))
          unfold one
          by_cases h1 : j < k
          · rw [if_pos (show j < k + 1 by omega), if_pos h1]
          · rw [if_neg h1]
            by_cases h2 : j = k
            · rw [if_pos (show j < k + 1 by omega), if_pos h2, if_neg (by omega)]
            · rw [if_neg (show ¬ j < k + 1 by omega), if_neg h2]
              by_cases h3 : j = k + 1
              · rw [if_pos h3, if_neg (by omega)]
              · rw [if_neg h3]
theorem ML.eq : ∀ {n : Nat} {F : Mat → Rat}, ML n F → ∀ M, F M = det n M * F one
  | 0, F, h, M => by rw [det, h.congr (M := M) (M' := one) fun i hi => by omega]; grind
  | n + 1, F, h, M => by
    have e1 : F M = sm (n + 1) fun k => M 0 k * F (upd M 0 (one k)) := by
      rw [← h.sum M (by omega) one (M 0) (n + 1)]
      refine h.congr fun i _ j hj => ?_
      by_cases e : i = 0
      · subst e; rw [upd_same, sm_one_r _ hj]
      · rw [upd_ne _ e]
    have e2 : ∀ k, k < n + 1 → M 0 k * F (upd M 0 (one k)) = F one * (sg k * M 0 k * det n (minor M k)) := fun k hk => by
      have e3 := (h.embM (k := k) (by omega)).eq (minor M k)
      rw [emb_one h k (by omega)] at e3
      have e4 := h.clear (upd M 0 (one k)) (fun i => - M i k) n (by omega)
      rw [h.congr (M' := embR k (minor M k)) fun i hi j hj => ?_] at e4
      · rw [← e4, e3]; grind
      · cases i with
        | zero => rw [if_pos rfl, upd_same]; rfl
        | succ i =>
          rw [if_neg (by omega), if_pos (by omega), upd_ne _ (by omega), upd_same]
          show _ = (if j < k then minor M k i j else if j = k then 0 else minor M k i (j - 1))
          unfold minor one
          by_cases h1 : j < k
          · rw [if_pos h1, if_neg (by omega), if_pos h1]; grind
          · rw [if_neg h1]
            by_cases h2 : j = k
            · subst h2; rw [if_pos rfl, if_pos rfl]; grind
            · rw [if_neg h2, if_neg (by omega), if_neg (by omega), show j - 1 + 1 = j from by omega]; grind
    rw [e1, det, sm_congr e2, sm_mul]
    grind
/-- Expansion along the first column. -/
def mino (M : Mat) (k : Nat) : Mat := fun i j => M (if i < k then i else i + 1) (j + 1)
def dtc : Nat → Mat → Rat
  | 0, _ => 1
  | n + 1, M => sm (n + 1) fun k => sg k * M k 0 * dtc n (mino M k)
theorem dtc_ML : ∀ n, ML n (dtc n)
  | 0 => ⟨fun _ => rfl, fun _ _ _ _ _ _ h => by omega, fun _ _ _ h1 h2 => by omega⟩
  | n + 1 => by
    have ih := dtc_ML n
    have mu : ∀ (M : Mat) (p k : Nat) (u : Nat → Rat), p ≠ k → mino (upd M p u) k = upd (mino M k) (if p < k then p else p - 1) (fun j => u (j + 1)) := fun M p k u hp => by
      funext i j
      unfold mino upd
      by_cases h1 : i < k
      · rw [if_pos h1]
        by_cases h2 : i = p
        · subst h2; rw [if_pos rfl, if_pos h1, if_pos rfl]
        · rw [if_neg h2, if_neg (by split <;> omega)]
          show _ = M (if i < k then i else i + 1) (j + 1)
          rw [if_pos h1]
      · rw [if_neg h1]
        by_cases h2 : i + 1 = p
        · rw [if_pos h2, if_pos (by split <;> omega)]
        · rw [if_neg h2, if_neg (by split <;> omega)]
          show _ = M (if i < k then i else i + 1) (j + 1)
          rw [if_neg h1]
    have ms : ∀ (M : Mat) (k : Nat) (u : Nat → Rat), mino (upd M k u) k = mino M k := fun M k u => by
      funext i j
      unfold mino upd
      by_cases h1 : i < k
      · rw [if_pos h1, if_neg (by omega)]
      · rw [if_neg h1, if_neg (by omega)]
    have adj : ∀ (M : Mat) (p : Nat), p + 1 < n + 1 → M p = M (p + 1) → dtc (n + 1) M = 0 := fun M p hp e => by
      rw [dtc, sm_two (p := p) (q := p + 1) (by omega) hp fun i hi h1 h2 => ?_]
      · have : mino M p = mino M (p + 1) := by
          funext i j
          unfold mino
          by_cases h1 : i < p
          · rw [if_pos h1, if_pos (by omega)]
          · rw [if_neg h1]
            by_cases h2 : i = p
            · subst h2; rw [if_pos (by omega), e]
            · rw [if_neg (by omega)]
        rw [this, e, sg]
        grind
      · rw [ih.alt (mino M i) (if p < i then p else p - 1) ((if p < i then p else p - 1) + 1) (by omega) (by split <;> omega) (by
          funext j
          unfold mino
          by_cases h3 : p < i
          · rw [if_pos h3, if_pos h3, if_pos (by omega), e]
          · rw [if_neg h3, if_neg (by omega), if_neg (by omega), show p - 1 + 1 = p from by omega, e])]
        grind
    have lin : ∀ (M : Mat) (p : Nat) (u v : Nat → Rat) (a b : Rat), p < n + 1 → dtc (n + 1) (upd M p fun j => a * u j + b * v j) = a * dtc (n + 1) (upd M p u) + b * dtc (n + 1) (upd M p v) := fun M p u v a b hp => by
      simp only [dtc]
      rw [← sm_mul, ← sm_mul, ← sm_add]
      refine sm_congr fun k hk => ?_
      by_cases e : k = p
      · subst e
        simp only [upd_same, ms]
        grind
      · rw [upd_ne _ e, upd_ne _ e, upd_ne _ e, mu _ _ _ _ (fun x => e x.symm), mu _ _ _ _ (fun x => e x.symm), mu _ _ _ _ (fun x => e x.symm)]
        rw [ih.lin (mino M k) (if p < k then p else p - 1) (fun j => u (j + 1)) (fun j => v (j + 1)) a b (by split <;> omega)]
        grind
    refine ⟨fun {M M'} h => ?_, lin, ?_⟩
    · rw [dtc, dtc]
      refine sm_congr fun k hk => ?_
      rw [h k hk 0 (by omega), ih.congr fun i hi j hj => ?_]
      unfold mino
      split
      · exact h _ (by omega) _ (by omega)
      · exact h _ (by omega) _ (by omega)
    · -- adjacent rows change the sign
      have z : ∀ (M : Mat) (p : Nat) (u : Nat → Rat), p + 1 < n + 1 → dtc (n + 1) (upd (upd M p u) (p + 1) u) = 0 := fun M p u hp => adj _ p hp (by rw [upd_ne _ (by omega), upd_same, upd_same])
      have sw : ∀ (M : Mat) (p : Nat), p + 1 < n + 1 → dtc (n + 1) (swp M p (p + 1)) = - dtc (n + 1) M := fun M p hp => by
        have e0 := z M p (fun j => 1 * M p j + 1 * M (p + 1) j) hp
        have hpq : p ≠ p + 1 := by omega
        rw [lin _ (p + 1) _ _ _ _ hp] at e0
        rw [upd_comm M hpq, upd_comm M hpq, lin _ p _ _ _ _ (by omega), lin _ p _ _ _ _ (by omega)] at e0
        rw [← upd_comm M hpq, ← upd_comm M hpq, ← upd_comm M hpq, ← upd_comm M hpq, z _ _ _ hp, z _ _ _ hp] at e0
        have e1 : upd (upd M p (M p)) (p + 1) (M (p + 1)) = M := by rw [upd_self, upd_self]
        rw [e1] at e0
        unfold swp
        grind
      have far : ∀ (d : Nat) (M : Mat) (p : Nat), p + d + 1 < n + 1 → M p = M (p + d + 1) → dtc (n + 1) M = 0 := fun d => by
        induction d with
        | zero => exact fun M p hp e => adj M p hp e
        | succ d ih2 =>
            intro M p hp e
            have e1 := sw M (p + d + 1) (by omega)
            rw [ih2 (swp M (p + d + 1) (p + d + 1 + 1)) p (by omega) ?_] at e1
            · grind
            · unfold swp
              rw [upd_ne _ (by omega), upd_ne _ (by omega), upd_ne _ (by omega), upd_same, e]
              rfl
      intro M p q hpq hq e
      exact far (q - p - 1) M p (by omega) (by rw [show p + (q - p - 1) + 1 = q from by omega]; exact e)
theorem dtc_one : ∀ n, dtc n one = 1
  | 0 => rfl
  | n + 1 => by
    rw [dtc, sm_one 0 (by omega) fun i _ hi => by unfold one; rw [if_neg hi]; grind]
    rw [(dtc_ML n).congr (M' := one) fun i hi j hj => ?_, dtc_one n]
    · unfold one; rw [if_pos rfl, sg]; grind
    · show one (if i < 0 then i else i + 1) (j + 1) = one i j
      rw [if_neg (by omega)]
      unfold one
      by_cases e : i = j
      · rw [if_pos e, if_pos (by omega)]
      · rw [if_neg e, if_neg (by omega)]
theorem dtc_eq (n : Nat) (M : Mat) : dtc n M = det n M := by
  rw [(dtc_ML n).eq M, dtc_one]; grind
theorem det_ML (n : Nat) : ML n (det n) := by
  have : dtc n = det n := funext fun M => dtc_eq n M
  rw [← this]
  exact dtc_ML n
theorem det_one (n : Nat) : det n one = 1 := by rw [← dtc_eq, dtc_one]
/-- The transpose. -/
def tp (M : Mat) : Mat := fun i j => M j i
theorem det_tp : ∀ (n : Nat) (M : Mat), det n (tp M) = det n M := fun n M => by
  rw [← dtc_eq n M]
  induction n generalizing M with
  | zero => rfl
  | succ n ih =>
    rw [det, dtc]
    refine sm_congr fun k _ => ?_
    rw [show minor (tp M) k = tp (mino M k) from rfl, ih]
    rfl
def mul (n : Nat) (A B : Mat) : Mat := fun i j => sm n fun k => A i k * B k j
theorem mul_ML (n : Nat) (B : Mat) : ML n (fun A => det n (mul n A B)) where
  congr := fun {M M'} h => (det_ML n).congr fun i hi j hj => sm_congr fun k hk => by rw [h i hi k hk]
  lin := fun M p u v a b hp => by
    have mu : ∀ u, mul n (upd M p u) B = upd (mul n M B) p (fun j => sm n fun k => u k * B k j) := fun u => by
      funext i j
      unfold mul upd
      split <;> rfl
    rw [mu, mu, mu, ← (det_ML n).lin _ p _ _ a b hp]
    congr 2
    funext j
    rw [← sm_mul, ← sm_mul, ← sm_add]
    exact sm_congr fun k _ => by grind
  alt := fun M p q hpq hq e => (det_ML n).alt _ p q hpq hq (by
    show (fun j => sm n fun k => M p k * B k j) = (fun j => sm n fun k => M q k * B k j)
    rw [e])
theorem det_mul (n : Nat) (A B : Mat) : det n (mul n A B) = det n A * det n B := by
  rw [(mul_ML n B).eq A]
  congr 1
  refine (det_ML n).congr fun i hi j hj => ?_
  unfold mul
  rw [sm_one i hi fun k _ hk => by unfold one; rw [if_neg (fun e => hk e.symm)]; grind]
  unfold one
  rw [if_pos rfl]; grind
end Go.Proofs.YtfbogelmgdojgaaGreat


/- Resultants and determinants. No program in sight. -/
namespace Go.Proofs.YtfbogelmgdojgaaGreat
set_option linter.unusedSimpArgs false
set_option linter.unusedVariables false

theorem sg_even : ∀ k, sg (2 * k) = 1
  | 0 => rfl
  | k + 1 => by rw [show 2 * (k + 1) = 2 * k + 1 + 1 from by omega, sg, sg, sg_even k]; grind
theorem sg_mod (a : Nat) : sg a = if a % 2 = 1 then -1 else 1 := by
  have h1 := sg_add (2 * (a / 2)) (a % 2)
  rw [show 2 * (a / 2) + a % 2 = a from by omega, sg_even] at h1
  rw [h1]
  by_cases e : a % 2 = 1
  · rw [if_pos e, e, sg, sg]; grind
  · rw [if_neg e, show a % 2 = 0 from by omega, sg]; grind
theorem sm_rev (f : Nat → Rat) : ∀ n, sm n (fun i => f (n - 1 - i)) = sm n f
  | 0 => rfl
  | n + 1 => by
    rw [sm_first, sm, ← sm_rev f n]
    have : sm n (fun i => f (n + 1 - 1 - (i + 1))) = sm n (fun i => f (n - 1 - i)) := sm_congr fun i _ => by rw [show n + 1 - 1 - (i + 1) = n - 1 - i from by omega]
    rw [this, show n + 1 - 1 - 0 = n from by omega]
    grind
/-- The coefficients of a polynomial times a power. -/
def sh (e : Nat) (a : List Rat) (d : Nat) : Rat := if d < e then 0 else cf a (d - e)
theorem sh_sm (b : List Rat) : ∀ (u : List Rat) (q d : Nat), u.length ≤ q → cf (mulL u b) d = sm q (fun s => cf u s * sh s b d)
  | [], q, d, _ => by
    rw [sm_zero fun s _ => by rw [cf_nil]; grind]
    rfl
  | c :: u, 0, d, h => by simp at h
  | c :: u, q + 1, d, h => by
    rw [sm_first, mulL, cf_addL, cf_scL]
    have e1 : sm q (fun i => cf (c :: u) (i + 1) * sh (i + 1) b d) = cf (0 :: mulL u b) d := by
      cases d with
      | zero =>
        rw [cf_zero]
        refine sm_zero fun i _ => ?_
        unfold sh
        rw [if_pos (by omega)]; grind
      | succ d =>
        rw [cf_succ, sh_sm b u q d (by simp at h; omega)]
        refine sm_congr fun i _ => ?_
        unfold sh
        rw [cf_succ]
        by_cases e : d < i
        · rw [if_pos e, if_pos (by omega)]
        · rw [if_neg e, if_neg (by omega), show d + 1 - (i + 1) = d - i from by omega]
    rw [e1, cf_zero]
    have e2 : sh 0 b d = cf b d := if_neg (by omega)
    rw [e2]
theorem cf_pMul (a b : List Rat) (d : Nat) : cf (pMul a b) d = cf (mulL a b) d := by unfold pMul; rw [cf_tr]
end Go.Proofs.YtfbogelmgdojgaaGreat


/- Resultants: the Sylvester matrix and the norm. No program in sight. -/
namespace Go.Proofs.YtfbogelmgdojgaaGreat
set_option linter.unusedSimpArgs false
set_option linter.unusedVariables false

/-- A polynomial times a power of the variable. -/
def xs (e : Nat) (b : List Rat) : List Rat := pMul (mon 1 e) b
theorem ev_mon : ∀ (e : Nat) (x : Rat), ev (mon 1 e) x = x ^ e
  | 0, x => by rw [Rat.pow_zero]; show 1 + x * 0 = 1; grind
  | e + 1, x => by
    rw [Rat.pow_succ]
    show 0 + x * ev (mon 1 e) x = _
    rw [ev_mon e x]; grind
theorem ev_xs (e : Nat) (b : List Rat) (x : Rat) : ev (xs e b) x = x ^ e * ev b x := by unfold xs; rw [ev_pMul, ev_mon]
theorem can_xs (e : Nat) (b : List Rat) : Can (xs e b) := can_pMul _ _
theorem cf_xs (e : Nat) (b : List Rat) (d : Nat) : cf (xs e b) d = sh e b d := by
  unfold xs
  rw [cf_pMul, sh_sm b (mon 1 e) (e + 1) d (by rw [mon_len]; exact Nat.le_refl _), sm_one e (by omega) fun i _ hi => by rw [mon_low _ _ _ hi]; grind]
  rw [mon_top]; grind
theorem len_xs {e : Nat} {b : List Rat} (hb : Can b) : (xs e b).length ≤ e + b.length := by
  by_cases b0 : b = []
  · subst b0
    unfold xs
    rw [pMul_nil_r]; simp
  · unfold xs
    rw [len_pMul (mon_can e (by decide)) hb (mon_ne _ _) b0, mon_len]; omega
/-- The matrix of a multiplication. -/
def NM (m : Nat) (a b : List Rat) : Mat := fun i j => cf (pMod (xs (m - 1 - i) b) a) (m - 1 - j)
def Nm (a b : List Rat) : Rat := det (a.length - 1) (NM (a.length - 1) a b)
/-- Residues of combinations. -/
theorem mod_sc {a q : List Rat} (c : Rat) (ha : Can a) (hq : Can q) (q0 : q ≠ []) : pMod (pSc c a) q = pSc c (pMod a q) := by
  obtain ⟨⟨c1, c2⟩, l1, e1⟩ := dm_ok ha hq q0
  refine (dm_eq (can_pSc c a) hq (can_pSc c (pDiv a q)) (can_pSc _ _) (by have := len_pSc c (pMod a q); omega) fun t => ?_).2
  simp only [ev_pSc]
  have h1 := e1 t
  grind
theorem mod_comb {c a : List Rat} (ha : Can a) (a0 : a ≠ []) (d : Nat) : ∀ (q : Nat) (u : List Rat), u.length ≤ q → cf (pMod (pMul u c) a) d = sm q (fun s => cf u s * cf (pMod (xs s c) a) d)
  | 0, u, h => by
    obtain rfl : u = [] := List.eq_nil_of_length_eq_zero (by omega)
    rw [pMul_nil_l, (dm_small Can_nil ha (List.length_pos_iff.2 a0)).2]
    rfl
  | q + 1, u, h => by
    have ih := mod_comb ha a0 (c := c) d q (u.take q) (by rw [List.length_take]; omega)
    have cu : ∀ s, cf (u.take q) s = if s < q then cf u s else 0 := fun s => by
      unfold cf
      rw [List.getD_eq_getElem?_getD, List.getElem?_take, List.getD_eq_getElem?_getD]
      split <;> rfl
    have e1 : pMul u c = pAdd (pMul (u.take q) c) (pSc (cf u q) (xs q c)) := can_ext (can_pMul _ _) (can_pAdd _ _) fun i => by
      rw [cf_pAdd, cf_pSc, cf_pMul, cf_pMul, cf_xs, sh_sm c u (q + 1) i h, sh_sm c (u.take q) q i (by rw [List.length_take]; omega), sm]
      congr 1
      exact sm_congr fun s hs => by rw [cu, if_pos hs]
    rw [e1, mod_add (can_pMul _ _) (can_pSc _ _) ha a0, cf_pAdd, mod_sc _ (can_xs _ _) ha a0, cf_pSc, ih, sm]
    congr 1
    exact sm_congr fun s hs => by rw [cu, if_pos hs]
theorem Nm_mul {a b c : List Rat} (ha : Can a) (hb : Can b) (hc : Can c) (a0 : a ≠ []) : Nm a (pMul b c) = Nm a b * Nm a c := by
  unfold Nm
  rw [← det_mul]
  refine (det_ML _).congr fun i hi j _ => ?_
  unfold mul NM
  have h1 := mod_comb (c := c) ha a0 (a.length - 1 - 1 - j) (a.length - 1) (pMod (xs (a.length - 1 - 1 - i) b) a) (by have := (dm_ok (can_xs (a.length - 1 - 1 - i) b) ha a0).2.1; omega)
  rw [mod_mul_l (can_xs _ _) ha a0, ← sm_rev] at h1
  rw [← h1]
  congr 2
  exact ev_inj (can_xs _ _) (can_pMul _ _) fun x => by rw [ev_xs, ev_pMul, ev_pMul, ev_xs]; grind
theorem powq_add (x : Rat) (m : Nat) : ∀ n, x ^ (m + n) = x ^ m * x ^ n
  | 0 => by rw [Nat.add_zero, Rat.pow_zero]; grind
  | n + 1 => by rw [← Nat.add_assoc, Rat.pow_succ, Rat.pow_succ, powq_add x m n]; grind
theorem Nm_mod {a q : List Rat} (ha : Can a) (hq : Can q) (q0 : q ≠ []) : Nm q (pMod a q) = Nm q a := by
  unfold Nm
  refine (det_ML _).congr fun i hi j _ => ?_
  unfold NM
  rw [show pMod (xs (q.length - 1 - 1 - i) (pMod a q)) q = pMod (xs (q.length - 1 - 1 - i) a) q from mod_mul_r ha hq q0]
end Go.Proofs.YtfbogelmgdojgaaGreat


/- Power sums and traces. No program in sight. -/
namespace Go.Proofs.YtfbogelmgdojgaaGreat
set_option linter.unusedSimpArgs false
set_option linter.unusedVariables false

/-- The power sums, each by itself. -/
def nw (q : List Rat) (k : Nat) : Rat := nwV q k (nwL q k)
theorem nwL_get (q : List Rat) : ∀ (k j : Nat), j < k → cf (nwL q k) j = nw q j
  | 0, j, h => by omega
  | k + 1, j, h => by
    have hl := nwL_len q k
    unfold cf
    rw [nwL, List.getD_eq_getElem?_getD]
    by_cases e : j = k
    · subst e
      rw [List.getElem?_append_right (by omega), hl, Nat.sub_self]
      rfl
    · rw [List.getElem?_append_left (by omega), ← List.getD_eq_getElem?_getD]
      exact nwL_get q k j (by omega)
theorem trF_sm (r p : List Rat) : ∀ n, trF r p n = sm n (fun j => cf r j * cf p j)
  | 0 => by simp [trF, sm]
  | n + 1 => by rw [trF, sm, trF_sm r p n]
theorem sm_more {f : Nat → Rat} {m n : Nat} (h : m ≤ n) (h0 : ∀ i, m ≤ i → i < n → f i = 0) : sm n f = sm m f := by
  induction n with
  | zero => rw [show m = 0 from by omega]
  | succ n ih =>
    by_cases e : m = n + 1
    · rw [e]
    · rw [sm, ih (by omega) (fun i h1 h2 => h0 i h1 (by omega)), h0 n (by omega) (by omega)]; grind
theorem trQ_sm (q a : List Rat) {m : Nat} (h : (pMod a q).length ≤ m) : trQ q a = sm m (fun j => cf (pMod a q) j * nw (pMonic q) j) := by
  unfold trQ
  rw [trF_sm, sm_more h fun i hi _ => by rw [cf_ge hi]; grind]
  refine sm_congr fun j hj => ?_
  rw [show nwR (pMonic q) (pMod a q).length = nwL (pMonic q) (pMod a q).length from rfl, nwL_get _ _ _ hj]
theorem nwN_sm (q : List Rat) (k : Nat) (l : List Rat) : ∀ i, nwN q k l i = - sm i (fun t => cf q (q.length - 1 - (t + 1)) * nwBy k l (t + 1))
  | 0 => by simp [nwN, sm]
  | i + 1 => by rw [nwN, sm, nwN_sm q k l i]; grind
theorem xs_mon (s e : Nat) : xs s (mon 1 e) = mon 1 (s + e) := ev_inj (can_xs _ _) (mon_can _ (by decide)) fun x => by rw [ev_xs, ev_mon, ev_mon, powq_add]
theorem nw_zero {q : List Rat} (hq : Can q) : nw (pMonic q) 0 = (((q.length - 1 : Nat) : Int) : Rat) := by
  unfold nw nwV
  rw [if_pos rfl, len_pMonic hq]
end Go.Proofs.YtfbogelmgdojgaaGreat


/- Sizes of power sums and traces. No program in sight. -/
namespace Go.Proofs.YtfbogelmgdojgaaGreat
set_option linter.unusedSimpArgs false
set_option linter.unusedVariables false
open Go.RowKit

def nwZ (E : Nat) : Nat → Nat
  | 0 => 1
  | k + 1 => 4 * (E + nwZ E k + 1) + 1
theorem nwZ_pos (E : Nat) : ∀ k, 1 ≤ nwZ E k
  | 0 => Nat.le_refl _
  | k + 1 => by rw [nwZ]; omega
theorem nwBy_sz {l : List Rat} {S k i : Nat} (hl : PB l S) (h1 : 1 ≤ S) (hk : k < 4294967296) : qs (nwBy k l i) ≤ S := by
  unfold nwBy
  split
  · exact hl _
  · exact Nat.le_trans (qs_nat hk) h1
theorem nwN_sz {q l : List Rat} {E S k : Nat} (hq : PB q E) (hl : PB l S) (h1 : 1 ≤ S) (hk : k < 4294967296) : ∀ i, qs (nwN q k l i) ≤ i * (E + S + 1) + 1
  | 0 => by
    rw [nwN, Nat.zero_mul]
    exact qs_0
  | i + 1 => by
    have ih := nwN_sz hq hl h1 hk i
    rw [nwN, Nat.succ_mul]
    have e1 := qs_sub (nwN q k l i) (cf q (q.length - 1 - (i + 1)) * nwBy k l (i + 1))
    have e2 := qs_mul (cf q (q.length - 1 - (i + 1))) (nwBy k l (i + 1))
    have e3 := hq (q.length - 1 - (i + 1))
    have e4 := nwBy_sz (i := i + 1) hl h1 hk
    omega
theorem nwL_sz {q : List Rat} {E : Nat} (hq : PB q E) (hl : q.length ≤ 5) : ∀ k, k < 1000 → PB (nwL q k) (nwZ E k)
  | 0, _ => PB_nil (Nat.le_refl _)
  | k + 1, hk => fun i => by
    have ih := nwL_sz hq hl k (by omega)
    have hp := nwZ_pos E k
    have hle : nwZ E k ≤ nwZ E (k + 1) := by rw [nwZ]; omega
    by_cases e : i < k
    · have : cf (nwL q (k + 1)) i = cf (nwL q k) i := by rw [nwL_get _ _ _ (by omega), nwL_get _ _ _ e]
      rw [this]
      exact Nat.le_trans (ih i) hle
    · by_cases e' : i = k
      · rw [nwL_get _ _ _ (by omega), e']
        show qs (nwV q k (nwL q k)) ≤ _
        unfold nwV
        split
        · exact Nat.le_trans (qs_nat (z := q.length - 1) (by omega)) (by omega)
        · have h1 := nwN_sz (k := k) hq ih hp (by omega) (min k (q.length - 1))
          refine Nat.le_trans h1 ?_
          rw [nwZ]
          have : min k (q.length - 1) * (E + nwZ E k + 1) ≤ 4 * (E + nwZ E k + 1) := Nat.mul_le_mul_right _ (by omega)
          omega
      · rw [cf_ge (by rw [nwL_len]; omega)]
        exact Nat.le_trans qs_0 (Nat.le_trans hp hle)
theorem nwZ_step (E : Nat) {j : Nat} : ∀ {k}, j ≤ k → nwZ E j ≤ nwZ E k
  | 0, h => by rw [show j = 0 from by omega]; exact Nat.le_refl _
  | k + 1, h => by
    by_cases e : j = k + 1
    · rw [e]; exact Nat.le_refl _
    · have := nwZ_step E (j := j) (k := k) (by omega)
      rw [nwZ]; omega
theorem nw_ok {q : List Rat} {E L : Nat} (hq : PB q E) (hl : q.length ≤ 5) (h : L ≤ 100 ∧ 5 * (E + nwZ E L + 1) + 1 ≤ 5000000000000) : NwOk q L := by
  refine ⟨⟨by omega, hq.mono (by omega), by omega⟩, fun k hk => ?_⟩
  have h1 := nwL_sz hq hl k (by omega)
  have h2 := nwZ_step E hk
  refine ⟨h1.mono (by omega), fun i hi => ⟨?_, ?_⟩⟩
  · refine Nat.le_trans (nwN_sz hq h1 (nwZ_pos E k) (by omega) i) ?_
    have : i * (E + nwZ E k + 1) ≤ 5 * (E + nwZ E k + 1) := Nat.mul_le_mul_right _ (by omega)
    omega
  · have e1 := qs_mul (cf q (q.length - 1 - (i + 1))) (nwBy k (nwL q k) (i + 1))
    have e2 := hq (q.length - 1 - (i + 1))
    have e3 := nwBy_sz (k := k) (i := i + 1) h1 (nwZ_pos E k) (by omega)
    omega
theorem Md.mon {q : List Rat} {n k : Nat} (hq : Md q n k) : PB (pMonic q) 11009 ∧ (pMonic q).length ≤ 5 := by
  have := hq.sz
  exact ⟨monic_PB this.pb, by rw [len_pMonic hq.can]; exact this.len⟩
theorem Md.po {q : List Rat} {n k : Nat} (hq : Md q n k) {L : Nat} (hL : L ≤ 6) : PoOk q L := by
  have h2 := hq.two
  have h3 := hq.sz.len
  refine ⟨⟨hq.can, by omega, 5504, hq.sz.pb, by decide⟩, ⟨by rw [len_pMonic hq.can]; omega, by rw [len_pMonic hq.can]; omega⟩, nw_ok hq.mon.1 hq.mon.2 ⟨by omega, ?_⟩⟩
  have := nwZ_step 11009 hL
  exact Nat.le_trans (show _ ≤ 5 * (11009 + nwZ 11009 6 + 1) + 1 by omega) (by decide)
/-- The sizes of a trace. -/
theorem trF_sz {r p : List Rat} {R S : Nat} (hr : PB r R) (hp : PB p S) : ∀ i, qs (trF r p i) ≤ i * (R + S + 1) + 1
  | 0 => by
    rw [trF, Nat.zero_mul]
    exact qs_0
  | i + 1 => by
    have ih := trF_sz hr hp i
    rw [trF, Nat.succ_mul]
    have e1 := qs_add (trF r p i) (cf r i * cf p i)
    have e2 := qs_mul (cf r i) (cf p i)
    have e3 := hr i
    have e4 := hp i
    omega
def trB7 (m j : Nat) : Nat := 4 * (2 ^ (m - 1) * (j + 11009) + nwZ 11009 4 + 1) + 1
theorem Md.tr {q a : List Rat} {n k m j : Nat} (hq : Md q n k) (ha : Sz a m j) (h : ((2 ≤ m ∧ m ≤ 1000) ∧ 2 ^ (m - 1) * (j + 11009) ≤ 1000000000) := by decide) : TrOk q a ∧ qs (trQ q a) ≤ trB7 m j := by
  have hd := hq.dv ha ⟨h.1, by omega⟩
  have hr := hq.rm ha h.1.1
  have hn := nwL_sz hq.mon.1 hq.mon.2 (pMod a q).length (by have := hr.len; omega)
  have hn' : PB (nwL (pMonic q) (pMod a q).length) (nwZ 11009 4) := hn.mono (nwZ_step _ hr.len)
  have hS : nwZ 11009 4 ≤ 100000000 := by decide
  unfold trB7
  have h6 := h.2
  generalize nwZ 11009 4 = Y at hS hn' ⊢
  generalize 2 ^ (m - 1) * (j + 11009) = X at hr h6 ⊢
  refine ⟨⟨hd, fun _ => hq.po (by have := hr.len; omega), hr.pb.mono (by omega), hn'.mono (by omega), fun i hi => ⟨?_, ?_⟩⟩, ?_⟩
  · refine Nat.le_trans (trF_sz hr.pb hn' i) ?_
    have : i * (X + Y + 1) ≤ 4 * (X + Y + 1) := Nat.mul_le_mul_right _ (by have := hr.len; omega)
    omega
  · have e2 := qs_mul (cf (pMod a q) i) (cf (nwR (pMonic q) (pMod a q).length) i)
    have e3 := hr.pb i
    have e4 := hn' i
    exact Nat.le_trans e2 (by show _ + qs (cf (nwL (pMonic q) (pMod a q).length) i) ≤ _; omega)
  · unfold trQ
    refine Nat.le_trans (trF_sz hr.pb hn' _) ?_
    have : (pMod a q).length * (X + Y + 1) ≤ 4 * (X + Y + 1) := Nat.mul_le_mul_right _ hr.len
    omega
end Go.Proofs.YtfbogelmgdojgaaGreat


/- The law of traces and norms. -/
namespace Go.Proofs.YtfbogelmgdojgaaGreat
set_option linter.unusedSimpArgs false
set_option linter.unusedVariables false
open Go.RowKit

theorem mon_sz {i : Nat} (h : i < 6) : Sz (mon 1 i) 6 1 := ⟨by rw [mon_len]; omega, fun j => by
  by_cases e : j = i
  · rw [e, mon_top]; exact qs_1
  · rw [mon_low _ _ _ e]; exact qs_0, mon_can i (by decide)⟩
end Go.Proofs.YtfbogelmgdojgaaGreat

