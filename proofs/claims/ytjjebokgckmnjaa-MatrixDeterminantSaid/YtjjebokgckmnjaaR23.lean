/- Texts DT1 DT5a A33 in one. -/
import Derived.Test.YtjjebokgckmnjaaR21
import Derived.Test.YtjjebokgckmnjaaR20
/- Determinants of matrices of rational numbers. No program in sight. -/
namespace Go.Proofs.Ytjjebokgckmnjaa
set_option linter.unusedSimpArgs false
set_option linter.unusedVariables false

abbrev Mat := Nat → Nat → Rat
/-- The sum of the first values. -/
def sm : Nat → (Nat → Rat) → Rat
  | 0, _ => 0
  | n + 1, f => sm n f + f n
theorem sm_congr {f g : Nat → Rat} : ∀ {n}, (∀ i, i < n → f i = g i) → sm n f = sm n g
  | 0, _ => rfl
  | n + 1, h => by rw [sm, sm, sm_congr fun i hi => h i (by omega), h n (by omega)]
theorem sm_add (f g : Nat → Rat) : ∀ n, sm n (fun i => f i + g i) = sm n f + sm n g
  | 0 => by simp only [sm]; grind
  | n + 1 => by simp only [sm, sm_add f g n]; grind
theorem sm_mul (c : Rat) (f : Nat → Rat) : ∀ n, sm n (fun i => c * f i) = c * sm n f
  | 0 => by simp [sm]
  | n + 1 => by simp only [sm, sm_mul c f n]; grind
theorem sm_zero {f : Nat → Rat} : ∀ {n}, (∀ i, i < n → f i = 0) → sm n f = 0
  | 0, _ => rfl
  | n + 1, h => by rw [sm, sm_zero fun i hi => h i (by omega), h n (by omega)]; grind
theorem sm_one {f : Nat → Rat} : ∀ {n} (p : Nat), p < n → (∀ i, i < n → i ≠ p → f i = 0) → sm n f = f p
  | 0, _, h, _ => by omega
  | n + 1, p, h, h0 => by
    rw [sm]
    by_cases e : p = n
    · subst e
      rw [sm_zero fun i hi => h0 i (by omega) (by omega)]
      grind
    · rw [sm_one p (by omega) fun i hi hp => h0 i (by omega) hp, h0 n (by omega) (by omega)]
      grind
theorem sm_two {f : Nat → Rat} {n p q : Nat} (h : p < q) (hq : q < n) (h0 : ∀ i, i < n → i ≠ p → i ≠ q → f i = 0) : sm n f = f p + f q := by
  have e1 : sm n f = sm n (fun i => (if i = p then f p else 0) + (if i = q then f q else 0)) := sm_congr fun i hi => by
    by_cases e : i = p
    · subst e; rw [if_pos rfl, if_neg (by omega)]; grind
    · by_cases e' : i = q
      · subst e'; rw [if_neg e, if_pos rfl]; grind
      · rw [if_neg e, if_neg e', h0 i hi e e']; grind
  rw [e1, sm_add, sm_one p (by omega) (fun i _ hi => if_neg hi), sm_one q hq (fun i _ hi => if_neg hi), if_pos rfl, if_pos rfl]
theorem sm_swap (f : Nat → Nat → Rat) (m : Nat) : ∀ n, sm n (fun i => sm m (f i)) = sm m (fun j => sm n (fun i => f i j))
  | 0 => by rw [sm]; exact (sm_zero fun i _ => rfl).symm
  | n + 1 => by simp only [sm, sm_swap f m n, sm_add]
/-- The sign of a place. -/
def sg : Nat → Rat
  | 0 => 1
  | n + 1 => - sg n
/-- A matrix with another row. -/
def upd (M : Mat) (p : Nat) (u : Nat → Rat) : Mat := fun i => if i = p then u else M i
theorem upd_same (M : Mat) (p : Nat) (u : Nat → Rat) : upd M p u p = u := if_pos rfl
theorem upd_ne (M : Mat) {p i : Nat} (h : i ≠ p) (u : Nat → Rat) : upd M p u i = M i := if_neg h
theorem upd_self (M : Mat) (p : Nat) : upd M p (M p) = M := by
  funext i; unfold upd; split
  · rename_i h; rw [h]
  · rfl
theorem upd_comm (M : Mat) {p q : Nat} (h : p ≠ q) (u v : Nat → Rat) : upd (upd M p u) q v = upd (upd M q v) p u := by
  funext i; unfold upd; split
  · rename_i e; subst e; rw [if_neg (fun e => h e.symm)]
  · rfl
/-- A function of n rows that is linear in each row and vanishes when two rows agree. -/
structure ML (n : Nat) (F : Mat → Rat) : Prop where
  congr : ∀ {M M' : Mat}, (∀ i, i < n → ∀ j, j < n → M i j = M' i j) → F M = F M'
  lin : ∀ (M : Mat) (p : Nat) (u v : Nat → Rat) (a b : Rat), p < n → F (upd M p fun j => a * u j + b * v j) = a * F (upd M p u) + b * F (upd M p v)
  alt : ∀ (M : Mat) (p q : Nat), p < q → q < n → M p = M q → F M = 0
theorem ML.zero {n F} (h : ML n F) (M : Mat) {p : Nat} (hp : p < n) (h0 : ∀ j, j < n → M p j = 0) : F M = 0 := by
  have := h.lin M p (M p) (M p) 0 0 hp
  rw [h.congr (M := M) (M' := upd M p fun j => 0 * M p j + 0 * M p j) fun i hi j hj => ?_, this]
  · grind
  · by_cases e : i = p
    · subst e; rw [upd_same, h0 j hj]; grind
    · rw [upd_ne _ e]
theorem ML.alt' {n F} (h : ML n F) (M : Mat) {p q : Nat} (hp : p < n) (hq : q < n) (hpq : p ≠ q) (e : M p = M q) : F M = 0 := by
  by_cases hlt : p < q
  · exact h.alt M p q hlt hq e
  · exact h.alt M q p (by omega) hp e.symm
/-- Adding a multiple of another row. -/
theorem ML.addrow {n F} (h : ML n F) (M : Mat) {p q : Nat} (hp : p < n) (hq : q < n) (hpq : p ≠ q) (c : Rat) : F (upd M p fun j => M p j + c * M q j) = F M := by
  have e := h.lin M p (M p) (M q) 1 c hp
  rw [upd_self] at e
  rw [h.alt' (upd M p (M q)) hp hq hpq (by rw [upd_same, upd_ne _ (fun e => hpq e.symm)])] at e
  rw [show (fun j => M p j + c * M q j) = fun j => 1 * M p j + c * M q j from funext fun j => by grind, e]
  grind
def swp (M : Mat) (p q : Nat) : Mat := upd (upd M p (M q)) q (M p)
theorem ML.swap {n F} (h : ML n F) (M : Mat) {p q : Nat} (hp : p < n) (hq : q < n) (hpq : p ≠ q) : F (swp M p q) = - F M := by
  have hqp : q ≠ p := fun e => hpq e.symm
  -- rows u + v at both places
  have z : ∀ u : Nat → Rat, F (upd (upd M p u) q u) = 0 := fun u => h.alt' _ hp hq hpq (by rw [upd_same, upd_ne _ hpq, upd_same])
  have e0 := z (fun j => 1 * M p j + 1 * M q j)
  rw [h.lin _ q _ _ _ _ hq] at e0
  rw [upd_comm M hpq, upd_comm M hpq, h.lin _ p _ _ _ _ hp, h.lin _ p _ _ _ _ hp] at e0
  rw [← upd_comm M hpq, ← upd_comm M hpq, ← upd_comm M hpq, ← upd_comm M hpq, z, z] at e0
  have e1 : upd (upd M p (M p)) q (M q) = M := by rw [upd_self, upd_self]
  rw [e1] at e0
  unfold swp
  grind
theorem ML.sum {n F} (h : ML n F) (M : Mat) {p : Nat} (hp : p < n) (u : Nat → Nat → Rat) (a : Nat → Rat) : ∀ k, F (upd M p fun j => sm k fun i => a i * u i j) = sm k fun i => a i * F (upd M p (u i))
  | 0 => h.zero _ hp fun j _ => by rw [upd_same]; rfl
  | k + 1 => by
    have e := h.lin M p (fun j => sm k fun i => a i * u i j) (u k) 1 (a k) hp
    rw [h.sum M hp u a k] at e
    rw [show (fun j => sm (k + 1) fun i => a i * u i j) = fun j => 1 * (sm k fun i => a i * u i j) + a k * u k j from funext fun j => by rw [sm]; grind, e, sm]
    grind
def one : Mat := fun i j => if i = j then 1 else 0
theorem sm_one_r (a : Nat → Rat) {n j : Nat} (hj : j < n) : sm n (fun i => a i * one i j) = a j := by
  rw [sm_one j hj fun i _ hi => by unfold one; rw [if_neg hi]; grind]
  unfold one; rw [if_pos rfl]; grind
/-- Many rows cleared by row 0. -/
theorem ML.clear {n F} (h : ML n F) (M : Mat) (c : Nat → Rat) : ∀ k, k < n → F (fun i j => if i = 0 then M 0 j else if i ≤ k then M i j + c i * M 0 j else M i j) = F M
  | 0, hk => h.congr fun i _ j _ => by
    by_cases e : i = 0
    · subst e; rw [if_pos rfl]
    · rw [if_neg e, if_neg (by omega)]
  | k + 1, hk => by
    rw [← h.clear M c k (by omega)]
    rw [← h.addrow (fun i j => if i = 0 then M 0 j else if i ≤ k then M i j + c i * M 0 j else M i j) (p := k + 1) (q := 0) hk (by omega) (by omega) (c (k + 1))]
    refine h.congr fun i _ j _ => ?_
    by_cases e : i = k + 1
    · subst e
      rw [upd_same, if_neg (by omega), if_pos (Nat.le_refl _), if_neg (by omega), if_neg (by omega), if_pos rfl]
    · rw [upd_ne _ e]
      by_cases e0 : i = 0
      · rw [if_pos e0, if_pos e0]
      · rw [if_neg e0, if_neg e0]
        by_cases hle : i ≤ k
        · rw [if_pos hle, if_pos (by omega)]
        · rw [if_neg hle, if_neg (by omega)]
/-- Expansion along the first row. -/
def minor (M : Mat) (k : Nat) : Mat := fun i j => M (i + 1) (if j < k then j else j + 1)
def det : Nat → Mat → Rat
  | 0, _ => 1
  | n + 1, M => sm (n + 1) fun k => sg k * M 0 k * det n (minor M k)
def embR (k : Nat) (N : Mat) : Mat
  | 0 => one k
  | i + 1 => fun c => if c < k then N i c else if c = k then 0 else N i (c - 1)
theorem embR_upd (k : Nat) (N : Mat) (p : Nat) (u : Nat → Rat) : embR k (upd N p u) = upd (embR k N) (p + 1) (fun c => if c < k then u c else if c = k then 0 else u (c - 1)) := by
  funext i
  cases i with
  | zero => rw [upd_ne _ (by omega)]; rfl
  | succ i =>
    by_cases e : i = p
    · subst e
      rw [upd_same]
      funext c
      show (if c < k then upd N i u i c else if c = k then 0 else upd N i u i (c - 1)) = _
      rw [upd_same]
    · rw [upd_ne _ (by omega)]
      funext c
      show (if c < k then upd N p u i c else if c = k then 0 else upd N p u i (c - 1)) = (if c < k then N i c else if c = k then 0 else N i (c - 1))
      rw [upd_ne N e]
theorem ML.embM {n F} (h : ML (n + 1) F) {k : Nat} (hk : k ≤ n) : ML n (fun N => F (embR k N)) where
  congr := fun {N N'} hN => h.congr fun i hi j hj => by
    cases i with
    | zero => rfl
    | succ i =>
      show (if j < k then N i j else if j = k then 0 else N i (j - 1)) = (if j < k then N' i j else if j = k then 0 else N' i (j - 1))
      by_cases h1 : j < k
      · rw [if_pos h1, if_pos h1, hN i (by omega) j (by omega)]
      · rw [if_neg h1, if_neg h1]
        by_cases h2 : j = k
        · rw [if_pos h2, if_pos h2]
        · rw [if_neg h2, if_neg h2, hN i (by omega) (j - 1) (by omega)]
  lin := fun N p u v a b hp => by
    rw [embR_upd, embR_upd, embR_upd, ← h.lin _ (p + 1) _ _ a b (by omega)]
    congr 2
    funext c
    by_cases h1 : c < k
    · rw [if_pos h1, if_pos h1, if_pos h1]
    · rw [if_neg h1, if_neg h1, if_neg h1]
      by_cases h2 : c = k
      · rw [if_pos h2, if_pos h2, if_pos h2]; grind
      · rw [if_neg h2, if_neg h2, if_neg h2]
  alt := fun N p q hpq hq e => h.alt _ (p + 1) (q + 1) (by omega) (by omega) (by
    show (fun c => if c < k then N p c else if c = k then 0 else N p (c - 1)) = (fun c => if c < k then N q c else if c = k then 0 else N q (c - 1))
    rw [e])
theorem emb_one {n F} (h : ML (n + 1) F) : ∀ k, k ≤ n → F (embR k one) = sg k * F one
  | 0, _ => by
    rw [sg, h.congr (M := embR 0 one) (M' := one) fun i _ j _ => ?_]
    · grind
    · cases i with
      | zero => rfl
      | succ i =>
        show (if j < 0 then one i j else if j = 0 then 0 else one i (j - 1)) = one (i + 1) j
        unfold one
        by_cases e : j = 0
        · subst e; rw [if_neg (by omega), if_pos rfl, if_neg (by omega)]
        · rw [if_neg (by omega), if_neg e]
          by_cases e' : i = j - 1
          · rw [if_pos e', if_pos (by omega)]
          · rw [if_neg e', if_neg (by omega)]
  | k + 1, hk => by
    have e1 := emb_one h k (by omega)
    have e2 := h.swap (embR k one) (p := 0) (q := k + 1) (by omega) (by omega) (by omega)
    rw [h.congr (M := embR (k + 1) one) (M' := swp (embR k one) 0 (k + 1)) fun i _ j _ => ?_, e2, e1, sg]
    · grind
    · unfold swp
      by_cases i1 : i = k + 1
      · subst i1
        rw [upd_same]
        show (if j < k + 1 then one k j else if j = k + 1 then 0 else one k (j - 1)) = one k j
        unfold one
        by_cases h1 : j < k + 1
        · rw [if_pos h1]
        · rw [if_neg h1, if_neg (show ¬ k = j by omega)]
          by_cases h2 : j = k + 1
          · rw [if_pos h2]
          · rw [if_neg h2, if_neg (by omega)]
      · rw [upd_ne _ i1]
        cases i with
        | zero =>
          rw [upd_same]
          show one (k + 1) j = (if j < k then one k j else if j = k then 0 else one k (j - 1))
          unfold one
          by_cases h1 : j < k
          · rw [if_pos h1, if_neg (by omega), if_neg (by omega)]
          · rw [if_neg h1]
            by_cases h2 : j = k
            · rw [if_pos h2, if_neg (by omega)]
            · rw [if_neg h2]
              by_cases h3 : j = k + 1
              · rw [if_pos h3.symm, if_pos (by omega)]
              · rw [if_neg (by omega), if_neg (by omega)]
        | succ i =>
          rw [upd_ne _ (by omega)]
          show (if j < k + 1 then one i j else if j = k + 1 then 0 else one i (j - 1)) = (if j < k then one i j else if j = k then 0 else one i (j - 1))
          unfold one
          by_cases h1 : j < k
          · rw [if_pos (show j < k + 1 by omega), if_pos h1]
          · rw [if_neg h1]
            by_cases h2 : j = k
            · rw [if_pos (show j < k + 1 by omega), if_pos h2, if_neg (by omega)]
            · rw [if_neg (show ¬ j < k + 1 by omega), if_neg h2]
              by_cases h3 : j = k + 1
              · rw [if_pos h3, if_neg (by omega)]
              · rw [if_neg h3]
theorem ML.eq : ∀ {n : Nat} {F : Mat → Rat}, ML n F → ∀ M, F M = det n M * F one
  | 0, F, h, M => by rw [det, h.congr (M := M) (M' := one) fun i hi => by omega]; grind
  | n + 1, F, h, M => by
    have e1 : F M = sm (n + 1) fun k => M 0 k * F (upd M 0 (one k)) := by
      rw [← h.sum M (by omega) one (M 0) (n + 1)]
      refine h.congr fun i _ j hj => ?_
      by_cases e : i = 0
      · subst e; rw [upd_same, sm_one_r _ hj]
      · rw [upd_ne _ e]
    have e2 : ∀ k, k < n + 1 → M 0 k * F (upd M 0 (one k)) = F one * (sg k * M 0 k * det n (minor M k)) := fun k hk => by
      have e3 := (h.embM (k := k) (by omega)).eq (minor M k)
      rw [emb_one h k (by omega)] at e3
      have e4 := h.clear (upd M 0 (one k)) (fun i => - M i k) n (by omega)
      rw [h.congr (M' := embR k (minor M k)) fun i hi j hj => ?_] at e4
      · rw [← e4, e3]; grind
      · cases i with
        | zero => rw [if_pos rfl, upd_same]; rfl
        | succ i =>
          rw [if_neg (by omega), if_pos (by omega), upd_ne _ (by omega), upd_same]
          show _ = (if j < k then minor M k i j else if j = k then 0 else minor M k i (j - 1))
          unfold minor one
          by_cases h1 : j < k
          · rw [if_pos h1, if_neg (by omega), if_pos h1]; grind
          · rw [if_neg h1]
            by_cases h2 : j = k
            · subst h2; rw [if_pos rfl, if_pos rfl]; grind
            · rw [if_neg h2, if_neg (by omega), if_neg (by omega), show j - 1 + 1 = j from by omega]; grind
    rw [e1, det, sm_congr e2, sm_mul]
    grind
/-- Expansion along the first column. -/
def mino (M : Mat) (k : Nat) : Mat := fun i j => M (if i < k then i else i + 1) (j + 1)
def dtc : Nat → Mat → Rat
  | 0, _ => 1
  | n + 1, M => sm (n + 1) fun k => sg k * M k 0 * dtc n (mino M k)
theorem dtc_ML : ∀ n, ML n (dtc n)
  | 0 => ⟨fun _ => rfl, fun _ _ _ _ _ _ h => by omega, fun _ _ _ h1 h2 => by omega⟩
  | n + 1 => by
    have ih := dtc_ML n
    have mu : ∀ (M : Mat) (p k : Nat) (u : Nat → Rat), p ≠ k → mino (upd M p u) k = upd (mino M k) (if p < k then p else p - 1) (fun j => u (j + 1)) := fun M p k u hp => by
      funext i j
      unfold mino upd
      by_cases h1 : i < k
      · rw [if_pos h1]
        by_cases h2 : i = p
        · subst h2; rw [if_pos rfl, if_pos h1, if_pos rfl]
        · rw [if_neg h2, if_neg (by split <;> omega)]
          show _ = M (if i < k then i else i + 1) (j + 1)
          rw [if_pos h1]
      · rw [if_neg h1]
        by_cases h2 : i + 1 = p
        · rw [if_pos h2, if_pos (by split <;> omega)]
        · rw [if_neg h2, if_neg (by split <;> omega)]
          show _ = M (if i < k then i else i + 1) (j + 1)
          rw [if_neg h1]
    have ms : ∀ (M : Mat) (k : Nat) (u : Nat → Rat), mino (upd M k u) k = mino M k := fun M k u => by
      funext i j
      unfold mino upd
      by_cases h1 : i < k
      · rw [if_pos h1, if_neg (by omega)]
      · rw [if_neg h1, if_neg (by omega)]
    have adj : ∀ (M : Mat) (p : Nat), p + 1 < n + 1 → M p = M (p + 1) → dtc (n + 1) M = 0 := fun M p hp e => by
      rw [dtc, sm_two (p := p) (q := p + 1) (by omega) hp fun i hi h1 h2 => ?_]
      · have : mino M p = mino M (p + 1) := by
          funext i j
          unfold mino
          by_cases h1 : i < p
          · rw [if_pos h1, if_pos (by omega)]
          · rw [if_neg h1]
            by_cases h2 : i = p
            · subst h2; rw [if_pos (by omega), e]
            · rw [if_neg (by omega)]
        rw [this, e, sg]
        grind
      · rw [ih.alt (mino M i) (if p < i then p else p - 1) ((if p < i then p else p - 1) + 1) (by omega) (by split <;> omega) (by
          funext j
          unfold mino
          by_cases h3 : p < i
          · rw [if_pos h3, if_pos h3, if_pos (by omega), e]
          · rw [if_neg h3, if_neg (by omega), if_neg (by omega), show p - 1 + 1 = p from by omega, e])]
        grind
    have lin : ∀ (M : Mat) (p : Nat) (u v : Nat → Rat) (a b : Rat), p < n + 1 → dtc (n + 1) (upd M p fun j => a * u j + b * v j) = a * dtc (n + 1) (upd M p u) + b * dtc (n + 1) (upd M p v) := fun M p u v a b hp => by
      simp only [dtc]
      rw [← sm_mul, ← sm_mul, ← sm_add]
      refine sm_congr fun k hk => ?_
      by_cases e : k = p
      · subst e
        simp only [upd_same, ms]
        grind
      · rw [upd_ne _ e, upd_ne _ e, upd_ne _ e, mu _ _ _ _ (fun x => e x.symm), mu _ _ _ _ (fun x => e x.symm), mu _ _ _ _ (fun x => e x.symm)]
        rw [ih.lin (mino M k) (if p < k then p else p - 1) (fun j => u (j + 1)) (fun j => v (j + 1)) a b (by split <;> omega)]
        grind
    refine ⟨fun {M M'} h => ?_, lin, ?_⟩
    · rw [dtc, dtc]
      refine sm_congr fun k hk => ?_
      rw [h k hk 0 (by omega), ih.congr fun i hi j hj => ?_]
      unfold mino
      split
      · exact h _ (by omega) _ (by omega)
      · exact h _ (by omega) _ (by omega)
    · -- adjacent rows change the sign
      have z : ∀ (M : Mat) (p : Nat) (u : Nat → Rat), p + 1 < n + 1 → dtc (n + 1) (upd (upd M p u) (p + 1) u) = 0 := fun M p u hp => adj _ p hp (by rw [upd_ne _ (by omega), upd_same, upd_same])
      have sw : ∀ (M : Mat) (p : Nat), p + 1 < n + 1 → dtc (n + 1) (swp M p (p + 1)) = - dtc (n + 1) M := fun M p hp => by
        have e0 := z M p (fun j => 1 * M p j + 1 * M (p + 1) j) hp
        have hpq : p ≠ p + 1 := by omega
        rw [lin _ (p + 1) _ _ _ _ hp] at e0
        rw [upd_comm M hpq, upd_comm M hpq, lin _ p _ _ _ _ (by omega), lin _ p _ _ _ _ (by omega)] at e0
        rw [← upd_comm M hpq, ← upd_comm M hpq, ← upd_comm M hpq, ← upd_comm M hpq, z _ _ _ hp, z _ _ _ hp] at e0
        have e1 : upd (upd M p (M p)) (p + 1) (M (p + 1)) = M := by rw [upd_self, upd_self]
        rw [e1] at e0
        unfold swp
        grind
      have far : ∀ (d : Nat) (M : Mat) (p : Nat), p + d + 1 < n + 1 → M p = M (p + d + 1) → dtc (n + 1) M = 0 := fun d => by
        induction d with
        | zero => exact fun M p hp e => adj M p hp e
        | succ d ih2 =>
            intro M p hp e
            have e1 := sw M (p + d + 1) (by omega)
            rw [ih2 (swp M (p + d + 1) (p + d + 1 + 1)) p (by omega) ?_] at e1
            · grind
            · unfold swp
              rw [upd_ne _ (by omega), upd_ne _ (by omega), upd_ne _ (by omega), upd_same, e]
              rfl
      intro M p q hpq hq e
      exact far (q - p - 1) M p (by omega) (by rw [show p + (q - p - 1) + 1 = q from by omega]; exact e)
theorem dtc_one : ∀ n, dtc n one = 1
  | 0 => rfl
  | n + 1 => by
    rw [dtc, sm_one 0 (by omega) fun i _ hi => by unfold one; rw [if_neg hi]; grind]
    rw [(dtc_ML n).congr (M' := one) fun i hi j hj => ?_, dtc_one n]
    · unfold one; rw [if_pos rfl, sg]; grind
    · show one (if i < 0 then i else i + 1) (j + 1) = one i j
      rw [if_neg (by omega)]
      unfold one
      by_cases e : i = j
      · rw [if_pos e, if_pos (by omega)]
      · rw [if_neg e, if_neg (by omega)]
theorem dtc_eq (n : Nat) (M : Mat) : dtc n M = det n M := by
  rw [(dtc_ML n).eq M, dtc_one]; grind
theorem det_ML (n : Nat) : ML n (det n) := by
  have : dtc n = det n := funext fun M => dtc_eq n M
  rw [← this]
  exact dtc_ML n
theorem det_one (n : Nat) : det n one = 1 := by rw [← dtc_eq, dtc_one]
/-- The transpose. -/
def tp (M : Mat) : Mat := fun i j => M j i
theorem det_tp : ∀ (n : Nat) (M : Mat), det n (tp M) = det n M := fun n M => by
  rw [← dtc_eq n M]
  induction n generalizing M with
  | zero => rfl
  | succ n ih =>
    rw [det, dtc]
    refine sm_congr fun k _ => ?_
    rw [show minor (tp M) k = tp (mino M k) from rfl, ih]
    rfl
def mul (n : Nat) (A B : Mat) : Mat := fun i j => sm n fun k => A i k * B k j
theorem mul_ML (n : Nat) (B : Mat) : ML n (fun A => det n (mul n A B)) where
  congr := fun {M M'} h => (det_ML n).congr fun i hi j hj => sm_congr fun k hk => by rw [h i hi k hk]
  lin := fun M p u v a b hp => by
    have mu : ∀ u, mul n (upd M p u) B = upd (mul n M B) p (fun j => sm n fun k => u k * B k j) := fun u => by
      funext i j
      unfold mul upd
      split <;> rfl
    rw [mu, mu, mu, ← (det_ML n).lin _ p _ _ a b hp]
    congr 2
    funext j
    rw [← sm_mul, ← sm_mul, ← sm_add]
    exact sm_congr fun k _ => by grind
  alt := fun M p q hpq hq e => (det_ML n).alt _ p q hpq hq (by
    show (fun j => sm n fun k => M p k * B k j) = (fun j => sm n fun k => M q k * B k j)
    rw [e])
theorem det_mul (n : Nat) (A B : Mat) : det n (mul n A B) = det n A * det n B := by
  rw [(mul_ML n B).eq A]
  congr 1
  refine (det_ML n).congr fun i hi j hj => ?_
  unfold mul
  rw [sm_one i hi fun k _ hk => by unfold one; rw [if_neg (fun e => hk e.symm)]; grind]
  unfold one
  rw [if_pos rfl]; grind
end Go.Proofs.Ytjjebokgckmnjaa


/- Matrices as lists of rows. No program in sight. -/
namespace Go.Proofs.Ytjjebokgckmnjaa
set_option linter.unusedSimpArgs false
set_option linter.unusedVariables false

theorem gd_set {M : List (List Rat)} {i : Nat} (hi : i < M.length) (l : List Rat) (j : Nat) : (M.set i l).getD j [] = if j = i then l else M.getD j [] := by
  rw [List.getD_eq_getElem?_getD, List.getD_eq_getElem?_getD]
  by_cases h : j = i
  · subst h
    rw [List.getElem?_set_self hi, if_pos rfl]; rfl
  · rw [List.getElem?_set_ne (fun e => h e.symm), if_neg h]
theorem cf_setL {l : List Rat} {i : Nat} (hi : i < l.length) (x : Rat) (j : Nat) : cf (l.set i x) j = if j = i then x else cf l j := by
  unfold cf
  rw [List.getD_eq_getElem?_getD, List.getD_eq_getElem?_getD]
  by_cases h : j = i
  · subst h
    rw [List.getElem?_set_self hi, if_pos rfl]; rfl
  · rw [List.getElem?_set_ne (fun e => h e.symm), if_neg h]
/-- Two rows exchanged. -/
def swM (M : List (List Rat)) (k p : Nat) : List (List Rat) := (M.set p (M.getD k [])).set k (M.getD p [])
theorem swM_len (M : List (List Rat)) (k p : Nat) : (swM M k p).length = M.length := by unfold swM; rw [List.length_set, List.length_set]
theorem swM_get {M : List (List Rat)} {k p : Nat} (hk : k < M.length) (hp : p < M.length) (j : Nat) : (swM M k p).getD j [] = if j = k then M.getD p [] else if j = p then M.getD k [] else M.getD j [] := by
  unfold swM
  rw [gd_set (by rw [List.length_set]; exact hk), gd_set hp]
end Go.Proofs.Ytjjebokgckmnjaa


/- Matrices whose rows are owned: heaps with any number of rows. No program in sight. -/
namespace Go.Proofs.Ytjjebokgckmnjaa
set_option linter.unusedSimpArgs false
set_option linter.unusedVariables false
open Go.RowKit

/-- The name of a row. -/
def rid (b i : Nat) : Nat := b + i
/-- What the outer slice holds. -/
def V.rwG (ρ : Nat → Nat) (w n : Nat) : List V := (List.range n).map fun i => .sl (ρ i) 4 0 w
def V.rwI (b w n : Nat) : List V := V.rwG (rid b) w n
/-- A heap with the rows of a matrix: the outer slice has the name o, the rows the names from b on. -/
def matH (o b : Nat) (tO t : TypeId) (w : Nat) (M : List (List Rat)) (H : Hp) : Hp := fun j =>
  if j = o then some ⟨tO, 1, V.rwI b w M.length⟩ else if b ≤ j ∧ j < b + M.length then some ⟨t, 4, V.rats (M.getD (j - b) [])⟩ else H j
section
variable {o b : Nat} {tO t : TypeId} {w : Nat} {M : List (List Rat)} {H : Hp}
@[go_sem] theorem rid_s (b n k : Nat) : rid b n + k + 1 = rid b n + (k + 1) := rfl
@[go_sem] theorem rwG_len (ρ : Nat → Nat) (w n : Nat) : (V.rwG ρ w n).length = n := by simp [V.rwG]
@[go_sem] theorem rwI_len (b w n : Nat) : (V.rwI b w n).length = n := rwG_len _ _ _
theorem rwG_get {ρ : Nat → Nat} {w n i : Nat} (h : i < n) : (V.rwG ρ w n)[i]? = some (.sl (ρ i) 4 0 w) := by
  unfold V.rwG
  rw [List.getElem?_map, List.getElem?_range h]; rfl
@[go_sem ↓, go_sem] theorem ev_rwI_get {b w n i : Nat} {k : V → Prop} : optC (V.rwI b w n)[i]? k = (i < n ∧ k (.sl (rid b i) 4 0 w)) := by
  unfold V.rwI
  by_cases h : i < n
  · rw [rwG_get h]; simp [optC, h]
  · rw [List.getElem?_eq_none (by rw [rwG_len]; omega)]; simp [optC, h]
@[go_sem ↓, go_sem] theorem ev_rwG_get {ρ : Nat → Nat} {w n i : Nat} {k : V → Prop} : optC (V.rwG ρ w n)[i]? k = (i < n ∧ k (.sl (ρ i) 4 0 w)) := by
  by_cases h : i < n
  · rw [rwG_get h]; simp [optC, h]
  · rw [List.getElem?_eq_none (by rw [rwG_len]; omega)]; simp [optC, h]
@[go_sem] theorem matH_o : matH o b tO t w M H o = some ⟨tO, 1, V.rwI b w M.length⟩ := if_pos rfl
theorem matH_row {i : Nat} (ho : o < b) (hi : i < M.length) : matH o b tO t w M H (rid b i) = some ⟨t, 4, V.rats (M.getD i [])⟩ := by
  unfold matH rid
  rw [if_neg (by omega), if_pos (by omega), Nat.add_sub_cancel_left]
theorem matH_lo {k : Nat} (ho : ¬ k = o) (hk : k < b) : matH o b tO t w M H k = H k := by
  unfold matH
  rw [if_neg ho, if_neg (by omega)]
theorem matH_up {i : Nat} (ho : o < b) (hi : i < M.length) (l : List Rat) : (matH o b tO t w M H).up (rid b i) (some ⟨t, 4, V.rats l⟩) = matH o b tO t w (M.set i l) H := by
  funext j
  unfold Hp.up matH rid
  rw [List.length_set]
  by_cases e : j = b + i
  · subst e
    rw [if_pos rfl, if_neg (by omega), if_pos (by omega), Nat.add_sub_cancel_left, List.getD_eq_getElem?_getD, List.getElem?_set_self hi]; rfl
  · rw [if_neg e]
    by_cases h1 : j = o
    · rw [if_pos h1, if_pos h1]
    · rw [if_neg h1, if_neg h1]
      by_cases h2 : b ≤ j ∧ j < b + M.length
      · rw [if_pos h2, if_pos h2, List.getD_eq_getElem?_getD, List.getD_eq_getElem?_getD, List.getElem?_set_ne (by omega)]
      · rw [if_neg h2, if_neg h2]
theorem rid_nn {b n c k : Nat} (h : k < b) : (k = rid b n + c) = False := eq_false (by unfold rid; omega)
theorem rid_nl {b n c k : Nat} (h : k < b) : (rid b n + c = k) = False := eq_false (by unfold rid; omega)
theorem rid_rl {b j k : Nat} (h : k < b) : (rid b j = k) = False := eq_false (by unfold rid; omega)
theorem rid_lr {b j k : Nat} (h : k < b) : (k = rid b j) = False := eq_false (by unfold rid; omega)
theorem rid_rn {b n c j : Nat} (h : j < n) : (rid b j = rid b n + c) = False := eq_false (by unfold rid; omega)
theorem rid_nr {b n c j : Nat} (h : j < n) : (rid b n + c = rid b j) = False := eq_false (by unfold rid; omega)
theorem rid_rr {b i j : Nat} : (rid b i = rid b j) = (i = j) := propext ⟨fun h => by unfold rid at h; omega, fun h => by rw [h]⟩
theorem rid_cc {b n c d : Nat} : (rid b n + c = rid b n + d) = (c = d) := propext ⟨fun h => by omega, fun h => by rw [h]⟩
theorem up_swap {k k' : Nat} (h : k ≠ k') (x y : Option Blk) : (H.up k x).up k' y = (H.up k' y).up k x := by
  funext j
  unfold Hp.up
  by_cases h1 : j = k'
  · subst h1
    rw [if_pos rfl, if_neg (fun e => h e.symm), if_pos rfl]
  · rw [if_neg h1]
    by_cases h2 : j = k
    · rw [if_pos h2, if_pos h2]
    · rw [if_neg h2, if_neg h2, if_neg h1]
end
/-- The checks of a region are the same under other names, as long as different names may become one. -/
def mapF (φ : Nat → Nat) (f : Foot) : Foot := (f.1.map φ, f.2.map φ)
theorem meets_map (φ : Nat → Nat) {x y : List Nat} (h : meets x y = true) : meets (x.map φ) (y.map φ) = true := by
  unfold meets at h ⊢
  rw [List.any_eq_true] at h ⊢
  obtain ⟨a, h1, h2⟩ := h
  refine ⟨φ a, List.mem_map_of_mem h1, ?_⟩
  rw [List.contains_eq_mem] at h2 ⊢
  exact decide_eq_true (List.mem_map_of_mem (of_decide_eq_true h2))
theorem noConf_map (φ : Nat → Nat) {f g : Foot} (h : noConf (mapF φ f) (mapF φ g) = true) : noConf f g = true := by
  unfold noConf mapF at *
  simp only [Bool.and_eq_true, Bool.not_eq_true'] at h ⊢
  refine ⟨?_, ?_⟩
  · rcases hm : meets f.2 (g.1 ++ g.2) with _ | _
    · rfl
    · have := meets_map φ hm
      rw [List.map_append] at this
      rw [this] at h; exact absurd h.1 (by decide)
  · rcases hm : meets g.2 f.1 with _ | _
    · rfl
    · have := meets_map φ hm
      rw [this] at h; exact absurd h.2 (by decide)
theorem chk_map (φ : Nat → Nat) {ops : Array Oper} {tr : List Foot} (h : chk ops (tr.map (mapF φ)) = true) : chk ops tr = true := by
  unfold chk at h ⊢
  simp only [Bool.and_eq_true] at h ⊢
  refine ⟨h.1, ?_⟩
  have h2 := h.2
  rw [List.all_eq_true] at h2 ⊢
  intro p hp
  have mem : ∀ q ∈ tr.zipIdx, (mapF φ q.1, q.2) ∈ (tr.map (mapF φ)).zipIdx := fun q hq => by
    rw [List.zipIdx_map]
    exact List.mem_map.2 ⟨q, hq, rfl⟩
  have h3 := h2 _ (mem p hp)
  simp only [Bool.or_eq_true, Bool.and_eq_true] at h3 ⊢
  rcases h3 with ⟨h3, h4⟩ | h3
  · left
    refine ⟨?_, ?_⟩
    · have : (p.1.1.map φ) = [] := eq_of_beq h3
      rw [List.map_eq_nil_iff.1 this]; rfl
    · have : (p.1.2.map φ) = [] := eq_of_beq h4
      rw [List.map_eq_nil_iff.1 this]; rfl
  · right
    rw [List.all_eq_true] at h3 ⊢
    intro q hq
    have h4 := h3 _ (mem q hq)
    unfold chkPair at h4 ⊢
    simp only [Bool.or_eq_true] at h4 ⊢
    rcases h4 with h4 | h4
    · exact .inl h4
    · exact .inr (noConf_map φ h4)
/-- The names of rows become one. -/
def rnm (b n : Nat) (x : Nat) : Nat := if x < b then x else if x < b + n then 1000000 else x - (b + n) + 1000001
theorem rnm_row {b n i : Nat} (h : i < n) : rnm b n (rid b i) = 1000000 := by
  unfold rnm rid
  rw [if_neg (by omega), if_pos (by omega)]
theorem rnm_new (b n c : Nat) : rnm b n (rid b n + c) = c + 1000001 := by
  unfold rnm rid
  rw [if_neg (by omega), if_neg (by omega)]; omega
theorem rnm_lo {b n k : Nat} (h : k < b) : rnm b n k = k := if_pos h
/-- A state with a matrix. -/
def mkR (o b : Nat) (tO t : TypeId) (w : Nat) (ss : List (Nat × V)) (hs : List (Nat × Bool × Blk)) (M : List (List Rat)) (N : Nat) : St := { s := mkS ss, H := matH o b tO t w M (mkH hs), n := rid b M.length, N := N }
theorem vc_atR {P : Program} {Γ : Tab} {Δ : Gab} (T : Tabs P Γ Δ) {c : Code} {Q : Exit → St → Prop} {o b : Nat} {tO t : TypeId} {w : Nat} {ss : List (Nat × V)} {hs : List (Nat × Bool × Blk)} {M : List (List Rat)} {N : Nat}
    (h : vc P Γ Δ c Q { s := mkS ss, H := matH o b tO t w M (mkH hs), n := rid b M.length, N := N }) : AWp P c Q (mkR o b tO t w ss hs M N) := vc_ok T _ _ _ h
def thR (θ : List Nat) (ρ : Nat → Nat) (n : Nat) : List Nat := θ ++ (List.range n).map ρ
@[go_sem] theorem thR_lo {θ : List Nat} {ρ : Nat → Nat} {n k : Nat} (h : k < θ.length) : (thR θ ρ n)[k]? = θ[k]? := by
  unfold thR
  rw [List.getElem?_append_left h]
theorem thR_row {θ : List Nat} {ρ : Nat → Nat} {n i : Nat} (h : i < n) : (thR θ ρ n)[rid θ.length i]? = some (ρ i) := by
  unfold thR rid
  rw [List.getElem?_append_right (by omega), Nat.add_sub_cancel_left, List.getElem?_map, List.getElem?_range h]; rfl
theorem Wk.ofR (θ : List Nat) (ρ : Nat → Nat) {o b : Nat} {tO t : TypeId} {w : Nat} {σ : St} {ss : List (Nat × V)} {hs : List (Nat × Bool × Blk)} {M : List (List Rat)} {N : Nat} (hb : b = θ.length) (ho : o < b) (hhs : ∀ x ∈ hs, x.1 < b)
    (hnd : (thR θ ρ M.length).Nodup) (h0 : N = σ.N ∧ σ.m = 0 ∧ σ.q = false) (hss : wkS (thR θ ρ M.length) σ.s ss) (hH : wkH (thR θ ρ M.length) σ.H hs)
    (hO : optC θ[o]? fun k0 => σ.H k0 = some ⟨tO, 1, V.rwG ρ w M.length⟩) (hR : ∀ i, i < M.length → σ.H (ρ i) = some ⟨t, 4, V.rats (M.getD i [])⟩) : Wk σ (mkR o b tO t w ss hs M N) := by
  obtain ⟨h1, h2, h3⟩ := h0
  have hS : ∀ (l : List (Nat × V)), wkS (thR θ ρ M.length) σ.s l → RenS (thR θ ρ M.length) (mkS l) σ.s ∧ ∀ t m, mkS l t ≠ .tup m := by
    intro l
    induction l with
    | nil => intro _; exact ⟨fun t => trivial, fun t m h => by simp [mkS] at h⟩
    | cons p l ih =>
      intro hl
      obtain ⟨⟨q1, q2⟩, q3⟩ := hl
      obtain ⟨i1, i2⟩ := ih q3
      refine ⟨fun t => ?_, fun t m => ?_⟩
      · simp only [mkS, upS]
        split
        · rename_i e; subst e; exact q2
        · exact i1 t
      · simp only [mkS, upS]
        split
        · intro e; rw [e] at q1; simp [V.noTup] at q1
        · exact i2 t m
  have hHH : ∀ (l : List (Nat × Bool × Blk)), wkH (thR θ ρ M.length) σ.H l → RenH (thR θ ρ M.length) (mkH l) σ.H := by
    intro l
    induction l with
    | nil => intro _ k x hk; simp [mkH] at hk
    | cons p l ih =>
      intro hl k x hk
      obtain ⟨q1, q2⟩ := hl
      simp only [mkH, Hp.up] at hk
      split at hk
      · rename_i e
        subst e
        injection hk with hk
        subst hk
        unfold optC at q1
        split at q1
        · rename_i k0 hk0
          split at q1
          · rename_i y hy
            obtain ⟨r1, r2, r3⟩ := q1
            refine ⟨k0, y, hk0, hy, r1, r2, ?_⟩
            split at r3
            · rw [← r3.1]; exact renL_refl r3.2
            · exact renL_of _ _ r3
          · exact q1.elim
        · exact q1.elim
      · exact ih q2 k x hk
  refine Wk.mk (thR θ ρ M.length) h1 h2.symm h3.symm (fun k hk => by omega) (by show rid b M.length = _; unfold thR rid; rw [List.length_append, List.length_map, List.length_range, hb]) (hS ss hss).1 ?_ hnd (hS ss hss).2
  intro k x hk
  have hk : matH o b tO t w M (mkH hs) k = some x := hk
  unfold matH at hk
  by_cases ek : k = o
  · rw [if_pos ek] at hk
    injection hk with hk
    subst hk ek
    rcases hθ : θ[k]? with _ | k0
    · rw [hθ] at hO; exact hO.elim
    · rw [hθ] at hO
      have hO : σ.H k0 = some ⟨tO, 1, V.rwG ρ w M.length⟩ := hO
      refine ⟨k0, _, by rw [thR_lo (by omega)]; exact hθ, hO, rfl, rfl, by simp only [rwI_len, rwG_len], fun i x y hx hy => ?_⟩
      have hi : i < M.length := by have := (List.getElem?_eq_some_iff.1 hx).1; rw [rwI_len] at this; exact this
      have hx : (V.rwI b w M.length)[i]? = some x := hx
      have hy : (V.rwG ρ w M.length)[i]? = some y := hy
      unfold V.rwI at hx
      rw [rwG_get hi] at hx hy
      injection hx with hx
      injection hy with hy
      subst hx hy
      exact ⟨⟨by rw [hb]; exact thR_row hi, rfl, rfl, rfl⟩, rfl, fun h => by cases h⟩
  · rw [if_neg ek] at hk
    by_cases hr : b ≤ k ∧ k < b + M.length
    · rw [if_pos hr] at hk
      injection hk with hk
      subst hk
      have hi : k - b < M.length := by omega
      refine ⟨ρ (k - b), _, ?_, hR _ hi, rfl, rfl, renL_refl ?_⟩
      · have := thR_row (θ := θ) (ρ := ρ) hi
        rw [← hb] at this
        unfold rid at this
        rw [show b + (k - b) = k from by omega] at this
        exact this
      · exact of_eq_true (rats_pure _)
    · rw [if_neg hr] at hk
      exact hHH hs hH k x hk
end Go.Proofs.Ytjjebokgckmnjaa

