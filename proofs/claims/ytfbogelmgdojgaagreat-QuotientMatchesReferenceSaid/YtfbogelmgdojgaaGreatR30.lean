/- Texts DT1 DT2 DT3 in one. -/
import Derived.Test.YtfbogelmgdojgaaGreatR22
import Derived.Test.YtfbogelmgdojgaaGreatR27
/- Determinants of matrices of rational numbers. No program in sight. -/
namespace Go.Proofs.YtfbogelmgdojgaaGreat
set_option linter.unusedSimpArgs false
set_option linter.unusedVariables false

abbrev Mat := Nat → Nat → Rat
def sm : Nat → (Nat → Rat) → Rat
 | 0, _ => 0
 | n + 1, f => sm n f + f n
theorem sm_congr {f g : Nat → Rat} : ∀ {n}, (∀ i, i < n → f i = g i) → sm n f = sm n g
 | 0, _ => rfl
 | n + 1, h => by rw [sm, sm, sm_congr fun i hi => h i (by omega), h n (by omega)]
theorem sm_add (f g : Nat → Rat) : ∀ n, sm n (fun i => f i + g i) = sm n f + sm n g
 | 0 => by simp only [sm]; grind
 | n + 1 => by simp only [sm, sm_add f g n]; grind
theorem sm_mul (c : Rat) (f : Nat → Rat) : ∀ n, sm n (fun i => c * f i) = c * sm n f
 | 0 => by simp [sm]
 | n + 1 => by simp only [sm, sm_mul c f n]; grind
theorem sm_zero {f : Nat → Rat} : ∀ {n}, (∀ i, i < n → f i = 0) → sm n f = 0
 | 0, _ => rfl
 | n + 1, h => by rw [sm, sm_zero fun i hi => h i (by omega), h n (by omega)]; grind
theorem sm_one {f : Nat → Rat} : ∀ {n} (p : Nat), p < n → (∀ i, i < n → i ≠ p → f i = 0) → sm n f = f p
 | 0, _, h, _ => by omega
 | n + 1, p, h, h0 => by
   rw [sm]
   by_cases e : p = n
   ·subst e
    rw [sm_zero fun i hi => h0 i (by omega) (by omega)]
    grind
   ·rw [sm_one p (by omega) fun i hi hp => h0 i (by omega) hp, h0 n (by omega) (by omega)]
    grind
theorem sm_two {f : Nat → Rat} {n p q : Nat} (h : p < q) (hq : q < n) (h0 : ∀ i, i < n → i ≠ p → i ≠ q → f i = 0) : sm n f = f p + f q := by
 have e1 : sm n f = sm n (fun i => (if i = p then f p else 0) + (if i = q then f q else 0)) := sm_congr fun i hi => by
  by_cases e : i = p
  ·subst e; rw [if_pos rfl, if_neg (by omega)]; grind
  ·by_cases e' : i = q
   ·subst e'; rw [if_neg e, if_pos rfl]; grind
   ·rw [if_neg e, if_neg e', h0 i hi e e']; grind
 rw [e1, sm_add, sm_one p (by omega) (fun i _ hi => if_neg hi), sm_one q hq (fun i _ hi => if_neg hi), if_pos rfl, if_pos rfl]
theorem sm_swap (f : Nat → Nat → Rat) (m : Nat) : ∀ n, sm n (fun i => sm m (f i)) = sm m (fun j => sm n (fun i => f i j))
 | 0 => by rw [sm]; exact (sm_zero fun i _ => rfl).symm
 | n + 1 => by simp only [sm, sm_swap f m n, sm_add]
theorem sm_first (f : Nat → Rat) : ∀ n, sm (n + 1) f = f 0 + sm n (fun i => f (i + 1))
 | 0 => by simp only [sm]; grind
 | n + 1 => by rw [sm, sm_first f n, sm]; grind
def sg : Nat → Rat
 | 0 => 1
 | n + 1 => - sg n
theorem sg_add (m : Nat) : ∀ n, sg (m + n) = sg m * sg n
 | 0 => by simp [sg]
 | n + 1 => by rw [← Nat.add_assoc, sg, sg, sg_add m n]; grind
def upd (M : Mat) (p : Nat) (u : Nat → Rat) : Mat := fun i => if i = p then u else M i
theorem upd_same (M : Mat) (p : Nat) (u : Nat → Rat) : upd M p u p = u := if_pos rfl
theorem upd_ne (M : Mat) {p i : Nat} (h : i ≠ p) (u : Nat → Rat) : upd M p u i = M i := if_neg h
theorem upd_self (M : Mat) (p : Nat) : upd M p (M p) = M := by
 funext i; unfold upd; split
 ·rename_i h; rw [h]
 ·rfl
theorem upd_comm (M : Mat) {p q : Nat} (h : p ≠ q) (u v : Nat → Rat) : upd (upd M p u) q v = upd (upd M q v) p u := by
 funext i; unfold upd; split
 ·rename_i e; subst e; rw [if_neg (fun e => h e.symm)]
 ·rfl
structure ML (n : Nat) (F : Mat → Rat) : Prop where
 congr : ∀ {M M' : Mat}, (∀ i, i < n → ∀ j, j < n → M i j = M' i j) → F M = F M'
 lin : ∀ (M : Mat) (p : Nat) (u v : Nat → Rat) (a b : Rat), p < n → F (upd M p fun j => a * u j + b * v j) = a * F (upd M p u) + b * F (upd M p v)
 alt : ∀ (M : Mat) (p q : Nat), p < q → q < n → M p = M q → F M = 0
theorem ML.zero {n F} (h : ML n F) (M : Mat) {p : Nat} (hp : p < n) (h0 : ∀ j, j < n → M p j = 0) : F M = 0 := by
 have := h.lin M p (M p) (M p) 0 0 hp
 rw [h.congr (M := M) (M' := upd M p fun j => 0 * M p j + 0 * M p j) fun i hi j hj => ?_, this]
 ·grind
 ·by_cases e : i = p
  ·subst e; rw [upd_same, h0 j hj]; grind
  ·rw [upd_ne _ e]
theorem ML.alt' {n F} (h : ML n F) (M : Mat) {p q : Nat} (hp : p < n) (hq : q < n) (hpq : p ≠ q) (e : M p = M q) : F M = 0 := by
 by_cases hlt : p < q
 ·exact h.alt M p q hlt hq e
 ·exact h.alt M q p (by omega) hp e.symm
theorem ML.addrow {n F} (h : ML n F) (M : Mat) {p q : Nat} (hp : p < n) (hq : q < n) (hpq : p ≠ q) (c : Rat) : F (upd M p fun j => M p j + c * M q j) = F M := by
 have e := h.lin M p (M p) (M q) 1 c hp
 rw [upd_self] at e
 rw [h.alt' (upd M p (M q)) hp hq hpq (by rw [upd_same, upd_ne _ (fun e => hpq e.symm)])] at e
 rw [show (fun j => M p j + c * M q j) = fun j => 1 * M p j + c * M q j from funext fun j => by grind, e]
 grind
def swp (M : Mat) (p q : Nat) : Mat := upd (upd M p (M q)) q (M p)
theorem ML.swap {n F} (h : ML n F) (M : Mat) {p q : Nat} (hp : p < n) (hq : q < n) (hpq : p ≠ q) : F (swp M p q) = - F M := by
 have hqp : q ≠ p := fun e => hpq e.symm
 -- rows u + v at both places
 have z : ∀ u : Nat → Rat, F (upd (upd M p u) q u) = 0 := fun u => h.alt' _ hp hq hpq (by rw [upd_same, upd_ne _ hpq, upd_same])
 have e0 := z (fun j => 1 * M p j + 1 * M q j)
 rw [h.lin _ q _ _ _ _ hq] at e0
 rw [upd_comm M hpq, upd_comm M hpq, h.lin _ p _ _ _ _ hp, h.lin _ p _ _ _ _ hp] at e0
 rw [← upd_comm M hpq, ← upd_comm M hpq, ← upd_comm M hpq, ← upd_comm M hpq, z, z] at e0
 have e1 : upd (upd M p (M p)) q (M q) = M := by rw [upd_self, upd_self]
 rw [e1] at e0
 unfold swp
 grind
theorem ML.sum {n F} (h : ML n F) (M : Mat) {p : Nat} (hp : p < n) (u : Nat → Nat → Rat) (a : Nat → Rat) : ∀ k, F (upd M p fun j => sm k fun i => a i * u i j) = sm k fun i => a i * F (upd M p (u i))
 | 0 => h.zero _ hp fun j _ => by rw [upd_same]; rfl
 | k + 1 => by
   have e := h.lin M p (fun j => sm k fun i => a i * u i j) (u k) 1 (a k) hp
   rw [h.sum M hp u a k] at e
   rw [show (fun j => sm (k + 1) fun i => a i * u i j) = fun j => 1 * (sm k fun i => a i * u i j) + a k * u k j from funext fun j => by rw [sm]; grind, e, sm]
   grind
def one : Mat := fun i j => if i = j then 1 else 0
theorem sm_one_r (a : Nat → Rat) {n j : Nat} (hj : j < n) : sm n (fun i => a i * one i j) = a j := by
 rw [sm_one j hj fun i _ hi => by unfold one; rw [if_neg hi]; grind]
 unfold one; rw [if_pos rfl]; grind
theorem ML.clear {n F} (h : ML n F) (M : Mat) (c : Nat → Rat) : ∀ k, k < n → F (fun i j => if i = 0 then M 0 j else if i ≤ k then M i j + c i * M 0 j else M i j) = F M
 | 0, hk => h.congr fun i _ j _ => by
   by_cases e : i = 0
   ·subst e; rw [if_pos rfl]
   ·rw [if_neg e, if_neg (by omega)]
 | k + 1, hk => by
   rw [← h.clear M c k (by omega)]
   rw [← h.addrow (fun i j => if i = 0 then M 0 j else if i ≤ k then M i j + c i * M 0 j else M i j) (p := k + 1) (q := 0) hk (by omega) (by omega) (c (k + 1))]
   refine h.congr fun i _ j _ => ?_
   by_cases e : i = k + 1
   ·subst e
    rw [upd_same, if_neg (by omega), if_pos (Nat.le_refl _), if_neg (by omega), if_neg (by omega), if_pos rfl]
   ·rw [upd_ne _ e]
    by_cases e0 : i = 0
    ·rw [if_pos e0, if_pos e0]
    ·rw [if_neg e0, if_neg e0]
     by_cases hle : i ≤ k
     ·rw [if_pos hle, if_pos (by omega)]
     ·rw [if_neg hle, if_neg (by omega)]
def minor (M : Mat) (k : Nat) : Mat := fun i j => M (i + 1) (if j < k then j else j + 1)
def det : Nat → Mat → Rat
 | 0, _ => 1
 | n + 1, M => sm (n + 1) fun k => sg k * M 0 k * det n (minor M k)
def embR (k : Nat) (N : Mat) : Mat
 | 0 => one k
 | i + 1 => fun c => if c < k then N i c else if c = k then 0 else N i (c - 1)
theorem embR_upd (k : Nat) (N : Mat) (p : Nat) (u : Nat → Rat) : embR k (upd N p u) = upd (embR k N) (p + 1) (fun c => if c < k then u c else if c = k then 0 else u (c - 1)) := by
 funext i
 cases i with
 | zero => rw [upd_ne _ (by omega)]; rfl
 | succ i =>
   by_cases e : i = p
   ·subst e
    rw [upd_same]
    funext c
    show (if c < k then upd N i u i c else if c = k then 0 else upd N i u i (c - 1)) = _
    rw [upd_same]
   ·rw [upd_ne _ (by omega)]
    funext c
    show (if c < k then upd N p u i c else if c = k then 0 else upd N p u i (c - 1)) = (if c < k then N i c else if c = k then 0 else N i (c - 1))
    rw [upd_ne N e]
theorem ML.embM {n F} (h : ML (n + 1) F) {k : Nat} (hk : k ≤ n) : ML n (fun N => F (embR k N)) where
 congr := fun {N N'} hN => h.congr fun i hi j hj => by
  cases i with
  | zero => rfl
  | succ i =>
    show (if j < k then N i j else if j = k then 0 else N i (j - 1)) = (if j < k then N' i j else if j = k then 0 else N' i (j - 1))
    by_cases h1 : j < k
    ·rw [if_pos h1, if_pos h1, hN i (by omega) j (by omega)]
    ·rw [if_neg h1, if_neg h1]
     by_cases h2 : j = k
     ·rw [if_pos h2, if_pos h2]
     ·rw [if_neg h2, if_neg h2, hN i (by omega) (j - 1) (by omega)]
 lin := fun N p u v a b hp => by
  rw [embR_upd, embR_upd, embR_upd, ← h.lin _ (p + 1) _ _ a b (by omega)]
  congr 2
  funext c
  by_cases h1 : c < k
  ·rw [if_pos h1, if_pos h1, if_pos h1]
  ·rw [if_neg h1, if_neg h1, if_neg h1]
   by_cases h2 : c = k
   ·rw [if_pos h2, if_pos h2, if_pos h2]; grind
   ·rw [if_neg h2, if_neg h2, if_neg h2]
 alt := fun N p q hpq hq e => h.alt _ (p + 1) (q + 1) (by omega) (by omega) (by
  show (fun c => if c < k then N p c else if c = k then 0 else N p (c - 1)) = (fun c => if c < k then N q c else if c = k then 0 else N q (c - 1))
  rw [e])
theorem emb_one {n F} (h : ML (n + 1) F) : ∀ k, k ≤ n → F (embR k one) = sg k * F one
 | 0, _ => by
   rw [sg, h.congr (M := embR 0 one) (M' := one) fun i _ j _ => ?_]
   ·grind
   ·cases i with
    | zero => rfl
    | succ i =>
      show (if j < 0 then one i j else if j = 0 then 0 else one i (j - 1)) = one (i + 1) j
      unfold one
      by_cases e : j = 0
      ·subst e; rw [if_neg (by omega), if_pos rfl, if_neg (by omega)]
      ·rw [if_neg (by omega), if_neg e]
       by_cases e' : i = j - 1
       ·rw [if_pos e', if_pos (by omega)]
       ·rw [if_neg e', if_neg (by omega)]
 | k + 1, hk => by
   have e1 := emb_one h k (by omega)
   have e2 := h.swap (embR k one) (p := 0) (q := k + 1) (by omega) (by omega) (by omega)
   rw [h.congr (M := embR (k + 1) one) (M' := swp (embR k one) 0 (k + 1)) fun i _ j _ => ?_, e2, e1, sg]
   ·grind
   ·unfold swp
    by_cases i1 : i = k + 1
    ·subst i1
     rw [upd_same]
     show (if j < k + 1 then one k j else if j = k + 1 then 0 else one k (j - 1)) = one k j
     unfold one
     by_cases h1 : j < k + 1
     ·rw [if_pos h1]
     ·rw [if_neg h1, if_neg (show ¬ k = j by omega)]
      by_cases h2 : j = k + 1
      ·rw [if_pos h2]
      ·rw [if_neg h2, if_neg (by omega)]
    ·rw [upd_ne _ i1]
     cases i with
     | zero =>
       rw [upd_same]
       show one (k + 1) j = (if j < k then one k j else if j = k then 0 else one k (j - 1))
       unfold one
       by_cases h1 : j < k
       ·rw [if_pos h1, if_neg (by omega), if_neg (by omega)]
       ·rw [if_neg h1]
        by_cases h2 : j = k
        ·rw [if_pos h2, if_neg (by omega)]
        ·rw [if_neg h2]
         by_cases h3 : j = k + 1
         ·rw [if_pos h3.symm, if_pos (by omega)]
         ·rw [if_neg (by omega), if_neg (by omega)]
     | succ i =>
       rw [upd_ne _ (by omega)]
       show (if j < k + 1 then one i j else if j = k + 1 then 0 else one i (j - 1)) = (if j < k then one i j else if j = k then 0 else one i (j - 1))
       unfold one
       by_cases h1 : j < k
       ·rw [if_pos (show j < k + 1 by omega), if_pos h1]
       ·rw [if_neg h1]
        by_cases h2 : j = k
        ·rw [if_pos (show j < k + 1 by omega), if_pos h2, if_neg (by omega)]
        ·rw [if_neg (show ¬ j < k + 1 by omega), if_neg h2]
         by_cases h3 : j = k + 1
         ·rw [if_pos h3, if_neg (by omega)]
         ·rw [if_neg h3]
theorem ML.eq : ∀ {n : Nat} {F : Mat → Rat}, ML n F → ∀ M, F M = det n M * F one
 | 0, F, h, M => by rw [det, h.congr (M := M) (M' := one) fun i hi => by omega]; grind
 | n + 1, F, h, M => by
   have e1 : F M = sm (n + 1) fun k => M 0 k * F (upd M 0 (one k)) := by
    rw [← h.sum M (by omega) one (M 0) (n + 1)]
    refine h.congr fun i _ j hj => ?_
    by_cases e : i = 0
    ·subst e; rw [upd_same, sm_one_r _ hj]
    ·rw [upd_ne _ e]
   have e2 : ∀ k, k < n + 1 → M 0 k * F (upd M 0 (one k)) = F one * (sg k * M 0 k * det n (minor M k)) := fun k hk => by
    have e3 := (h.embM (k := k) (by omega)).eq (minor M k)
    rw [emb_one h k (by omega)] at e3
    have e4 := h.clear (upd M 0 (one k)) (fun i => - M i k) n (by omega)
    rw [h.congr (M' := embR k (minor M k)) fun i hi j hj => ?_] at e4
    ·rw [← e4, e3]; grind
    ·cases i with
     | zero => rw [if_pos rfl, upd_same]; rfl
     | succ i =>
       rw [if_neg (by omega), if_pos (by omega), upd_ne _ (by omega), upd_same]
       show _ = (if j < k then minor M k i j else if j = k then 0 else minor M k i (j - 1))
       unfold minor one
       by_cases h1 : j < k
       ·rw [if_pos h1, if_neg (by omega), if_pos h1]; grind
       ·rw [if_neg h1]
        by_cases h2 : j = k
        ·subst h2; rw [if_pos rfl, if_pos rfl]; grind
        ·rw [if_neg h2, if_neg (by omega), if_neg (by omega), show j - 1 + 1 = j from by omega]; grind
   rw [e1, det, sm_congr e2, sm_mul]
   grind
def mino (M : Mat) (k : Nat) : Mat := fun i j => M (if i < k then i else i + 1) (j + 1)
def dtc : Nat → Mat → Rat
 | 0, _ => 1
 | n + 1, M => sm (n + 1) fun k => sg k * M k 0 * dtc n (mino M k)
theorem dtc_ML : ∀ n, ML n (dtc n)
 | 0 => ⟨fun _ => rfl, fun _ _ _ _ _ _ h => by omega, fun _ _ _ h1 h2 => by omega⟩
 | n + 1 => by
   have ih := dtc_ML n
   have mu : ∀ (M : Mat) (p k : Nat) (u : Nat → Rat), p ≠ k → mino (upd M p u) k = upd (mino M k) (if p < k then p else p - 1) (fun j => u (j + 1)) := fun M p k u hp => by
    funext i j
    unfold mino upd
    by_cases h1 : i < k
    ·rw [if_pos h1]
     by_cases h2 : i = p
     ·subst h2; rw [if_pos rfl, if_pos h1, if_pos rfl]
     ·rw [if_neg h2, if_neg (by split <;> omega)]
      show _ = M (if i < k then i else i + 1) (j + 1)
      rw [if_pos h1]
    ·rw [if_neg h1]
     by_cases h2 : i + 1 = p
     ·rw [if_pos h2, if_pos (by split <;> omega)]
     ·rw [if_neg h2, if_neg (by split <;> omega)]
      show _ = M (if i < k then i else i + 1) (j + 1)
      rw [if_neg h1]
   have ms : ∀ (M : Mat) (k : Nat) (u : Nat → Rat), mino (upd M k u) k = mino M k := fun M k u => by
    funext i j
    unfold mino upd
    by_cases h1 : i < k
    ·rw [if_pos h1, if_neg (by omega)]
    ·rw [if_neg h1, if_neg (by omega)]
   have adj : ∀ (M : Mat) (p : Nat), p + 1 < n + 1 → M p = M (p + 1) → dtc (n + 1) M = 0 := fun M p hp e => by
    rw [dtc, sm_two (p := p) (q := p + 1) (by omega) hp fun i hi h1 h2 => ?_]
    ·have : mino M p = mino M (p + 1) := by
      funext i j
      unfold mino
      by_cases h1 : i < p
      ·rw [if_pos h1, if_pos (by omega)]
      ·rw [if_neg h1]
       by_cases h2 : i = p
       ·subst h2; rw [if_pos (by omega), e]
       ·rw [if_neg (by omega)]
     rw [this, e, sg]
     grind
    ·rw [ih.alt (mino M i) (if p < i then p else p - 1) ((if p < i then p else p - 1) + 1) (by omega) (by split <;> omega) (by
      funext j
      unfold mino
      by_cases h3 : p < i
      ·rw [if_pos h3, if_pos h3, if_pos (by omega), e]
      ·rw [if_neg h3, if_neg (by omega), if_neg (by omega), show p - 1 + 1 = p from by omega, e])]
     grind
   have lin : ∀ (M : Mat) (p : Nat) (u v : Nat → Rat) (a b : Rat), p < n + 1 → dtc (n + 1) (upd M p fun j => a * u j + b * v j) = a * dtc (n + 1) (upd M p u) + b * dtc (n + 1) (upd M p v) := fun M p u v a b hp => by
    simp only [dtc]
    rw [← sm_mul, ← sm_mul, ← sm_add]
    refine sm_congr fun k hk => ?_
    by_cases e : k = p
    ·subst e
     simp only [upd_same, ms]
     grind
    ·rw [upd_ne _ e, upd_ne _ e, upd_ne _ e, mu _ _ _ _ (fun x => e x.symm), mu _ _ _ _ (fun x => e x.symm), mu _ _ _ _ (fun x => e x.symm)]
     rw [ih.lin (mino M k) (if p < k then p else p - 1) (fun j => u (j + 1)) (fun j => v (j + 1)) a b (by split <;> omega)]
     grind
   refine ⟨fun {M M'} h => ?_, lin, ?_⟩
   ·rw [dtc, dtc]
    refine sm_congr fun k hk => ?_
    rw [h k hk 0 (by omega), ih.congr fun i hi j hj => ?_]
    unfold mino
    split
    ·exact h _ (by omega) _ (by omega)
    ·exact h _ (by omega) _ (by omega)
   ·-- adjacent rows change the sign
    have z : ∀ (M : Mat) (p : Nat) (u : Nat → Rat), p + 1 < n + 1 → dtc (n + 1) (upd (upd M p u) (p + 1) u) = 0 := fun M p u hp => adj _ p hp (by rw [upd_ne _ (by omega), upd_same, upd_same])
    have sw : ∀ (M : Mat) (p : Nat), p + 1 < n + 1 → dtc (n + 1) (swp M p (p + 1)) = - dtc (n + 1) M := fun M p hp => by
     have e0 := z M p (fun j => 1 * M p j + 1 * M (p + 1) j) hp
     have hpq : p ≠ p + 1 := by omega
     rw [lin _ (p + 1) _ _ _ _ hp] at e0
     rw [upd_comm M hpq, upd_comm M hpq, lin _ p _ _ _ _ (by omega), lin _ p _ _ _ _ (by omega)] at e0
     rw [← upd_comm M hpq, ← upd_comm M hpq, ← upd_comm M hpq, ← upd_comm M hpq, z _ _ _ hp, z _ _ _ hp] at e0
     have e1 : upd (upd M p (M p)) (p + 1) (M (p + 1)) = M := by rw [upd_self, upd_self]
     rw [e1] at e0
     unfold swp
     grind
    have far : ∀ (d : Nat) (M : Mat) (p : Nat), p + d + 1 < n + 1 → M p = M (p + d + 1) → dtc (n + 1) M = 0 := fun d => by
     induction d with
     | zero => exact fun M p hp e => adj M p hp e
     | succ d ih2 =>
      intro M p hp e
      have e1 := sw M (p + d + 1) (by omega)
      rw [ih2 (swp M (p + d + 1) (p + d + 1 + 1)) p (by omega) ?_] at e1
      ·grind
      ·unfold swp
       rw [upd_ne _ (by omega), upd_ne _ (by omega), upd_ne _ (by omega), upd_same, e]
       rfl
    intro M p q hpq hq e
    exact far (q - p - 1) M p (by omega) (by rw [show p + (q - p - 1) + 1 = q from by omega]; exact e)
theorem dtc_one : ∀ n, dtc n one = 1
 | 0 => rfl
 | n + 1 => by
   rw [dtc, sm_one 0 (by omega) fun i _ hi => by unfold one; rw [if_neg hi]; grind]
   rw [(dtc_ML n).congr (M' := one) fun i hi j hj => ?_, dtc_one n]
   ·unfold one; rw [if_pos rfl, sg]; grind
   ·show one (if i < 0 then i else i + 1) (j + 1) = one i j
    rw [if_neg (by omega)]
    unfold one
    by_cases e : i = j
    ·rw [if_pos e, if_pos (by omega)]
    ·rw [if_neg e, if_neg (by omega)]
theorem dtc_eq (n : Nat) (M : Mat) : dtc n M = det n M := by
 rw [(dtc_ML n).eq M, dtc_one]; grind
theorem det_ML (n : Nat) : ML n (det n) := by
 have : dtc n = det n := funext fun M => dtc_eq n M
 rw [← this]
 exact dtc_ML n
theorem det_one (n : Nat) : det n one = 1 := by rw [← dtc_eq, dtc_one]
def tp (M : Mat) : Mat := fun i j => M j i
theorem det_tp : ∀ (n : Nat) (M : Mat), det n (tp M) = det n M := fun n M => by
 rw [← dtc_eq n M]
 induction n generalizing M with
 | zero => rfl
 | succ n ih =>
   rw [det, dtc]
   refine sm_congr fun k _ => ?_
   rw [show minor (tp M) k = tp (mino M k) from rfl, ih]
   rfl
def mul (n : Nat) (A B : Mat) : Mat := fun i j => sm n fun k => A i k * B k j
theorem mul_ML (n : Nat) (B : Mat) : ML n (fun A => det n (mul n A B)) where
 congr := fun {M M'} h => (det_ML n).congr fun i hi j hj => sm_congr fun k hk => by rw [h i hi k hk]
 lin := fun M p u v a b hp => by
  have mu : ∀ u, mul n (upd M p u) B = upd (mul n M B) p (fun j => sm n fun k => u k * B k j) := fun u => by
   funext i j
   unfold mul upd
   split <;> rfl
  rw [mu, mu, mu, ← (det_ML n).lin _ p _ _ a b hp]
  congr 2
  funext j
  rw [← sm_mul, ← sm_mul, ← sm_add]
  exact sm_congr fun k _ => by grind
 alt := fun M p q hpq hq e => (det_ML n).alt _ p q hpq hq (by
  show (fun j => sm n fun k => M p k * B k j) = (fun j => sm n fun k => M q k * B k j)
  rw [e])
theorem det_mul (n : Nat) (A B : Mat) : det n (mul n A B) = det n A * det n B := by
 rw [(mul_ML n B).eq A]
 congr 1
 refine (det_ML n).congr fun i hi j hj => ?_
 unfold mul
 rw [sm_one i hi fun k _ hk => by unfold one; rw [if_neg (fun e => hk e.symm)]; grind]
 unfold one
 rw [if_pos rfl]; grind
end Go.Proofs.YtfbogelmgdojgaaGreat


/- Resultants and determinants. No program in sight. -/
namespace Go.Proofs.YtfbogelmgdojgaaGreat
set_option linter.unusedSimpArgs false
set_option linter.unusedVariables false

def mvf (k : Nat) (M : Mat) : Mat := fun i => if i = 0 then M k else if i ≤ k then M (i - 1) else M i
theorem ML.front {n F} (h : ML n F) (M : Mat) : ∀ k, k < n → F (mvf k M) = sg k * F M
 | 0, _ => by
   rw [sg, h.congr (M := mvf 0 M) (M' := M) fun i _ j _ => ?_]
   ·grind
   ·unfold mvf
    by_cases e : i = 0
    ·subst e; rw [if_pos rfl]
    ·rw [if_neg e, if_neg (by omega)]
 | k + 1, hk => by
   have e1 := h.front M k (by omega)
   have e2 := h.swap (mvf k M) (p := 0) (q := k + 1) (by omega) hk (by omega)
   rw [h.congr (M := mvf (k + 1) M) (M' := swp (mvf k M) 0 (k + 1)) fun i _ j _ => ?_, e2, e1, sg]
   ·grind
   ·unfold swp
    by_cases i1 : i = k + 1
    ·subst i1
     rw [upd_same]
     unfold mvf
     rw [if_neg (by omega), if_pos (Nat.le_refl _), if_pos rfl]; rfl
    ·rw [upd_ne _ i1]
     by_cases e : i = 0
     ·subst e
      rw [upd_same]
      unfold mvf
      rw [if_pos rfl, if_neg (by omega), if_neg (by omega)]
     ·rw [upd_ne _ e]
      unfold mvf
      rw [if_neg e, if_neg e]
      by_cases hle : i ≤ k
      ·rw [if_pos hle, if_pos (by omega)]
      ·rw [if_neg hle, if_neg (by omega)]
def rotR (n s : Nat) (M : Mat) : Mat := fun i => if i < s then M (n - s + i) else M (i - s)
theorem ML.rot {n F} (h : ML n F) (M : Mat) : ∀ s, s ≤ n → F (rotR n s M) = sg ((n - 1) * s) * F M
 | 0, _ => by
   rw [Nat.mul_zero, sg, h.congr (M := rotR n 0 M) (M' := M) fun i _ j _ => rfl]
   grind
 | s + 1, hs => by
   have e1 := h.rot M s (by omega)
   have e2 := h.front (rotR n s M) (n - 1) (by omega)
   rw [h.congr (M := rotR n (s + 1) M) (M' := mvf (n - 1) (rotR n s M)) fun i hi j _ => ?_, e2, e1, Nat.mul_succ, sg_add]
   ·grind
   ·unfold mvf
    by_cases e : i = 0
    ·subst e
     rw [if_pos rfl]
     unfold rotR
     rw [if_pos (by omega), if_neg (by omega), show n - (s + 1) + 0 = n - 1 - s from by omega]
    ·rw [if_neg e, if_pos (by omega)]
     unfold rotR
     by_cases hlt : i < s + 1
     ·rw [if_pos hlt, if_pos (by omega), show n - (s + 1) + i = n - s + (i - 1) from by omega]
     ·rw [if_neg hlt, if_neg (by omega), show i - 1 - s = i - (s + 1) from by omega]
theorem sg_even : ∀ k, sg (2 * k) = 1
 | 0 => rfl
 | k + 1 => by rw [show 2 * (k + 1) = 2 * k + 1 + 1 from by omega, sg, sg, sg_even k]; grind
theorem sg_mod (a : Nat) : sg a = if a % 2 = 1 then -1 else 1 := by
 have h1 := sg_add (2 * (a / 2)) (a % 2)
 rw [show 2 * (a / 2) + a % 2 = a from by omega, sg_even] at h1
 rw [h1]
 by_cases e : a % 2 = 1
 ·rw [if_pos e, e, sg, sg]; grind
 ·rw [if_neg e, show a % 2 = 0 from by omega, sg]; grind
theorem even_mul_pred : ∀ s : Nat, (s * (s - 1)) % 2 = 0
 | 0 => rfl
 | s + 1 => by
   rw [Nat.add_sub_cancel]
   rcases Nat.mod_two_eq_zero_or_one s with e | e
   ·rw [Nat.mul_mod, e, Nat.mul_zero]
   ·rw [Nat.mul_mod, show (s + 1) % 2 = 0 from by omega, Nat.zero_mul]
theorem sg_block (p s : Nat) : sg ((p + s - 1) * s) = sg (p * s) := by
 by_cases h : s = 0
 ·subst h; rfl
 ·rw [show p + s - 1 = p + (s - 1) from by omega, Nat.add_mul, sg_add, sg_mod ((s - 1) * s), Nat.mul_comm (s - 1) s, even_mul_pred, if_neg (by omega)]
  grind
theorem ML.comb {n F} (h : ML n F) (M : Mat) {p s : Nat} (hp : p < n) (c : Nat → Rat) : ∀ q, s + q ≤ n → (p < s ∨ s + q ≤ p) → F (upd M p fun j => M p j + sm q fun k => c k * M (s + k) j) = F M
 | 0, _, _ => h.congr fun i _ j _ => by
   by_cases e : i = p
   ·subst e; rw [upd_same, sm]; grind
   ·rw [upd_ne _ e]
 | q + 1, hq, hd => by
   have e1 := h.comb M (s := s) hp c q (by omega) (by omega)
   have e2 := h.addrow (upd M p fun j => M p j + sm q fun k => c k * M (s + k) j) (p := p) (q := s + q) hp (by omega) (by omega) (c q)
   rw [e1] at e2
   rw [← e2]
   refine h.congr fun i _ j _ => ?_
   by_cases e : i = p
   ·subst e
    rw [upd_same, upd_same, upd_same, upd_ne _ (show s + q ≠ i from by omega), sm]
    grind
   ·rw [upd_ne _ e, upd_ne _ e, upd_ne _ e]
theorem ML.combs {n F} (h : ML n F) (M : Mat) (c : Nat → Nat → Rat) {s q u : Nat} (hq : s + q ≤ n) : ∀ r, u + r ≤ n → (u + r ≤ s ∨ s + q ≤ u) →
 F (fun i => if u ≤ i ∧ i < u + r then (fun j => M i j + sm q fun k => c i k * M (s + k) j) else M i) = F M
 | 0, _, _ => h.congr fun i _ j _ => by rw [if_neg (by omega)]
 | r + 1, hr, hd => by
   rw [← h.combs M c hq (u := u) r (by omega) (by omega)]
   rw [← h.comb (fun i => if u ≤ i ∧ i < u + r then (fun j => M i j + sm q fun k => c i k * M (s + k) j) else M i) (p := u + r) (s := s) (by omega) (c (u + r)) q hq (by omega)]
   refine h.congr fun i _ j _ => ?_
   by_cases e : i = u + r
   ·subst e
    rw [upd_same, if_pos (by omega), if_neg (by omega)]
    congr 1
    refine sm_congr fun k hk => ?_
    rw [if_neg (by omega)]
   ·rw [upd_ne _ e]
    by_cases e' : u ≤ i ∧ i < u + r
    ·rw [if_pos e', if_pos (by omega)]
    ·rw [if_neg e', if_neg (by omega)]
theorem sm_rev (f : Nat → Rat) : ∀ n, sm n (fun i => f (n - 1 - i)) = sm n f
 | 0 => rfl
 | n + 1 => by
   rw [sm_first, sm, ← sm_rev f n]
   have : sm n (fun i => f (n + 1 - 1 - (i + 1))) = sm n (fun i => f (n - 1 - i)) := sm_congr fun i _ => by rw [show n + 1 - 1 - (i + 1) = n - 1 - i from by omega]
   rw [this, show n + 1 - 1 - 0 = n from by omega]
   grind
def sh (e : Nat) (a : List Rat) (d : Nat) : Rat := if d < e then 0 else cf a (d - e)
theorem sh_sm (b : List Rat) : ∀ (u : List Rat) (q d : Nat), u.length ≤ q → cf (mulL u b) d = sm q (fun s => cf u s * sh s b d)
 | [], q, d, _ => by
   rw [sm_zero fun s _ => by rw [cf_nil]; grind]
   rfl
 | c :: u, 0, d, h => by simp at h
 | c :: u, q + 1, d, h => by
   rw [sm_first, mulL, cf_addL, cf_scL]
   have e1 : sm q (fun i => cf (c :: u) (i + 1) * sh (i + 1) b d) = cf (0 :: mulL u b) d := by
    cases d with
    | zero =>
      rw [cf_zero]
      refine sm_zero fun i _ => ?_
      unfold sh
      rw [if_pos (by omega)]; grind
    | succ d =>
      rw [cf_succ, sh_sm b u q d (by simp at h; omega)]
      refine sm_congr fun i _ => ?_
      unfold sh
      rw [cf_succ]
      by_cases e : d < i
      ·rw [if_pos e, if_pos (by omega)]
      ·rw [if_neg e, if_neg (by omega), show d + 1 - (i + 1) = d - i from by omega]
   rw [e1, cf_zero]
   have e2 : sh 0 b d = cf b d := if_neg (by omega)
   rw [e2]
theorem cf_pMul (a b : List Rat) (d : Nat) : cf (pMul a b) d = cf (mulL a b) d := by unfold pMul; rw [cf_tr]
theorem sh_mul (e : Nat) (c b : List Rat) {q : Nat} (h : c.length + e ≤ q) (d : Nat) : sh e (pMul c b) d = sm q (fun s => sh e c s * sh s b d) := by
 induction e generalizing q d with
 | zero =>
   rw [show sh 0 (pMul c b) d = cf (pMul c b) d from if_neg (by omega), cf_pMul, sh_sm b c q d (by omega)]
   exact sm_congr fun s _ => by rw [show sh 0 c s = cf c s from if_neg (by omega)]
 | succ e ih =>
   obtain ⟨q, rfl⟩ : ∃ r, q = r + 1 := ⟨q - 1, by omega⟩
   rw [sm_first, show sh (e + 1) c 0 = 0 from if_pos (by omega)]
   cases d with
   | zero =>
     rw [show sh (e + 1) (pMul c b) 0 = 0 from if_pos (by omega), sm_zero fun i _ => ?_]
     ·grind
     ·rw [show sh (i + 1) b 0 = 0 from if_pos (by omega)]; grind
   | succ d =>
     have e1 : ∀ (k d : Nat) (l : List Rat), sh (k + 1) l (d + 1) = sh k l d := fun k d l => by
      unfold sh
      by_cases h : d < k
      ·rw [if_pos h, if_pos (by omega)]
      ·rw [if_neg h, if_neg (by omega), show d + 1 - (k + 1) = d - k from by omega]
     rw [e1, ih (q := q) (by omega)]
     rw [sm_congr (f := fun i => sh (e + 1) c (i + 1) * sh (i + 1) b (d + 1)) (g := fun s => sh e c s * sh s b d) fun i _ => by rw [e1, e1]]
     grind
def HM (p q : Nat) (a : List Rat) (B : Nat → Nat → Rat) : Mat := fun i j => if i < p then sh (p - 1 - i) a (p + q - 1 - j) else B (i - p) (p + q - 1 - j)
def GM (p q : Nat) (a b : List Rat) : Mat := HM p q a (fun i d => sh (q - 1 - i) b d)
theorem GM_swap (p q : Nat) (a b : List Rat) : det (p + q) (GM p q a b) = sg (p * q) * det (q + p) (GM q p b a) := by
 have h := (det_ML (q + p)).rot (GM q p b a) p (by omega)
 rw [sg_block, Nat.mul_comm q p] at h
 rw [← h, Nat.add_comm p q]
 refine (det_ML (q + p)).congr fun i hi j hj => ?_
 unfold rotR GM HM
 by_cases e : i < p
 ·rw [if_pos e, if_pos e, show q + p - p + i = q + i from by omega, if_neg (by omega), show q + i - q = i from by omega, Nat.add_comm p q]
 ·rw [if_neg e, if_neg e, if_pos (by omega), Nat.add_comm p q]
theorem HM_top {p q : Nat} {a : List Rat} {B : Nat → Nat → Rat} (ha : a.length ≤ q + 1) (hB : ∀ i, i < q → B i (p + q) = 0) : det (p + 1 + q) (HM (p + 1) q a B) = cf a q * det (p + q) (HM p q a B) := by
 rw [show p + 1 + q = p + q + 1 from by omega, ← dtc_eq, dtc, sm_one 0 (by omega) fun i hi h0 => ?_]
 ·have e1 : HM (p + 1) q a B 0 0 = cf a q := by
   unfold HM sh
   rw [if_pos (by omega), if_neg (by omega), show p + 1 + q - 1 - 0 - (p + 1 - 1 - 0) = q from by omega]
  rw [e1, sg, dtc_eq]
  rw [(det_ML (p + q)).congr (M := mino (HM (p + 1) q a B) 0) (M' := HM p q a B) fun i _ j _ => ?_]
  ·grind
  ·unfold mino HM
   rw [if_neg (show ¬ i < 0 by omega)]
   by_cases e : i < p
   ·rw [if_pos e, if_pos (by omega), show p + 1 - 1 - (i + 1) = p - 1 - i from by omega, show p + 1 + q - 1 - (j + 1) = p + q - 1 - j from by omega]
   ·rw [if_neg e, if_neg (by omega), show i + 1 - (p + 1) = i - p from by omega, show p + 1 + q - 1 - (j + 1) = p + q - 1 - j from by omega]
 ·have e1 : HM (p + 1) q a B i 0 = 0 := by
   unfold HM sh
   by_cases e : i < p + 1
   ·rw [if_pos e, if_neg (by omega), cf_ge (by omega)]
   ·rw [if_neg e, show p + 1 + q - 1 - 0 = p + q from by omega, hB _ (by omega)]
  rw [e1]; grind
theorem HM_tops {q : Nat} {a : List Rat} {B : Nat → Nat → Rat} (ha : a.length ≤ q + 1) {p : Nat} : ∀ s, (∀ i, i < q → ∀ d, p + q ≤ d → B i d = 0) → det (p + s + q) (HM (p + s) q a B) = cf a q ^ s * det (p + q) (HM p q a B)
 | 0, _ => by rw [Rat.pow_zero]; show det (p + q) (HM p q a B) = _; grind
 | s + 1, hB => by
   have := HM_top (p := p + s) ha (fun i hi => hB i hi _ (by omega))
   rw [← Nat.add_assoc, this, HM_tops ha s hB, Rat.pow_succ]
   grind
end Go.Proofs.YtfbogelmgdojgaaGreat


/- Resultants: the Sylvester matrix and the norm. No program in sight. -/
namespace Go.Proofs.YtfbogelmgdojgaaGreat
set_option linter.unusedSimpArgs false
set_option linter.unusedVariables false

theorem GM_red {p q : Nat} {a b r c : List Rat} (hc : c.length + p ≤ q + 1) (h : ∀ d, cf a d = cf (mulL c b) d + cf r d) : det (p + q) (GM p q a b) = det (p + q) (GM p q r b) := by
 rw [← (det_ML (p + q)).combs (GM p q r b) (fun i k => sh (p - 1 - i) c (q - 1 - k)) (s := p) (q := q) (u := 0) (Nat.le_refl _) p (by omega) (by omega)]
 refine (det_ML (p + q)).congr fun i hi j _ => ?_
 by_cases e : i < p
 ·rw [if_pos (by omega)]
  have e1 : sm q (fun k => sh (p - 1 - i) c (q - 1 - k) * GM p q r b (p + k) j) = sh (p - 1 - i) (pMul c b) (p + q - 1 - j) := by
   rw [sh_mul _ _ _ (q := q) (by omega), ← sm_rev]
   refine sm_congr fun k _ => ?_
   unfold GM HM
   rw [if_neg (by omega)]
   show sh (p - 1 - i) c (q - 1 - (q - 1 - k)) * sh (q - 1 - (p + (q - 1 - k) - p)) b _ = _
   rw [show q - 1 - (q - 1 - k) = k from by omega, show q - 1 - (p + (q - 1 - k) - p) = k from by omega]
  show GM p q a b i j = GM p q r b i j + _
  rw [e1]
  unfold GM HM
  rw [if_pos e, if_pos e]
  unfold sh
  by_cases e2 : p + q - 1 - j < p - 1 - i
  ·rw [if_pos e2, if_pos e2, if_pos e2]; grind
  ·rw [if_neg e2, if_neg e2, if_neg e2, h, cf_pMul]; grind
 ·rw [if_neg (by omega)]
  unfold GM HM
  rw [if_neg e, if_neg e]
theorem HM_red {p q : Nat} {a : List Rat} {B B' : Nat → Nat → Rat} (Q : Nat → List Rat) (hQ : ∀ i, i < q → (Q i).length ≤ p) (h : ∀ i, i < q → ∀ d, B i d = cf (mulL (Q i) a) d + B' i d) : det (p + q) (HM p q a B) = det (p + q) (HM p q a B') := by
 rw [← (det_ML (p + q)).combs (HM p q a B') (fun i k => cf (Q (i - p)) (p - 1 - k)) (s := 0) (q := p) (u := p) (by omega) q (Nat.le_refl _) (by omega)]
 refine (det_ML (p + q)).congr fun i hi j _ => ?_
 by_cases e : i < p
 ·rw [if_neg (by omega)]
  unfold HM
  rw [if_pos e, if_pos e]
 ·rw [if_pos (by omega)]
  have e1 : sm p (fun k => cf (Q (i - p)) (p - 1 - k) * HM p q a B' (0 + k) j) = cf (mulL (Q (i - p)) a) (p + q - 1 - j) := by
   rw [sh_sm a _ p _ (hQ _ (by omega)), ← sm_rev]
   refine sm_congr fun k hk => ?_
   unfold HM
   rw [if_pos (by omega), show p - 1 - (0 + (p - 1 - k)) = k from by omega, show p - 1 - (p - 1 - k) = k from by omega]
  show HM p q a B i j = HM p q a B' i j + _
  rw [e1]
  unfold HM
  rw [if_neg e, if_neg e, h _ (by omega)]
  grind
theorem sgm_sg (m n : Nat) (x : Rat) : sgm m n x = sg (m * n) * x := by
 unfold sgm
 rw [sg_mod]
 split <;> grind
theorem det_zero_row {n : Nat} (M : Mat) {p : Nat} (hp : p < n) (h : ∀ j, j < n → M p j = 0) : det n M = 0 := (det_ML n).zero M hp h
theorem syl_const {p : Nat} {a : List Rat} (ha : a.length = 1) (b : List Rat) : det (p + 0) (GM p 0 a b) = lead a ^ p := by
 have := HM_tops (q := 0) (a := a) (p := 0) (B := fun i d => sh (0 - 1 - i) b d) (by omega) p (fun i hi => by omega)
 rw [Nat.zero_add] at this
 show det (p + 0) (HM p 0 a _) = _
 rw [this, show det (0 + 0) (HM 0 0 a fun i d => sh (0 - 1 - i) b d) = 1 from rfl, lead, ha]
 grind
theorem pRes_syl : ∀ (N : Nat) (a b : List Rat), Can a → Can b → a.length + 2 * b.length < N → a ≠ [] → b ≠ [] → pRes a b = det (b.length - 1 + (a.length - 1)) (GM (b.length - 1) (a.length - 1) a b)
 | 0, a, b, _, _, h, _, _ => by omega
 | N + 1, a, b, ha, hb, h, a0, b0 => by
   have hal := List.length_pos_iff.2 a0
   have hbl := List.length_pos_iff.2 b0
   rw [pRes_step ha hb, if_neg (by rintro (e | e); exact a0 e; exact b0 e)]
   by_cases h1 : b.length = 1
   ·rw [if_pos h1, h1, GM_swap, show 1 - 1 = 0 from rfl, syl_const h1, Nat.zero_mul, sg]
    grind
   ·rw [if_neg h1]
    by_cases h2 : a.length = 1
    ·rw [if_pos h2, h2, show 1 - 1 = 0 from rfl, syl_const h2]
    ·rw [if_neg h2]
     by_cases h3 : a.length < b.length
     ·rw [if_pos h3, pRes_syl N b a hb ha (by omega) b0 a0, GM_swap (b.length - 1), sgm_sg, Nat.mul_comm]
     ·rw [if_neg h3]
      obtain ⟨⟨d1, d2⟩, d3, d4⟩ := dm_ok ha hb b0
      have lq : (pDiv a b).length + (b.length - 1) ≤ a.length - 1 + 1 := by
       by_cases q0 : pDiv a b = []
       ·rw [q0, List.length_nil]; omega
       ·have l1 := len_pMul d1 hb q0 b0
        have l2 : (pMul (pDiv a b) b) = pSub a (pMod a b) := ev_inj (can_pMul _ _) (can_pSub _ _) fun x => by rw [ev_pMul, ev_pSub]; have := d4 x; grind
        have l3 := len_pSub a (pMod a b)
        rw [← l2] at l3
        have := List.length_pos_iff.2 q0
        omega
      have e1 := GM_red (p := b.length - 1) (q := a.length - 1) (r := pMod a b) lq (fun d => by
       have := cf_of_ev (a := addL (mulL (pDiv a b) b) (pMod a b)) (b := a) (fun x => by rw [ev_addL, ev_mulL]; exact d4 x) d
       rw [← this, cf_addL])
      rw [e1]
      by_cases h4 : pMod a b = []
      ·rw [if_pos h4]
       refine (det_zero_row _ (p := 0) (by omega) fun j _ => ?_).symm
       unfold GM HM sh
       rw [if_pos (by omega), h4]
       split <;> rfl
      ·rw [if_neg h4, pRes_syl N b (pMod a b) hb d2 (by omega) b0 h4, GM_swap (b.length - 1) (a.length - 1), sgm_sg, Nat.mul_comm (a.length - 1)]
       have hrl := List.length_pos_iff.2 h4
       have e2 := HM_tops (q := b.length - 1) (a := b) (p := (pMod a b).length - 1) (B := fun i d => sh (b.length - 1 - 1 - i) (pMod a b) d) (by omega) (a.length - (pMod a b).length) (fun i hi d hd => by
        unfold sh
        rw [if_neg (by omega), cf_ge (by omega)])
       rw [show (pMod a b).length - 1 + (a.length - (pMod a b).length) = a.length - 1 from by omega] at e2
       show _ = sg ((b.length - 1) * (a.length - 1)) * det (a.length - 1 + (b.length - 1)) (HM _ _ b _)
       rw [e2]
       rfl
def xs (e : Nat) (b : List Rat) : List Rat := pMul (mon 1 e) b
theorem ev_mon : ∀ (e : Nat) (x : Rat), ev (mon 1 e) x = x ^ e
 | 0, x => by rw [Rat.pow_zero]; show 1 + x * 0 = 1; grind
 | e + 1, x => by
   rw [Rat.pow_succ]
   show 0 + x * ev (mon 1 e) x = _
   rw [ev_mon e x]; grind
theorem ev_xs (e : Nat) (b : List Rat) (x : Rat) : ev (xs e b) x = x ^ e * ev b x := by unfold xs; rw [ev_pMul, ev_mon]
theorem can_xs (e : Nat) (b : List Rat) : Can (xs e b) := can_pMul _ _
theorem cf_xs (e : Nat) (b : List Rat) (d : Nat) : cf (xs e b) d = sh e b d := by
 unfold xs
 rw [cf_pMul, sh_sm b (mon 1 e) (e + 1) d (by rw [mon_len]; exact Nat.le_refl _), sm_one e (by omega) fun i _ hi => by rw [mon_low _ _ _ hi]; grind]
 rw [mon_top]; grind
theorem len_xs {e : Nat} {b : List Rat} (hb : Can b) : (xs e b).length ≤ e + b.length := by
 by_cases b0 : b = []
 ·subst b0
  unfold xs
  rw [pMul_nil_r]; simp
 ·unfold xs
  rw [len_pMul (mon_can e (by decide)) hb (mon_ne _ _) b0, mon_len]; omega
def NM (m : Nat) (a b : List Rat) : Mat := fun i j => cf (pMod (xs (m - 1 - i) b) a) (m - 1 - j)
def Nm (a b : List Rat) : Rat := det (a.length - 1) (NM (a.length - 1) a b)
theorem Nm_det (a b : List Rat) : Nm a b = det (0 + (a.length - 1)) (HM 0 (a.length - 1) a (fun i d => cf (pMod (xs (a.length - 1 - 1 - i) b) a) d)) := by
 unfold Nm
 rw [Nat.zero_add]
 refine (det_ML _).congr fun i _ j _ => ?_
 unfold NM HM
 rw [if_neg (by omega), Nat.zero_add]
 rfl
theorem pRes_norm {a b : List Rat} (ha : Can a) (hb : Can b) (a0 : a ≠ []) (b0 : b ≠ []) : pRes a b = lead a ^ (b.length - 1) * Nm a b := by
 have hal := List.length_pos_iff.2 a0
 have hbl := List.length_pos_iff.2 b0
 rw [pRes_syl _ a b ha hb (Nat.lt_succ_self _) a0 b0]
 unfold GM
 rw [HM_red (B' := fun i d => cf (pMod (xs (a.length - 1 - 1 - i) b) a) d) (fun i => pDiv (xs (a.length - 1 - 1 - i) b) a) (fun i hi => ?_) (fun i hi d => ?_)]
 ·have e2 := HM_tops (q := a.length - 1) (a := a) (p := 0) (B := fun i d => cf (pMod (xs (a.length - 1 - 1 - i) b) a) d) (by omega) (b.length - 1) (fun i hi d hd => cf_ge (by
   have := (dm_ok (can_xs (a.length - 1 - 1 - i) b) ha a0).2.1
   omega))
  rw [Nat.zero_add] at e2
  rw [e2, Nm_det]
  rfl
 ·obtain ⟨⟨d1, d2⟩, d3, d4⟩ := dm_ok (can_xs (a.length - 1 - 1 - i) b) ha a0
  by_cases q0 : pDiv (xs (a.length - 1 - 1 - i) b) a = []
  ·rw [q0, List.length_nil]; omega
  ·have l1 := len_pMul d1 ha q0 a0
   have l2 : (pMul (pDiv (xs (a.length - 1 - 1 - i) b) a) a) = pSub (xs (a.length - 1 - 1 - i) b) (pMod (xs (a.length - 1 - 1 - i) b) a) := ev_inj (can_pMul _ _) (can_pSub _ _) fun x => by rw [ev_pMul, ev_pSub]; have := d4 x; grind
   have l3 := len_pSub (xs (a.length - 1 - 1 - i) b) (pMod (xs (a.length - 1 - 1 - i) b) a)
   rw [← l2] at l3
   have l4 := len_xs (e := a.length - 1 - 1 - i) hb
   have := List.length_pos_iff.2 q0
   omega
 ·obtain ⟨⟨d1, d2⟩, d3, d4⟩ := dm_ok (can_xs (a.length - 1 - 1 - i) b) ha a0
  have := cf_of_ev (a := addL (mulL (pDiv (xs (a.length - 1 - 1 - i) b) a) a) (pMod (xs (a.length - 1 - 1 - i) b) a)) (b := xs (a.length - 1 - 1 - i) b) (fun x => by rw [ev_addL, ev_mulL]; exact d4 x) d
  rw [← cf_addL, this, cf_xs]
theorem mod_sc {a q : List Rat} (c : Rat) (ha : Can a) (hq : Can q) (q0 : q ≠ []) : pMod (pSc c a) q = pSc c (pMod a q) := by
 obtain ⟨⟨c1, c2⟩, l1, e1⟩ := dm_ok ha hq q0
 refine (dm_eq (can_pSc c a) hq (can_pSc c (pDiv a q)) (can_pSc _ _) (by have := len_pSc c (pMod a q); omega) fun t => ?_).2
 simp only [ev_pSc]
 have h1 := e1 t
 grind
theorem mod_comb {c a : List Rat} (ha : Can a) (a0 : a ≠ []) (d : Nat) : ∀ (q : Nat) (u : List Rat), u.length ≤ q → cf (pMod (pMul u c) a) d = sm q (fun s => cf u s * cf (pMod (xs s c) a) d)
 | 0, u, h => by
   obtain rfl : u = [] := List.eq_nil_of_length_eq_zero (by omega)
   rw [pMul_nil_l, (dm_small Can_nil ha (List.length_pos_iff.2 a0)).2]
   rfl
 | q + 1, u, h => by
   have ih := mod_comb ha a0 (c := c) d q (u.take q) (by rw [List.length_take]; omega)
   have cu : ∀ s, cf (u.take q) s = if s < q then cf u s else 0 := fun s => by
    unfold cf
    rw [List.getD_eq_getElem?_getD, List.getElem?_take, List.getD_eq_getElem?_getD]
    split <;> rfl
   have e1 : pMul u c = pAdd (pMul (u.take q) c) (pSc (cf u q) (xs q c)) := can_ext (can_pMul _ _) (can_pAdd _ _) fun i => by
    rw [cf_pAdd, cf_pSc, cf_pMul, cf_pMul, cf_xs, sh_sm c u (q + 1) i h, sh_sm c (u.take q) q i (by rw [List.length_take]; omega), sm]
    congr 1
    exact sm_congr fun s hs => by rw [cu, if_pos hs]
   rw [e1, mod_add (can_pMul _ _) (can_pSc _ _) ha a0, cf_pAdd, mod_sc _ (can_xs _ _) ha a0, cf_pSc, ih, sm]
   congr 1
   exact sm_congr fun s hs => by rw [cu, if_pos hs]
theorem Nm_mul {a b c : List Rat} (ha : Can a) (hb : Can b) (hc : Can c) (a0 : a ≠ []) : Nm a (pMul b c) = Nm a b * Nm a c := by
 unfold Nm
 rw [← det_mul]
 refine (det_ML _).congr fun i hi j _ => ?_
 unfold mul NM
 have h1 := mod_comb (c := c) ha a0 (a.length - 1 - 1 - j) (a.length - 1) (pMod (xs (a.length - 1 - 1 - i) b) a) (by have := (dm_ok (can_xs (a.length - 1 - 1 - i) b) ha a0).2.1; omega)
 rw [mod_mul_l (can_xs _ _) ha a0, ← sm_rev] at h1
 rw [← h1]
 congr 2
 exact ev_inj (can_xs _ _) (can_pMul _ _) fun x => by rw [ev_xs, ev_pMul, ev_pMul, ev_xs]; grind
theorem powq_add (x : Rat) (m : Nat) : ∀ n, x ^ (m + n) = x ^ m * x ^ n
 | 0 => by rw [Nat.add_zero, Rat.pow_zero]; grind
 | n + 1 => by rw [← Nat.add_assoc, Rat.pow_succ, Rat.pow_succ, powq_add x m n]; grind
theorem pRes_mul {a b c : List Rat} (ha : Can a) (hb : Can b) (hc : Can c) (a0 : a ≠ []) (b0 : b ≠ []) (c0 : c ≠ []) : pRes a (pMul b c) = pRes a b * pRes a c := by
 have m0 : pMul b c ≠ [] := fun e => by rcases (pMul_eq_nil hb hc).1 e with e | e; exact b0 e; exact c0 e
 have hbl := List.length_pos_iff.2 b0
 have hcl := List.length_pos_iff.2 c0
 rw [pRes_norm ha (can_pMul _ _) a0 m0, pRes_norm ha hb a0 b0, pRes_norm ha hc a0 c0, Nm_mul ha hb hc a0, len_pMul hb hc b0 c0, show b.length + c.length - 1 - 1 = b.length - 1 + (c.length - 1) from by omega, powq_add]
 grind
theorem pRes_swap {a b : List Rat} (ha : Can a) (hb : Can b) (a0 : a ≠ []) (b0 : b ≠ []) : pRes b a = sgm (a.length - 1) (b.length - 1) (pRes a b) := by
 rw [pRes_syl _ a b ha hb (Nat.lt_succ_self _) a0 b0, pRes_syl _ b a hb ha (Nat.lt_succ_self _) b0 a0, GM_swap, sgm_sg]
theorem mod_monic {a q : List Rat} (ha : Can a) (hq : Can q) (q0 : q ≠ []) : pMod a (pMonic q) = pMod a q := by
 obtain ⟨⟨c1, c2⟩, l1, e1⟩ := dm_ok ha hq q0
 have l0 := lead_ne hq q0
 refine (dm_eq ha (can_pMonic q) (can_pSc (lead q) (pDiv a q)) c2 (by rw [len_pMonic hq]; exact l1) fun t => ?_).2
 rw [ev_pSc, ev_pMonic q0]
 have h1 := e1 t
 grind
theorem Nm_mod {a q : List Rat} (ha : Can a) (hq : Can q) (q0 : q ≠ []) : Nm q (pMod a q) = Nm q a := by
 unfold Nm
 refine (det_ML _).congr fun i hi j _ => ?_
 unfold NM
 rw [show pMod (xs (q.length - 1 - 1 - i) (pMod a q)) q = pMod (xs (q.length - 1 - 1 - i) a) q from mod_mul_r ha hq q0]
theorem norm_Nm {a q : List Rat} (ha : Can a) (hq : Can q) (h2 : 2 ≤ q.length) : pRes (pMonic q) (pMod a q) = Nm (pMonic q) a := by
 have q0 : q ≠ [] := fun e => by rw [e] at h2; simp at h2
 have m0 : pMonic q ≠ [] := fun e => by have := len_pMonic hq; rw [e] at this; simp at this; omega
 have cr := (dm_ok ha hq q0).1.2
 rw [← Nm_mod ha (can_pMonic q) m0, mod_monic ha hq q0]
 by_cases r0 : pMod a q = []
 ·rw [r0, pRes_step (can_pMonic q) Can_nil, if_pos (.inr rfl)]
  unfold Nm
  refine (det_zero_row _ (p := 0) (by rw [len_pMonic hq]; omega) fun j _ => ?_).symm
  unfold NM
  rw [show ∀ e, xs e [] = [] from fun e => pMul_nil_r _, (dm_small Can_nil (can_pMonic q) (List.length_pos_iff.2 m0)).2]
  rfl
 ·rw [pRes_norm (can_pMonic q) cr m0 r0, lead_pMonic hq q0]
  have : ∀ n : Nat, (1 : Rat) ^ n = 1 := fun n => by
   induction n with
   | zero => rw [Rat.pow_zero]
   | succ n ih => rw [Rat.pow_succ, ih]; grind
  rw [this]; grind
end Go.Proofs.YtfbogelmgdojgaaGreat

