/- Plain arithmetic of limbs (base 2^32, least significant first). No program in sight. -/
import Derived.WalkKit
namespace Go.Proofs.Ytbnhnmpgbpejaaa
set_option linter.unusedSimpArgs false
set_option linter.unusedVariables false
open Go.RowKit

/-- The element at a place, 0 beyond the end. A plain definition: the walk does not open it. -/
def at0 (l : List Nat) (j : Nat) : Nat := l.getD j 0

/-- The value of limbs. -/
def lv : List Nat → Nat
  | [] => 0
  | x :: l => x + 4294967296 * lv l

/-- All limbs are limbs. -/
def Lim (l : List Nat) : Prop := ∀ x, x ∈ l → x < 4294967296

/-- The number of limbs up to the highest that is not zero, among the first n. -/
def nlen (l : List Nat) : Nat → Nat
  | 0 => 0
  | n + 1 => if at0 l n = 0 then nlen l n else n + 1

/-- The digits of a number. -/
def dgs : Nat → Nat → List Nat
  | 0, _ => []
  | f + 1, n => if n = 0 then [] else n % 4294967296 :: dgs f (n / 4294967296)
def dg (n : Nat) : List Nat := dgs n n

theorem at0_nil (j : Nat) : at0 [] j = 0 := rfl
theorem at0_cons_zero (x : Nat) (l : List Nat) : at0 (x :: l) 0 = x := rfl
theorem at0_cons_succ (x : Nat) (l : List Nat) (j : Nat) : at0 (x :: l) (j + 1) = at0 l j := rfl
theorem at0_mem {l : List Nat} {j : Nat} (h : j < l.length) : at0 l j ∈ l := by
  unfold at0; rw [List.getD_eq_getElem?_getD, List.getElem?_eq_getElem h]; exact List.getElem_mem h
theorem at0_beyond {l : List Nat} {j : Nat} (h : l.length ≤ j) : at0 l j = 0 := by
  unfold at0; rw [List.getD_eq_getElem?_getD, List.getElem?_eq_none h]; rfl
theorem Lim.at0 {l : List Nat} (h : Lim l) (j : Nat) : at0 l j < 4294967296 := by
  by_cases hj : j < l.length
  · exact h _ (at0_mem hj)
  · rw [at0_beyond (by omega)]; decide
theorem Lim.tail {x : Nat} {l : List Nat} (h : Lim (x :: l)) : Lim l := fun y hy => h y (List.mem_cons_of_mem _ hy)
theorem Lim.head {x : Nat} {l : List Nat} (h : Lim (x :: l)) : x < 4294967296 := h x List.mem_cons_self
theorem Lim.cons {x : Nat} {l : List Nat} (hx : x < 4294967296) (h : Lim l) : Lim (x :: l) := by
  intro y hy
  rcases List.mem_cons.1 hy with rfl | hy
  · exact hx
  · exact h y hy
theorem Lim.nil : Lim [] := by intro x hx; cases hx
theorem Lim.take {l : List Nat} (h : Lim l) (n : Nat) : Lim (l.take n) := fun x hx => h x (List.mem_of_mem_take hx)
theorem Lim.drop {l : List Nat} (h : Lim l) (n : Nat) : Lim (l.drop n) := fun x hx => h x (List.mem_of_mem_drop hx)
theorem Lim.append {l m : List Nat} (h : Lim l) (h' : Lim m) : Lim (l ++ m) := fun x hx => by
  rcases List.mem_append.1 hx with hx | hx
  · exact h x hx
  · exact h' x hx
theorem Lim.set {l : List Nat} (h : Lim l) (i : Nat) {x : Nat} (hx : x < 4294967296) : Lim (l.set i x) := fun y hy => by
  rcases List.mem_or_eq_of_mem_set hy with hy | rfl
  · exact h y hy
  · exact hx
theorem Lim.replicate (n : Nat) : Lim (List.replicate n 0) := fun x hx => by
  rw [List.eq_of_mem_replicate hx]; decide

theorem at0_set {l : List Nat} {i j x : Nat} (hi : i < l.length) : at0 (l.set i x) j = if j = i then x else at0 l j := by
  unfold at0
  simp only [List.getD_eq_getElem?_getD, List.getElem?_set]
  split
  · rename_i h; subst h; simp [hi]
  · rename_i h; rw [if_neg (fun e => h e.symm)]
theorem at0_append_lt {l m : List Nat} {j : Nat} (h : j < l.length) : at0 (l ++ m) j = at0 l j := by
  unfold at0; simp only [List.getD_eq_getElem?_getD]; rw [List.getElem?_append_left h]
theorem at0_append_ge {l m : List Nat} {j : Nat} (h : l.length ≤ j) : at0 (l ++ m) j = at0 m (j - l.length) := by
  unfold at0; simp only [List.getD_eq_getElem?_getD]; rw [List.getElem?_append_right h]
theorem at0_replicate (n j : Nat) : at0 (List.replicate n 0) j = 0 := by
  unfold at0; simp only [List.getD_eq_getElem?_getD, List.getElem?_replicate]; split <;> rfl
theorem at0_take {l : List Nat} {n j : Nat} (h : j < n) : at0 (l.take n) j = at0 l j := by
  unfold at0; simp only [List.getD_eq_getElem?_getD]; rw [List.getElem?_take_of_lt h]
theorem at0_drop {l : List Nat} {n j : Nat} : at0 (l.drop n) j = at0 l (n + j) := by
  unfold at0; simp only [List.getD_eq_getElem?_getD]; rw [List.getElem?_drop]
theorem take_succ_at0 {l : List Nat} {k : Nat} (h : k < l.length) : l.take (k + 1) = l.take k ++ [at0 l k] := by
  rw [List.take_succ_eq_append_getElem h]
  unfold at0; rw [List.getD_eq_getElem?_getD, List.getElem?_eq_getElem h]; rfl

theorem lv_nil : lv [] = 0 := rfl
theorem lv_cons (x : Nat) (l : List Nat) : lv (x :: l) = x + 4294967296 * lv l := rfl
theorem lv_append (l m : List Nat) : lv (l ++ m) = lv l + 4294967296 ^ l.length * lv m := by
  induction l with
  | nil => simp [lv]
  | cons x l ih =>
    rw [List.cons_append, lv_cons, lv_cons, ih, List.length_cons, Nat.pow_succ, Nat.mul_add, Nat.add_assoc]
    congr 2
    rw [← Nat.mul_assoc, Nat.mul_comm 4294967296 (4294967296 ^ l.length)]
theorem lv_replicate (n : Nat) : lv (List.replicate n 0) = 0 := by
  induction n with
  | zero => rfl
  | succ n ih => rw [List.replicate_succ, lv_cons, ih]
theorem lv_lt {l : List Nat} (h : Lim l) : lv l < 4294967296 ^ l.length := by
  induction l with
  | nil => simp [lv]
  | cons x l ih =>
    have h1 := ih h.tail
    have h2 := h.head
    rw [lv_cons, List.length_cons, Nat.pow_succ, Nat.mul_comm (4294967296 ^ l.length)]
    omega
theorem lv_set {l : List Nat} {i x : Nat} (hi : i < l.length) : lv (l.set i x) + 4294967296 ^ i * at0 l i = lv l + 4294967296 ^ i * x := by
  induction l generalizing i with
  | nil => cases hi
  | cons y l ih =>
    cases i with
    | zero => simp only [List.set_cons_zero, lv_cons, at0_cons_zero, Nat.pow_zero, Nat.one_mul]; omega
    | succ i =>
      have := ih (i := i) (by simpa using hi)
      simp only [List.set_cons_succ, lv_cons, at0_cons_succ, Nat.pow_succ]
      rw [Nat.mul_comm (4294967296 ^ i) 4294967296, Nat.mul_assoc, Nat.mul_assoc]
      omega
theorem lv_take_succ {l : List Nat} {k : Nat} (h : k < l.length) : lv (l.take (k + 1)) = lv (l.take k) + 4294967296 ^ k * at0 l k := by
  rw [take_succ_at0 h, lv_append]
  simp only [List.length_take, lv_cons, lv_nil, Nat.mul_zero, Nat.add_zero]
  rw [Nat.min_eq_left (by omega)]
theorem lv_take_succ' (l : List Nat) (k : Nat) : lv (l.take (k + 1)) = lv (l.take k) + 4294967296 ^ k * at0 l k := by
  by_cases h : k < l.length
  · exact lv_take_succ h
  · rw [at0_beyond (by omega), List.take_of_length_le (by omega), List.take_of_length_le (by omega)]; omega
theorem take_set_le (l : List Nat) (i x k : Nat) (h : k ≤ i) : (l.set i x).take k = l.take k := by
  induction l generalizing i k with
  | nil => simp
  | cons y l ih =>
    cases k with
    | zero => simp
    | succ k =>
      cases i with
      | zero => omega
      | succ i => simp only [List.set_cons_succ, List.take_succ_cons, ih i k (by omega)]
theorem lv_take_set {l : List Nat} {i : Nat} (x : Nat) (h : i < l.length) : lv ((l.set i x).take (i + 1)) = lv (l.take i) + 4294967296 ^ i * x := by
  rw [lv_take_succ', take_set_le _ _ _ _ (Nat.le_refl _), at0_set h, if_pos rfl]
theorem lv_take_drop (l : List Nat) (k : Nat) (h : k ≤ l.length) : lv l = lv (l.take k) + 4294967296 ^ k * lv (l.drop k) := by
  have := lv_append (l.take k) (l.drop k)
  rw [List.take_append_drop, List.length_take, Nat.min_eq_left h] at this
  exact this

theorem nlen_le (l : List Nat) (n : Nat) : nlen l n ≤ n := by
  induction n with
  | zero => exact Nat.le_refl _
  | succ n ih => unfold nlen; split <;> omega
theorem nlen_succ_zero {l : List Nat} {n : Nat} (h : at0 l n = 0) : nlen l (n + 1) = nlen l n := by rw [nlen, if_pos h]
theorem nlen_succ_pos {l : List Nat} {n : Nat} (h : at0 l n ≠ 0) : nlen l (n + 1) = n + 1 := by rw [nlen, if_neg h]

/-- Canonical limbs: those of a number. -/
def Canon (l : List Nat) : Prop := Lim l ∧ (l ≠ [] → at0 l (l.length - 1) ≠ 0)

theorem Canon.nil : Canon [] := ⟨Lim.nil, fun h => absurd rfl h⟩
theorem Canon.tail {x : Nat} {l : List Nat} (h : Canon (x :: l)) : Canon l := by
  refine ⟨h.1.tail, fun hl => ?_⟩
  have := h.2 (by simp)
  cases l with
  | nil => exact absurd rfl hl
  | cons y l => simpa [at0_cons_succ] using this
theorem lv_pos {l : List Nat} (h : Canon l) (hl : l ≠ []) : 0 < lv l := by
  induction l with
  | nil => exact absurd rfl hl
  | cons x l ih =>
    rw [lv_cons]
    cases l with
    | nil =>
      have := h.2 (by simp)
      simp only [List.length_cons, List.length_nil, Nat.zero_add, Nat.sub_self, at0_cons_zero] at this
      omega
    | cons y l =>
      have := ih h.tail (by simp)
      omega
theorem Canon.inj {l m : List Nat} (hl : Canon l) (hm : Canon m) (h : lv l = lv m) : l = m := by
  induction l generalizing m with
  | nil =>
    cases m with
    | nil => rfl
    | cons y m => have := lv_pos hm (by simp); rw [← h, lv_nil] at this; omega
  | cons x l ih =>
    cases m with
    | nil => have := lv_pos hl (by simp); rw [h, lv_nil] at this; omega
    | cons y m =>
      rw [lv_cons, lv_cons] at h
      have h1 := hl.1.head
      have h2 := hm.1.head
      have e1 : x = y := by omega
      have e2 : lv l = lv m := by omega
      rw [e1, ih hl.tail hm.tail e2]

theorem nlen_take_canon {l : List Nat} (h : Lim l) (n : Nat) (hn : n ≤ l.length) : Canon (l.take (nlen l n)) ∧ lv (l.take (nlen l n)) = lv (l.take n) := by
  induction n with
  | zero => exact ⟨by simpa [nlen] using Canon.nil, rfl⟩
  | succ n ih =>
    obtain ⟨h1, h2⟩ := ih (by omega)
    by_cases h0 : at0 l n = 0
    · rw [nlen_succ_zero h0]
      refine ⟨h1, ?_⟩
      rw [h2, lv_take_succ (by omega), h0]; omega
    · rw [nlen_succ_pos h0]
      refine ⟨⟨h.take _, fun _ => ?_⟩, rfl⟩
      rw [List.length_take, Nat.min_eq_left hn, Nat.add_sub_cancel, at0_take (by omega)]
      exact h0

/-! ### Digits -/
theorem dgs_spec : ∀ (f n : Nat), n ≤ f → Canon (dgs f n) ∧ lv (dgs f n) = n := by
  intro f
  induction f with
  | zero => intro n hn; have : n = 0 := by omega
            subst this; exact ⟨Canon.nil, rfl⟩
  | succ f ih =>
    intro n hn
    unfold dgs
    by_cases h0 : n = 0
    · rw [if_pos h0]; exact ⟨Canon.nil, h0 ▸ rfl⟩
    · rw [if_neg h0]
      have hlt : n / 4294967296 ≤ f := by omega
      obtain ⟨h1, h2⟩ := ih _ hlt
      refine ⟨⟨Lim.cons (by omega) h1.1, fun _ => ?_⟩, ?_⟩
      · cases hd : dgs f (n / 4294967296) with
        | nil =>
          rw [hd, lv_nil] at h2
          simp only [List.length_cons, List.length_nil, Nat.zero_add, Nat.sub_self, at0_cons_zero]
          omega
        | cons y m =>
          have := h1.2 (by rw [hd]; simp)
          rw [hd] at this
          simpa [at0_cons_succ] using this
      · rw [lv_cons, h2]; omega
theorem dg_canon (n : Nat) : Canon (dg n) := (dgs_spec n n (Nat.le_refl _)).1
theorem lv_dg (n : Nat) : lv (dg n) = n := (dgs_spec n n (Nat.le_refl _)).2
theorem dg_lim (n : Nat) : Lim (dg n) := (dg_canon n).1
theorem dg_of_canon {l : List Nat} (h : Canon l) {n : Nat} (hn : lv l = n) : l = dg n := (h.inj (dg_canon n) (by rw [lv_dg, hn]))
theorem dg_zero : dg 0 = [] := rfl
theorem dg_eq_nil {n : Nat} : dg n = [] ↔ n = 0 := by
  constructor
  · intro h; have := lv_dg n; rw [h, lv_nil] at this; exact this.symm
  · rintro rfl; rfl
theorem dg_inj {m n : Nat} (h : dg m = dg n) : m = n := by rw [← lv_dg m, ← lv_dg n, h]

/-- The number of limbs of a number. -/
def dl (n : Nat) : Nat := (dg n).length
theorem dl_zero : dl 0 = 0 := rfl
theorem dl_eq_zero {n : Nat} : dl n = 0 ↔ n = 0 := by
  unfold dl; rw [List.length_eq_zero_iff, dg_eq_nil]
theorem lt_pow_dl (n : Nat) : n < 4294967296 ^ dl n := by
  have := lv_lt (dg_lim n); rw [lv_dg] at this; exact this
theorem pow_dl_le {l : List Nat} (h : Canon l) (hl : l ≠ []) : 4294967296 ^ (l.length - 1) ≤ lv l := by
  induction l with
  | nil => exact absurd rfl hl
  | cons x l ih =>
    cases l with
    | nil => have := lv_pos h (by simp); rw [List.length_singleton, Nat.sub_self, Nat.pow_zero]; exact this
    | cons y l =>
      have := ih h.tail (by simp)
      simp only [List.length_cons, Nat.add_sub_cancel] at this ⊢
      rw [lv_cons, Nat.pow_succ, Nat.mul_comm]
      omega
theorem dl_le {n k : Nat} : dl n ≤ k ↔ n < 4294967296 ^ k := by
  constructor
  · intro h
    exact Nat.lt_of_lt_of_le (lt_pow_dl n) (Nat.pow_le_pow_right (by decide) h)
  · intro h
    rcases Nat.lt_or_ge k (dl n) with hlt | hge
    · have h1 := pow_dl_le (dg_canon n) (by intro e; rw [dl, e] at hlt; cases hlt)
      rw [lv_dg] at h1
      have h2 : 4294967296 ^ k ≤ 4294967296 ^ ((dg n).length - 1) := Nat.pow_le_pow_right (by decide) (by unfold dl at hlt; omega)
      omega
    · exact hge
theorem dl_mono {m n : Nat} (h : m ≤ n) : dl m ≤ dl n := dl_le.2 (Nat.lt_of_le_of_lt h (lt_pow_dl n))
theorem dl_add (m n : Nat) : dl (m + n) ≤ max (dl m) (dl n) + 1 := by
  rw [dl_le]
  have h1 := Nat.lt_of_lt_of_le (lt_pow_dl m) (Nat.pow_le_pow_right (n := 4294967296) (by decide) (Nat.le_max_left (dl m) (dl n)))
  have h2 := Nat.lt_of_lt_of_le (lt_pow_dl n) (Nat.pow_le_pow_right (n := 4294967296) (by decide) (Nat.le_max_right (dl m) (dl n)))
  rw [Nat.pow_succ]; omega
theorem dl_mul (m n : Nat) : dl (m * n) ≤ dl m + dl n := by
  rw [dl_le, Nat.pow_add]
  rcases Nat.eq_zero_or_pos m with rfl | hm
  · rw [Nat.zero_mul]; exact Nat.mul_pos (Nat.pow_pos (by decide)) (Nat.pow_pos (by decide))
  · exact Nat.mul_lt_mul'' (lt_pow_dl m) (lt_pow_dl n)
theorem dl_le_of_lim {l : List Nat} (h : Lim l) : dl (lv l) ≤ l.length := dl_le.2 (lv_lt h)

end Go.Proofs.Ytbnhnmpgbpejaaa
