/- Texts Base Dec A1 A2 A3 in one. -/
import Derived.WalkKit
import Derived.Handy
import Derived.Lib.Hide
/- Plain arithmetic of limbs (base 2^32, least significant first). No program in sight. -/
namespace Go.Proofs.YtfbogelmgdojgaaGreat
set_option linter.unusedSimpArgs false
set_option linter.unusedVariables false
open Go.RowKit

/-- The element at a place, 0 beyond the end. A plain definition: the walk does not open it. -/
def at0 (l : List Nat) (j : Nat) : Nat := l.getD j 0

/-- The value of limbs. -/
def lv : List Nat → Nat
  | [] => 0
  | x :: l => x + 4294967296 * lv l

/-- All limbs are limbs. -/
def Lim (l : List Nat) : Prop := ∀ x, x ∈ l → x < 4294967296

/-- The number of limbs up to the highest that is not zero, among the first n. -/
def nlen (l : List Nat) : Nat → Nat
  | 0 => 0
  | n + 1 => if at0 l n = 0 then nlen l n else n + 1

/-- The digits of a number. -/
def dgs : Nat → Nat → List Nat
  | 0, _ => []
  | f + 1, n => if n = 0 then [] else n % 4294967296 :: dgs f (n / 4294967296)
def dg (n : Nat) : List Nat := dgs n n

theorem at0_nil (j : Nat) : at0 [] j = 0 := rfl
theorem at0_cons_zero (x : Nat) (l : List Nat) : at0 (x :: l) 0 = x := rfl
theorem at0_cons_succ (x : Nat) (l : List Nat) (j : Nat) : at0 (x :: l) (j + 1) = at0 l j := rfl
theorem at0_mem {l : List Nat} {j : Nat} (h : j < l.length) : at0 l j ∈ l := by
  unfold at0; rw [List.getD_eq_getElem?_getD, List.getElem?_eq_getElem h]; exact List.getElem_mem h
theorem at0_beyond {l : List Nat} {j : Nat} (h : l.length ≤ j) : at0 l j = 0 := by
  unfold at0; rw [List.getD_eq_getElem?_getD, List.getElem?_eq_none h]; rfl
theorem Lim.at0 {l : List Nat} (h : Lim l) (j : Nat) : at0 l j < 4294967296 := by
  by_cases hj : j < l.length
  · exact h _ (at0_mem hj)
  · rw [at0_beyond (by omega)]; decide
theorem Lim.tail {x : Nat} {l : List Nat} (h : Lim (x :: l)) : Lim l := fun y hy => h y (List.mem_cons_of_mem _ hy)
theorem Lim.head {x : Nat} {l : List Nat} (h : Lim (x :: l)) : x < 4294967296 := h x List.mem_cons_self
theorem Lim.cons {x : Nat} {l : List Nat} (hx : x < 4294967296) (h : Lim l) : Lim (x :: l) := by
  intro y hy
  rcases List.mem_cons.1 hy with rfl | hy
  · exact hx
  · exact h y hy
theorem Lim.nil : Lim [] := by intro x hx; cases hx
theorem Lim.take {l : List Nat} (h : Lim l) (n : Nat) : Lim (l.take n) := fun x hx => h x (List.mem_of_mem_take hx)
theorem Lim.drop {l : List Nat} (h : Lim l) (n : Nat) : Lim (l.drop n) := fun x hx => h x (List.mem_of_mem_drop hx)
theorem Lim.append {l m : List Nat} (h : Lim l) (h' : Lim m) : Lim (l ++ m) := fun x hx => by
  rcases List.mem_append.1 hx with hx | hx
  · exact h x hx
  · exact h' x hx
theorem Lim.set {l : List Nat} (h : Lim l) (i : Nat) {x : Nat} (hx : x < 4294967296) : Lim (l.set i x) := fun y hy => by
  rcases List.mem_or_eq_of_mem_set hy with hy | rfl
  · exact h y hy
  · exact hx
theorem Lim.replicate (n : Nat) : Lim (List.replicate n 0) := fun x hx => by
  rw [List.eq_of_mem_replicate hx]; decide

theorem at0_set {l : List Nat} {i j x : Nat} (hi : i < l.length) : at0 (l.set i x) j = if j = i then x else at0 l j := by
  unfold at0
  simp only [List.getD_eq_getElem?_getD, List.getElem?_set]
  split
  · rename_i h; subst h; simp [hi]
  · rename_i h; rw [if_neg (fun e => h e.symm)]
theorem at0_append_lt {l m : List Nat} {j : Nat} (h : j < l.length) : at0 (l ++ m) j = at0 l j := by
  unfold at0; simp only [List.getD_eq_getElem?_getD]; rw [List.getElem?_append_left h]
theorem at0_append_ge {l m : List Nat} {j : Nat} (h : l.length ≤ j) : at0 (l ++ m) j = at0 m (j - l.length) := by
  unfold at0; simp only [List.getD_eq_getElem?_getD]; rw [List.getElem?_append_right h]
theorem at0_replicate (n j : Nat) : at0 (List.replicate n 0) j = 0 := by
  unfold at0; simp only [List.getD_eq_getElem?_getD, List.getElem?_replicate]; split <;> rfl
theorem at0_take {l : List Nat} {n j : Nat} (h : j < n) : at0 (l.take n) j = at0 l j := by
  unfold at0; simp only [List.getD_eq_getElem?_getD]; rw [List.getElem?_take_of_lt h]
theorem at0_drop {l : List Nat} {n j : Nat} : at0 (l.drop n) j = at0 l (n + j) := by
  unfold at0; simp only [List.getD_eq_getElem?_getD]; rw [List.getElem?_drop]
theorem take_succ_at0 {l : List Nat} {k : Nat} (h : k < l.length) : l.take (k + 1) = l.take k ++ [at0 l k] := by
  rw [List.take_succ_eq_append_getElem h]
  unfold at0; rw [List.getD_eq_getElem?_getD, List.getElem?_eq_getElem h]; rfl

theorem lv_nil : lv [] = 0 := rfl
theorem lv_cons (x : Nat) (l : List Nat) : lv (x :: l) = x + 4294967296 * lv l := rfl
theorem lv_append (l m : List Nat) : lv (l ++ m) = lv l + 4294967296 ^ l.length * lv m := by
  induction l with
  | nil => simp [lv]
  | cons x l ih =>
    rw [List.cons_append, lv_cons, lv_cons, ih, List.length_cons, Nat.pow_succ, Nat.mul_add, Nat.add_assoc]
    congr 2
    rw [← Nat.mul_assoc, Nat.mul_comm 4294967296 (4294967296 ^ l.length)]
theorem lv_replicate (n : Nat) : lv (List.replicate n 0) = 0 := by
  induction n with
  | zero => rfl
  | succ n ih => rw [List.replicate_succ, lv_cons, ih]
theorem lv_lt {l : List Nat} (h : Lim l) : lv l < 4294967296 ^ l.length := by
  induction l with
  | nil => simp [lv]
  | cons x l ih =>
    have h1 := ih h.tail
    have h2 := h.head
    rw [lv_cons, List.length_cons, Nat.pow_succ, Nat.mul_comm (4294967296 ^ l.length)]
    omega
theorem lv_set {l : List Nat} {i x : Nat} (hi : i < l.length) : lv (l.set i x) + 4294967296 ^ i * at0 l i = lv l + 4294967296 ^ i * x := by
  induction l generalizing i with
  | nil => cases hi
  | cons y l ih =>
    cases i with
    | zero => simp only [List.set_cons_zero, lv_cons, at0_cons_zero, Nat.pow_zero, Nat.one_mul]; omega
    | succ i =>
      have := ih (i := i) (by simpa using hi)
      simp only [List.set_cons_succ, lv_cons, at0_cons_succ, Nat.pow_succ]
      rw [Nat.mul_comm (4294967296 ^ i) 4294967296, Nat.mul_assoc, Nat.mul_assoc]
      omega
theorem lv_take_succ {l : List Nat} {k : Nat} (h : k < l.length) : lv (l.take (k + 1)) = lv (l.take k) + 4294967296 ^ k * at0 l k := by
  rw [take_succ_at0 h, lv_append]
  simp only [List.length_take, lv_cons, lv_nil, Nat.mul_zero, Nat.add_zero]
  rw [Nat.min_eq_left (by omega)]
theorem lv_take_succ' (l : List Nat) (k : Nat) : lv (l.take (k + 1)) = lv (l.take k) + 4294967296 ^ k * at0 l k := by
  by_cases h : k < l.length
  · exact lv_take_succ h
  · rw [at0_beyond (by omega), List.take_of_length_le (by omega), List.take_of_length_le (by omega)]; omega
theorem take_set_le (l : List Nat) (i x k : Nat) (h : k ≤ i) : (l.set i x).take k = l.take k := by
  induction l generalizing i k with
  | nil => simp
  | cons y l ih =>
    cases k with
    | zero => simp
    | succ k =>
      cases i with
      | zero => omega
      | succ i => simp only [List.set_cons_succ, List.take_succ_cons, ih i k (by omega)]
theorem lv_take_set {l : List Nat} {i : Nat} (x : Nat) (h : i < l.length) : lv ((l.set i x).take (i + 1)) = lv (l.take i) + 4294967296 ^ i * x := by
  rw [lv_take_succ', take_set_le _ _ _ _ (Nat.le_refl _), at0_set h, if_pos rfl]
theorem lv_take_drop (l : List Nat) (k : Nat) (h : k ≤ l.length) : lv l = lv (l.take k) + 4294967296 ^ k * lv (l.drop k) := by
  have := lv_append (l.take k) (l.drop k)
  rw [List.take_append_drop, List.length_take, Nat.min_eq_left h] at this
  exact this

theorem nlen_le (l : List Nat) (n : Nat) : nlen l n ≤ n := by
  induction n with
  | zero => exact Nat.le_refl _
  | succ n ih => unfold nlen; split <;> omega
theorem nlen_succ_zero {l : List Nat} {n : Nat} (h : at0 l n = 0) : nlen l (n + 1) = nlen l n := by rw [nlen, if_pos h]
theorem nlen_succ_pos {l : List Nat} {n : Nat} (h : at0 l n ≠ 0) : nlen l (n + 1) = n + 1 := by rw [nlen, if_neg h]

/-- Canonical limbs: those of a number. -/
def Canon (l : List Nat) : Prop := Lim l ∧ (l ≠ [] → at0 l (l.length - 1) ≠ 0)

theorem Canon.nil : Canon [] := ⟨Lim.nil, fun h => absurd rfl h⟩
theorem Canon.tail {x : Nat} {l : List Nat} (h : Canon (x :: l)) : Canon l := by
  refine ⟨h.1.tail, fun hl => ?_⟩
  have := h.2 (by simp)
  cases l with
  | nil => exact absurd rfl hl
  | cons y l => simpa [at0_cons_succ] using this
theorem lv_pos {l : List Nat} (h : Canon l) (hl : l ≠ []) : 0 < lv l := by
  induction l with
  | nil => exact absurd rfl hl
  | cons x l ih =>
    rw [lv_cons]
    cases l with
    | nil =>
      have := h.2 (by simp)
      simp only [List.length_cons, List.length_nil, Nat.zero_add, Nat.sub_self, at0_cons_zero] at this
      omega
    | cons y l =>
      have := ih h.tail (by simp)
      omega
theorem Canon.inj {l m : List Nat} (hl : Canon l) (hm : Canon m) (h : lv l = lv m) : l = m := by
  induction l generalizing m with
  | nil =>
    cases m with
    | nil => rfl
    | cons y m => have := lv_pos hm (by simp); rw [← h, lv_nil] at this; omega
  | cons x l ih =>
    cases m with
    | nil => have := lv_pos hl (by simp); rw [h, lv_nil] at this; omega
    | cons y m =>
      rw [lv_cons, lv_cons] at h
      have h1 := hl.1.head
      have h2 := hm.1.head
      have e1 : x = y := by omega
      have e2 : lv l = lv m := by omega
      rw [e1, ih hl.tail hm.tail e2]

theorem nlen_take_canon {l : List Nat} (h : Lim l) (n : Nat) (hn : n ≤ l.length) : Canon (l.take (nlen l n)) ∧ lv (l.take (nlen l n)) = lv (l.take n) := by
  induction n with
  | zero => exact ⟨by simpa [nlen] using Canon.nil, rfl⟩
  | succ n ih =>
    obtain ⟨h1, h2⟩ := ih (by omega)
    by_cases h0 : at0 l n = 0
    · rw [nlen_succ_zero h0]
      refine ⟨h1, ?_⟩
      rw [h2, lv_take_succ (by omega), h0]; omega
    · rw [nlen_succ_pos h0]
      refine ⟨⟨h.take _, fun _ => ?_⟩, rfl⟩
      rw [List.length_take, Nat.min_eq_left hn, Nat.add_sub_cancel, at0_take (by omega)]
      exact h0

/-! ### Digits -/
theorem dgs_spec : ∀ (f n : Nat), n ≤ f → Canon (dgs f n) ∧ lv (dgs f n) = n := by
  intro f
  induction f with
  | zero => intro n hn; have : n = 0 := by omega
            subst this; exact ⟨Canon.nil, rfl⟩
  | succ f ih =>
    intro n hn
    unfold dgs
    by_cases h0 : n = 0
    · rw [if_pos h0]; exact ⟨Canon.nil, h0 ▸ rfl⟩
    · rw [if_neg h0]
      have hlt : n / 4294967296 ≤ f := by omega
      obtain ⟨h1, h2⟩ := ih _ hlt
      refine ⟨⟨Lim.cons (by omega) h1.1, fun _ => ?_⟩, ?_⟩
      · cases hd : dgs f (n / 4294967296) with
        | nil =>
          rw [hd, lv_nil] at h2
          simp only [List.length_cons, List.length_nil, Nat.zero_add, Nat.sub_self, at0_cons_zero]
          omega
        | cons y m =>
          have := h1.2 (by rw [hd]; simp)
          rw [hd] at this
          simpa [at0_cons_succ] using this
      · rw [lv_cons, h2]; omega
theorem dg_canon (n : Nat) : Canon (dg n) := (dgs_spec n n (Nat.le_refl _)).1
theorem lv_dg (n : Nat) : lv (dg n) = n := (dgs_spec n n (Nat.le_refl _)).2
theorem dg_lim (n : Nat) : Lim (dg n) := (dg_canon n).1
theorem dg_of_canon {l : List Nat} (h : Canon l) {n : Nat} (hn : lv l = n) : l = dg n := (h.inj (dg_canon n) (by rw [lv_dg, hn]))
theorem dg_zero : dg 0 = [] := rfl
theorem dg_eq_nil {n : Nat} : dg n = [] ↔ n = 0 := by
  constructor
  · intro h; have := lv_dg n; rw [h, lv_nil] at this; exact this.symm
  · rintro rfl; rfl
theorem dg_inj {m n : Nat} (h : dg m = dg n) : m = n := by rw [← lv_dg m, ← lv_dg n, h]

/-- The number of limbs of a number. -/
def dl (n : Nat) : Nat := (dg n).length
theorem dl_zero : dl 0 = 0 := rfl
theorem dl_eq_zero {n : Nat} : dl n = 0 ↔ n = 0 := by
  unfold dl; rw [List.length_eq_zero_iff, dg_eq_nil]
theorem lt_pow_dl (n : Nat) : n < 4294967296 ^ dl n := by
  have := lv_lt (dg_lim n); rw [lv_dg] at this; exact this
theorem pow_dl_le {l : List Nat} (h : Canon l) (hl : l ≠ []) : 4294967296 ^ (l.length - 1) ≤ lv l := by
  induction l with
  | nil => exact absurd rfl hl
  | cons x l ih =>
    cases l with
    | nil => have := lv_pos h (by simp); rw [List.length_singleton, Nat.sub_self, Nat.pow_zero]; exact this
    | cons y l =>
      have := ih h.tail (by simp)
      simp only [List.length_cons, Nat.add_sub_cancel] at this ⊢
      rw [lv_cons, Nat.pow_succ, Nat.mul_comm]
      omega
theorem dl_le {n k : Nat} : dl n ≤ k ↔ n < 4294967296 ^ k := by
  constructor
  · intro h
    exact Nat.lt_of_lt_of_le (lt_pow_dl n) (Nat.pow_le_pow_right (by decide) h)
  · intro h
    rcases Nat.lt_or_ge k (dl n) with hlt | hge
    · have h1 := pow_dl_le (dg_canon n) (by intro e; rw [dl, e] at hlt; cases hlt)
      rw [lv_dg] at h1
      have h2 : 4294967296 ^ k ≤ 4294967296 ^ ((dg n).length - 1) := Nat.pow_le_pow_right (by decide) (by unfold dl at hlt; omega)
      omega
    · exact hge
theorem dl_mono {m n : Nat} (h : m ≤ n) : dl m ≤ dl n := dl_le.2 (Nat.lt_of_le_of_lt h (lt_pow_dl n))
theorem dl_add (m n : Nat) : dl (m + n) ≤ max (dl m) (dl n) + 1 := by
  rw [dl_le]
  have h1 := Nat.lt_of_lt_of_le (lt_pow_dl m) (Nat.pow_le_pow_right (n := 4294967296) (by decide) (Nat.le_max_left (dl m) (dl n)))
  have h2 := Nat.lt_of_lt_of_le (lt_pow_dl n) (Nat.pow_le_pow_right (n := 4294967296) (by decide) (Nat.le_max_right (dl m) (dl n)))
  rw [Nat.pow_succ]; omega
theorem dl_mul (m n : Nat) : dl (m * n) ≤ dl m + dl n := by
  rw [dl_le, Nat.pow_add]
  rcases Nat.eq_zero_or_pos m with rfl | hm
  · rw [Nat.zero_mul]; exact Nat.mul_pos (Nat.pow_pos (by decide)) (Nat.pow_pos (by decide))
  · exact Nat.mul_lt_mul'' (lt_pow_dl m) (lt_pow_dl n)
theorem dl_le_of_lim {l : List Nat} (h : Lim l) : dl (lv l) ≤ l.length := dl_le.2 (lv_lt h)

end Go.Proofs.YtfbogelmgdojgaaGreat

/- Plain: the decimal digits of a number, as bytes. No program in sight. -/
namespace Go.Proofs.YtfbogelmgdojgaaGreat
set_option linter.unusedSimpArgs false
set_option linter.unusedVariables false

/-- The decimal digits of a number (none for 0). Plain definitions. -/
def decs : Nat → Nat → List UInt8
  | 0, _ => []
  | f + 1, n => if n = 0 then [] else decs f (n / 10) ++ [UInt8.ofNat (48 + n % 10)]
def dec (n : Nat) : List UInt8 := decs n n
/-- The text of an integer. -/
def txt (z : Int) : List UInt8 := if z = 0 then [48] else if z < 0 then 45 :: dec z.natAbs else dec z.natAbs

theorem decs_fuel : ∀ (f g n : Nat), n ≤ f → n ≤ g → decs f n = decs g n := by
  intro f
  induction f with
  | zero => intro g n h _; obtain rfl : n = 0 := by omega
            cases g <;> simp [decs]
  | succ f ih =>
    intro g n h1 h2
    cases g with
    | zero => obtain rfl : n = 0 := by omega
              simp [decs]
    | succ g =>
      unfold decs
      by_cases h : n = 0
      · rw [if_pos h, if_pos h]
      · rw [if_neg h, if_neg h, ih g (n / 10) (by omega) (by omega)]
theorem dec_zero : dec 0 = [] := rfl
theorem dec_step {n : Nat} (h : n ≠ 0) : dec n = dec (n / 10) ++ [UInt8.ofNat (48 + n % 10)] := by
  obtain ⟨m, rfl⟩ : ∃ m, n = m + 1 := ⟨n - 1, by omega⟩
  show decs (m + 1) (m + 1) = _
  rw [decs, if_neg h]
  unfold dec
  rw [decs_fuel m ((m + 1) / 10) _ (by omega) (Nat.le_refl _)]
theorem dec_len : ∀ (k n : Nat), n < 10 ^ k → (dec n).length ≤ k := by
  intro k
  induction k with
  | zero => intro n h; obtain rfl : n = 0 := by simpa using h
            simp [dec_zero]
  | succ k ih =>
    intro n h
    by_cases h0 : n = 0
    · subst h0; simp [dec_zero]
    · rw [dec_step h0, List.length_append]
      have := ih (n / 10) (by rw [Nat.pow_succ] at h; omega)
      simp; exact this
theorem dec_pos {n : Nat} (h : n ≠ 0) : 1 ≤ (dec n).length := by
  rw [dec_step h, List.length_append]; simp
theorem dec_len_lv {l : List Nat} (h : Lim l) : (dec (lv l)).length ≤ 10 * l.length := by
  apply dec_len
  have h1 := lv_lt h
  have h2 : (10 : Nat) ^ (10 * l.length) = (10 ^ 10) ^ l.length := Nat.pow_mul 10 10 _
  have h3 : (4294967296 : Nat) ^ l.length ≤ (10 ^ 10) ^ l.length := Nat.pow_le_pow_left (by decide) _
  omega
/-- A digit more. -/
theorem dec_more {T a x : Nat} {Z L : List UInt8} (hT : T ≠ 0) (h : Z = dec T ++ L.drop (a + 1)) (hx : x = T % 10) (ha : a < L.length) : Z = dec (T / 10) ++ (L.set a (UInt8.ofNat (48 + x))).drop a := by
  have e : (L.set a (UInt8.ofNat (48 + x))).drop a = UInt8.ofNat (48 + x) :: L.drop (a + 1) := by
    apply List.ext_getElem?
    intro i
    rw [List.getElem?_drop]
    cases i with
    | zero => rw [Nat.add_zero, List.getElem?_set_self ha]; rfl
    | succ i => rw [List.getElem?_set_ne (by omega), List.getElem?_cons_succ, List.getElem?_drop]; congr 1; omega
  rw [e, h, dec_step hT, hx, List.append_assoc]; rfl
end Go.Proofs.YtfbogelmgdojgaaGreat

/- Abstract values and what they stand for in a world. No program in sight. -/
namespace Go.Proofs.YtfbogelmgdojgaaGreat
set_option linter.unusedSimpArgs false
set_option linter.unusedVariables false
open Go.RowKit

/-- An abstract value. -/
inductive V where
  | any
  | raw (v : Value)
  | agg (l : List V)
  | tup (l : List V)
  | lst (l : List V)
  | emp
  | I (z : Int)
  | Q (q : Rat)
  | ptr (k e i off : Nat)
  | sl (k e o n : Nat)
  | pel (x : V)
  | clo (fn : Fn) (first caps : List V)

abbrev V.int (k : IntKind) (n : Int) : V := .raw (.int k n)
abbrev V.bool (b : Bool) : V := .raw (.bool b)
abbrev V.str (s : ByteArray) : V := .raw (.string s)
/-- Limbs. -/
def V.limbs (l : List Nat) : List V := l.map fun (x : Nat) => V.raw (.int .u32 (x : Int))

def V.atomsI (z : Int) : List V := [.raw (.bool (decide (z < 0))), .lst (V.limbs (dg z.natAbs))]
mutual
def V.atoms : V → List V
  | .agg l => V.atomsL l
  | .I z => V.atomsI z
  | .Q q => V.atomsI q.num ++ V.atomsI q.den
  | .any => [.any]
  | .raw v => [.raw v]
  | .tup l => [.tup l]
  | .lst l => [.lst l]
  | .emp => [.emp]
  | .ptr k e i off => [.ptr k e i off]
  | .sl k e o n => [.sl k e o n]
  | .pel x => [.pel x]
  | .clo f a b => [.clo f a b]
def V.atomsL : List V → List V
  | [] => []
  | x :: l => x.atoms ++ V.atomsL l
end
/-- Is it a struct or an array by value. -/
def V.isAgg : V → Bool
  | .agg _ | .I _ | .Q _ => true
  | _ => false
/-- How many cells it takes. -/
def V.wid (x : V) : Nat := x.atoms.length

theorem V.atomsL_append (l m : List V) : V.atomsL (l ++ m) = V.atomsL l ++ V.atomsL m := by
  induction l with
  | nil => rfl
  | cons x l ih => simp [V.atomsL, ih]
theorem V.atoms_single {x : V} (h : x.isAgg = false) : x.atoms = [x] := by
  cases x <;> first | rfl | (simp [V.isAgg] at h)
theorem V.atomsL_length {l : List V} {e : Nat} (h : ∀ x ∈ l, x.wid = e) : (V.atomsL l).length = l.length * e := by
  induction l with
  | nil => simp [V.atomsL]
  | cons x l ih =>
    have h1 := h x (by simp)
    have h2 := ih fun y hy => h y (by simp [hy])
    unfold V.wid at h1
    simp only [V.atomsL, List.length_append, h1, h2, List.length_cons, Nat.add_mul]; omega
theorem V.atomsL_get {l : List V} {e : Nat} (h : ∀ x ∈ l, x.wid = e) {i : Nat} {x : V} (hi : l[i]? = some x) {j : Nat} (hj : j < e) :
    (V.atomsL l)[i * e + j]? = x.atoms[j]? := by
  induction l generalizing i with
  | nil => simp at hi
  | cons y l ih =>
    have h1 : y.atoms.length = e := h y (by simp)
    cases i with
    | zero =>
      simp only [List.getElem?_cons_zero, Option.some.injEq] at hi
      subst hi
      simp only [V.atomsL, Nat.zero_mul, Nat.zero_add]
      rw [List.getElem?_append_left (by omega)]
    | succ i =>
      simp only [List.getElem?_cons_succ] at hi
      have := ih (fun z hz => h z (by simp [hz])) hi
      simp only [V.atomsL]
      rw [List.getElem?_append_right (by rw [h1, Nat.add_mul]; omega), h1, ← this]
      congr 1
      rw [Nat.add_mul]; omega

/-- The cells of a value, as the model has them. -/
def ShapeOk (x : V) (v : Value) : Prop := (x.isAgg = true → ∃ cs, v = .agg cs) ∧ (x.isAgg = false → v.cells = #[v]) ∧ x.atoms.length = v.cells.size

/-- The cells from a on in block b hold vs. -/
def Stored (w : World) (b a : Nat) (vs : List Value) : Prop := ∀ j v, vs[j]? = some v → w.cell? ⟨b, a + j, none⟩ = some v

inductive RepA (w : World) (O : Nat → Prop) : (Nat → Option Nat) → V → Value → Prop
  | any (ρ : Nat → Option Nat) (v : Value) : RepA w O ρ .any v
  | raw (ρ : Nat → Option Nat) (v : Value) : RepA w O ρ (.raw v) v
  | emp (ρ : Nat → Option Nat) (A : Option Addr) : RepA w O ρ .emp (.slice A 0 0)
  | ptr (ρ : Nat → Option Nat) (k e i off b : Nat) (h : ρ k = some b) : RepA w O ρ (.ptr k e i off) (.pointer (some ⟨b, i * e + off, none⟩))
  | sl (ρ : Nat → Option Nat) (k e o n b c : Nat) (arr : Array Value) (t : TypeId) (fr : Nat × Nat) (h : ρ k = some b) (hb : w.heap[b]? = some (.cells arr t fr)) (hn : n ≤ c) (hc : (o + c) * e ≤ arr.size) : RepA w O ρ (.sl k e o n) (.slice (some ⟨b, o * e, none⟩) n c)
  | nil (ρ : Nat → Option Nat) (A : Option Addr) (c : Nat) : RepA w O ρ (.lst []) (.slice A 0 c)
  | lst (ρ : Nat → Option Nat) (l : List V) (b a c : Nat) (vs : List Value) (h0 : l ≠ []) (hc : l.length ≤ c) (hb : b < w.heap.size) (hO : ¬ O b) (hu : ∃ e, ∀ x ∈ l, V.wid x = e) (hs : Stored w b a vs)
      (hl : vs.length = (V.atomsL l).length) (hr : ∀ (j : Nat) (x : V) (v : Value), (V.atomsL l)[j]? = some x → vs[j]? = some v → RepA w O (fun _ => none) x v) : RepA w O ρ (.lst l) (.slice (some ⟨b, a, none⟩) l.length c)
  | pel (ρ : Nat → Option Nat) (x : V) (b a : Nat) (vs : List Value) (hb : b < w.heap.size) (hO : ¬ O b) (hs : Stored w b a vs)
      (hl : vs.length = x.atoms.length) (hr : ∀ (j : Nat) (y : V) (v : Value), x.atoms[j]? = some y → vs[j]? = some v → RepA w O (fun _ => none) y v) : RepA w O ρ (.pel x) (.pointer (some ⟨b, a, none⟩))
  | clo (ρ : Nat → Option Nat) (fn : Fn) (first caps : List V) (vf vc : Array Value) (h1 : first.length = vf.size) (h2 : caps.length = vc.size)
      (s1 : ∀ (j : Nat) (x : V) (v : Value), first[j]? = some x → vf[j]? = some v → ShapeOk x v) (s2 : ∀ (j : Nat) (x : V) (v : Value), caps[j]? = some x → vc[j]? = some v → ShapeOk x v)
      (r1 : ∀ (j : Nat) (x : V) (v : Value), first[j]? = some x → vf[j]? = some v → ∀ (i : Nat) (y : V) (u : Value), x.atoms[i]? = some y → v.cells[i]? = some u → RepA w O ρ y u)
      (r2 : ∀ (j : Nat) (x : V) (v : Value), caps[j]? = some x → vc[j]? = some v → ∀ (i : Nat) (y : V) (u : Value), x.atoms[i]? = some y → v.cells[i]? = some u → RepA w O ρ y u) :
      RepA w O ρ (.clo fn first caps) (.func fn vf vc)

/-- A value that is no tuple. -/
def RepW (w : World) (O : Nat → Prop) (ρ : Nat → Option Nat) (x : V) (v : Value) : Prop :=
  x = .any ∨ (ShapeOk x v ∧ ∀ (i : Nat) (y : V) (u : Value), x.atoms[i]? = some y → v.cells[i]? = some u → RepA w O ρ y u)
def RepV (w : World) (O : Nat → Prop) (ρ : Nat → Option Nat) : V → Value → Prop
  | .tup l, v => ∃ vs : Array Value, v = .tuple vs ∧ l.length = vs.size ∧ ∀ (j : Nat) (y : V) (u : Value), l[j]? = some y → vs[j]? = some u → RepW w O ρ y u
  | x, v => RepW w O ρ x v

/-- A block lies as it lay, where it holds cells. -/
def KeptB (w w' : World) (b : Nat) : Prop := ∀ (arr : Array Value) (t : TypeId) (fr : Nat × Nat), w.heap[b]? = some (.cells arr t fr) → w'.heap[b]? = w.heap[b]?
theorem KeptB.of {w w' : World} {b : Nat} (h : w'.heap[b]? = w.heap[b]?) : KeptB w w' b := fun _ _ _ _ => h
theorem KeptB.trans {w w' w'' : World} {b : Nat} (h : KeptB w w' b) (k : KeptB w' w'' b) : KeptB w w'' b := fun arr t fr e =>
  (k arr t fr ((h arr t fr e).trans e)).trans (h arr t fr e)
/-- What a step may do: names stay, what is not owned stays, rows keep their lengths. -/
structure Ext (w : World) (O : Nat → Prop) (ρ : Nat → Option Nat) (w' : World) (O' : Nat → Prop) (ρ' : Nat → Option Nat) : Prop where
  map : ∀ k b, ρ k = some b → ρ' k = some b
  kept : ∀ b, b < w.heap.size → ¬ O b → ¬ O' b ∧ KeptB w w' b
  size : w.heap.size ≤ w'.heap.size
  row : ∀ (b : Nat) (arr : Array Value) (t : TypeId) (fr : Nat × Nat), w.heap[b]? = some (.cells arr t fr) → ∃ (arr' : Array Value) (t' : TypeId) (fr' : Nat × Nat), w'.heap[b]? = some (.cells arr' t' fr') ∧ arr'.size = arr.size

theorem Ext.refl (w : World) (O : Nat → Prop) (ρ : Nat → Option Nat) : Ext w O ρ w O ρ :=
  ⟨fun _ _ h => h, fun _ _ h => ⟨h, .of rfl⟩, Nat.le_refl _, fun _ _ _ _ h => ⟨_, _, _, h, rfl⟩⟩
theorem Ext.trans {w O ρ w' O' ρ' w'' O'' ρ''} (h : Ext w O ρ w' O' ρ') (k : Ext w' O' ρ' w'' O'' ρ'') : Ext w O ρ w'' O'' ρ'' := by
  refine ⟨fun a b e => k.map _ _ (h.map _ _ e), fun b hb hO => ?_, Nat.le_trans h.size k.size, fun b arr t fr e => ?_⟩
  · obtain ⟨h1, h2⟩ := h.kept b hb hO
    obtain ⟨k1, k2⟩ := k.kept b (Nat.lt_of_lt_of_le hb h.size) h1
    exact ⟨k1, h2.trans k2⟩
  · obtain ⟨a1, t1, f1, e1, s1⟩ := h.row b arr t fr e
    obtain ⟨a2, t2, f2, e2, s2⟩ := k.row b a1 t1 f1 e1
    exact ⟨a2, t2, f2, e2, s2.trans s1⟩
/-- The names without any owned one. -/
theorem Ext.nones {w O ρ w' O' ρ'} (h : Ext w O ρ w' O' ρ') : Ext w O (fun _ => none) w' O' (fun _ => none) :=
  ⟨fun _ _ e => by simp at e, h.kept, h.size, h.row⟩
theorem Ext.into {w O w' O'} (h : Ext w O (fun _ => none) w' O' (fun _ => none)) (ρ) : Ext w O (fun _ => none) w' O' ρ :=
  ⟨fun _ _ e => by simp at e, h.kept, h.size, h.row⟩
theorem Stored.keep {w w' : World} {b a : Nat} {vs : List Value} (h : Stored w b a vs) (e : KeptB w w' b) : Stored w' b a vs := fun j v hj => by
  have h1 := h j v hj
  rw [← h1]
  cases hb : w.heap[b]? with
  | none => simp [World.cell?, hb] at h1
  | some o =>
    cases o with
    | cells arr t fr => unfold World.cell?; simp only; rw [e arr t fr hb]
    | _ => simp [World.cell?, hb] at h1
theorem RepA.mono {w O ρ x v} (h : RepA w O ρ x v) : ∀ {w' O' ρ'}, Ext w O ρ w' O' ρ' → RepA w' O' ρ' x v := by
  induction h with
  | any ρ v => intros; exact .any _ _
  | raw ρ v => intros; exact .raw _ _
  | emp ρ A => intros; exact .emp _ _
  | ptr ρ k e i off b h => intro w' O' ρ' hx; exact .ptr _ _ _ _ _ _ (hx.map _ _ h)
  | sl ρ k e o n b c arr t fr h hb hn hc =>
    intro w' O' ρ' hx
    obtain ⟨arr', t', fr', hb', hs⟩ := hx.row _ _ _ _ hb
    exact .sl _ _ _ _ _ _ _ arr' t' fr' (hx.map _ _ h) hb' hn (by omega)
  | nil ρ A c => intros; exact .nil _ _ _
  | lst ρ l b a c vs h0 hc hb hO hu hs hl hr ih =>
    intro w' O' ρ' hx
    obtain ⟨h1, h2⟩ := hx.kept b hb hO
    exact .lst _ _ _ _ _ vs h0 hc (Nat.lt_of_lt_of_le hb hx.size) h1 hu (hs.keep h2) hl fun j x v hj hv => ih j x v hj hv hx.nones
  | pel ρ x b a vs hb hO hs hl hr ih =>
    intro w' O' ρ' hx
    obtain ⟨h1, h2⟩ := hx.kept b hb hO
    exact .pel _ _ _ _ vs (Nat.lt_of_lt_of_le hb hx.size) h1 (hs.keep h2) hl fun j x v hj hv => ih j x v hj hv hx.nones
  | clo ρ fn first caps vf vc h1 h2 s1 s2 r1 r2 i1 i2 =>
    intro w' O' ρ' hx
    exact .clo _ _ _ _ _ _ h1 h2 s1 s2 (fun j x v hj hv i y u hy hu => i1 j x v hj hv i y u hy hu hx) (fun j x v hj hv i y u hy hu => i2 j x v hj hv i y u hy hu hx)
theorem RepW.mono {w O ρ x v w' O' ρ'} (h : RepW w O ρ x v) (hx : Ext w O ρ w' O' ρ') : RepW w' O' ρ' x v := by
  rcases h with h | ⟨h1, h2⟩
  · exact .inl h
  · exact .inr ⟨h1, fun i y u hy hu => (h2 i y u hy hu).mono hx⟩
theorem RepV.of_W {w O ρ x v} (h : RepW w O ρ x v) (ht : ∀ l, x ≠ .tup l) : RepV w O ρ x v := by
  cases x <;> first | exact h | exact absurd rfl (ht _)
theorem RepV.mono {w O ρ x v w' O' ρ'} (h : RepV w O ρ x v) (hx : Ext w O ρ w' O' ρ') : RepV w' O' ρ' x v := by
  cases x
  case tup l => obtain ⟨vs, e, hl, hr⟩ := h; exact ⟨vs, e, hl, fun j y u hy hu => (hr j y u hy hu).mono hx⟩
  all_goals exact RepW.mono h hx

/-- Of an atom. -/
theorem cells_single {v : Value} (h : ∀ cs, v ≠ .agg cs) : v.cells = #[v] := by
  cases v <;> first | rfl | exact absurd rfl (h _)
theorem RepA.notAgg {w O ρ x v} (h : RepA w O ρ x v) (hx : x ≠ .any) (hr : ∀ u, x ≠ .raw u) (ha : x.isAgg = false) : v.cells = #[v] := by
  cases h <;> first | rfl | exact absurd rfl hx | exact absurd rfl (hr _) | (simp [V.isAgg] at ha)
theorem RepW.atom {w O ρ x v} (h : RepW w O ρ x v) (ha : x.isAgg = false) : RepA w O ρ x v := by
  rcases h with rfl | ⟨⟨_, h1, h2⟩, h3⟩
  · exact .any _ _
  · have e := V.atoms_single ha
    refine h3 0 x v (by rw [e]; rfl) ?_
    rw [h1 ha]; rfl
theorem RepW.of_atom {w O ρ x v} (h : RepA w O ρ x v) (ha : x.isAgg = false) (hv : v.cells = #[v]) : RepW w O ρ x v := by
  have e := V.atoms_single ha
  refine .inr ⟨⟨fun h' => by rw [ha] at h'; simp at h', fun _ => hv, by rw [e, hv]; rfl⟩, fun i y u hy hu => ?_⟩
  rw [e] at hy
  rw [hv] at hu
  cases i with
  | zero => simp at hy hu; subst hy hu; exact h
  | succ i => simp at hy
theorem RepW.raw {w O ρ v} (hv : v.cells = #[v]) : RepW w O ρ (.raw v) v := RepW.of_atom (.raw _ _) rfl hv
theorem RepW.raw_inv {w O ρ u v} (h : RepW w O ρ (.raw u) v) : v = u := by
  have := h.atom rfl
  cases this; rfl
theorem RepW.rawOf {w O ρ u v} (h : RepA w O ρ (.raw u) v) : v = u := by cases h; rfl
/-- Of a struct or an array by value: only its atoms count. -/
theorem RepW.agg_iff {w O ρ x v} (ha : x.isAgg = true) : RepW w O ρ x v ↔ ∃ cs : Array Value, v = .agg cs ∧ x.atoms.length = cs.size ∧ ∀ (i : Nat) (y : V) (u : Value), x.atoms[i]? = some y → cs[i]? = some u → RepA w O ρ y u := by
  constructor
  · rintro (rfl | ⟨⟨h1, _, h2⟩, h3⟩)
    · simp [V.isAgg] at ha
    · obtain ⟨cs, rfl⟩ := h1 ha
      exact ⟨cs, rfl, h2, h3⟩
  · rintro ⟨cs, rfl, h2, h3⟩
    exact .inr ⟨⟨fun _ => ⟨_, rfl⟩, fun h => by rw [ha] at h; simp at h, h2⟩, h3⟩
theorem RepW.congr {w O ρ x y v} (h : RepW w O ρ x v) (hx : x.isAgg = true) (hy : y.isAgg = true) (e : x.atoms = y.atoms) : RepW w O ρ y v := by
  rw [RepW.agg_iff hx] at h
  rw [RepW.agg_iff hy, ← e]
  exact h
/-- Fewer owned blocks: it stands all the same. -/
theorem Ext.less {w O O' ρ} (h : ∀ b, O' b → O b) : Ext w O ρ w O' ρ :=
  ⟨fun _ _ e => e, fun b _ hO => ⟨fun h' => hO (h b h'), .of rfl⟩, Nat.le_refl _, fun _ _ _ _ h => ⟨_, _, _, h, rfl⟩⟩
end Go.Proofs.YtfbogelmgdojgaaGreat

/- Abstract heaps and states; what a step of the program may do to a world. No program in sight. -/
namespace Go.Proofs.YtfbogelmgdojgaaGreat
set_option linter.unusedSimpArgs false
set_option linter.unusedVariables false
open Go.RowKit

/-- A row that the call owns: the type of its elements, the cells that each takes, and its first elements. -/
structure Blk where
  t : TypeId
  e : Nat
  l : List V
abbrev Hp := Nat → Option Blk
def Hp.up (H : Hp) (k : Nat) (x : Option Blk) : Hp := fun j => if j = k then x else H j
def Hp.puts (H : Hp) : List (Nat × Option Blk) → Hp
  | [] => H
  | p :: ws => Hp.puts (H.up p.1 p.2) ws

/-- The blocks that the call owns, and foreign ones that it must leave alone. -/
def own (B : Nat → Prop) (ρ : Nat → Option Nat) (H : Hp) : Nat → Prop := fun b => B b ∨ ∃ k x, H k = some x ∧ ρ k = some b

structure HRep (w : World) (O : Nat → Prop) (ρ : Nat → Option Nat) (H : Hp) : Prop where
  row : ∀ k x, H k = some x → ∃ (b : Nat) (arr : Array Value), ρ k = some b ∧ w.heap[b]? = some (.cells arr x.t (0, 0)) ∧ (∀ y ∈ x.l, y.wid = x.e) ∧ (V.atomsL x.l).length ≤ arr.size ∧
    ∀ (j : Nat) (y : V) (u : Value), (V.atomsL x.l)[j]? = some y → arr[j]? = some u → RepA w O ρ y u
  inj : ∀ k k' x x' b, H k = some x → H k' = some x' → ρ k = some b → ρ k' = some b → k = k'

/-- A step: names stay; what is not owned stays; what is owned behind it was owned before it, or is new. -/
structure Step (H : Hp) (w : World) (ρ : Nat → Option Nat) (H' : Hp) (w' : World) (ρ' : Nat → Option Nat) : Prop where
  map : ∀ k b, ρ k = some b → ρ' k = some b
  same : ∀ b, b < w.heap.size → (∀ k x, H k = some x → ρ k ≠ some b) → w'.heap[b]? = w.heap[b]?
  mine : ∀ k x b, H' k = some x → ρ' k = some b → (∃ k0 x0, H k0 = some x0 ∧ ρ k0 = some b) ∨ w.heap.size ≤ b
  size : w.heap.size ≤ w'.heap.size
  row : ∀ (b : Nat) (arr : Array Value) (t : TypeId) (fr : Nat × Nat), w.heap[b]? = some (.cells arr t fr) → ∃ (arr' : Array Value) (t' : TypeId) (fr' : Nat × Nat), w'.heap[b]? = some (.cells arr' t' fr') ∧ arr'.size = arr.size
  os : w'.os = w.os
  tape : w'.tape = w.tape
  output : w'.output = w.output

theorem Step.refl (H : Hp) (w : World) (ρ : Nat → Option Nat) : Step H w ρ H w ρ :=
  ⟨fun _ _ h => h, fun _ _ _ => rfl, fun k x b h e => .inl ⟨k, x, h, e⟩, Nat.le_refl _, fun _ _ _ _ h => ⟨_, _, _, h, rfl⟩, rfl, rfl, rfl⟩
theorem Step.trans {H w ρ H' w' ρ' H'' w'' ρ''} (h : Step H w ρ H' w' ρ') (k : Step H' w' ρ' H'' w'' ρ'') : Step H w ρ H'' w'' ρ'' := by
  refine ⟨fun a b e => k.map _ _ (h.map _ _ e), fun b hb hn => ?_, fun a x b e1 e2 => ?_, Nat.le_trans h.size k.size, fun b arr t fr e => ?_, k.os.trans h.os, k.tape.trans h.tape, k.output.trans h.output⟩
  · have h1 := h.same b hb hn
    refine (k.same b (Nat.lt_of_lt_of_le hb h.size) fun a x e1 e2 => ?_).trans h1
    rcases h.mine a x b e1 e2 with ⟨k0, x0, e3, e4⟩ | hge
    · exact hn k0 x0 e3 e4
    · omega
  · rcases k.mine a x b e1 e2 with ⟨k0, x0, e3, e4⟩ | hge
    · exact h.mine k0 x0 b e3 e4
    · exact .inr (Nat.le_trans h.size hge)
  · obtain ⟨a1, t1, f1, e1, s1⟩ := h.row b arr t fr e
    obtain ⟨a2, t2, f2, e2, s2⟩ := k.row b a1 t1 f1 e1
    exact ⟨a2, t2, f2, e2, s2.trans s1⟩
theorem Step.ext {H w ρ H' w' ρ'} (h : Step H w ρ H' w' ρ') (B : Nat → Prop) : Ext w (own B ρ H) ρ w' (own B ρ' H') ρ' := by
  refine ⟨h.map, fun b hb hO => ⟨?_, .of (h.same b hb fun k x e1 e2 => hO (.inr ⟨k, x, e1, e2⟩))⟩, h.size, h.row⟩
  rintro (hB | ⟨k, x, e1, e2⟩)
  · exact hO (.inl hB)
  · rcases h.mine k x b e1 e2 with ⟨k0, x0, e3, e4⟩ | hge
    · exact hO (.inr ⟨k0, x0, e3, e4⟩)
    · omega
/-- A draw. -/
theorem Step.drewN (H : Hp) (w : World) (ρ : Nat → Option Nat) (n : Nat) : Step H w ρ H { w with drawn := n } ρ :=
  ⟨fun _ _ h => h, fun _ _ _ => rfl, fun k x b h e => .inl ⟨k, x, h, e⟩, Nat.le_refl _, fun _ _ _ _ h => ⟨_, _, _, h, rfl⟩, rfl, rfl, rfl⟩
theorem HRep.mono {w O ρ H w' O' ρ'} (h : HRep w O ρ H) (hx : Ext w O ρ w' O' ρ') (hs : ∀ k x b, H k = some x → ρ k = some b → w'.heap[b]? = w.heap[b]?) (hi : ∀ k x b, H k = some x → ρ' k = some b → ρ k = some b) : HRep w' O' ρ' H := by
  refine ⟨fun k x e => ?_, fun k k' x x' b e1 e2 e3 e4 => h.inj k k' x x' b e1 e2 (hi _ _ _ e1 e3) (hi _ _ _ e2 e4)⟩
  obtain ⟨b, arr, h1, h2, h3, h4, h5⟩ := h.row k x e
  exact ⟨b, arr, hx.map _ _ h1, (hs k x b e h1).trans h2, h3, h4, fun j y u hy hu => (h5 j y u hy hu).mono hx⟩

/-- A state of an abstract run: slots, heap, the next name, the number of slots. -/
structure St where
  s : Nat → V
  H : Hp
  n : Nat
  N : Nat
  m : Nat := 0
  q : Bool := false
def upS (s : Nat → V) (t : Nat) (v : V) : Nat → V := fun j => if j = t then v else s j
def cst : Value → V
  | .agg cs => .agg (cs.toList.map .raw)
  | v => .raw v
def St.ev (σ : St) : Operand → V
  | .tmp t => σ.s t
  | .const v => cst v
  | .global g => .raw (.pointer (some ⟨g, 0, none⟩))
  | .func f => .clo (.func f) [] []

/-- The marks that loops over functions leave behind: blocks of deferred calls that hold none. -/
def Marks (W w : World) (ds : List Deferred) : Prop :=
  ∃ l : List Nat, ds = l.map (fun D => { target := .collected D, args := #[] }) ∧ l.Nodup ∧ ∀ D ∈ l, W.heap.size ≤ D ∧ w.heap[D]? = some (Obj.deferred (some []))
theorem Marks.nil (W w : World) : Marks W w [] := ⟨[], rfl, List.nodup_nil, fun _ h => by cases h⟩
theorem Marks.keep {W w w' : World} {ds : List Deferred} (h : Marks W w ds) (hk : ∀ D : Nat, w.heap[D]? = some (Obj.deferred (some [])) → w'.heap[D]? = w.heap[D]?) : Marks W w' ds := by
  obtain ⟨l, h1, h2, h3⟩ := h
  exact ⟨l, h1, h2, fun D hD => ⟨(h3 D hD).1, (hk D (h3 D hD).2).trans (h3 D hD).2⟩⟩
theorem Marks.step {W w w' : World} {ds : List Deferred} {O : Nat → Prop} {ρ ρ' : Nat → Option Nat} {H H' : Hp} (h : Marks W w ds) (hH : HRep w O ρ H) (hs : Step H w ρ H' w' ρ') : Marks W w' ds :=
  Marks.keep h fun D hD => hs.same D (Array.getElem?_eq_some_iff.1 hD).1 fun k x e1 e2 => by
    obtain ⟨b, arr, h1, h2, _⟩ := hH.row k x e1
    rw [e2] at h1; injection h1 with h1; subst h1
    rw [hD] at h2; cases h2
structure Sim (B : Nat → Prop) (A : Nat → Option Nat) (W : World) (σ : St) (a : Act) (w : World) (ρ : Nat → Option Nat) : Prop where
  defers : σ.q = false → a.defers = []
  size : a.tmps.size = σ.N
  slots : ∀ t, RepV w (own B ρ σ.H) ρ (σ.s t) (a.tmps.getD t undef)
  heap : HRep w (own B ρ σ.H) ρ σ.H
  fresh : ∀ k, σ.n ≤ k → ρ k = none
  mine : ∀ k x b, σ.H k = some x → ρ k = some b → (∃ j, A j = some b) ∨ W.heap.size ≤ b
  os : w.os = W.os
  tape : w.tape = W.tape
  output : w.output = W.output
  grow : W.heap.size ≤ w.heap.size
  same : ∀ b, b < W.heap.size → (∀ j, A j ≠ some b) → w.heap[b]? = W.heap[b]?
  row : ∀ (b : Nat) (arr : Array Value) (t : TypeId) (fr : Nat × Nat), W.heap[b]? = some (.cells arr t fr) → ∃ (arr' : Array Value) (t' : TypeId) (fr' : Nat × Nat), w.heap[b]? = some (.cells arr' t' fr') ∧ arr'.size = arr.size
  pins : ∀ k b, A (2 * k) = some b → k < σ.m ∧ ρ k = some b
  marks : Marks W w a.defers

theorem Sim.below {B W σ a w ρ} (h : Sim B (fun _ => none) W σ a w ρ) : Below W.heap.size W w :=
  ⟨h.os, h.tape, h.output, h.grow, fun b hb => h.same b hb fun _ e => by cases e⟩
theorem Sim.live {B A W σ a w ρ} (h : Sim B A W σ a w ρ) {k x} (e : σ.H k = some x) : ∃ b, ρ k = some b ∧ b < w.heap.size := by
  obtain ⟨b, arr, h1, h2, _⟩ := h.heap.row k x e
  exact ⟨b, h1, (Array.getElem?_eq_some_iff.1 h2).1⟩
theorem Sim.named {B A W σ a w ρ} (h : Sim B A W σ a w ρ) {k x} (e : σ.H k = some x) : k < σ.n := by
  obtain ⟨b, h1, _⟩ := h.live e
  rcases Nat.lt_or_ge k σ.n with hl | hg
  · exact hl
  · rw [h.fresh k hg] at h1; cases h1
theorem cst_rep (w O ρ) (v : Value) : RepV w O ρ (cst v) v := by
  cases v with
  | agg cs =>
    have e : ∀ l : List Value, V.atomsL (l.map .raw) = l.map .raw := by
      intro l
      induction l with
      | nil => rfl
      | cons x l ih => simp [V.atomsL, V.atoms, ih]
    refine (RepW.agg_iff (by rfl)).2 ⟨cs, rfl, ?_, ?_⟩
    · show (V.atomsL _).length = _
      rw [e]; simp
    · intro i y u hy hu
      have hy' : (V.atomsL (cs.toList.map .raw))[i]? = some y := hy
      rw [e] at hy'
      simp [hu] at hy'
      subst hy'
      exact .raw _ _
  | _ => exact RepW.raw rfl
theorem Sim.ev {B A W σ a w ρ} (h : Sim B A W σ a w ρ) (x : Operand) : RepV w (own B ρ σ.H) ρ (σ.ev x) (a.eval x) := by
  cases x with
  | tmp t => exact h.slots t
  | const v => exact cst_rep _ _ _ v
  | global g => exact RepW.raw rfl
  | func f =>
    refine RepW.of_atom ?_ rfl rfl
    exact .clo _ _ _ _ _ _ rfl rfl (by simp) (by simp) (by simp) (by simp)

/-- A slot is written, and a step is taken. -/
def St.put (σ : St) (dst : Option Tmp) (v : V) (ws : List (Nat × Option Blk)) : St :=
  { s := match dst with | some d => upS σ.s d v | none => σ.s, H := σ.H.puts ws, n := σ.n + 1, N := σ.N, m := σ.m, q := σ.q }
theorem Sim.putG {B A W σ a w ρ} (h : Sim B A W σ a w ρ) {n' : Nat} {dst : Option Tmp} (hd : ∀ d, dst = some d → d < σ.N) {v : Value} {x : V} {ws w' ρ'}
    (hs : Step σ.H w ρ (σ.H.puts ws) w' ρ') (hH : HRep w' (own B ρ' (σ.H.puts ws)) ρ' (σ.H.puts ws)) (hf : ∀ k, n' ≤ k → ρ' k = none)
    (hx : RepV w' (own B ρ' (σ.H.puts ws)) ρ' x v) : Sim B A W { σ.put dst x ws with n := n' } (a.put dst v) w' ρ' := by
  have hext := hs.ext B
  refine ⟨?_, ?_, fun t => ?_, hH, hf, fun k y b e1 e2 => ?_, hs.os.trans h.os, hs.tape.trans h.tape, hs.output.trans h.output, Nat.le_trans h.grow hs.size, fun b hb hA => ?_, fun b arr t fr e => ?_, fun k b e => ⟨(h.pins k b e).1, hs.map _ _ (h.pins k b e).2⟩, ?_⟩
  · cases dst <;> exact h.defers
  · cases dst <;> simp [Act.put, St.put, h.size]
  · cases dst with
    | none => exact (h.slots t).mono hext
    | some d =>
      have hlt : d < a.tmps.size := by rw [h.size]; exact hd d rfl
      by_cases e : t = d
      · subst e
        simp only [St.put, upS, if_true, Act.put]
        rw [Array.getD_eq_getD_getElem?, Array.getElem?_setIfInBounds_self_of_lt hlt]
        exact hx
      · simp only [St.put, upS, if_neg e, Act.put]
        rw [Array.getD_eq_getD_getElem?, Array.getElem?_setIfInBounds_ne (fun e' => e e'.symm), ← Array.getD_eq_getD_getElem?]
        exact (h.slots t).mono hext
  · rcases hs.mine k y b e1 e2 with ⟨k0, x0, e3, e4⟩ | hge
    · exact h.mine k0 x0 b e3 e4
    · exact .inr (Nat.le_trans h.grow hge)
  · refine (hs.same b (Nat.lt_of_lt_of_le hb h.grow) fun k y e1 e2 => ?_).trans (h.same b hb hA)
    rcases h.mine k y b e1 e2 with h1 | h1
    · obtain ⟨j, h1⟩ := h1
      exact hA j h1
    · omega
  · obtain ⟨a1, t1, f1, e1, s1⟩ := h.row b arr t fr e
    obtain ⟨a2, t2, f2, e2, s2⟩ := hs.row b a1 t1 f1 e1
    exact ⟨a2, t2, f2, e2, s2.trans s1⟩
  · cases dst <;> exact Marks.step h.marks h.heap hs

theorem Sim.put {B A W σ a w ρ} (h : Sim B A W σ a w ρ) {dst : Option Tmp} (hd : ∀ d, dst = some d → d < σ.N) {v : Value} {x : V} {ws w' ρ'}
    (hs : Step σ.H w ρ (σ.H.puts ws) w' ρ') (hH : HRep w' (own B ρ' (σ.H.puts ws)) ρ' (σ.H.puts ws)) (hf : ∀ k, k ≠ σ.n → ρ k = none → ρ' k = none)
    (hx : RepV w' (own B ρ' (σ.H.puts ws)) ρ' x v) : Sim B A W (σ.put dst x ws) (a.put dst v) w' ρ' :=
  h.putG (n' := σ.n + 1) hd hs hH (fun k hk => hf k (by omega) (h.fresh k (by omega))) hx

/-- A contract of a function that owns nothing of its caller's: for every reading of the arguments it returns the result, and leaves alone all that was there. -/
def PCall (P : Program) (f : FuncId) (args : List V) (r : V) : Prop :=
  ∀ (B : Nat → Prop) (w : World) (vs : List Value), vs.length = args.length → (∀ (j : Nat) (x : V) (v : Value), args[j]? = some x → vs[j]? = some v → RepW w B (fun _ => none) x v) → (∀ b, B b → b < w.heap.size) →
    Calls P f vs.toArray w fun e w' => ∃ v, e = .returned v ∧ RepV w' B (fun _ => none) r v ∧ Below w.heap.size w w'
end Go.Proofs.YtfbogelmgdojgaaGreat

/- Abstract operations on memory: what they give, and that the program's operations do so. -/
namespace Go.Proofs.YtfbogelmgdojgaaGreat
set_option linter.unusedSimpArgs false
set_option linter.unusedVariables false
open Go.RowKit

/-- What an operation gives: a value, and what it does to the abstract heap. -/
def OpOk (P : Program) (B : Nat → Prop) (H : Hp) (w : World) (ρ : Nat → Option Nat) (n : Nat) (a : Act) (o : Oper) (x : V) (ws : List (Nat × Option Blk)) : Prop :=
  ∀ (next : Act → World → Prop) (Q : Exit → Act → World → Prop),
    (∀ v w' ρ', Step H w ρ (H.puts ws) w' ρ' → HRep w' (own B ρ' (H.puts ws)) ρ' (H.puts ws) → (∀ k, k ≠ n → ρ k = none → ρ' k = none) → RepV w' (own B ρ' (H.puts ws)) ρ' x v → next (a.put o.dst v) w') → o.wp P a w next Q

section
variable {P : Program} {B : Nat → Prop} {H : Hp} {w : World} {ρ : Nat → Option Nat} {n : Nat} {a : Act} {o : Oper} {x : V}
theorem OpOk.value {v : Value} (hH : HRep w (own B ρ H) ρ H) (hf : ρ n = none) (hr : (execOp a.eval o).run P w = .ok (.value v) w) (hx : RepV w (own B ρ H) ρ x v) : OpOk P B H w ρ n a o x [] := by
  intro next Q h
  unfold Oper.wp
  rw [hr]
  exact h v w ρ (Step.refl _ _ _) hH (fun _ _ h => h) hx

/-- A new name. -/
def upR (ρ : Nat → Option Nat) (n b : Nat) : Nat → Option Nat := fun k => if k = n then some b else ρ k
theorem upR_old {b : Nat} (hn : ρ n = none) {k c : Nat} (h : ρ k = some c) : upR ρ n b k = some c := by
  unfold upR
  by_cases e : k = n
  · subst e; rw [hn] at h; cases h
  · rw [if_neg e]; exact h
theorem name_none {O} (hH : HRep w O ρ H) (hn : ρ n = none) : H n = none := by
  cases h : H n with
  | none => rfl
  | some x => obtain ⟨b, arr, h1, _⟩ := hH.row n x h; rw [hn] at h1; cases h1
theorem HRep.lt {O} (hH : HRep w O ρ H) {k x b} (h : H k = some x) (e : ρ k = some b) : b < w.heap.size := by
  obtain ⟨b', arr, h1, h2, _⟩ := hH.row k x h
  rw [e] at h1; injection h1 with h1; subst h1
  exact (Array.getElem?_eq_some_iff.1 h2).1
theorem step_push {w' : World} {obj : Obj} {y : Option Blk} (hH : HRep w (own B ρ H) ρ H) (hf : ρ n = none) (h1 : w'.heap = w.heap.push obj) (h2 : w'.os = w.os) (h3 : w'.tape = w.tape) (h4 : w'.output = w.output) :
    Step H w ρ (H.up n y) w' (upR ρ n w.heap.size) := by
  have old : ∀ b, b < w.heap.size → w'.heap[b]? = w.heap[b]? := fun b hb => by
    rw [h1, Array.getElem?_push, if_neg (by omega)]
  refine ⟨fun k b e => upR_old (hf) e, fun b hb _ => old b hb, fun k x b e1 e2 => ?_, by rw [h1]; simp, fun b arr t fr e => ⟨arr, t, fr, by rw [old b (Array.getElem?_eq_some_iff.1 e).1]; exact e, rfl⟩, h2, h3, h4⟩
  by_cases e : k = n
  · subst e
    simp only [upR, if_true] at e2
    injection e2 with e2
    exact .inr (by omega)
  · simp only [Hp.up, if_neg e] at e1
    simp only [upR, if_neg e] at e2
    exact .inl ⟨k, x, e1, e2⟩
theorem hrep_push {w' : World} {arr : Array Value} {t : TypeId} {e : Nat} {l : List V} (hH : HRep w (own B ρ H) ρ H) (hf : ρ n = none) (h1 : w'.heap = w.heap.push (.cells arr t)) (h2 : w'.os = w.os) (h3 : w'.tape = w.tape) (h4 : w'.output = w.output)
    (hw : ∀ y ∈ l, y.wid = e) (hl : (V.atomsL l).length ≤ arr.size) (hr : ∀ (j : Nat) (y : V) (u : Value), (V.atomsL l)[j]? = some y → arr[j]? = some u → RepA w (own B ρ H) ρ y u) :
    HRep w' (own B (upR ρ n w.heap.size) (H.up n (some ⟨t, e, l⟩))) (upR ρ n w.heap.size) (H.up n (some ⟨t, e, l⟩)) := by
  have hst := step_push (y := some ⟨t, e, l⟩) hH hf h1 h2 h3 h4
  have hx := hst.ext B
  refine ⟨fun k x hk => ?_, fun k k' x x' b e1 e2 e3 e4 => ?_⟩
  · by_cases ek : k = n
    · subst ek
      simp only [Hp.up, if_true, Option.some.injEq] at hk
      subst hk
      refine ⟨w.heap.size, arr, by simp [upR], by rw [h1]; simp, hw, hl, fun j y u hy hu => (hr j y u hy hu).mono hx⟩
    · simp only [Hp.up, if_neg ek] at hk
      obtain ⟨b, ar, g1, g2, g3, g4, g5⟩ := hH.row k x hk
      refine ⟨b, ar, upR_old (hf) g1, ?_, g3, g4, fun j y u hy hu => (g5 j y u hy hu).mono hx⟩
      rw [h1, Array.getElem?_push, if_neg (by have := (Array.getElem?_eq_some_iff.1 g2).1; omega)]
      exact g2
  · by_cases ek : k = n <;> by_cases ek' : k' = n
    · rw [ek, ek']
    · subst ek
      simp only [upR, if_true] at e3
      injection e3 with e3
      simp only [Hp.up, if_neg ek'] at e2
      simp only [upR, if_neg ek'] at e4
      have := hH.lt e2 e4
      omega
    · subst ek'
      simp only [upR, if_true] at e4
      injection e4 with e4
      simp only [Hp.up, if_neg ek] at e1
      simp only [upR, if_neg ek] at e3
      have := hH.lt e1 e3
      omega
    · simp only [Hp.up, if_neg ek] at e1
      simp only [Hp.up, if_neg ek'] at e2
      simp only [upR, if_neg ek] at e3
      simp only [upR, if_neg ek'] at e4
      exact hH.inj k k' x x' b e1 e2 e3 e4
theorem upR_fresh {b : Nat} : ∀ k, k ≠ n → ρ k = none → upR ρ n b k = none := fun k hk h => by
  unfold upR
  rw [if_neg hk]
  exact h
/-- A new row. -/
theorem OpOk.push {v : Value} {w' : World} {arr : Array Value} {t : TypeId} {e : Nat} {l : List V} (hH : HRep w (own B ρ H) ρ H) (hf : ρ n = none) (hr : (execOp a.eval o).run P w = .ok (.value v) w')
    (h1 : w'.heap = w.heap.push (.cells arr t)) (h2 : w'.os = w.os) (h3 : w'.tape = w.tape) (h4 : w'.output = w.output)
    (hw : ∀ y ∈ l, y.wid = e) (hl : (V.atomsL l).length ≤ arr.size) (hc : ∀ (j : Nat) (y : V) (u : Value), (V.atomsL l)[j]? = some y → arr[j]? = some u → RepA w (own B ρ H) ρ y u)
    (hx : ∀ O ρ', ρ' n = some w.heap.size → RepV w' O ρ' x v) : OpOk P B H w ρ n a o x [(n, some ⟨t, e, l⟩)] := by
  intro next Q h
  unfold Oper.wp
  rw [hr]
  exact h v w' (upR ρ n w.heap.size) (step_push hH hf h1 h2 h3 h4) (hrep_push hH hf h1 h2 h3 h4 hw hl hc) upR_fresh (hx _ _ (by simp [upR]))

/-- A row is written. -/
theorem step_row {k b : Nat} {x : Blk} {arr arr' : Array Value} {y : Option Blk} (hH : HRep w (own B ρ H) ρ H) (hk : H k = some x) (hb : ρ k = some b) (ha : w.heap[b]? = some (.cells arr x.t (0, 0))) (hs : arr'.size = arr.size) :
    Step H w ρ (H.up k y) (w.setRow b arr') ρ := by
  refine ⟨fun _ _ e => e, fun c hc hn => setRow_other _ _ _ _ (fun e => hn k x hk (by rw [e]; exact hb)), fun j z c e1 e2 => ?_, by simp [World.setRow], fun c ar t fr e => ?_, rfl, rfl, rfl⟩
  · by_cases e : j = k
    · subst e; exact .inl ⟨j, x, hk, e2⟩
    · simp only [Hp.up, if_neg e] at e1; exact .inl ⟨j, z, e1, e2⟩
  · by_cases e' : c = b
    · subst e'
      rw [ha] at e
      injection e with e
      injection e with e1 e2 e3
      exact ⟨arr', x.t, (0, 0), setRow_heap _ _ _ _ _ _ ha, by rw [hs, e1]⟩
    · exact ⟨ar, t, fr, (setRow_other _ _ _ _ e').trans e, rfl⟩
theorem hrep_row {k b : Nat} {x y : Blk} {arr arr' : Array Value} (hH : HRep w (own B ρ H) ρ H) (hk : H k = some x) (hb : ρ k = some b) (ha : w.heap[b]? = some (.cells arr x.t (0, 0))) (hs : arr'.size = arr.size)
    (ht : y.t = x.t) (hw : ∀ z ∈ y.l, z.wid = y.e) (hl : (V.atomsL y.l).length ≤ arr'.size) (hc : ∀ (j : Nat) (z : V) (u : Value), (V.atomsL y.l)[j]? = some z → arr'[j]? = some u → RepA w (own B ρ H) ρ z u) :
    HRep (w.setRow b arr') (own B ρ (H.up k (some y))) ρ (H.up k (some y)) := by
  have hst := step_row (y := some y) hH hk hb ha hs
  have hx := hst.ext B
  refine ⟨fun j z hj => ?_, fun j j' z z' c e1 e2 e3 e4 => ?_⟩
  · by_cases e : j = k
    · subst e
      simp only [Hp.up, if_true, Option.some.injEq] at hj
      subst hj
      exact ⟨b, arr', hb, by rw [ht]; exact setRow_heap _ _ _ _ _ _ ha, hw, hl, fun i z u hz hu => (hc i z u hz hu).mono hx⟩
    · simp only [Hp.up, if_neg e] at hj
      obtain ⟨c, ar, g1, g2, g3, g4, g5⟩ := hH.row j z hj
      refine ⟨c, ar, g1, (setRow_other _ _ _ _ ?_).trans g2, g3, g4, fun i z u hz hu => (g5 i z u hz hu).mono hx⟩
      intro e'
      subst e'
      exact e (hH.inj j k z x c hj hk g1 hb)
  · have live : ∀ i q, (H.up k (some y)) i = some q → ∃ q', H i = some q' := fun i q hi => by
      by_cases e : i = k
      · subst e; exact ⟨x, hk⟩
      · simp only [Hp.up, if_neg e] at hi; exact ⟨q, hi⟩
    obtain ⟨q, hq⟩ := live j z e1
    obtain ⟨q', hq'⟩ := live j' z' e2
    exact hH.inj j j' q q' c hq hq' e3 e4
theorem OpOk.row {k b : Nat} {x0 y : Blk} {arr arr' : Array Value} {nx : Next} {v : Value} (hH : HRep w (own B ρ H) ρ H) (hf : ρ n = none) (hk : H k = some x0) (hb : ρ k = some b) (ha : w.heap[b]? = some (.cells arr x0.t (0, 0)))
    (hnx : nx = .value v ∨ (nx = .skip ∧ v = undef)) (hr : (execOp a.eval o).run P w = .ok nx (w.setRow b arr')) (hs : arr'.size = arr.size)
    (ht : y.t = x0.t) (hw : ∀ z ∈ y.l, z.wid = y.e) (hl : (V.atomsL y.l).length ≤ arr'.size) (hc : ∀ (j : Nat) (z : V) (u : Value), (V.atomsL y.l)[j]? = some z → arr'[j]? = some u → RepA w (own B ρ H) ρ z u)
    (hx : ∀ w' O, RepV w' O ρ x v) : OpOk P B H w ρ n a o x [(k, some y)] := by
  intro next Q h
  have h1 := h v (w.setRow b arr') ρ (step_row hH hk hb ha hs) (hrep_row hH hk hb ha hs ht hw hl hc) (fun _ _ h => h) (hx _ _)
  unfold Oper.wp
  rw [hr]
  rcases hnx with rfl | ⟨rfl, rfl⟩
  · exact h1
  · exact h1
end

/-- The parts of a value. -/
def V.kids : V → List V
  | .agg l => l
  | .I z => V.atomsI z
  | .Q q => [.I q.num, .I q.den]
  | x => [x]
theorem V.atoms_kids (x : V) : V.atomsL x.kids = x.atoms := by
  cases x <;> simp [V.kids, V.atomsL, V.atoms, V.atomsI]
def pickL (g : V → Nat → Option V) : List V → Nat → Option V
  | [], _ => none
  | c :: cs, off => if off < c.wid then g c off else pickL g cs (off - c.wid)
/-- The struct or array of s cells at a place inside a value. -/
def V.subF : Nat → V → Nat → Nat → Option V
  | 0, _, _, _ => none
  | f + 1, x, off, s => if off = 0 ∧ x.isAgg = true ∧ x.wid = s then some x else pickL (fun c o => V.subF f c o s) x.kids off
def V.sub (x : V) (off s : Nat) : V := (V.subF 4 x off s).getD (.agg ((x.atoms.drop off).take s))

theorem pickL_spec {g : V → Nat → Option V} {s : Nat} (hg : ∀ c o y, g c o = some y → y.isAgg = true ∧ y.atoms = (c.atoms.drop o).take s ∧ o + s ≤ c.wid) : ∀ (l : List V) (off : Nat) (y : V), pickL g l off = some y →
    y.isAgg = true ∧ y.atoms = ((V.atomsL l).drop off).take s ∧ off + s ≤ (V.atomsL l).length
  | [], _, _, h => by simp [pickL] at h
  | c :: cs, off, y, h => by
    unfold pickL at h
    by_cases hlt : off < c.wid
    · rw [if_pos hlt] at h
      obtain ⟨h1, h2, h3⟩ := hg c off y h
      unfold V.wid at hlt h3
      refine ⟨h1, ?_, by simp [V.atomsL]; omega⟩
      rw [h2, V.atomsL, List.drop_append_of_le_length (by omega), List.take_append_of_le_length (by rw [List.length_drop]; omega)]
    · rw [if_neg hlt] at h
      obtain ⟨h1, h2, h3⟩ := pickL_spec hg cs (off - c.wid) y h
      unfold V.wid at hlt h2 h3
      refine ⟨h1, ?_, by simp [V.atomsL]; omega⟩
      rw [h2, V.atomsL, List.drop_append, List.drop_eq_nil_of_le (by omega : c.atoms.length ≤ off), List.nil_append]
theorem V.subF_spec : ∀ (f : Nat) (x : V) (off s : Nat) (y : V), V.subF f x off s = some y → y.isAgg = true ∧ y.atoms = (x.atoms.drop off).take s ∧ off + s ≤ x.wid
  | 0, _, _, _, _, h => by simp [V.subF] at h
  | f + 1, x, off, s, y, h => by
    unfold V.subF at h
    by_cases hc : off = 0 ∧ x.isAgg = true ∧ x.wid = s
    · rw [if_pos hc] at h
      injection h with h
      subst h
      obtain ⟨rfl, h2, rfl⟩ := hc
      exact ⟨h2, by simp [V.wid], by omega⟩
    · rw [if_neg hc] at h
      have := pickL_spec (g := fun c o => V.subF f c o s) (fun c o y hy => V.subF_spec f c o s y hy) x.kids off y h
      rw [V.atoms_kids] at this
      exact this
theorem V.atomsL_flat {l : List V} (h : ∀ y ∈ l, y.isAgg = false) : V.atomsL l = l := by
  induction l with
  | nil => rfl
  | cons x l ih => rw [V.atomsL, V.atoms_single (h x (by simp)), ih fun y hy => h y (by simp [hy])]; rfl
mutual
theorem V.atoms_flat : ∀ (x : V), ∀ y ∈ x.atoms, y.isAgg = false
  | .agg l, y, h => V.atomsL_flat' l y h
  | .I z, y, h => by simp [V.atoms, V.atomsI] at h; rcases h with rfl | rfl <;> rfl
  | .Q q, y, h => by simp [V.atoms, V.atomsI] at h; rcases h with h | h | h | h <;> subst h <;> rfl
  | .any, y, h => by simp [V.atoms] at h; subst h; rfl
  | .raw v, y, h => by simp [V.atoms] at h; subst h; rfl
  | .tup l, y, h => by simp [V.atoms] at h; subst h; rfl
  | .lst l, y, h => by simp [V.atoms] at h; subst h; rfl
  | .emp, y, h => by simp [V.atoms] at h; subst h; rfl
  | .ptr .., y, h => by simp [V.atoms] at h; subst h; rfl
  | .sl .., y, h => by simp [V.atoms] at h; subst h; rfl
  | .pel x, y, h => by simp [V.atoms] at h; subst h; rfl
  | .clo .., y, h => by simp [V.atoms] at h; subst h; rfl
theorem V.atomsL_flat' : ∀ (l : List V), ∀ y ∈ V.atomsL l, y.isAgg = false
  | [], y, h => by simp [V.atomsL] at h
  | x :: l, y, h => by
    simp only [V.atomsL, List.mem_append] at h
    rcases h with h | h
    · exact V.atoms_flat x y h
    · exact V.atomsL_flat' l y h
end
theorem V.sub_spec (x : V) (off s : Nat) : (V.sub x off s).isAgg = true ∧ (V.sub x off s).atoms = (x.atoms.drop off).take s := by
  unfold V.sub
  cases h : V.subF 4 x off s with
  | some y => obtain ⟨h1, h2, _⟩ := V.subF_spec 4 x off s y h; exact ⟨h1, h2⟩
  | none =>
    refine ⟨rfl, ?_⟩
    show V.atomsL _ = _
    exact V.atomsL_flat fun y hy => V.atoms_flat x y (List.mem_of_mem_drop (List.mem_of_mem_take hy))

def putL (g : V → Nat → Option V) : List V → Nat → Option (List V)
  | [], _ => none
  | c :: cs, off => if off < c.wid then (g c off).map (· :: cs) else (putL g cs (off - c.wid)).map (c :: ·)
def V.putF : Nat → V → Nat → V → Option V
  | 0, _, _, _ => none
  | f + 1, x, off, y => if off = 0 ∧ x.wid = y.wid then some y else if x.isAgg = true then (putL (fun c o => V.putF f c o y) x.kids off).map .agg else none
/-- A part of a value is replaced. -/
def V.put (x : V) (off : Nat) (y : V) : V := (V.putF 4 x off y).getD (.agg (x.atoms.take off ++ y.atoms ++ x.atoms.drop (off + y.wid)))
theorem putL_spec {g : V → Nat → Option V} {y : V} (hg : ∀ c o z, g c o = some z → z.atoms = c.atoms.take o ++ y.atoms ++ c.atoms.drop (o + y.wid) ∧ o + y.wid ≤ c.wid) : ∀ (l : List V) (off : Nat) (m : List V), putL g l off = some m →
    V.atomsL m = (V.atomsL l).take off ++ y.atoms ++ (V.atomsL l).drop (off + y.wid) ∧ off + y.wid ≤ (V.atomsL l).length
  | [], _, _, h => by simp [putL] at h
  | c :: cs, off, m, h => by
    unfold putL at h
    by_cases hlt : off < c.wid
    · rw [if_pos hlt] at h
      cases hz : g c off with
      | none => rw [hz] at h; simp at h
      | some z =>
        rw [hz] at h
        simp only [Option.map_some, Option.some.injEq] at h
        subst h
        obtain ⟨h2, h3⟩ := hg c off z hz
        unfold V.wid at hlt h3 h2 ⊢
        refine ⟨?_, by simp [V.atomsL]; omega⟩
        simp only [V.atomsL]
        rw [h2, List.take_append_of_le_length (by omega), List.drop_append_of_le_length (by omega)]
        simp only [List.append_assoc]
    · rw [if_neg hlt] at h
      cases hz : putL g cs (off - c.wid) with
      | none => rw [hz] at h; simp at h
      | some z =>
        rw [hz] at h
        simp only [Option.map_some, Option.some.injEq] at h
        subst h
        obtain ⟨h2, h3⟩ := putL_spec hg cs (off - c.wid) z hz
        unfold V.wid at hlt h3 h2 ⊢
        refine ⟨?_, by simp [V.atomsL]; omega⟩
        simp only [V.atomsL]
        rw [h2, List.take_append, List.take_of_length_le (by omega : c.atoms.length ≤ off), List.drop_append, List.drop_eq_nil_of_le (by omega : c.atoms.length ≤ off + y.atoms.length)]
        simp only [List.nil_append, List.append_assoc]
        rw [show off + y.atoms.length - c.atoms.length = off - c.atoms.length + y.atoms.length from by omega]
theorem V.putF_spec : ∀ (f : Nat) (x : V) (off : Nat) (y z : V), V.putF f x off y = some z → z.atoms = x.atoms.take off ++ y.atoms ++ x.atoms.drop (off + y.wid) ∧ off + y.wid ≤ x.wid
  | 0, _, _, _, _, h => by simp [V.putF] at h
  | f + 1, x, off, y, z, h => by
    unfold V.putF at h
    by_cases hc : off = 0 ∧ x.wid = y.wid
    · rw [if_pos hc] at h
      injection h with h
      subst h
      obtain ⟨rfl, h2⟩ := hc
      unfold V.wid at *
      exact ⟨by simp [← h2], by omega⟩
    · rw [if_neg hc] at h
      by_cases ha : x.isAgg = true
      · rw [if_pos ha] at h
        cases hm : putL (fun c o => V.putF f c o y) x.kids off with
        | none => rw [hm] at h; simp at h
        | some m =>
          rw [hm] at h
          simp only [Option.map_some, Option.some.injEq] at h
          subst h
          have := putL_spec (g := fun c o => V.putF f c o y) (fun c o z hz => V.putF_spec f c o y z hz) x.kids off m hm
          rw [V.atoms_kids] at this
          exact this
      · rw [if_neg ha] at h; cases h
theorem V.put_atoms (x : V) (off : Nat) (y : V) (h : off + y.wid ≤ x.wid) : (V.put x off y).atoms = x.atoms.take off ++ y.atoms ++ x.atoms.drop (off + y.wid) := by
  unfold V.put
  cases hz : V.putF 4 x off y with
  | some z => exact (V.putF_spec 4 x off y z hz).1
  | none =>
    show V.atomsL _ = _
    refine V.atomsL_flat fun z hz => ?_
    simp only [List.mem_append] at hz
    rcases hz with (hz | hz) | hz
    · exact V.atoms_flat x z (List.mem_of_mem_take hz)
    · exact V.atoms_flat y z hz
    · exact V.atoms_flat x z (List.mem_of_mem_drop hz)
theorem V.put_wid (x : V) (off : Nat) (y : V) (h : off + y.wid ≤ x.wid) : (V.put x off y).wid = x.wid := by
  unfold V.wid at *
  rw [V.put_atoms x off y h]
  simp [V.wid]
  omega
end Go.Proofs.YtfbogelmgdojgaaGreat
