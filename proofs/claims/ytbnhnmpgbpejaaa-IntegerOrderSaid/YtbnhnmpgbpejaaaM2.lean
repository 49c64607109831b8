/- Limbs of a given length. No program in sight. -/
import Derived.Test.YtbnhnmpgbpejaaaM1
namespace Go.Proofs.Ytbnhnmpgbpejaaa
set_option linter.unusedSimpArgs false
set_option linter.unusedVariables false
open Go.RowKit

/-- The lowest limbs of a number. -/
def nl : Nat → Nat → List Nat
  | 0, _ => []
  | n + 1, v => v % 4294967296 :: nl n (v / 4294967296)
theorem nl_length (n v : Nat) : (nl n v).length = n := by
  induction n generalizing v with
  | zero => rfl
  | succ n ih => simp [nl, ih]
theorem nl_lim (n v : Nat) : Lim (nl n v) := by
  induction n generalizing v with
  | zero => exact Lim.nil
  | succ n ih => exact Lim.cons (Nat.mod_lt _ (by decide)) (ih _)
theorem lv_nl (n v : Nat) (h : v < 4294967296 ^ n) : lv (nl n v) = v := by
  induction n generalizing v with
  | zero => simp at h; subst h; rfl
  | succ n ih =>
    rw [nl, lv_cons, ih _ (by rw [Nat.pow_succ] at h; exact Nat.div_lt_of_lt_mul (by rw [Nat.mul_comm]; exact h))]
    omega
theorem nl_of {l : List Nat} {n v : Nat} (h : Lim l) (hn : l.length = n) (hv : lv l = v) : l = nl n v := by
  induction l generalizing n v with
  | nil => subst hn; rfl
  | cons x l ih =>
    cases n with
    | zero => simp at hn
    | succ n =>
      rw [lv_cons] at hv
      have hx := h.head
      rw [nl, ← ih h.tail (by simpa using hn) (v := v / 4294967296) (by omega)]
      congr 1
      omega
theorem pow_pos' (n : Nat) : 0 < 4294967296 ^ n := Nat.pow_pos (by decide)
theorem pow_le' {m n : Nat} (h : m ≤ n) : 4294967296 ^ m ≤ 4294967296 ^ n := Nat.pow_le_pow_right (by decide) h
theorem lv_lt_le {l : List Nat} (h : Lim l) {n : Nat} (hn : l.length ≤ n) : lv l < 4294967296 ^ n := Nat.lt_of_lt_of_le (lv_lt h) (pow_le' hn)
theorem sum_lt {l m : List Nat} (hl : Lim l) (hm : Lim m) {n : Nat} (h1 : l.length ≤ n) (h2 : m.length ≤ n) : lv l + lv m < 4294967296 ^ (n + 1) := by
  have := lv_lt_le hl h1
  have := lv_lt_le hm h2
  rw [Nat.pow_succ]; omega
theorem prod_lt {l m : List Nat} (hl : Lim l) (hm : Lim m) : lv l * lv m < 4294967296 ^ (l.length + m.length) := by
  rw [Nat.pow_add]
  exact Nat.mul_lt_mul'' (lv_lt hl) (lv_lt hm)
end Go.Proofs.Ytbnhnmpgbpejaaa
