/- Plain arithmetic for the long division. No program in sight. -/
import Derived.Test.YtbnhnmpgbpejaaaM2
namespace Go.Proofs.Ytbnhnmpgbpejaaa
set_option linter.unusedSimpArgs false
set_option linter.unusedVariables false
open Go.RowKit

/-- The guess is too large. -/
theorem est_dec {B P v1 v2 v' top u2 w' g rest : Nat} (hw : w' < P) (h : g * v1 + rest = top) (hc : rest * B + u2 < g * v2) :
    (top * B + u2) * P + w' < g * ((v1 * B + v2) * P + v') := by
  have e1 : g * (v1 * B + v2) = g * v1 * B + g * v2 := by rw [Nat.mul_add, Nat.mul_assoc]
  have e2 : top * B = g * v1 * B + rest * B := by rw [← h, Nat.add_mul]
  have e3 : top * B + u2 + 1 ≤ g * (v1 * B + v2) := by omega
  have e4 := Nat.mul_le_mul_right P e3
  have e5 : g * ((v1 * B + v2) * P + v') = g * (v1 * B + v2) * P + g * v' := by rw [Nat.mul_add, Nat.mul_assoc]
  have e6 : (top * B + u2 + 1) * P = (top * B + u2) * P + P := by rw [Nat.add_mul _ 1, Nat.one_mul]
  have e7 : 0 ≤ g * v' := Nat.zero_le _
  omega
/-- The guess is at most one too large. -/
theorem est_fin {B P v1 v2 v' top u2 w' g rest : Nat} (hv1 : 1 ≤ v1) (hv' : v' < P) (hg : g ≤ B) (h : g * v1 + rest = top) (hc : g * v2 ≤ rest * B + u2) :
    g * ((v1 * B + v2) * P + v') ≤ (top * B + u2) * P + w' + ((v1 * B + v2) * P + v') := by
  have e1 : g * (v1 * B + v2) = g * v1 * B + g * v2 := by rw [Nat.mul_add, Nat.mul_assoc]
  have e2 : top * B = g * v1 * B + rest * B := by rw [← h, Nat.add_mul]
  have e3 : g * (v1 * B + v2) ≤ top * B + u2 := by omega
  have e4 := Nat.mul_le_mul_right P e3
  have e5 : g * ((v1 * B + v2) * P + v') = g * (v1 * B + v2) * P + g * v' := by rw [Nat.mul_add, Nat.mul_assoc]
  have e6 : g * v' ≤ B * P := Nat.mul_le_mul hg (Nat.le_of_lt hv')
  have e7 : B * P ≤ (v1 * B + v2) * P := by
    refine Nat.mul_le_mul_right P ?_
    have : 1 * B ≤ v1 * B := Nat.mul_le_mul_right B hv1
    omega
  omega
/-- The guess, once the rest is large. -/
theorem est_big {B v2 u2 g rest : Nat} (hg : g ≤ B) (hv2 : v2 < B) (hr : B ≤ rest) : g * v2 ≤ rest * B + u2 := by
  have h1 : g * v2 ≤ B * B := Nat.mul_le_mul hg (Nat.le_of_lt hv2)
  have h2 : B * B ≤ rest * B := Nat.mul_le_mul_right B hr
  omega
/-- One limb of the difference. -/
theorem ms_step {P g c b ul vl nl' u y low c' d b' : Nat} (h : nl' + g * vl = ul + P * (c + b)) (ht : c + g * y = low + 4294967296 * c') (hd : d + low + b = u + 4294967296 * b') :
    nl' + P * d + g * (vl + P * y) = ul + P * u + P * 4294967296 * (c' + b') := by
  have e1 : g * (vl + P * y) = g * vl + P * (g * y) := by rw [Nat.mul_add, Nat.mul_left_comm]
  have e2 : P * (c + g * y) = P * low + P * 4294967296 * c' := by rw [ht, Nat.mul_add, Nat.mul_assoc]
  have e3 : P * (d + low + b) = P * u + P * 4294967296 * b' := by rw [hd, Nat.mul_add, Nat.mul_assoc]
  have e4 : P * (c + b) = P * c + P * b := Nat.mul_add _ _ _
  have e5 : P * (c + g * y) = P * c + P * (g * y) := Nat.mul_add _ _ _
  have e6 : P * (d + low + b) = P * d + P * low + P * b := by rw [Nat.mul_add, Nat.mul_add]
  have e7 : P * 4294967296 * (c' + b') = P * 4294967296 * c' + P * 4294967296 * b' := Nat.mul_add _ _ _
  omega
theorem take_lt {l : List Nat} (h : Lim l) (i : Nat) : lv (l.take i) < 4294967296 ^ i :=
  lv_lt_le (h.take i) (by rw [List.length_take]; omega)
theorem pow_pred {n : Nat} (h : 1 ≤ n) : 4294967296 ^ n = 4294967296 ^ (n - 1) * 4294967296 := by
  rw [← Nat.pow_succ]; congr 1; omega
/-- The shifted divisor. -/
theorem norm_top {m : List Nat} (hm : Lim m) {n k : Nat} (hn : n = m.length) (h1 : 1 ≤ n) (hk : k < 32) (h2 : 2147483648 ≤ at0 m (n - 1) * 2 ^ k) (h3 : at0 m (n - 1) * 2 ^ k < 4294967296) :
    lv m * 2 ^ k < 4294967296 ^ n ∧ 4294967296 ^ (n - 1) * 2147483648 ≤ lv m * 2 ^ k := by
  have e1 : lv m = lv (m.take (n - 1)) + 4294967296 ^ (n - 1) * at0 m (n - 1) := by
    have := lv_take_succ' m (n - 1)
    rw [show n - 1 + 1 = n from by omega, hn, List.take_length] at this
    rw [hn]; exact this
  have e2 := take_lt hm (n - 1)
  have hp : (2 : Nat) ^ k * 2 ^ (32 - k) = 4294967296 := by rw [← Nat.pow_add, show k + (32 - k) = 32 from by omega]
  have e3 : (at0 m (n - 1) + 1) * 2 ^ k ≤ 4294967296 := by
    have : at0 m (n - 1) < 2 ^ (32 - k) := by
      rcases Nat.lt_or_ge (at0 m (n - 1)) (2 ^ (32 - k)) with h | h
      · exact h
      · have := Nat.mul_le_mul_right (2 ^ k) h
        rw [Nat.mul_comm (2 ^ (32 - k)), hp] at this
        omega
    have := Nat.mul_le_mul_right (2 ^ k) this
    rw [Nat.mul_comm (2 ^ (32 - k)), hp] at this
    exact this
  constructor
  · have h5 : lv m < 4294967296 ^ (n - 1) * (at0 m (n - 1) + 1) := by rw [Nat.mul_add, Nat.mul_one]; omega
    have h6 := Nat.mul_lt_mul_of_pos_right h5 (Nat.two_pow_pos k)
    have h7 : 4294967296 ^ (n - 1) * (at0 m (n - 1) + 1) * 2 ^ k ≤ 4294967296 ^ n := by
      rw [Nat.mul_assoc, pow_pred h1]; exact Nat.mul_le_mul_left _ e3
    omega
  · rw [e1, Nat.add_mul, Nat.mul_assoc]
    have := Nat.mul_le_mul_left (4294967296 ^ (n - 1)) h2
    omega
/-- The limbs at the top of a number below a power. -/
theorem top_zero {v : List Nat} {n : Nat} (hn : v.length = n + 1) (h : lv v < 4294967296 ^ n) : at0 v n = 0 := by
  have e := lv_take_succ' v n
  rw [← hn, List.take_length] at e
  rcases Nat.eq_zero_or_pos (at0 v n) with h0 | h0
  · exact h0
  · have := Nat.mul_le_mul_left (4294967296 ^ n) h0
    omega
theorem top_half {v : List Nat} {n : Nat} (hv : Lim v) (hn : v.length = n + 1) (h1 : 1 ≤ n) (h : lv v < 4294967296 ^ n) (h2 : 4294967296 ^ (n - 1) * 2147483648 ≤ lv v) : 2147483648 ≤ at0 v (n - 1) := by
  have e := lv_take_succ' v n
  rw [← hn, List.take_length, top_zero hn h, Nat.mul_zero, Nat.add_zero] at e
  have e2 := lv_take_succ' v (n - 1)
  rw [show n - 1 + 1 = n from by omega] at e2
  have e3 := take_lt hv (n - 1)
  rcases Nat.lt_or_ge (at0 v (n - 1)) 2147483648 with h0 | h0
  · have := Nat.mul_le_mul_left (4294967296 ^ (n - 1)) h0
    rw [Nat.succ_eq_add_one, Nat.mul_add, Nat.mul_one] at this
    omega
  · exact h0
/-- At the start what is left is less than the divisor. -/
theorem start_lt {l u : List Nat} (hl : Lim l) (hu : Lim u) {n k D : Nat} (hul : u.length = l.length + 1) (hn : 1 ≤ n) (hnl : n ≤ l.length) (hk : k < 32) (he : lv u = lv l * 2 ^ k) (hD : 4294967296 ^ (n - 1) * 2147483648 ≤ D) :
    lv (u.drop (l.length + 1 - n)) < D := by
  have e1 := lv_take_drop u (l.length + 1 - n) (by omega)
  have e2 := lv_lt hl
  have hp : (2 : Nat) ^ k ≤ 2147483648 := by
    have : (2 : Nat) ^ k ≤ 2 ^ 31 := Nat.pow_le_pow_right (by decide) (by omega)
    have e : (2 : Nat) ^ 31 = 2147483648 := by decide
    omega
  have e3 : lv u < 4294967296 ^ l.length * 2147483648 := by
    rw [he]
    exact Nat.lt_of_lt_of_le (Nat.mul_lt_mul_of_pos_right e2 (Nat.two_pow_pos k)) (Nat.mul_le_mul_left _ hp)
  have e4 : 4294967296 ^ l.length * 2147483648 = 4294967296 ^ (l.length + 1 - n) * (4294967296 ^ (n - 1) * 2147483648) := by
    rw [← Nat.mul_assoc, ← Nat.pow_add]; congr 2; omega
  have e5 : 4294967296 ^ (l.length + 1 - n) * lv (u.drop (l.length + 1 - n)) < 4294967296 ^ (l.length + 1 - n) * (4294967296 ^ (n - 1) * 2147483648) := by omega
  have := Nat.lt_of_mul_lt_mul_left e5
  omega
end Go.Proofs.Ytbnhnmpgbpejaaa
