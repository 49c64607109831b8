/- Plain arithmetic for the integers. No program in sight. -/
import Derived.Test.YtbnhnmpgbpejaaaDec
import Derived.Test.YtbnhnmpgbpejaaaB1
import Derived.Lib.BitFns
import Derived.BigQuiet
import Derived.Deep.QuietTactic
namespace Go.Proofs.Ytbnhnmpgbpejaaa
set_option linter.unusedSimpArgs false
set_option linter.unusedVariables false
open Go.RowKit

theorem sv_true (l : List Nat) : sv true l = -(lv l : Int) := rfl
theorem sv_false (l : List Nat) : sv false l = lv l := rfl
theorem sv_neg_iff {s : Bool} {l : List Nat} (hl : Canon l) (hs : s = true → l ≠ []) : s = decide (sv s l < 0) := by
  cases s
  · rw [sv_false]; simp
  · have := lv_pos hl (hs rfl); rw [sv_true]; simp; omega
theorem sv_zero_iff {s : Bool} {l : List Nat} (hl : Canon l) : sv s l = 0 ↔ l = [] := sv_zero hl
def cmpI (a b : Int) : Int := if a < b then -1 else if a = b then 0 else 1
theorem cmpI_lt {a b : Int} (h : a < b) : cmpI a b = -1 := if_pos h
theorem cmpI_eq {a b : Int} (h : a = b) : cmpI a b = 0 := by unfold cmpI; rw [if_neg (by omega), if_pos h]
theorem cmpI_gt {a b : Int} (h : b < a) : cmpI a b = 1 := by unfold cmpI; rw [if_neg (by omega), if_neg (by omega)]
theorem lv_lt_of_top {l m : List Nat} (hl : Lim l) (hm : Lim m) (n : Nat) (h1 : l.length = n) (h2 : m.length = n) (k : Nat) (hk : k < n)
    (hlt : at0 l k < at0 m k) (hh : ∀ j, k < j → at0 l j = at0 m j) : lv l < lv m := by
  induction l generalizing m n k with
  | nil => simp at h1; omega
  | cons x l ih =>
    cases m with
    | nil => simp at h2; omega
    | cons y m =>
      simp only [List.length_cons] at h1 h2
      rw [lv_cons, lv_cons]
      cases k with
      | zero =>
        simp only [at0_cons_zero] at hlt
        have : l = m := by
          apply List.ext_getElem (by omega)
          intro i hi hi'
          have := hh (i + 1) (by omega)
          simpa [at0, hi, hi'] using this
        subst this; omega
      | succ k =>
        have := ih hl.tail hm.tail (n - 1) (by omega) (by omega) k (by omega) (by simpa [at0_cons_succ] using hlt) (fun j hj => by simpa [at0_cons_succ] using hh (j + 1) (by omega))
        have := hl.head
        have := hm.head
        omega
theorem eq_of_at0 {l m : List Nat} (h : l.length = m.length) (hh : ∀ j, at0 l j = at0 m j) : l = m := by
  apply List.ext_getElem h
  intro i hi hi'
  simpa [at0, hi, hi'] using hh i
theorem lv_lt_of_len {l m : List Nat} (hl : Lim l) (hm : Canon m) (h : l.length < m.length) : lv l < lv m := by
  have h1 := lv_lt hl
  have h2 := pow_dl_le hm (by rintro rfl; simp at h)
  have h3 : 4294967296 ^ l.length ≤ 4294967296 ^ (m.length - 1) := Nat.pow_le_pow_right (by decide) (by omega)
  omega
def sgI (z : Int) : Int := cmpI z 0
theorem sgI_sv {s : Bool} {l : List Nat} (hl : Canon l) (hs : s = true → l ≠ []) : sgI (sv s l) = if l = [] then 0 else if s = true then -1 else 1 := by
  unfold sgI
  by_cases h0 : l = []
  · rw [if_pos h0, cmpI_eq ((sv_zero_iff hl).2 h0)]
  · have := lv_pos hl h0
    rw [if_neg h0]
    cases s
    · rw [sv_false, cmpI_gt (by omega)]; rfl
    · rw [sv_true, cmpI_lt (by omega)]; rfl
theorem sv_flip (s : Bool) (l : List Nat) : sv (!s) l = -sv s l := by cases s <;> simp [sv]
def validB (s : Bool) (l : List Nat) : Bool := if l = [] then !s else decide (at0 l (l.length - 1) ≠ 0)
theorem lv_two (x y : Nat) : lv [x, y] = x + 4294967296 * y := by simp [lv]
theorem lim_two {x y : Nat} (hx : x < 4294967296) (hy : y < 4294967296) : Lim [x, y] := Lim.cons hx (Lim.cons hy Lim.nil)
theorem wraps_u64 (n : Int) (h₀ : 0 ≤ n) (h₁ : n < 2 ^ 64) : IntKind.u64.wrap n = n := by
  have : (2 : Int) ^ 64 = 18446744073709551616 := by decide
  exact IntWalk.u64_in n (by omega)
theorem or_shift (x y : Int) (hx0 : 0 ≤ x) (hx : x < 4294967296) (hy0 : 0 ≤ y) (hy : y < 4294967296) : bits BinOp.or IntKind.u64 (y * 4294967296) x = y * 4294967296 + x := by
  have e : (2 : Int) ^ 64 = 18446744073709551616 := by decide
  have e' : (2 : Int) ^ 32 = 4294967296 := by decide
  exact bits_join .u64 64 (by decide) wraps_u64 32 _ _ (by omega) (by rw [e']; omega) (by rw [e]; omega) hx0 (by rw [e']; exact hx) (by rw [e]; omega)
theorem w64neg (m : Int) (h0 : 0 ≤ m) (h : m ≤ 9223372036854775808) : wrap64 (-wrap64 m) = -m := by
  rcases Int.lt_or_le m 9223372036854775808 with h1 | h1
  · rw [IntWalk.wrap64_in m (by omega), IntWalk.wrap64_in (-m) (by omega)]
  · have e : m = 9223372036854775808 := by omega
    have e1 : wrap64 9223372036854775808 = -9223372036854775808 := by unfold wrap64; decide
    rw [e, e1]
    show wrap64 9223372036854775808 = -9223372036854775808
    exact e1
def smallB (z : Int) : Bool := decide (-9223372036854775808 ≤ z ∧ z ≤ 9223372036854775807)
def smallV (z : Int) : Int := if -9223372036854775808 ≤ z ∧ z ≤ 9223372036854775807 then z else 0
theorem add_step {P a b c s l m r : Nat} (h : r + P * c = l + m) (hs : s = a + b + c) :
    r + P * (s % 4294967296) + P * 4294967296 * (s / 4294967296) = (l + P * a) + (m + P * b) := by
  have e : P * (s % 4294967296) + P * 4294967296 * (s / 4294967296) = P * s := by
    rw [Nat.mul_assoc, ← Nat.mul_add, Nat.mod_add_div]
  rw [Nat.add_assoc, e, hs, Nat.mul_add, Nat.mul_add]
  omega
def bor (x y c : Int) : Int := if x < y + c then 1 else 0
theorem bor_range (x y c : Int) : 0 ≤ bor x y c ∧ bor x y c ≤ 1 := by unfold bor; split <;> omega
theorem bv_cast (v : BitVec 32) : IntKind.u32.wrap (v.toNat : Int) = v.toNat := IntWalk.u32_in _ (by have := v.isLt; omega)
theorem bits_and32 (a b : Int) : bits BinOp.and IntKind.u32 a b = ((BitVec.ofInt 32 a &&& BitVec.ofInt 32 b).toNat : Int) := bv_cast _
theorem bits_or32 (a b : Int) : bits BinOp.or IntKind.u32 a b = ((BitVec.ofInt 32 a ||| BitVec.ofInt 32 b).toNat : Int) := bv_cast _
theorem bits_xor32 (a b : Int) : bits BinOp.xor IntKind.u32 a b = ((BitVec.ofInt 32 a ^^^ BitVec.ofInt 32 b).toNat : Int) := bv_cast _
theorem ofInt_toNat (v : BitVec 32) : BitVec.ofInt 32 (v.toNat : Int) = v := by rw [BitVec.ofInt_natCast, BitVec.ofNat_toNat, BitVec.setWidth_eq]
theorem top_bit (v : BitVec 32) : v.toNat / 2147483648 = if v.msb = true then 1 else 0 := by
  have := v.isLt
  rw [BitVec.msb_eq_decide]
  split <;> rename_i h <;> simp at h <;> omega
theorem ofInt_nat32 (x : Int) (h0 : 0 ≤ x) (h1 : x < 4294967296) : ((BitVec.ofInt 32 x).toNat : Int) = x := by
  rw [BitVec.toNat_ofInt]; omega
theorem sub32_bits (x y c : Int) (hx : 0 ≤ x) (hx' : x < 4294967296) (hy : 0 ≤ y) (hy' : y < 4294967296) (hc : 0 ≤ c) (hc' : c ≤ 1) :
    bits BinOp.or IntKind.u32 (bits BinOp.and IntKind.u32 (bits BinOp.xor IntKind.u32 IntKind.u32.max x) y)
      (bits BinOp.and IntKind.u32 (bits BinOp.xor IntKind.u32 IntKind.u32.max (bits BinOp.xor IntKind.u32 x y)) ((x - y - c) % 4294967296)) / 2147483648 = bor x y c := by
  simp only [bits_and32, bits_or32, bits_xor32, ofInt_toNat]
  have hmax : BitVec.ofInt 32 IntKind.u32.max = BitVec.allOnes 32 := by decide
  rw [hmax, BitVec.allOnes_xor, BitVec.allOnes_xor]
  have e : ∀ v : BitVec 32, ((v.toNat : Int)) / 2147483648 = ((v.toNat / 2147483648 : Nat) : Int) := fun v => by omega
  rw [e, top_bit]
  have hX := ofInt_nat32 x hx hx'
  have hY := ofInt_nat32 y hy hy'
  have hD := ofInt_nat32 ((x - y - c) % 4294967296) (by omega) (by omega)
  generalize BitVec.ofInt 32 x = X at *
  generalize BitVec.ofInt 32 y = Y at *
  generalize BitVec.ofInt 32 ((x - y - c) % 4294967296) = D at *
  simp only [BitVec.msb_or, BitVec.msb_and, BitVec.msb_not, BitVec.msb_xor]
  have mX := BitVec.msb_eq_decide X
  have mY := BitVec.msb_eq_decide Y
  have mD := BitVec.msb_eq_decide D
  unfold bor
  cases hx1 : X.msb <;> cases hy1 : Y.msb <;> cases hd1 : D.msb <;> rw [hx1] at mX <;> rw [hy1] at mY <;> rw [hd1] at mD <;> simp at mX mY mD ⊢ <;> omega
theorem sub_step {P a b c r l m d t : Nat} (h : r + m = l + P * c) (hs : d + b + c = a + 4294967296 * t) :
    r + P * d + (m + P * b) = l + P * a + P * 4294967296 * t := by
  have e : P * d + P * b + P * c = P * a + P * 4294967296 * t := by
    rw [← Nat.mul_add, ← Nat.mul_add, hs, Nat.mul_add, Nat.mul_assoc]
  omega
theorem dl_neg (x : Int) : dl (-x).natAbs = dl x.natAbs := by rw [Int.natAbs_neg]
theorem mul_step {P Q c xy o t r' k lr lm : Nat} (h : lr + P * Q * c = k + lm) (ht : t = c + (xy + o)) (hs : r' + P * Q * o = lr + P * Q * (t % 4294967296)) :
    r' + P * (Q * 4294967296) * (t / 4294967296) = k + (lm + P * (Q * xy)) := by
  have e : P * Q * (t % 4294967296) + P * (Q * 4294967296) * (t / 4294967296) = P * Q * t := by
    rw [← Nat.mul_assoc P Q 4294967296, Nat.mul_assoc (P * Q) 4294967296, ← Nat.mul_add, Nat.mod_add_div]
  have e2 : P * Q * t = P * Q * c + (P * Q * xy + P * Q * o) := by rw [ht, Nat.mul_add, Nat.mul_add]
  have e3 : P * (Q * xy) = P * Q * xy := by rw [Nat.mul_assoc]
  omega
theorem mulb (x y c o : Nat) (hx : x < 4294967296) (hy : y < 4294967296) (hc : c < 4294967296) (ho : o < 4294967296) : c + (x * y + o) < 18446744073709551616 := by
  have : x * y ≤ 4294967295 * 4294967295 := Nat.mul_le_mul (by omega) (by omega)
  omega
theorem lv_drop (l : List Nat) (i : Nat) : lv (l.drop i) = at0 l i + 4294967296 * lv (l.drop (i + 1)) := by
  by_cases h : i < l.length
  · rw [List.drop_eq_getElem_cons h, lv_cons]
    unfold at0; rw [List.getD_eq_getElem?_getD, List.getElem?_eq_getElem h]; rfl
  · rw [at0_beyond (by omega), List.drop_eq_nil_of_le (by omega), List.drop_eq_nil_of_le (by omega)]; rfl
theorem drop_set_lt (l : List Nat) (i x k : Nat) (h : i < k) : (l.set i x).drop k = l.drop k := by
  induction l generalizing i k with
  | nil => simp
  | cons y l ih =>
    cases k with
    | zero => omega
    | succ k =>
      cases i with
      | zero => simp
      | succ i => simp only [List.set_cons_succ, List.drop_succ_cons, ih i k (by omega)]
theorem lv_drop_set {l : List Nat} {i : Nat} (x : Nat) (h : i < l.length) : lv ((l.set i x).drop i) = x + 4294967296 * lv (l.drop (i + 1)) := by
  rw [lv_drop, at0_set h, if_pos rfl, drop_set_lt _ _ _ _ (by omega)]
theorem wraps_u32 (n : Int) (h₀ : 0 ≤ n) (h₁ : n < 2 ^ 32) : IntKind.u32.wrap n = n := by
  have : (2 : Int) ^ 32 = 4294967296 := by decide
  exact IntWalk.u32_in n (by omega)
theorem bits_or_u32 (a b j : Nat) (hj : j ≤ 32) (ha : a < 2 ^ j) (hb : b % 2 ^ j = 0) (hb' : b < 4294967296) : bits BinOp.or IntKind.u32 (a : Int) (b : Int) = ((a + b : Nat) : Int) := by
  have e32 : (2 : Nat) ^ 32 = 4294967296 := by decide
  have ha' : a < 2 ^ 32 := Nat.lt_of_lt_of_le ha (Nat.pow_le_pow_right (by decide) hj)
  rw [(bits_nat .u32 32 (by decide) wraps_u32 a b ha' (by omega)).2]
  have hq : b = 2 ^ j * (b / 2 ^ j) := by have := Nat.div_add_mod b (2 ^ j); omega
  congr 1
  rw [Nat.or_comm]
  conv => lhs; rw [hq]
  rw [← Nat.two_pow_add_eq_or_of_lt ha (b / 2 ^ j), ← hq, Nat.add_comm]
theorem bitLen_bounds : ∀ (f x : Nat), x < 2 ^ f → x ≠ 0 → x < 2 ^ 64 → 2 ^ (Lib.bitLen x - 1) ≤ x ∧ x < 2 ^ Lib.bitLen x ∧ 1 ≤ Lib.bitLen x := by
  intro f
  induction f with
  | zero => intro x hx h0; simp at hx; omega
  | succ f ih =>
    intro x hx h0 h64
    rw [Lib.bitLen_half x h0 h64]
    by_cases h1 : x / 2 = 0
    · have : x = 1 := by omega
      subst this
      decide
    · obtain ⟨a, b, c⟩ := ih (x / 2) (by rw [Nat.pow_succ] at hx; omega) h1 (by omega)
      generalize Lib.bitLen (x / 2) = n at *
      obtain ⟨n, rfl⟩ : ∃ m, n = m + 1 := ⟨n - 1, by omega⟩
      rw [show 1 + (n + 1) - 1 = n + 1 from by omega, show 1 + (n + 1) = n + 1 + 1 from by omega]
      rw [Nat.add_sub_cancel] at a
      refine ⟨?_, ?_, by omega⟩
      · rw [Nat.pow_succ]; omega
      · rw [Nat.pow_succ]; omega
def qN (l m : List Nat) : Nat := lv l / lv m
def rN (l m : List Nat) : Nat := lv l % lv m
def sgn (t : Bool) (z : Int) : Int := if t = true then -z else z
def qM (l m : List Nat) : Nat := if rN l m = 0 then qN l m else qN l m + 1
def rM (l m : List Nat) : Nat := if rN l m = 0 then 0 else lv m - rN l m
theorem ediv_of {a b q r : Int} (hb : 0 < b) (h : r + b * q = a) (h0 : 0 ≤ r) (h1 : r < b) : a / b = q ∧ a % b = r := (Int.ediv_emod_unique hb).2 ⟨h, h0, h1⟩
theorem dm_math (s t : Bool) (l m : List Nat) (hm : 0 < lv m) :
    (s = false → sv s l / sv t m = sgn t (qN l m) ∧ sv s l % sv t m = rN l m) ∧ (s = true → sv s l / sv t m = sgn (!t) (qM l m) ∧ sv s l % sv t m = rM l m) := by
  have hd : lv l = lv m * qN l m + rN l m := (Nat.div_add_mod (lv l) (lv m)).symm
  have hr : rN l m < lv m := Nat.mod_lt _ hm
  have pos : (lv l : Int) / lv m = qN l m ∧ (lv l : Int) % lv m = rN l m := ⟨by unfold qN; simp, by unfold rN; simp⟩
  have neg : (-(lv l : Int)) / lv m = -(qM l m : Int) ∧ (-(lv l : Int)) % lv m = rM l m := by
    apply ediv_of (by omega)
    · unfold qM rM
      have e : ((lv l : Nat) : Int) = lv m * qN l m + rN l m := by rw [← Int.natCast_mul, ← Int.natCast_add, ← hd]
      split
      · rename_i h0; rw [e, h0]; simp [Int.mul_neg]
      · rw [e, Int.natCast_sub (by omega), Int.natCast_add, Int.mul_neg, Int.mul_add]; simp; omega
    · omega
    · unfold rM; split <;> omega
  refine ⟨fun hs => ?_, fun hs => ?_⟩
  · subst hs
    cases t
    · rw [sv_false, sv_false]; exact pos
    · rw [sv_false, sv_true, Int.ediv_neg, Int.emod_neg, pos.1, pos.2]; exact ⟨rfl, rfl⟩
  · subst hs
    cases t
    · rw [sv_true, sv_false]; exact neg
    · rw [sv_true, sv_true, Int.ediv_neg, Int.emod_neg, neg.1, neg.2]; exact ⟨by simp [sgn], rfl⟩
def pw (x : Int) (k : Nat) : Int := x ^ k
theorem dl_pw (x : Int) (k : Nat) (hk : 0 < k) : dl (pw x k).natAbs ≤ k * dl x.natAbs := by
  unfold pw
  induction k with
  | zero => omega
  | succ k ih =>
    rcases Nat.eq_zero_or_pos k with rfl | h
    · simp
    · rw [Int.pow_succ, Int.natAbs_mul]
      have h1 := ih h
      have h2 := dl_mul (x ^ k).natAbs x.natAbs
      rw [Nat.add_mul]; omega
theorem dl_pw1 (x : Int) (k : Nat) : dl (pw x k).natAbs ≤ k * dl x.natAbs + 1 := by
  rcases Nat.eq_zero_or_pos k with rfl | h
  · have : dl (pw x 0).natAbs = 1 := by unfold pw; simp; decide
    omega
  · have := dl_pw x k h; omega
theorem wraps_i64 (n : Int) (h₀ : 0 ≤ n) (h₁ : n < 2 ^ 63) : IntKind.i64.wrap n = n := by
  have : (2 : Int) ^ 63 = 9223372036854775808 := by decide
  exact IntWalk.i64_in n (by omega)
theorem and_one (n i : Nat) (hn : n ≤ 256) : bits BinOp.and IntKind.i64 ((n : Int) / 2 ^ i) 1 = ((n / 2 ^ i % 2 : Nat) : Int) := by
  have e : (n : Int) / 2 ^ i = ((n / 2 ^ i : Nat) : Int) := by simp
  have h := Nat.div_le_self n (2 ^ i)
  rw [e]
  generalize n / 2 ^ i = m at *
  have e63 : (2 : Int) ^ 63 = 9223372036854775808 := by decide
  have := bits_mask .i64 63 (by decide) wraps_i64 1 (by decide) (m : Int) (by omega) (by omega)
  rw [show (2 : Int) ^ 1 - 1 = 1 from by decide, show (2 : Int) ^ 1 = 2 from by decide] at this
  rw [this]; omega
theorem bitLen_lt (n : Nat) (hn : n ≤ 256) : n < 2 ^ Lib.bitLen n ∧ Lib.bitLen n ≤ 9 := by
  rcases Nat.eq_zero_or_pos n with rfl | h
  · decide
  · have e64 : (2 : Nat) ^ 64 = 18446744073709551616 := by decide
    obtain ⟨a, b, c⟩ := bitLen_bounds 64 n (by omega) (by omega) (by omega)
    refine ⟨b, ?_⟩
    rcases Nat.lt_or_ge 9 (Lib.bitLen n) with h | h
    · have h2 : 2 ^ 9 ≤ 2 ^ (Lib.bitLen n - 1) := Nat.pow_le_pow_right (by decide) (by omega)
      have e9 : (2 : Nat) ^ 9 = 512 := by decide
      omega
    · exact h
theorem pw_sq (x : Int) (i : Nat) : pw x (2 ^ i) * pw x (2 ^ i) = pw x (2 ^ (i + 1)) := by
  unfold pw; rw [← Int.pow_add, Nat.pow_succ, Nat.mul_two]
theorem pw_bit0 (x : Int) (n i : Nat) (h : n / 2 ^ i % 2 = 0) : pw x (n % 2 ^ (i + 1)) = pw x (n % 2 ^ i) := by
  rw [Nat.pow_succ, Nat.mod_mul, h, Nat.mul_zero, Nat.add_zero]
theorem pw_bit1 (x : Int) (n i : Nat) (h : n / 2 ^ i % 2 = 1) : pw x (n % 2 ^ (i + 1)) = pw x (n % 2 ^ i) * pw x (2 ^ i) := by
  rw [Nat.pow_succ, Nat.mod_mul, h, Nat.mul_one]; unfold pw; rw [Int.pow_add]
def val10 (l : List UInt8) : Nat := l.foldl (fun a c => a * 10 + (c.toNat - 48)) 0
def isDig (c : UInt8) : Bool := decide (48 ≤ c.toNat ∧ c.toNat ≤ 57)
def digs (l : List UInt8) : Bool := l.all isDig
def bat (l : List UInt8) (j : Nat) : Nat := (l.getD j 0).toNat
def rdZ (neg : Bool) (l : List UInt8) : Int := if digs l = true then sgn neg (val10 l) else 0
def rdE (l : List UInt8) : Int := if digs l = true then 0 else 4
theorem sizeL (s : ByteArray) : s.size = s.data.toList.length := by simp only [Array.length_toList]; rfl
theorem toListL (s : ByteArray) : s.toList = s.data.toList := ByteArray.toList_eq s
theorem emptyL (s : ByteArray) (h : 0 < s.size) : s.toList.isEmpty = false := by
  rw [toListL]; rw [sizeL] at h
  cases hd : s.data.toList with
  | nil => rw [hd] at h; simp at h
  | cons a b => rfl
theorem val10_take (l : List UInt8) (i : Nat) (h : i < l.length) : val10 (l.take (i + 1)) = val10 (l.take i) * 10 + (bat l i - 48) := by
  rw [List.take_succ_eq_append_getElem h]
  unfold val10 bat
  rw [List.foldl_append, List.getD_eq_getElem?_getD, List.getElem?_eq_getElem h]; rfl
theorem digs_take_succ (l : List UInt8) (i : Nat) (h : i < l.length) : digs (l.take (i + 1)) = (digs (l.take i) && decide (48 ≤ bat l i ∧ bat l i ≤ 57)) := by
  rw [List.take_succ_eq_append_getElem h]
  unfold digs bat isDig
  rw [List.all_append, List.getD_eq_getElem?_getD, List.getElem?_eq_getElem h]; simp
theorem digs_of_bad (l : List UInt8) (i : Nat) (h : i < l.length) (hb : ¬ (48 ≤ bat l i ∧ bat l i ≤ 57)) : digs l = false := by
  have := digs_take_succ l i h
  rw [show decide (48 ≤ bat l i ∧ bat l i ≤ 57) = false from by simpa using hb, Bool.and_false] at this
  have e : digs l = (digs (l.take (i + 1)) && digs (l.drop (i + 1))) := by unfold digs; rw [← List.all_append, List.take_append_drop]
  rw [e, this]; rfl
theorem val10_lt (l : List UInt8) (h : digs l = true) : val10 l < 10 ^ l.length := by
  have key : ∀ (l : List UInt8) (a : Nat), digs l = true → l.foldl (fun a c => a * 10 + (c.toNat - 48)) a < (a + 1) * 10 ^ l.length := by
    intro l
    induction l with
    | nil => intro a _; simp
    | cons c l ih =>
      intro a hd
      unfold digs at hd
      rw [List.all_cons, Bool.and_eq_true] at hd
      have hc := hd.1
      unfold isDig at hc
      simp only [decide_eq_true_eq] at hc
      rw [List.foldl_cons, List.length_cons, Nat.pow_succ]
      have := ih (a * 10 + (c.toNat - 48)) hd.2
      have h2 : (a * 10 + (c.toNat - 48) + 1) * 10 ^ l.length ≤ (a + 1) * 10 * 10 ^ l.length := Nat.mul_le_mul_right _ (by omega)
      rw [Nat.mul_comm (10 ^ l.length) 10, ← Nat.mul_assoc]
      omega
  have := key l 0 h
  simpa [val10] using this
theorem ten_pow (n : Nat) : 10 ^ n ≤ 4294967296 ^ (n / 9 + 1) := by
  have h1 : 10 ^ n ≤ 10 ^ (9 * (n / 9 + 1)) := Nat.pow_le_pow_right (by decide) (by omega)
  have h2 : (10 : Nat) ^ (9 * (n / 9 + 1)) = (10 ^ 9) ^ (n / 9 + 1) := Nat.pow_mul 10 9 _
  have h3 : ((10 : Nat) ^ 9) ^ (n / 9 + 1) ≤ 4294967296 ^ (n / 9 + 1) := Nat.pow_le_pow_left (by decide) _
  omega
theorem ten_step {P c x t r r' : Nat} {L : Nat} (h : r + P * c = L) (ht : t = c + x * 10) (hs : r' + P * x = r + P * (t % 4294967296)) :
    r' + P * 4294967296 * (t / 4294967296) = L + P * x * 9 := by
  have e : P * (t % 4294967296) + P * 4294967296 * (t / 4294967296) = P * t := by
    rw [Nat.mul_assoc, ← Nat.mul_add, Nat.mod_add_div]
  have e2 : P * t = P * c + P * x * 10 := by rw [ht, Nat.mul_add, Nat.mul_assoc P x 10]
  omega
theorem sv_inj {s t : Bool} {l m : List Nat} (hl : Canon l) (hm : Canon m) (hs : s = true → l ≠ []) (ht : t = true → m ≠ []) : sv s l = sv t m ↔ s = t ∧ lv l = lv m := by
  constructor
  · intro h
    refine ⟨?_, by rw [← sv_natAbs s l, h, sv_natAbs]⟩
    rw [sv_neg_iff hl hs, sv_neg_iff hm ht, h]
  · rintro ⟨rfl, h⟩
    unfold sv; rw [h]
theorem txt_sv {s : Bool} {l : List Nat} (hl : Canon l) (h0 : l ≠ []) : txt (sv s l) = (if s = true then [45] else []) ++ dec (lv l) := by
  have hp := lv_pos hl h0
  unfold txt
  rw [sv_natAbs]
  cases s
  · rw [sv_false, if_neg (by omega), if_neg (by omega)]; rfl
  · rw [sv_true, if_neg (by omega), if_pos (by omega)]; rfl
end Go.Proofs.Ytbnhnmpgbpejaaa
