/- Plain: the decimal digits of a number, as bytes. No program in sight. -/
import Derived.Test.YtbnhnmpgbpejaaaBase
namespace Go.Proofs.Ytbnhnmpgbpejaaa
set_option linter.unusedSimpArgs false
set_option linter.unusedVariables false

/-- The decimal digits of a number (none for 0). Plain definitions. -/
def decs : Nat → Nat → List UInt8
  | 0, _ => []
  | f + 1, n => if n = 0 then [] else decs f (n / 10) ++ [UInt8.ofNat (48 + n % 10)]
def dec (n : Nat) : List UInt8 := decs n n
/-- The text of an integer. -/
def txt (z : Int) : List UInt8 := if z = 0 then [48] else if z < 0 then 45 :: dec z.natAbs else dec z.natAbs

theorem decs_fuel : ∀ (f g n : Nat), n ≤ f → n ≤ g → decs f n = decs g n := by
  intro f
  induction f with
  | zero => intro g n h _; obtain rfl : n = 0 := by omega
            cases g <;> simp [decs]
  | succ f ih =>
    intro g n h1 h2
    cases g with
    | zero => obtain rfl : n = 0 := by omega
              simp [decs]
    | succ g =>
      unfold decs
      by_cases h : n = 0
      · rw [if_pos h, if_pos h]
      · rw [if_neg h, if_neg h, ih g (n / 10) (by omega) (by omega)]
theorem dec_zero : dec 0 = [] := rfl
theorem dec_step {n : Nat} (h : n ≠ 0) : dec n = dec (n / 10) ++ [UInt8.ofNat (48 + n % 10)] := by
  obtain ⟨m, rfl⟩ : ∃ m, n = m + 1 := ⟨n - 1, by omega⟩
  show decs (m + 1) (m + 1) = _
  rw [decs, if_neg h]
  unfold dec
  rw [decs_fuel m ((m + 1) / 10) _ (by omega) (Nat.le_refl _)]
theorem dec_len : ∀ (k n : Nat), n < 10 ^ k → (dec n).length ≤ k := by
  intro k
  induction k with
  | zero => intro n h; obtain rfl : n = 0 := by simpa using h
            simp [dec_zero]
  | succ k ih =>
    intro n h
    by_cases h0 : n = 0
    · subst h0; simp [dec_zero]
    · rw [dec_step h0, List.length_append]
      have := ih (n / 10) (by rw [Nat.pow_succ] at h; omega)
      simp; exact this
theorem dec_pos {n : Nat} (h : n ≠ 0) : 1 ≤ (dec n).length := by
  rw [dec_step h, List.length_append]; simp
theorem dec_len_lv {l : List Nat} (h : Lim l) : (dec (lv l)).length ≤ 10 * l.length := by
  apply dec_len
  have h1 := lv_lt h
  have h2 : (10 : Nat) ^ (10 * l.length) = (10 ^ 10) ^ l.length := Nat.pow_mul 10 10 _
  have h3 : (4294967296 : Nat) ^ l.length ≤ (10 ^ 10) ^ l.length := Nat.pow_le_pow_left (by decide) _
  omega
/-- A digit more. -/
theorem dec_more {T a x : Nat} {Z L : List UInt8} (hT : T ≠ 0) (h : Z = dec T ++ L.drop (a + 1)) (hx : x = T % 10) (ha : a < L.length) : Z = dec (T / 10) ++ (L.set a (UInt8.ofNat (48 + x))).drop a := by
  have e : (L.set a (UInt8.ofNat (48 + x))).drop a = UInt8.ofNat (48 + x) :: L.drop (a + 1) := by
    apply List.ext_getElem?
    intro i
    rw [List.getElem?_drop]
    cases i with
    | zero => rw [Nat.add_zero, List.getElem?_set_self ha]; rfl
    | succ i => rw [List.getElem?_set_ne (by omega), List.getElem?_cons_succ, List.getElem?_drop]; congr 1; omega
  rw [e, h, dec_step hT, hx, List.append_assoc]; rfl
end Go.Proofs.Ytbnhnmpgbpejaaa
