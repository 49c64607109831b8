/- Texts F6 in one. -/
import Derived.Test.YtilkleibnciloaaP45
/- Rational numbers: the rules of sizes. No program in sight. -/
namespace Go.Proofs.Ytilkleibnciloaa
set_option linter.unusedSimpArgs false
set_option linter.unusedVariables false
open Go.RowKit

theorem sizesQ {a : Rat} {k : Nat} (h : qs a ≤ k) : dl a.num.natAbs ≤ k ∧ dl ((a.den : Int)).natAbs ≤ k := ⟨(szs h).1, (szs h).2.1⟩
theorem szNum {a : Rat} {j k : Nat} (h : qs a ≤ j) (e : j ≤ k) : dl a.num.natAbs ≤ k := Nat.le_trans (szs h).1 e
theorem szDen {a : Rat} {j k : Nat} (h : qs a ≤ j) (e : j ≤ k) : dl (a.den : Int).natAbs ≤ k := Nat.le_trans (szs h).2.1 e
theorem szLN {a : Rat} {j k : Nat} (h : qs a ≤ j) (e : j ≤ k) : (dg a.num.natAbs).length ≤ k := Nat.le_trans (szs h).1 e
theorem szLD {a : Rat} {j k : Nat} (h : qs a ≤ j) (e : j ≤ k) : (dg (a.den : Int).natAbs).length ≤ k := Nat.le_trans (szs h).2.1 e
theorem szQ {a : Rat} {j k : Nat} (h : qs a ≤ j) (e : j ≤ k) : qs a ≤ k := Nat.le_trans h e
theorem qsA {a b : Rat} {j k : Nat} (h : qs a ≤ j) (g : qs b ≤ k) : qs (a + b) ≤ j + k + 1 := Nat.le_trans (qs_add a b) (by omega)
theorem qsS {a b : Rat} {j k : Nat} (h : qs a ≤ j) (g : qs b ≤ k) : qs (a - b) ≤ j + k + 1 := Nat.le_trans (qs_sub a b) (by omega)
theorem qsM {a b : Rat} {j k : Nat} (h : qs a ≤ j) (g : qs b ≤ k) : qs (a * b) ≤ j + k := Nat.le_trans (qs_mul a b) (by omega)
theorem qsD {a b : Rat} {j k : Nat} (h : qs a ≤ j) (g : qs b ≤ k) : qs (a / b) ≤ j + k := Nat.le_trans (qs_div a b) (by omega)
theorem qsN {a : Rat} {j : Nat} (h : qs a ≤ j) : qs (-a) ≤ j := by rw [qs_neg]; exact h
theorem qsNumDen {n d : Int} {j k : Nat} (h : dl n.natAbs ≤ j) (g : dl d.natAbs ≤ k) : qs (Rat.divInt n d) ≤ j + k + 1 := Nat.le_trans (qs_divInt n d) (by omega)
theorem dl_i64' {z : Int} (h : -9223372036854775808 ≤ z ∧ z ≤ 9223372036854775807) : dl z.natAbs ≤ 2 := dl_i64 h
theorem qsZ {z : Int} {j : Nat} (h : dl z.natAbs ≤ j) : qs (z : Rat) ≤ j + 1 := Nat.le_trans (qs_int z) (by omega)
theorem dlT {z : Int} {j k : Nat} (h : dl z.natAbs ≤ j) (e : j ≤ k) : dl z.natAbs ≤ k := Nat.le_trans h e
theorem dlM {a b : Int} {j k : Nat} (h : dl a.natAbs ≤ j) (g : dl b.natAbs ≤ k) : dl (a * b).natAbs ≤ j + k := Nat.le_trans (dl_mulI a b) (by omega)
theorem dlA {a b : Int} {j k : Nat} (h : dl a.natAbs ≤ j) (g : dl b.natAbs ≤ k) : dl (a + b).natAbs ≤ j + k + 1 := Nat.le_trans (dl_addI a b) (by omega)
theorem dlS {z : Int} (h : z.natAbs < 4294967296) : dl z.natAbs ≤ 1 := (dl_le (k := 1)).2 (by simpa using h)
theorem dlNum {a : Rat} {j : Nat} (h : qs a ≤ j) : dl a.num.natAbs ≤ j := (szs h).1
theorem dlDen {a : Rat} {j : Nat} (h : qs a ≤ j) : dl (a.den : Int).natAbs ≤ j := (szs h).2.1
theorem dlFl {a : Rat} {j : Nat} (h : qs a ≤ j) : dl a.floor.natAbs ≤ j := by
  rw [Rat.floor_def]
  exact Nat.le_trans (dl_mono (Int.natAbs_ediv_le_natAbs _ _)) (szs h).1
theorem int_self (x : Int) : (x == x) = true := by simp
end Go.Proofs.Ytilkleibnciloaa
