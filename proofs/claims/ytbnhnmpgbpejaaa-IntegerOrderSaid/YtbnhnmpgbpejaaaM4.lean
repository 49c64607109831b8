/- Plain: sizes of results; the order by signs. No program in sight. -/
import Derived.Test.YtbnhnmpgbpejaaaM3
namespace Go.Proofs.Ytbnhnmpgbpejaaa
set_option linter.unusedSimpArgs false
set_option linter.unusedVariables false
open Go.RowKit

theorem dl_addI (x y : Int) : dl (x + y).natAbs ≤ dl x.natAbs + dl y.natAbs + 1 := by
  have h1 : (x + y).natAbs ≤ x.natAbs + y.natAbs := Int.natAbs_add_le x y
  have h2 := dl_add x.natAbs y.natAbs
  have h3 := dl_mono h1
  omega
theorem dl_negI (x : Int) : dl (-x).natAbs = dl x.natAbs := by rw [Int.natAbs_neg]
theorem dl_subI (x y : Int) : dl (x - y).natAbs ≤ dl x.natAbs + dl y.natAbs + 1 := by
  have := dl_addI x (-y)
  rw [dl_negI] at this
  exact this
theorem dl_mulI (x y : Int) : dl (x * y).natAbs ≤ dl x.natAbs + dl y.natAbs := by
  rw [Int.natAbs_mul]
  exact dl_mul _ _
theorem sgI_zero {x : Int} : sgI x = 0 ↔ x = 0 := by
  unfold sgI cmpI
  split
  · omega
  · split <;> omega
theorem cmpI_anti (x y : Int) : cmpI x y = -cmpI y x := by
  unfold cmpI
  split <;> split <;> (try split) <;> (try split) <;> omega
theorem cmpI_zero {x y : Int} : cmpI x y = 0 ↔ x = y := by
  unfold cmpI
  split
  · omega
  · split <;> omega
theorem cmpI_pos {x y : Int} : 0 < cmpI x y ↔ y < x := by
  unfold cmpI
  split
  · omega
  · split <;> omega
theorem cmpI_range (x y : Int) : -1 ≤ cmpI x y ∧ cmpI x y ≤ 1 := by
  unfold cmpI
  split
  · omega
  · split <;> omega
theorem cmpI_sub (x y : Int) : cmpI x y = sgI (x - y) := by
  unfold sgI cmpI
  split <;> split <;> (try split) <;> (try split) <;> omega
theorem cmpI_addr (x y z : Int) : cmpI (x + z) (y + z) = cmpI x y := by
  unfold cmpI
  split <;> split <;> (try split) <;> (try split) <;> omega
theorem cmpI_mulr (x y z : Int) : cmpI (x * z) (y * z) = cmpI x y * sgI z := by
  rcases Int.lt_trichotomy z 0 with hz | hz | hz
  · rw [show sgI z = -1 from cmpI_lt hz]
    rcases Int.lt_trichotomy x y with h | h | h
    · rw [cmpI_lt h, cmpI_gt (Int.mul_lt_mul_of_neg_right h hz)]; rfl
    · subst h; rw [cmpI_eq rfl, cmpI_eq rfl]; rfl
    · rw [cmpI_gt h, cmpI_lt (Int.mul_lt_mul_of_neg_right h hz)]; rfl
  · subst hz
    rw [Int.mul_zero, Int.mul_zero, cmpI_eq rfl, show sgI 0 = 0 from rfl, Int.mul_zero]
  · rw [show sgI z = 1 from cmpI_gt hz, Int.mul_one]
    rcases Int.lt_trichotomy x y with h | h | h
    · rw [cmpI_lt h, cmpI_lt (Int.mul_lt_mul_of_pos_right h hz)]
    · subst h; rw [cmpI_eq rfl, cmpI_eq rfl]
    · rw [cmpI_gt h, cmpI_gt (Int.mul_lt_mul_of_pos_right h hz)]
end Go.Proofs.Ytbnhnmpgbpejaaa
