/- Texts N1 in one. -/
import Derived.Test.YtfbogelmgdojgaaGreatP12
import Derived.Test.YtfbogelmgdojgaaGreatRows
import Derived.WalkSpells
import Derived.Deep.LoopGhost
import Derived.Handy
import Derived.Lib.Hide
import Derived.Lib.BitFns
import Derived.Deep.QuietTactic
import Derived.BigQuiet
import Derived.Deep.RegionHeld3
import Derived.Deep.DeepCutAuto
/- Scalar functions of math/bits, by the kit's walk. -/
namespace Go.Proofs.YtfbogelmgdojgaaGreat
set_option linter.unusedSimpArgs false
set_option linter.unusedVariables false
open Go.RowKit

theorem len32_any (x : Int) (w : World) (h0 : 0 ≤ x) (h1 : x ≤ 4294967295) :
    Calls Tryz.prog 159 #[.int .u32 x] w fun e w' => e = .returned (.int .i64 (Lib.bitLen x.toNat)) ∧ w = w' := by
  rcases Int.lt_or_le x 256 with hx | hx
  · have hl := Lib.len8_of x (by omega) (by omega)
    have hb := Lib.bitLen_le8' x (by omega) (by omega)
    have i1 : x ≤ 255 := by omega
    generalize Lib.bitLen x.toNat = n at *
    go_enter Tryz.func159, Tryz.ntmps159
    go_wp2
    go_ret
    exact ⟨rfl, rfl⟩
  rcases Int.lt_or_le x 65536 with hy | hy
  · have hl := Lib.len8_of (x / 256) (by omega) (by omega)
    have hb := Lib.bitLen_le8' (x / 256) (by omega) (by omega)
    have hs := Lib.bitLen_shift8 x.toNat (by omega) (by omega)
    have ht : (x / 256).toNat = x.toNat / 256 := by omega
    rw [ht] at hl hb
    have i0 : 0 ≤ x / 256 := by omega
    have i1 : x / 256 ≤ 255 := by omega
    rw [hs]
    clear hs ht
    generalize Lib.bitLen (x.toNat / 256) = n at *
    go_enter Tryz.func159, Tryz.ntmps159
    go_wp2
    go_ret
    exact ⟨by simp, rfl⟩
  rcases Int.lt_or_le x 16777216 with hz | hz
  · have hl := Lib.len8_of (x / 65536) (by omega) (by omega)
    have hb := Lib.bitLen_le8' (x / 65536) (by omega) (by omega)
    have hs := Lib.bitLen_shift16 x.toNat (by omega) (by omega)
    have ht : (x / 65536).toNat = x.toNat / 65536 := by omega
    rw [ht] at hl hb
    have i0 : 0 ≤ x / 65536 := by omega
    have i1 : x / 65536 ≤ 255 := by omega
    rw [hs]
    clear hs ht
    generalize Lib.bitLen (x.toNat / 65536) = n at *
    go_enter Tryz.func159, Tryz.ntmps159
    go_wp2
    go_ret
    exact ⟨by simp, rfl⟩
  · have hl := Lib.len8_of (x / 65536 / 256) (by omega) (by omega)
    have hb := Lib.bitLen_le8' (x / 65536 / 256) (by omega) (by omega)
    have hs := Lib.bitLen_shift24 x.toNat (by omega) (by omega)
    have ht : (x / 65536 / 256).toNat = x.toNat / 16777216 := by omega
    rw [ht] at hl hb
    have i0 : 0 ≤ x / 65536 / 256 := by omega
    have i1 : x / 65536 / 256 ≤ 255 := by omega
    have i2 : 256 ≤ x / 65536 := by omega
    rw [hs]
    clear hs ht
    generalize Lib.bitLen (x.toNat / 16777216) = n at *
    go_enter Tryz.func159, Tryz.ntmps159
    go_wp2
    go_ret
    exact ⟨by simp, rfl⟩


theorem lz32_any (x : Nat) (w : World) (h0 : 0 < x) (h1 : x < 4294967296) :
    Calls Tryz.prog 157 #[.int .u32 x] w fun e w' => (∃ k : Nat, k < 32 ∧ e = .returned (.int .i64 k) ∧ 2147483648 ≤ x * 2 ^ k ∧ x * 2 ^ k < 4294967296) ∧ w = w' := by
  have e64 : (2 : Nat) ^ 64 = 18446744073709551616 := by decide
  obtain ⟨a, b, c⟩ := bitLen_bounds 64 x (by omega) (by omega) (by omega)
  have hb : Lib.bitLen x ≤ 32 := by
    rcases Nat.lt_or_ge 32 (Lib.bitLen x) with h | h
    · have h2 : 2 ^ 32 ≤ 2 ^ (Lib.bitLen x - 1) := Nat.pow_le_pow_right (by decide) (by omega)
      have e32 : (2 : Nat) ^ 32 = 4294967296 := by decide
      omega
    · exact h
  have hl := len32_any (x : Int)
  simp only [Int.toNat_natCast] at hl
  have key : 2147483648 ≤ x * 2 ^ (32 - Lib.bitLen x) ∧ x * 2 ^ (32 - Lib.bitLen x) < 4294967296 := by
    have e31 : (2 : Nat) ^ (Lib.bitLen x - 1) * 2 ^ (32 - Lib.bitLen x) = 2147483648 := by
      rw [← Nat.pow_add, show Lib.bitLen x - 1 + (32 - Lib.bitLen x) = 31 from by omega]
    have e32 : (2 : Nat) ^ (Lib.bitLen x) * 2 ^ (32 - Lib.bitLen x) = 4294967296 := by
      rw [← Nat.pow_add, show Lib.bitLen x + (32 - Lib.bitLen x) = 32 from by omega]
    constructor
    · rw [← e31]; exact Nat.mul_le_mul_right _ a
    · rw [← e32]; exact Nat.mul_lt_mul_of_pos_right b (Nat.two_pow_pos _)
  have K := Lib.hid key
  clear key a b e64
  generalize Lib.bitLen x = n at *
  go_enter Tryz.func157, Tryz.ntmps157
  have HL := Lib.hid hl
  clear hl
  go_wp2_with (go_at_call 159; refine (HL.out _ (by omega) (by omega)).mono ?_; rintro e w' ⟨rfl, rfl⟩)
  go_ret
  exact ⟨⟨32 - n, by omega, by rw [show ((32 - n : Nat) : Int) = 32 - (n : Int) from by omega]; rfl, K.out⟩, rfl⟩


/-- From the kit's walk: arguments and result are scalars. -/
theorem PCall.of_calls1 {P : Program} {f : FuncId} {a : Value} {r : Value} (h : ∀ w, Calls P f #[a] w fun e w' => e = .returned r ∧ w = w') (hr : r.cells = #[r]) : PCall P f [.raw a] (.raw r) := by
  intro B w vs hl hv hB
  match vs, hl with
  | [v], _ =>
    have e := RepW.raw_inv (hv 0 _ _ rfl rfl)
    subst e
    refine (h w).mono ?_
    rintro e w' ⟨rfl, rfl⟩
    exact ⟨_, rfl, RepV.of_W (RepW.raw hr) (by intro l h; cases h), Below.refl _ _⟩
/-- How far a limb is shifted. -/
def lzN (x : Nat) : Nat := 32 - Lib.bitLen x
theorem bitLen32 {x : Nat} (h1 : x < 4294967296) (h0 : 0 < x) : Lib.bitLen x ≤ 32 ∧ 1 ≤ Lib.bitLen x ∧ 2147483648 ≤ x * 2 ^ lzN x ∧ x * 2 ^ lzN x < 4294967296 := by
  have e64 : (2 : Nat) ^ 64 = 18446744073709551616 := by decide
  obtain ⟨a, b, c⟩ := bitLen_bounds 64 x (by omega) (by omega) (by omega)
  have hb : Lib.bitLen x ≤ 32 := by
    rcases Nat.lt_or_ge 32 (Lib.bitLen x) with h | h
    · have h2 : 2 ^ 32 ≤ 2 ^ (Lib.bitLen x - 1) := Nat.pow_le_pow_right (by decide) (by omega)
      have e32 : (2 : Nat) ^ 32 = 4294967296 := by decide
      omega
    · exact h
  refine ⟨hb, c, ?_, ?_⟩
  · have e31 : (2 : Nat) ^ (Lib.bitLen x - 1) * 2 ^ (32 - Lib.bitLen x) = 2147483648 := by
      rw [← Nat.pow_add, show Lib.bitLen x - 1 + (32 - Lib.bitLen x) = 31 from by omega]
    unfold lzN
    rw [← e31]; exact Nat.mul_le_mul_right _ a
  · have e32 : (2 : Nat) ^ (Lib.bitLen x) * 2 ^ (32 - Lib.bitLen x) = 4294967296 := by
      rw [← Nat.pow_add, show Lib.bitLen x + (32 - Lib.bitLen x) = 32 from by omega]
    unfold lzN
    rw [← e32]; exact Nat.mul_lt_mul_of_pos_right b (Nat.two_pow_pos _)
def kLen32 : Con := con1 (pN .u32) fun x => (0 ≤ x ∧ x ≤ 4294967295, .raw (.int .i64 (Lib.bitLen x.toNat : Nat)))
attribute [go_sem ↓, go_sem] kLen32
theorem len32_C : Ctr Tryz.prog 159 kLen32 := Ctr.c1 (by kernel_rfl) fun x h => PCall.of_calls1 (fun w => len32_any x w h.1 h.2) (by kernel_rfl)
def kLz32 : Con := con1 (pN .u32) fun x => (0 < x ∧ x ≤ 4294967295, .raw (.int .i64 (lzN x.toNat : Nat)))
attribute [go_sem ↓, go_sem] kLz32
theorem lz32_C : Ctr Tryz.prog 157 kLz32 := Ctr.c1 (by kernel_rfl) fun x h => by
  obtain ⟨h0, h1⟩ := h
  refine PCall.of_vc (tabs mixed (tbl_cons len32_C tbl_nil)) Tryz.func157 rfl Tryz.ntmps157 Tryz.results157 (by simp) ?_
  have hb := bitLen32 (x := x.toNat) (by omega) (by omega)
  have e1 : (32 : Int) - (Lib.bitLen x.toNat : Nat) = ((lzN x.toNat : Nat) : Int) := by unfold lzN; omega
  simp only [go_sem, e1]
  omega
end Go.Proofs.YtfbogelmgdojgaaGreat
