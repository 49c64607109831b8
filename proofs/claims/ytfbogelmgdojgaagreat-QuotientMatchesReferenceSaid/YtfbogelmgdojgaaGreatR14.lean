/- Texts C6 N1 C7 C9 M3 D1 D2 D3 in one. -/
import Derived.Test.YtfbogelmgdojgaaGreatR13
import Derived.Test.YtfbogelmgdojgaaGreatRows
import Derived.WalkSpells
import Derived.Deep.LoopGhost
import Derived.Handy
import Derived.Lib.Hide
import Derived.Lib.BitFns
import Derived.Deep.QuietTactic
import Derived.BigQuiet
import Derived.Deep.RegionHeld3
import Derived.Deep.DeepCutAuto
import Derived.Test.YtfbogelmgdojgaaGreatR12
/- Contracts: Of, Small, Mul. -/
namespace Go.Proofs.YtfbogelmgdojgaaGreat
set_option linter.unusedSimpArgs false
set_option linter.unusedVariables false
open Go.RowKit

def kOf : Con := con1 (pN .i64) fun n => (-9223372036854775808 ≤ n ∧ n ≤ 9223372036854775807, .I n)
attribute [go_sem ↓, go_sem] kOf
theorem of_C : Ctr Tryz.prog 98 kOf := Ctr.c1 (by kernel_rfl) fun n h => by
 obtain ⟨h1, h2⟩ := h
 refine PCall.of_vc (tabs mixed (tbl_cons norm_C tbl_nil)) Tryz.func98 rfl Tryz.ntmps98 Tryz.results98 (by simp) ?_
 have p1 : ((n.natAbs : Nat) : Int) % 4294967296 = ((n.natAbs % 4294967296 : Nat) : Int) := by omega
 have p2 : ((n.natAbs : Nat) : Int) / 4294967296 % 4294967296 = ((n.natAbs / 4294967296 % 4294967296 : Nat) : Int) := by omega
 have hb : Lim [n.natAbs % 4294967296, n.natAbs / 4294967296 % 4294967296] := lim_two (by omega) (by omega)
 have hv : lv [n.natAbs % 4294967296, n.natAbs / 4294967296 % 4294967296] = n.natAbs := by rw [lv_two]; omega
 by_cases hn : n < 0
 ·have w1 : IntKind.u64.wrap (0 - n % 18446744073709551616) = ((n.natAbs : Nat) : Int) := by
   rw [IntKind.wrap_u64]; omega
  simp only [go_sem, hn, w1, p1, p2]
  exact ⟨hb, out_II (by rw [sv_true, hv]; omega)⟩
 ·have w1 : n % 18446744073709551616 = ((n.natAbs : Nat) : Int) := by omega
  simp only [go_sem, hn, w1, p1, p2]
  exact ⟨hb, out_II (by rw [sv_false, hv]; omega)⟩
def kMul : Con := con2 pI pI fun x y => (dl x.natAbs ≤ 14000000000000 ∧ dl y.natAbs ≤ 14000000000000, .I (x * y))
attribute [go_sem ↓, go_sem] kMul
theorem mul_C : Ctr Tryz.prog 132 kMul := Ctr.c2 (by kernel_rfl) fun x y h => by
 obtain ⟨h1, h2⟩ := h
 obtain ⟨s, l, hz, hl, hs, e1, e2, e3⟩ := sv_open x
 obtain ⟨t, m, hz', hm, ht, f1, f2, f3⟩ := sv_open y
 refine PCall.of_vc (tabs mixed (tbl_cons norm_C tbl_nil)) Tryz.func132 rfl Tryz.ntmps132 Tryz.results132 (by simp) ?_
 have e4 : (l.length : Int) + m.length = ((l.length + m.length : Nat) : Int) := by omega
 have hlen : l.length ≤ 14000000000000 ∧ m.length ≤ 14000000000000 := by omega
 simp only [go_sem, e1, e2, f1, f2, e4]
 and_intros
 any_goals omega
 refine AWp.loops (X := { x : Nat × List Nat // x.1 ≤ l.length ∧ Lim x.2 ∧ x.2.length = l.length + m.length ∧ lv x.2 = lv (l.take x.1) * lv m ∧ ∀ j, x.1 + m.length ≤ j → at0 x.2 j = 0 })
  (fun a => mkSt [(2, .ptr 0 2 0 0), (3, .ptr 1 2 0 0), (4, .ptr 2 2 0 0), (5, .sl 3 1 0 (l.length + m.length)), (20, .lst (V.limbs l)), (21, .raw (.int .i64 (l.length : Nat))), (22, .raw (.int .i64 (a.1.1 : Nat)))]
   [(0, true, ⟨43, 2, [.I x]⟩), (1, true, ⟨43, 2, [.I y]⟩), (2, true, ⟨43, 2, [.agg [.raw (.bool false), .raw (.slice none 0 0)]]⟩), (3, true, ⟨110, 1, V.limbs a.1.2⟩)] 4 77)
  (fun a => l.length - a.1.1) ⟨(0, List.replicate (l.length + m.length) 0), Nat.zero_le _, Lim.replicate _, by simp, by simp [lv, lv_replicate], fun j _ => at0_replicate _ _⟩ (Wk.of [0, 1, 2, 10] (by decide) ?_) ?_
 ·simp only [go_sem]
 ·rintro ⟨⟨i, r⟩, hi, hr, hrl, hv, h0⟩
  simp only at hi hr hrl hv h0
  refine vc_at (tabs mixed (tbl_cons norm_C tbl_nil)) ?_
  by_cases h : i < l.length
  ·have e5 : (i : Int) < l.length := by omega
   simp only [go_sem, e1, e2, f1, f2, e5]
   and_intros
   any_goals omega
   have l1 := hl.1.at0 i
   refine AWp.loops (X := { x : Nat × Nat × List Nat // x.1 ≤ m.length ∧ x.2.1 < 4294967296 ∧ Lim x.2.2 ∧ x.2.2.length = l.length + m.length ∧ lv x.2.2 + 4294967296 ^ i * 4294967296 ^ x.1 * x.2.1 = lv (l.take i) * lv m + 4294967296 ^ i * (at0 l i * lv (m.take x.1)) ∧ ∀ j, i + m.length ≤ j → at0 x.2.2 j = 0 })
    (fun a => mkSt [(2, .ptr 0 2 0 0), (3, .ptr 1 2 0 0), (4, .ptr 2 2 0 0), (5, .sl 3 1 0 (l.length + m.length)), (6, .raw (.int .i64 (i : Nat))), (7, .raw (.int .u32 (at0 l i : Nat))), (8, .raw (.int .u64 (a.1.2.1 : Nat))), (20, .lst (V.limbs l)), (21, .raw (.int .i64 (l.length : Nat))), (22, .raw (.int .i64 (i : Nat))), (28, .lst (V.limbs m)), (29, .raw (.int .i64 (m.length : Nat))), (30, .raw (.int .i64 (a.1.1 : Nat)))]
     [(0, true, ⟨43, 2, [.I x]⟩), (1, true, ⟨43, 2, [.I y]⟩), (2, true, ⟨43, 2, [.agg [.raw (.bool false), .raw (.slice none 0 0)]]⟩), (3, true, ⟨110, 1, V.limbs a.1.2.2⟩)] 4 77)
    (fun a => m.length - a.1.1) ⟨(0, 0, r), Nat.zero_le _, by simp, hr, hrl, by simp [lv, hv], h0⟩ (Wk.of [0, 1, 2, 3] (by decide) ?_) ?_
   ·simp only [go_sem]
   ·rintro ⟨⟨k, cr, r'⟩, hk, hcr, hr', hrl', hv', h0'⟩
    simp only at hk hcr hr' hrl' hv' h0'
    refine vc_at (tabs mixed (tbl_cons norm_C tbl_nil)) ?_
    by_cases hkm : k < m.length
    ·have e6 : (k : Int) < m.length := by omega
     have m1 := hm.1.at0 k
     have o1 := hr'.at0 (i + k)
     have hb1 := mulb _ _ _ _ l1 m1 hcr o1
     obtain ⟨p, hp⟩ : ∃ p : Nat, p = at0 l i * at0 m k := ⟨_, rfl⟩
     have hpI : ((at0 l i : Int) * (at0 m k : Int)) = (p : Int) := by rw [hp]; simp
     rw [← hp] at hb1
     obtain ⟨T, hT⟩ : ∃ T : Nat, T = cr + (p + at0 r' (i + k)) := ⟨_, rfl⟩
     have hTI : (cr : Int) + ((p : Int) + (at0 r' (i + k) : Int)) = (T : Int) := by rw [hT]; simp
     rw [← hT] at hb1
     have a1 : (at0 l i : Int) % 18446744073709551616 = at0 l i := by omega
     have a2 : (at0 m k : Int) % 18446744073709551616 = at0 m k := by omega
     have a3 : (at0 r' (i + k) : Int) % 18446744073709551616 = at0 r' (i + k) := by omega
     have a4 : (i : Int) + k = ((i + k : Nat) : Int) := by omega
     have a5 : (T : Int) % 4294967296 = ((T % 4294967296 : Nat) : Int) := by omega
     have a6 : (T : Int) / 4294967296 = ((T / 4294967296 : Nat) : Int) := by omega
     have a7 : (k : Int) + 1 = ((k + 1 : Nat) : Int) := by omega
     simp only [go_sem, e1, e2, f1, f2, e5, e6, hrl', a1, a2, a3, a4, hpI, hTI, a5, a6, a7]
     and_intros
     any_goals omega
     have hlt' : i + k < r'.length := by omega
     have hT2 : T / 4294967296 < 4294967296 := by omega
     refine ⟨⟨(k + 1, T / 4294967296, r'.set (i + k) (T % 4294967296)), hkm, hT2, hr'.set _ (by omega), by simp [hrl'], ?_, fun j hj => by rw [at0_set hlt', if_neg (by omega)]; exact h0' j hj⟩, Wk.of [0, 1, 2, 3] (by decide) ?_, by simp only; omega⟩
     ·have hs := lv_set (l := r') (i := i + k) (x := T % 4294967296) hlt'
      rw [Nat.pow_add] at hs
      rw [Nat.pow_succ, mul_step hv' hT hs, hp, lv_take_succ', Nat.mul_add (at0 l i), Nat.mul_add, Nat.mul_left_comm (at0 l i)]
     ·simp only [go_sem, hrl']
    ·have e6 : ¬ (k : Int) < m.length := by omega
     have a4 : (i : Int) + m.length = ((i + m.length : Nat) : Int) := by omega
     have a5 : (cr : Int) % 4294967296 = (cr : Int) := by omega
     have a7 : (i : Int) + 1 = ((i + 1 : Nat) : Int) := by omega
     simp only [go_sem, e1, e2, f1, f2, e5, e6, hrl', a4, a5, a7]
     and_intros
     any_goals omega
     have hlt' : i + m.length < r'.length := by omega
     have hkl : k = m.length := by omega
     subst hkl
     refine ⟨⟨(i + 1, r'.set (i + m.length) cr), h, hr'.set _ hcr, by simp [hrl'], ?_, fun j hj => by rw [at0_set hlt', if_neg (by omega)]; exact h0' j (by omega)⟩, Wk.of [0, 1, 2, 3] (by decide) ?_, by simp only; omega⟩
     ·have hs := lv_set (l := r') (i := i + m.length) (x := cr) hlt'
      have hz0 := h0' (i + m.length) (Nat.le_refl _)
      rw [List.take_length, ← Nat.pow_add] at hv'
      rw [hz0, Nat.mul_zero, Nat.add_zero] at hs
      simp only
      rw [hs, hv', lv_take_succ', Nat.add_mul, Nat.mul_assoc]
     ·simp only [go_sem, hrl']
  ·have e5 : ¬ (i : Int) < l.length := by omega
   have hil : i = l.length := by omega
   subst hil
   rw [List.take_length] at hv
   simp only [go_sem, e1, e2, f1, f2, e5, hrl, List.take_of_length_le (Nat.le_of_eq hrl)]
   refine ⟨⟨hr, by omega⟩, out_II ?_⟩
   have e : sv (s != t) l * (lv m : Int) = sv (s != t) r := by unfold sv; rw [hv]; split <;> simp [Int.natCast_mul, Int.neg_mul]
   rw [← e, hz, hz']
   cases s <;> cases t <;> simp [sv, Int.neg_mul, Int.mul_neg]
end Go.Proofs.YtfbogelmgdojgaaGreat


/- Scalar functions of math/bits, by the kit's walk. -/
namespace Go.Proofs.YtfbogelmgdojgaaGreat
set_option linter.unusedSimpArgs false
set_option linter.unusedVariables false
open Go.RowKit

theorem len32_any (x : Int) (w : World) (h0 : 0 ≤ x) (h1 : x ≤ 4294967295) :
 Calls Tryz.prog 159 #[.int .u32 x] w fun e w' => e = .returned (.int .i64 (Lib.bitLen x.toNat)) ∧ w = w' := by
 rcases Int.lt_or_le x 256 with hx | hx
 ·have hl := Lib.len8_of x (by omega) (by omega)
  have hb := Lib.bitLen_le8' x (by omega) (by omega)
  have i1 : x ≤ 255 := by omega
  generalize Lib.bitLen x.toNat = n at *
  go_enter Tryz.func159, Tryz.ntmps159
  go_wp2
  go_ret
  exact ⟨rfl, rfl⟩
 rcases Int.lt_or_le x 65536 with hy | hy
 ·have hl := Lib.len8_of (x / 256) (by omega) (by omega)
  have hb := Lib.bitLen_le8' (x / 256) (by omega) (by omega)
  have hs := Lib.bitLen_shift8 x.toNat (by omega) (by omega)
  have ht : (x / 256).toNat = x.toNat / 256 := by omega
  rw [ht] at hl hb
  have i0 : 0 ≤ x / 256 := by omega
  have i1 : x / 256 ≤ 255 := by omega
  rw [hs]
  clear hs ht
  generalize Lib.bitLen (x.toNat / 256) = n at *
  go_enter Tryz.func159, Tryz.ntmps159
  go_wp2
  go_ret
  exact ⟨by simp, rfl⟩
 rcases Int.lt_or_le x 16777216 with hz | hz
 ·have hl := Lib.len8_of (x / 65536) (by omega) (by omega)
  have hb := Lib.bitLen_le8' (x / 65536) (by omega) (by omega)
  have hs := Lib.bitLen_shift16 x.toNat (by omega) (by omega)
  have ht : (x / 65536).toNat = x.toNat / 65536 := by omega
  rw [ht] at hl hb
  have i0 : 0 ≤ x / 65536 := by omega
  have i1 : x / 65536 ≤ 255 := by omega
  rw [hs]
  clear hs ht
  generalize Lib.bitLen (x.toNat / 65536) = n at *
  go_enter Tryz.func159, Tryz.ntmps159
  go_wp2
  go_ret
  exact ⟨by simp, rfl⟩
 ·have hl := Lib.len8_of (x / 65536 / 256) (by omega) (by omega)
  have hb := Lib.bitLen_le8' (x / 65536 / 256) (by omega) (by omega)
  have hs := Lib.bitLen_shift24 x.toNat (by omega) (by omega)
  have ht : (x / 65536 / 256).toNat = x.toNat / 16777216 := by omega
  rw [ht] at hl hb
  have i0 : 0 ≤ x / 65536 / 256 := by omega
  have i1 : x / 65536 / 256 ≤ 255 := by omega
  have i2 : 256 ≤ x / 65536 := by omega
  rw [hs]
  clear hs ht
  generalize Lib.bitLen (x.toNat / 16777216) = n at *
  go_enter Tryz.func159, Tryz.ntmps159
  go_wp2
  go_ret
  exact ⟨by simp, rfl⟩


theorem PCall.of_calls1 {P : Program} {f : FuncId} {a : Value} {r : Value} (h : ∀ w, Calls P f #[a] w fun e w' => e = .returned r ∧ w = w') (hr : r.cells = #[r]) : PCall P f [.raw a] (.raw r) := by
 intro B w vs hl hv hB
 match vs, hl with
 | [v], _ =>
   have e := RepW.raw_inv (hv 0 _ _ rfl rfl)
   subst e
   refine (h w).mono ?_
   rintro e w' ⟨rfl, rfl⟩
   exact ⟨_, rfl, RepV.of_W (RepW.raw hr) (by intro l h; cases h), Below.refl _ _⟩
def lzN (x : Nat) : Nat := 32 - Lib.bitLen x
theorem bitLen32 {x : Nat} (h1 : x < 4294967296) (h0 : 0 < x) : Lib.bitLen x ≤ 32 ∧ 1 ≤ Lib.bitLen x ∧ 2147483648 ≤ x * 2 ^ lzN x ∧ x * 2 ^ lzN x < 4294967296 := by
 have e64 : (2 : Nat) ^ 64 = 18446744073709551616 := by decide
 obtain ⟨a, b, c⟩ := bitLen_bounds 64 x (by omega) (by omega) (by omega)
 have hb : Lib.bitLen x ≤ 32 := by
  rcases Nat.lt_or_ge 32 (Lib.bitLen x) with h | h
  ·have h2 : 2 ^ 32 ≤ 2 ^ (Lib.bitLen x - 1) := Nat.pow_le_pow_right (by decide) (by omega)
   have e32 : (2 : Nat) ^ 32 = 4294967296 := by decide
   omega
  ·exact h
 refine ⟨hb, c, ?_, ?_⟩
 ·have e31 : (2 : Nat) ^ (Lib.bitLen x - 1) * 2 ^ (32 - Lib.bitLen x) = 2147483648 := by
   rw [← Nat.pow_add, show Lib.bitLen x - 1 + (32 - Lib.bitLen x) = 31 from by omega]
  unfold lzN
  rw [← e31]; exact Nat.mul_le_mul_right _ a
 ·have e32 : (2 : Nat) ^ (Lib.bitLen x) * 2 ^ (32 - Lib.bitLen x) = 4294967296 := by
   rw [← Nat.pow_add, show Lib.bitLen x + (32 - Lib.bitLen x) = 32 from by omega]
  unfold lzN
  rw [← e32]; exact Nat.mul_lt_mul_of_pos_right b (Nat.two_pow_pos _)
def kLen32 : Con := con1 (pN .u32) fun x => (0 ≤ x ∧ x ≤ 4294967295, .raw (.int .i64 (Lib.bitLen x.toNat : Nat)))
attribute [go_sem ↓, go_sem] kLen32
theorem len32_C : Ctr Tryz.prog 159 kLen32 := Ctr.c1 (by kernel_rfl) fun x h => PCall.of_calls1 (fun w => len32_any x w h.1 h.2) (by kernel_rfl)
def kLz32 : Con := con1 (pN .u32) fun x => (0 < x ∧ x ≤ 4294967295, .raw (.int .i64 (lzN x.toNat : Nat)))
attribute [go_sem ↓, go_sem] kLz32
theorem lz32_C : Ctr Tryz.prog 157 kLz32 := Ctr.c1 (by kernel_rfl) fun x h => by
 obtain ⟨h0, h1⟩ := h
 refine PCall.of_vc (tabs mixed (tbl_cons len32_C tbl_nil)) Tryz.func157 rfl Tryz.ntmps157 Tryz.results157 (by simp) ?_
 have hb := bitLen32 (x := x.toNat) (by omega) (by omega)
 have e1 : (32 : Int) - (Lib.bitLen x.toNat : Nat) = ((lzN x.toNat : Nat) : Int) := by unfold lzN; omega
 simp only [go_sem, e1]
 omega
end Go.Proofs.YtfbogelmgdojgaaGreat


/- Contracts: short, shift. -/
namespace Go.Proofs.YtfbogelmgdojgaaGreat
set_option linter.unusedSimpArgs false
set_option linter.unusedVariables false
open Go.RowKit

theorem short_V (l : List Nat) (d : Nat) (hl : Lim l) (h1 : l.length ≤ 30000000000000) (hd0 : 1 ≤ d) (hd : d < 4294967296) :
 PCall Tryz.prog 151 [.lst (V.limbs l), .raw (.int .u32 (d : Nat))] (.tup [.lst (V.limbs (nl l.length (lv l / d))), .raw (.int .u32 ((lv l % d : Nat) : Int))]) := by
 refine PCall.of_vc (tabs mixed tbl_nil) Tryz.func151 rfl Tryz.ntmps151 Tryz.results151 (by simp) ?_
 simp only [go_sem]
 and_intros
 any_goals omega
 refine AWp.loops (X := { x : Nat × Nat × List Nat // x.1 ≤ l.length ∧ x.2.1 < d ∧ Lim x.2.2 ∧ x.2.2.length = l.length ∧ lv (l.drop x.1) = lv (x.2.2.drop x.1) * d + x.2.1 })
  (fun a => mkSt [(0, .lst (V.limbs l)), (1, .raw (.int .u32 (d : Nat))), (6, .sl 0 1 0 l.length), (7, .raw (.int .u64 (a.1.2.1 : Nat))), (8, .raw (.int .i64 ((a.1.1 : Nat) - 1)))] [(0, true, ⟨110, 1, V.limbs a.1.2.2⟩)] 1 42)
  (fun a => a.1.1) ⟨(l.length, 0, List.replicate l.length 0), Nat.le_refl _, hd0, Lim.replicate _, by simp, by rw [List.drop_length, List.drop_eq_nil_of_le (by simp)]; simp [lv]⟩ (Wk.of [4] (by decide) ?_) ?_
 ·simp only [go_sem]
 ·rintro ⟨⟨k, rest, r⟩, hk, hrest, hr, hrl, hv⟩
  simp only at hk hrest hr hrl hv
  refine vc_at (tabs mixed tbl_nil) ?_
  rcases k with _ | k
  ·rw [List.drop_zero, List.drop_zero] at hv
   have q1 : lv l % d = rest := by rw [hv, Nat.add_comm, Nat.add_mul_mod_self_right, Nat.mod_eq_of_lt hrest]
   have q2 : lv r = lv l / d := by rw [hv, Nat.add_comm, Nat.add_mul_div_right _ _ hd0, Nat.div_eq_of_lt hrest, Nat.zero_add]
   have q3 : (rest : Int) % 4294967296 = (rest : Int) := by omega
   simp only [go_sem, hrl, q3, List.take_of_length_le (Nat.le_of_eq hrl)]
   rw [← nl_of hr hrl q2, q1]
   exact ⟨.refl _, .refl _⟩
  ·have e1 : ((k + 1 : Nat) : Int) - 1 = k := by omega
   have e2 : (0 : Int) ≤ k := by omega
   have l1 := hl.at0 k
   have hor := or_shift (at0 l k : Int) rest (by omega) (by omega) (by omega) (by omega)
   obtain ⟨T, hT⟩ : ∃ T : Nat, T = rest * 4294967296 + at0 l k := ⟨_, rfl⟩
   have hTI : (rest : Int) * 4294967296 + (at0 l k : Int) = (T : Int) := by rw [hT]; simp
   rw [hTI] at hor
   obtain ⟨Q, hQ⟩ : ∃ Q : Nat, Q = T / d := ⟨_, rfl⟩
   obtain ⟨R, hR⟩ : ∃ R : Nat, R = T % d := ⟨_, rfl⟩
   have hQI : (T : Int) / (d : Int) = (Q : Int) := by rw [hQ]; simp
   have hRI : (T : Int) % (d : Int) = (R : Int) := by rw [hR]; simp
   have hQb : Q < 4294967296 := by
    rw [hQ]
    apply Nat.div_lt_of_lt_mul
    have h3 : rest * 4294967296 + 4294967296 ≤ d * 4294967296 := by
     have : rest + 1 ≤ d := hrest
     have := Nat.mul_le_mul_right 4294967296 this
     omega
    omega
   have hRb : R < d := by rw [hR]; exact Nat.mod_lt _ hd0
   have hTb : T < 18446744073709551616 := by omega
   have hTd : T = Q * d + R := by rw [hQ, hR, Nat.mul_comm]; exact (Nat.div_add_mod T d).symm
   have a1 : IntKind.u64.wrap ((rest : Int) * 4294967296) = (rest : Int) * 4294967296 := IntWalk.u64_in _ (by omega)
   have a2 : (at0 l k : Int) % 18446744073709551616 = at0 l k := by omega
   have a3 : (d : Int) % 18446744073709551616 = d := by omega
   have a4 : (Q : Int) % 4294967296 = Q := by omega
   have a5 : ¬ ((d : Int) = 0) := by omega
   simp only [go_sem, e1, e2, hrl, a1, a2, a3, hor, hQI, hRI, a4, a5]
   have hmx : IntKind.u64.max = 18446744073709551615 := by decide
   rw [hmx]
   and_intros
   any_goals omega
   refine ⟨⟨(k, R, r.set k Q), by omega, hRb, hr.set _ hQb, by simp [hrl], ?_⟩, Wk.of [0] (by decide) ?_, Nat.lt_succ_self k⟩
   ·show lv (l.drop k) = lv ((r.set k Q).drop k) * d + R
    rw [lv_drop_set _ (by omega), lv_drop, hv, Nat.add_mul, Nat.mul_add, Nat.mul_assoc]
    omega
   ·simp only [go_sem, hrl]
def kShort : Con := con2 pL (pN .u32) fun l d => (Lim l ∧ l.length ≤ 30000000000000 ∧ 1 ≤ d ∧ d < 4294967296, .tup [.lst (V.limbs (nl l.length (lv l / d.toNat))), .raw (.int .u32 ((lv l % d.toNat : Nat) : Int))])
attribute [go_sem ↓, go_sem] kShort
theorem short_C : Ctr Tryz.prog 151 kShort := Ctr.c2 (by kernel_rfl) fun l d h => by
 obtain ⟨h1, h2, h3, h4⟩ := h
 have := short_V l d.toNat h1 h2 (by omega) (by omega)
 rw [show ((d.toNat : Nat) : Int) = d from by omega] at this
 exact this
theorem shift_V (l : List Nat) (k : Nat) (hl : Lim l) (h1 : l.length ≤ 30000000000000) (hk : k < 32) :
 FCall Tryz.prog 158 [.lst (V.limbs l), .raw (.int .i64 (k : Nat))] ⟨110, 1, V.limbs (nl (l.length + 1) (lv l * 2 ^ k))⟩ := by
 refine FCall.of_vc (tabs mixed tbl_nil) Tryz.func158 rfl Tryz.ntmps158 Tryz.results158 (by simp) ?_
 have e1 : (l.length : Int) + 1 = ((l.length + 1 : Nat) : Int) := by omega
 simp only [go_sem, e1]
 and_intros
 any_goals omega
 refine AWp.loops (X := { x : Nat × List Nat // x.1 ≤ l.length ∧ Lim x.2 ∧ x.2.length = l.length + 1 ∧ lv x.2 = lv (l.take x.1) * 2 ^ k ∧ (∀ j, x.1 < j → at0 x.2 j = 0) ∧ at0 x.2 x.1 < 2 ^ k })
  (fun a => mkSt [(0, .lst (V.limbs l)), (1, .raw (.int .i64 (k : Nat))), (5, .sl 0 1 0 (l.length + 1)), (13, .lst (V.limbs l)), (14, .raw (.int .i64 (l.length : Nat))), (15, .raw (.int .i64 (a.1.1 : Nat)))] [(0, true, ⟨110, 1, V.limbs a.1.2⟩)] 1 41)
  (fun a => l.length - a.1.1) ⟨(0, List.replicate (l.length + 1) 0), Nat.zero_le _, Lim.replicate _, by simp, by simp [lv, lv_replicate], fun j _ => at0_replicate _ _, by simp only [at0_replicate]; exact Nat.two_pow_pos k⟩ (Wk.of [4] (by decide) ?_) ?_
 ·simp only [go_sem]
 ·rintro ⟨⟨i, r⟩, hi, hr, hrl, hv, hz, htop⟩
  simp only at hi hr hrl hv hz htop
  refine vc_at (tabs mixed tbl_nil) ?_
  by_cases h : i < l.length
  ·have e3 : (i : Int) < l.length := by omega
   have l1 := hl.at0 i
   have hp32 : (2 : Nat) ^ k * 2 ^ (32 - k) = 4294967296 := by rw [← Nat.pow_add, show k + (32 - k) = 32 from by omega]
   have hpp : 0 < (2 : Nat) ^ k := Nat.two_pow_pos k
   have hpl : (2 : Nat) ^ k ≤ 2147483648 := by
    have : (2 : Nat) ^ k ≤ 2 ^ 31 := Nat.pow_le_pow_right (by decide) (by omega)
    have e : (2 : Nat) ^ 31 = 2147483648 := by decide
    omega
   obtain ⟨W, hV⟩ : ∃ W : Nat, W = at0 l i * 2 ^ k := ⟨_, rfl⟩
   have hVb : W < 4294967296 * 2 ^ k := by rw [hV]; exact Nat.mul_lt_mul_of_pos_right l1 hpp
   have hVb2 : W < 9223372036854775808 := by
    have : 4294967296 * 2 ^ k ≤ 4294967296 * 2147483648 := Nat.mul_le_mul_left _ hpl
    omega
   have hVI : IntKind.u64.wrap ((at0 l i : Int) * 2 ^ k) = (W : Int) := by
    have e : (at0 l i : Int) * 2 ^ k = (W : Int) := by rw [hV]; simp
    rw [e]; exact IntWalk.u64_in _ (by omega)
   have hVd : W / 4294967296 < 2 ^ k := Nat.div_lt_of_lt_mul hVb
   have hVm : W % 4294967296 % 2 ^ k = 0 := by
    rw [Nat.mod_mod_of_dvd _ ⟨2 ^ (32 - k), hp32.symm⟩, hV, Nat.mul_mod_left]
   have hor := bits_or_u32 (at0 r i) (W % 4294967296) k (by omega) htop hVm (by omega)
   have hsum : at0 r i + W % 4294967296 < 4294967296 := by
    have h3 : W % 4294967296 ≤ 4294967296 - 2 ^ k := by
     have e1 : W % 4294967296 = 2 ^ k * (W % 4294967296 / 2 ^ k) := by have := Nat.div_add_mod (W % 4294967296) (2 ^ k); omega
     have e2 : W % 4294967296 / 2 ^ k < 2 ^ (32 - k) := Nat.div_lt_of_lt_mul (by rw [hp32]; omega)
     have e3 : 2 ^ k * (W % 4294967296 / 2 ^ k) + 2 ^ k ≤ 2 ^ k * 2 ^ (32 - k) := by
      rw [← Nat.mul_succ]; exact Nat.mul_le_mul_left _ e2
     omega
    omega
   obtain ⟨U, hU⟩ : ∃ U : Nat, U = at0 r i + W % 4294967296 := ⟨_, rfl⟩
   have horI : bits BinOp.or IntKind.u32 (at0 r i : Int) ((W : Int) % 4294967296) = (U : Int) := by
    rw [hU, ← hor]; congr 1
   have hUb : U < 4294967296 := by omega
   have hfin : lv ((r.set i U).set (i + 1) (W / 4294967296)) = lv (l.take (i + 1)) * 2 ^ k := by
    have a1 := lv_set (l := r) (i := i) (x := U) (by omega)
    have a2 := lv_set (l := r.set i U) (i := i + 1) (x := W / 4294967296) (by rw [List.length_set]; omega)
    rw [at0_set (by omega), if_neg (by omega), hz (i + 1) (by omega), Nat.mul_zero, Nat.add_zero] at a2
    rw [a2, lv_take_succ', Nat.add_mul, ← hv, Nat.mul_assoc, ← hV, Nat.pow_succ, Nat.mul_assoc]
    have e4 : 4294967296 ^ i * U = 4294967296 ^ i * at0 r i + 4294967296 ^ i * (W % 4294967296) := by rw [hU, Nat.mul_add]
    have e5 : 4294967296 ^ i * (W % 4294967296) + 4294967296 ^ i * (4294967296 * (W / 4294967296)) = 4294967296 ^ i * W := by rw [← Nat.mul_add, Nat.mod_add_div]
    omega
   have a2 : (at0 l i : Int) % 18446744073709551616 = at0 l i := by omega
   have a3 : (W : Int) / 4294967296 % 4294967296 = ((W / 4294967296 : Nat) : Int) := by omega
   have a4 : (i : Int) + 1 = ((i + 1 : Nat) : Int) := by omega
   have a6 : ((k : Int)).toNat = k := by omega
   simp only [go_sem, e3, hrl, a2, a3, a4, a6, hVI, horI]
   and_intros
   any_goals omega
   refine ⟨⟨(i + 1, (r.set i U).set (i + 1) (W / 4294967296)), h, (hr.set _ hUb).set _ (by omega), by simp [hrl], hfin, fun j hj => ?_, ?_⟩, Wk.of [0] (by decide) ?_, by simp only; omega⟩
   ·simp only at hj
    rw [at0_set (by rw [List.length_set]; omega), if_neg (by omega), at0_set (by omega), if_neg (by omega)]
    exact hz j (by omega)
   ·simp only
    rw [at0_set (by rw [List.length_set]; omega), if_pos rfl]; exact hVd
   ·simp only [go_sem, hrl]
  ·have e3 : ¬ (i : Int) < l.length := by omega
   have hil : i = l.length := by omega
   subst hil
   rw [List.take_length] at hv
   simp only [go_sem, e3, nl_length, ← nl_of hr hrl hv]
   exact ⟨0, by rw [hrl], by simp⟩
def kShift : FCon := con2 pL (pN .i64) fun l k => (Lim l ∧ l.length ≤ 30000000000000 ∧ 0 ≤ k ∧ k < 32, ⟨110, 1, V.limbs (nl (l.length + 1) (lv l * 2 ^ k.toNat))⟩)
attribute [go_sem ↓, go_sem] kShift
theorem shift_C : FCtr Tryz.prog 158 kShift := FCtr.c2 (by kernel_rfl) fun l k h => by
 obtain ⟨h1, h2, h3, h4⟩ := h
 have := shift_V l k.toNat h1 h2 (by omega)
 rw [show ((k.toNat : Nat) : Int) = k from by omega] at this
 exact this
end Go.Proofs.YtfbogelmgdojgaaGreat


/- Contracts: slices.Clone. -/
namespace Go.Proofs.YtfbogelmgdojgaaGreat
set_option linter.unusedSimpArgs false
set_option linter.unusedVariables false
open Go.RowKit

theorem clone_V (x : Nat) (l : List Nat) (h1 : l.length ≤ 30000000000000) :
 PCall Tryz.prog 150 [.lst (V.limbs (x :: l))] (.lst (V.limbs (x :: l))) := by
 refine PCall.of_vc (tabs mixed tbl_nil) Tryz.func150 rfl Tryz.ntmps150 Tryz.results150 (by simp) ?_
 have e1 : V.limbs (x :: l) = .raw (.int .u32 (x : Nat)) :: V.limbs l := rfl
 rw [e1]
 have e2 : maxLen = 9223372036854775807 := by decide
 simp only [go_sem, List.take_length, e2]
 exact ⟨⟨_, rfl⟩, by omega, by omega⟩
theorem clone_nil_walk (A : Option Addr) (c : Nat) (w : World) : Calls Tryz.prog 150 #[.slice A 0 c] w fun e w' => ∃ A' c', e = .returned (.slice A' 0 c') ∧ Below w.heap.size w w' := by
 have heq := Lib.run_eql_slice_nil (P := Tryz.prog) w 41 110 A 0 c 0 0 Tryz.underlying41
 cases A with
 | none =>
   simp only [Option.isNone_none] at heq
   go_enter Tryz.func150, Tryz.ntmps150
   go_wp2_with fail
   go_ret
   exact ⟨_, _, rfl, Below.refl _ _⟩
 | some A =>
   simp only [Option.isNone_some] at heq
   go_enter Tryz.func150, Tryz.ntmps150
   go_wp2_with fail
   go_ret
   exact ⟨_, _, rfl, (Below.refl _ _).alloc (Nat.le_refl _) _⟩
theorem clone_nil : PCall Tryz.prog 150 [.lst []] (.lst []) := by
 intro B w vs hl hv hB
 match vs, hl with
 | [v], _ =>
   have h := (hv 0 _ _ rfl rfl).atom rfl
   cases h with
   | nil _ A c =>
     refine (clone_nil_walk A c w).mono ?_
     rintro e w' ⟨A', c', rfl, hb⟩
     exact ⟨_, rfl, RepV.of_W (RepW.of_atom (.nil _ _ _) rfl rfl) (by intro l h; cases h), hb⟩
   | lst _ l b a c vs h0 => exact absurd rfl h0
def kClone : Con := con1 pL fun l => (l.length ≤ 30000000000000, .lst (V.limbs l))
attribute [go_sem ↓, go_sem] kClone
theorem clone_C : Ctr Tryz.prog 150 kClone := Ctr.c1 (by kernel_rfl) fun l h => by
 cases l with
 | nil => exact clone_nil
 | cons x l => exact clone_V x l (by simp at h; omega)
end Go.Proofs.YtfbogelmgdojgaaGreat


/- Plain arithmetic for the long division. No program in sight. -/
namespace Go.Proofs.YtfbogelmgdojgaaGreat
set_option linter.unusedSimpArgs false
set_option linter.unusedVariables false
open Go.RowKit

theorem est_dec {B P v1 v2 v' top u2 w' g rest : Nat} (hw : w' < P) (h : g * v1 + rest = top) (hc : rest * B + u2 < g * v2) :
 (top * B + u2) * P + w' < g * ((v1 * B + v2) * P + v') := by
 have e1 : g * (v1 * B + v2) = g * v1 * B + g * v2 := by rw [Nat.mul_add, Nat.mul_assoc]
 have e2 : top * B = g * v1 * B + rest * B := by rw [← h, Nat.add_mul]
 have e3 : top * B + u2 + 1 ≤ g * (v1 * B + v2) := by omega
 have e4 := Nat.mul_le_mul_right P e3
 have e5 : g * ((v1 * B + v2) * P + v') = g * (v1 * B + v2) * P + g * v' := by rw [Nat.mul_add, Nat.mul_assoc]
 have e6 : (top * B + u2 + 1) * P = (top * B + u2) * P + P := by rw [Nat.add_mul _ 1, Nat.one_mul]
 have e7 : 0 ≤ g * v' := Nat.zero_le _
 omega
theorem est_fin {B P v1 v2 v' top u2 w' g rest : Nat} (hv1 : 1 ≤ v1) (hv' : v' < P) (hg : g ≤ B) (h : g * v1 + rest = top) (hc : g * v2 ≤ rest * B + u2) :
 g * ((v1 * B + v2) * P + v') ≤ (top * B + u2) * P + w' + ((v1 * B + v2) * P + v') := by
 have e1 : g * (v1 * B + v2) = g * v1 * B + g * v2 := by rw [Nat.mul_add, Nat.mul_assoc]
 have e2 : top * B = g * v1 * B + rest * B := by rw [← h, Nat.add_mul]
 have e3 : g * (v1 * B + v2) ≤ top * B + u2 := by omega
 have e4 := Nat.mul_le_mul_right P e3
 have e5 : g * ((v1 * B + v2) * P + v') = g * (v1 * B + v2) * P + g * v' := by rw [Nat.mul_add, Nat.mul_assoc]
 have e6 : g * v' ≤ B * P := Nat.mul_le_mul hg (Nat.le_of_lt hv')
 have e7 : B * P ≤ (v1 * B + v2) * P := by
  refine Nat.mul_le_mul_right P ?_
  have : 1 * B ≤ v1 * B := Nat.mul_le_mul_right B hv1
  omega
 omega
theorem est_big {B v2 u2 g rest : Nat} (hg : g ≤ B) (hv2 : v2 < B) (hr : B ≤ rest) : g * v2 ≤ rest * B + u2 := by
 have h1 : g * v2 ≤ B * B := Nat.mul_le_mul hg (Nat.le_of_lt hv2)
 have h2 : B * B ≤ rest * B := Nat.mul_le_mul_right B hr
 omega
theorem take_lt {l : List Nat} (h : Lim l) (i : Nat) : lv (l.take i) < 4294967296 ^ i :=
 lv_lt_le (h.take i) (by rw [List.length_take]; omega)
theorem pow_pred {n : Nat} (h : 1 ≤ n) : 4294967296 ^ n = 4294967296 ^ (n - 1) * 4294967296 := by
 rw [← Nat.pow_succ]; congr 1; omega
theorem norm_top {m : List Nat} (hm : Lim m) {n k : Nat} (hn : n = m.length) (h1 : 1 ≤ n) (hk : k < 32) (h2 : 2147483648 ≤ at0 m (n - 1) * 2 ^ k) (h3 : at0 m (n - 1) * 2 ^ k < 4294967296) :
 lv m * 2 ^ k < 4294967296 ^ n ∧ 4294967296 ^ (n - 1) * 2147483648 ≤ lv m * 2 ^ k := by
 have e1 : lv m = lv (m.take (n - 1)) + 4294967296 ^ (n - 1) * at0 m (n - 1) := by
  have := lv_take_succ' m (n - 1)
  rw [show n - 1 + 1 = n from by omega, hn, List.take_length] at this
  rw [hn]; exact this
 have e2 := take_lt hm (n - 1)
 have hp : (2 : Nat) ^ k * 2 ^ (32 - k) = 4294967296 := by rw [← Nat.pow_add, show k + (32 - k) = 32 from by omega]
 have e3 : (at0 m (n - 1) + 1) * 2 ^ k ≤ 4294967296 := by
  have : at0 m (n - 1) < 2 ^ (32 - k) := by
   rcases Nat.lt_or_ge (at0 m (n - 1)) (2 ^ (32 - k)) with h | h
   ·exact h
   ·have := Nat.mul_le_mul_right (2 ^ k) h
    rw [Nat.mul_comm (2 ^ (32 - k)), hp] at this
    omega
  have := Nat.mul_le_mul_right (2 ^ k) this
  rw [Nat.mul_comm (2 ^ (32 - k)), hp] at this
  exact this
 constructor
 ·have h5 : lv m < 4294967296 ^ (n - 1) * (at0 m (n - 1) + 1) := by rw [Nat.mul_add, Nat.mul_one]; omega
  have h6 := Nat.mul_lt_mul_of_pos_right h5 (Nat.two_pow_pos k)
  have h7 : 4294967296 ^ (n - 1) * (at0 m (n - 1) + 1) * 2 ^ k ≤ 4294967296 ^ n := by
   rw [Nat.mul_assoc, pow_pred h1]; exact Nat.mul_le_mul_left _ e3
  omega
 ·rw [e1, Nat.add_mul, Nat.mul_assoc]
  have := Nat.mul_le_mul_left (4294967296 ^ (n - 1)) h2
  omega
theorem top_zero {v : List Nat} {n : Nat} (hn : v.length = n + 1) (h : lv v < 4294967296 ^ n) : at0 v n = 0 := by
 have e := lv_take_succ' v n
 rw [← hn, List.take_length] at e
 rcases Nat.eq_zero_or_pos (at0 v n) with h0 | h0
 ·exact h0
 ·have := Nat.mul_le_mul_left (4294967296 ^ n) h0
  omega
theorem top_half {v : List Nat} {n : Nat} (hv : Lim v) (hn : v.length = n + 1) (h1 : 1 ≤ n) (h : lv v < 4294967296 ^ n) (h2 : 4294967296 ^ (n - 1) * 2147483648 ≤ lv v) : 2147483648 ≤ at0 v (n - 1) := by
 have e := lv_take_succ' v n
 rw [← hn, List.take_length, top_zero hn h, Nat.mul_zero, Nat.add_zero] at e
 have e2 := lv_take_succ' v (n - 1)
 rw [show n - 1 + 1 = n from by omega] at e2
 have e3 := take_lt hv (n - 1)
 rcases Nat.lt_or_ge (at0 v (n - 1)) 2147483648 with h0 | h0
 ·have := Nat.mul_le_mul_left (4294967296 ^ (n - 1)) h0
  rw [Nat.succ_eq_add_one, Nat.mul_add, Nat.mul_one] at this
  omega
 ·exact h0
theorem start_lt {l u : List Nat} (hl : Lim l) (hu : Lim u) {n k D : Nat} (hul : u.length = l.length + 1) (hn : 1 ≤ n) (hnl : n ≤ l.length) (hk : k < 32) (he : lv u = lv l * 2 ^ k) (hD : 4294967296 ^ (n - 1) * 2147483648 ≤ D) :
 lv (u.drop (l.length + 1 - n)) < D := by
 have e1 := lv_take_drop u (l.length + 1 - n) (by omega)
 have e2 := lv_lt hl
 have hp : (2 : Nat) ^ k ≤ 2147483648 := by
  have : (2 : Nat) ^ k ≤ 2 ^ 31 := Nat.pow_le_pow_right (by decide) (by omega)
  have e : (2 : Nat) ^ 31 = 2147483648 := by decide
  omega
 have e3 : lv u < 4294967296 ^ l.length * 2147483648 := by
  rw [he]
  exact Nat.lt_of_lt_of_le (Nat.mul_lt_mul_of_pos_right e2 (Nat.two_pow_pos k)) (Nat.mul_le_mul_left _ hp)
 have e4 : 4294967296 ^ l.length * 2147483648 = 4294967296 ^ (l.length + 1 - n) * (4294967296 ^ (n - 1) * 2147483648) := by
  rw [← Nat.mul_assoc, ← Nat.pow_add]; congr 2; omega
 have e5 : 4294967296 ^ (l.length + 1 - n) * lv (u.drop (l.length + 1 - n)) < 4294967296 ^ (l.length + 1 - n) * (4294967296 ^ (n - 1) * 2147483648) := by omega
 have := Nat.lt_of_mul_lt_mul_left e5
 omega
end Go.Proofs.YtfbogelmgdojgaaGreat


/- Contracts: divide. -/
namespace Go.Proofs.YtfbogelmgdojgaaGreat
set_option linter.unusedSimpArgs false
set_option linter.unusedVariables false
open Go.RowKit

attribute [go_sem] Bool.and_self Bool.false_and Bool.and_false Bool.true_and Bool.and_true Bool.false_eq_true Bool.not_true Bool.not_false Bool.cond_true Bool.cond_false
@[go_sem] theorem beq_tt : (true == true) = true := rfl
@[go_sem] theorem beq_ff : (false == false) = true := rfl
@[go_sem] theorem beq_tf : (true == false) = false := rfl
@[go_sem] theorem beq_ft : (false == true) = false := rfl
@[go_sem] theorem bne_tt : (true != true) = false := rfl
@[go_sem] theorem bne_ff : (false != false) = false := rfl
@[go_sem] theorem bne_tf : (true != false) = true := rfl
@[go_sem] theorem bne_ft : (false != true) = true := rfl

def LongTo (N : Nat) : Prop := ∀ l m : List Nat, Lim l → Canon m → l.length ≤ 14000000000000 → m.length ≤ l.length → 2 ≤ m.length → m.length ≤ N →
 PCall Tryz.prog 152 [.lst (V.limbs l), .lst (V.limbs m)] (.tup [.lst (V.limbs (nl (l.length + 1 - m.length) (lv l / lv m))), .lst (V.limbs (nl m.length (lv l % lv m)))])
def dq (l m : List Nat) : List Nat := if lv l < lv m then [] else if m.length = 1 then nl l.length (lv l / lv m) else nl (l.length + 1 - m.length) (lv l / lv m)
def dr (l m : List Nat) : List Nat := if lv l < lv m then l else if m.length = 1 then [lv l % lv m] else nl m.length (lv l % lv m)
theorem lv_one (x : Nat) : lv [x] = x := by simp [lv]
theorem div_lt_pow {l m : List Nat} (hl : Lim l) (hm : Canon m) (h0 : m ≠ []) (h : m.length ≤ l.length) : lv l / lv m < 4294967296 ^ (l.length + 1 - m.length) := by
 have h1 := lv_lt hl
 have h2 := pow_dl_le hm h0
 have h3 : 0 < m.length := List.length_pos_iff.2 h0
 rw [Nat.div_lt_iff_lt_mul (lv_pos hm h0)]
 refine Nat.lt_of_lt_of_le h1 ?_
 have h4 : 4294967296 ^ l.length = 4294967296 ^ (l.length + 1 - m.length) * 4294967296 ^ (m.length - 1) := by rw [← Nat.pow_add]; congr 1; omega
 rw [h4]
 exact Nat.mul_le_mul_left _ h2
theorem dq_spec {l m : List Nat} (hl : Canon l) (hm : Canon m) (h0 : m ≠ []) : Lim (dq l m) ∧ lv (dq l m) = lv l / lv m ∧ (dq l m).length ≤ l.length := by
 have h3 : 0 < m.length := List.length_pos_iff.2 h0
 unfold dq
 split
 ·exact ⟨Lim.nil, by rw [Nat.div_eq_of_lt ‹_›]; rfl, by simp⟩
 ·rename_i h
  have hle := len_of_lt hm hl (by omega)
  split
  ·exact ⟨nl_lim _ _, lv_nl _ _ (Nat.lt_of_le_of_lt (Nat.div_le_self _ _) (lv_lt hl.1)), by rw [nl_length]; exact Nat.le_refl _⟩
  ·exact ⟨nl_lim _ _, lv_nl _ _ (div_lt_pow hl.1 hm h0 hle), by rw [nl_length]; omega⟩
theorem dr_spec {l m : List Nat} (hl : Canon l) (hm : Canon m) (h0 : m ≠ []) : Lim (dr l m) ∧ lv (dr l m) = lv l % lv m ∧ (dr l m).length ≤ max l.length m.length := by
 have hp := lv_pos hm h0
 have hlt := Nat.mod_lt (lv l) hp
 unfold dr
 split
 ·exact ⟨hl.1, by rw [Nat.mod_eq_of_lt ‹_›], by omega⟩
 ·split
  ·rename_i h h1
   have h2 := lv_lt hm.1
   rw [h1, Nat.pow_one] at h2
   exact ⟨Lim.cons (by omega) Lim.nil, lv_one _, by simp; omega⟩
  ·exact ⟨nl_lim _ _, lv_nl _ _ (Nat.lt_trans hlt (lv_lt hm.1)), by rw [nl_length]; omega⟩
set_option maxRecDepth 2000 in
theorem divide_V {N : Nat} (hL : LongTo N) (l m : List Nat) (hl : Canon l) (hm : Canon m) (h0 : m ≠ []) (h1 : l.length ≤ 14000000000000) (h2 : m.length ≤ 14000000000000) (hN : m.length ≤ N) :
 PCall Tryz.prog 143 [.lst (V.limbs l), .lst (V.limbs m)] (.tup [.lst (V.limbs (dq l m)), .lst (V.limbs (dr l m))]) := by
 have h3 : 0 < m.length := List.length_pos_iff.2 h0
 have hlong : Ctr Tryz.prog 152 (con2 pL pL fun l m => (((Lim l ∧ Canon m) ∧ l.length ≤ 14000000000000 ∧ m.length ≤ l.length ∧ 2 ≤ m.length ∧ m.length ≤ N), .tup [.lst (V.limbs (nl (l.length + 1 - m.length) (lv l / lv m))), .lst (V.limbs (nl m.length (lv l % lv m)))])) :=
  Ctr.c2 (by kernel_rfl) fun l m h => hL l m h.1.1 h.1.2 h.2.1 h.2.2.1 h.2.2.2.1 h.2.2.2.2
 refine PCall.of_vc (tabs mixed (tbl_cons compare_C (tbl_cons clone_C (tbl_cons short_C (tbl_cons hlong tbl_nil))))) Tryz.func143 rfl Tryz.ntmps143 Tryz.results143 (by simp) ?_
 by_cases hlt : lv l < lv m
 ·have c1 : cmpI (lv l) (lv m) < 0 := by unfold cmpI; split <;> omega
  simp only [go_sem, c1]
  unfold dq dr
  rw [if_pos hlt, if_pos hlt]
  exact ⟨⟨⟨hl, hm⟩, by omega, by omega⟩, by omega, .refl _, .refl _⟩
 ·have c1 : ¬ cmpI (lv l) (lv m) < 0 := by unfold cmpI; split <;> (try split) <;> omega
  have hle := len_of_lt hm hl (by omega)
  by_cases h4 : m.length = 1
  ·obtain ⟨y, rfl⟩ : ∃ y, m = [y] := by
    match m, h4 with
    | [y], _ => exact ⟨y, rfl⟩
   have c2 : ((([y] : List Nat).length : Nat) : Int) = 1 := rfl
   have hy := hm.1.head
   have hy0 : y ≠ 0 := hm.2 (by simp)
   simp only [go_sem, c1, at0_cons_zero]
   unfold dq dr
   rw [if_neg hlt, if_neg hlt, if_pos h4, if_pos h4, lv_one]
   exact ⟨⟨⟨hl, hm⟩, by omega⟩, ⟨hl.1, by omega, by omega, by omega⟩, .refl _, .refl _⟩
  ·have c2 : ((m.length : Int) == 1) = false := by simp; omega
   simp only [go_sem, c1, c2]
   unfold dq dr
   rw [if_neg hlt, if_neg hlt, if_neg h4, if_neg h4]
   exact ⟨⟨⟨hl, hm⟩, by omega, by omega⟩, ⟨⟨hl.1, hm⟩, h1, hle, by omega, hN⟩, .refl _, .refl _⟩
def kDivide (N : Nat) : Con := con2 pL pL fun l m => ((Canon l ∧ Canon m) ∧ m ≠ [] ∧ l.length ≤ 14000000000000 ∧ m.length ≤ 14000000000000 ∧ m.length ≤ N, .tup [.lst (V.limbs (dq l m)), .lst (V.limbs (dr l m))])
attribute [go_sem ↓, go_sem] kDivide
theorem divide_C {N : Nat} (hL : LongTo N) : Ctr Tryz.prog 143 (kDivide N) := Ctr.c2 (by kernel_rfl) fun l m h => divide_V hL l m h.1.1 h.1.2 h.2.1 h.2.2.1 h.2.2.2.1 h.2.2.2.2
end Go.Proofs.YtfbogelmgdojgaaGreat


/- Contracts: DivMod. -/
namespace Go.Proofs.YtfbogelmgdojgaaGreat
set_option linter.unusedSimpArgs false
set_option linter.unusedVariables false
open Go.RowKit

theorem dm_uniq {x y q r : Int} (h : x = q * y + r) (h0 : 0 ≤ r) (h1 : r < y.natAbs) : x / y = q ∧ x % y = r := by
 rcases Int.lt_trichotomy y 0 with hy | hy | hy
 ·have e := (Int.ediv_emod_unique (a := x) (b := -y) (r := r) (q := -q) (by omega)).2 ⟨by rw [h, Int.neg_mul_neg, Int.mul_comm]; omega, h0, by omega⟩
  rw [Int.ediv_neg, Int.emod_neg] at e
  omega
 ·subst hy; omega
 ·exact (Int.ediv_emod_unique hy).2 ⟨by rw [h, Int.mul_comm]; omega, h0, by omega⟩
theorem dm_pos {s t : Bool} {l m : List Nat} (hm : 0 < lv m) (h : s = false ∨ lv l % lv m = 0) :
 sv s l / sv t m = (if s = t then ((lv l / lv m : Nat) : Int) else -((lv l / lv m : Nat) : Int)) ∧ sv s l % sv t m = ((lv l % lv m : Nat) : Int) := by
 have e : lv l = lv m * (lv l / lv m) + lv l % lv m := (Nat.div_add_mod _ _).symm
 have hr := Nat.mod_lt (lv l) hm
 generalize lv l / lv m = Q at e ⊢
 generalize lv l % lv m = R at e hr h ⊢
 have e' : (lv l : Int) = lv m * Q + R := by rw [e]; push_cast; rfl
 refine dm_uniq ?_ (by omega) (by rw [sv_natAbs]; omega)
 cases s <;> cases t <;> simp only [sv, e'] <;> simp at h ⊢ <;> grind
theorem dm_neg {t : Bool} {l m : List Nat} (hm : 0 < lv m) (h : lv l % lv m ≠ 0) :
 sv true l / sv t m = (if t = true then ((lv l / lv m : Nat) : Int) + 1 else -(((lv l / lv m : Nat) : Int) + 1)) ∧ sv true l % sv t m = ((lv m - lv l % lv m : Nat) : Int) := by
 have e : lv l = lv m * (lv l / lv m) + lv l % lv m := (Nat.div_add_mod _ _).symm
 have hr := Nat.mod_lt (lv l) hm
 generalize lv l / lv m = Q at e ⊢
 generalize lv l % lv m = R at e hr h ⊢
 have e' : (lv l : Int) = lv m * Q + R := by rw [e]; push_cast; rfl
 have e2 : ((lv m - R : Nat) : Int) = lv m - R := by omega
 rw [e2]
 refine dm_uniq ?_ (by omega) (by rw [sv_natAbs]; omega)
 cases t <;> simp only [sv, e'] <;> simp <;> grind
def dmR (x y : Int) : V := if y = 0 then .tup [.I 0, .I 0, .raw (.int .i64 3)] else .tup [.I (x / y), .I (x % y), .raw (.int .i64 0)]
set_option maxRecDepth 2000 in
theorem divMod_V {N : Nat} (hL : LongTo N) (x y : Int) (hx : dl x.natAbs ≤ 12000000000000) (hy : dl y.natAbs ≤ 12000000000000) (hN : dl y.natAbs ≤ N) :
 PCall Tryz.prog 128 [.I x, .I y] (dmR x y) := by
 obtain ⟨s, l, hz, hl, hs, e1, e2, e3⟩ := sv_open x
 obtain ⟨t, m, hz', hm, ht, f1, f2, f3⟩ := sv_open y
 refine PCall.of_vc (tabs mixed (tbl_cons (divide_C hL) (tbl_cons norm_C (tbl_cons add_C (tbl_cons of_C (tbl_cons minus_C (tbl_cons neg_C tbl_nil))))))) Tryz.func128 rfl Tryz.ntmps128 Tryz.results128 (by simp) ?_
 unfold dmR
 by_cases hy0 : y = 0
 ·have hm0 : m = [] := by rw [← sv_zero (s := t) hm, ← hz', hy0]
  rw [if_pos hy0]
  subst hm0
  simp only [go_sem, e1, e2, f1, f2]
  exact out_In rfl
 ·have hm0 : m ≠ [] := fun h => hy0 (by rw [hz']; exact (sv_zero hm).2 h)
  have c0 : ((m.length : Int) == 0) = false := by have := List.length_pos_iff.2 hm0; simp; omega
  have hp := lv_pos hm hm0
  rw [if_neg hy0]
  obtain ⟨q1, q2, q3⟩ := dq_spec hl hm hm0
  obtain ⟨r1, r2, r3⟩ := dr_spec hl hm hm0
  have sq : sv false (dq l m) = ((lv l / lv m : Nat) : Int) := by rw [sv_false, q2]
  have sr : sv false (dr l m) = ((lv l % lv m : Nat) : Int) := by rw [sv_false, r2]
  have d1 : dl (Int.natAbs 1) ≤ 14000000000000 := Nat.le_trans (dl_le (k := 1).2 (by decide)) (by decide)
  have d2 : dl (lv l / lv m) ≤ l.length := dl_le.2 (Nat.lt_of_le_of_lt (Nat.div_le_self _ _) (lv_lt hl.1))
  have hrm := Nat.mod_lt (lv l) hp
  have g1 : sv s l / sv t m = x / y := by rw [hz, hz']
  have g2 : sv s l % sv t m = x % y := by rw [hz, hz']
  have x1 : (true != false) = true := rfl
  have x2 : (true != true) = false := rfl
  have x3 : (false != false) = false := rfl
  have x4 : (false != true) = true := rfl
  by_cases hR : s = false ∨ lv l % lv m = 0
  ·obtain ⟨h1, h2⟩ := dm_pos (t := t) (l := l) hp hR
   rw [← g1, ← g2, h1, h2]
   have hR' : (bif s then decide (0 < (((dg (lv l % lv m)).length : Nat) : Int)) else false) = false := by
    rcases hR with rfl | h
    ·rfl
    ·rw [h]; cases s <;> rfl
   cases s <;> cases t <;> simp only [Bool.cond_true, Bool.cond_false] at hR' <;> simp only [go_sem, e1, e2, f1, f2, c0, sq, sr, Int.natAbs_natCast, hR', lv_dg, x1, x2, x3, x4]
   all_goals (and_intros <;> first | rfl | assumption | omega | exact hl.1 | exact hl.2 | exact hm.1 | exact hm.2)
  ·have hs1 : s = true := by cases s <;> simp_all
   have hR0 : lv l % lv m ≠ 0 := fun h => hR (.inr h)
   subst hs1
   have c1 : 0 < (((dg (lv l % lv m)).length : Nat) : Int) := by
    have := dl_eq_zero (n := lv l % lv m)
    unfold dl at this
    omega
   obtain ⟨h1, h2⟩ := dm_neg (t := t) (l := l) hp hR0
   rw [← g1, ← g2, h1, h2]
   have s3 : sv false (nl m.length (lv m - lv l % lv m)) = ((lv m - lv l % lv m : Nat) : Int) := by
    rw [sv_false, lv_nl _ _ (Nat.lt_of_le_of_lt (Nat.sub_le _ _) (lv_lt hm.1))]
   have s4 : (dg (lv l % lv m)).length ≤ m.length := dl_le.2 (Nat.lt_trans hrm (lv_lt hm.1))
   have s5 := dg_lim (lv l % lv m)
   have s6 := nl_lim m.length (lv m - lv l % lv m)
   have s7 := hm.1
   cases t <;> simp only [go_sem, e1, e2, f1, f2, c0, c1, sq, sr, Int.natAbs_natCast, lv_dg, x1, x2, x3, x4, s3, nl_length]
   all_goals (and_intros <;> first | rfl | assumption | omega | exact hl.1 | exact hl.2 | exact hm.1 | exact hm.2)
end Go.Proofs.YtfbogelmgdojgaaGreat


/- Contracts: Gcd. -/
namespace Go.Proofs.YtfbogelmgdojgaaGreat
set_option linter.unusedSimpArgs false
set_option linter.unusedVariables false
open Go.RowKit

set_option maxRecDepth 2000 in
theorem gcd_V {N : Nat} (hL : LongTo N) (x y : Int) (hx : dl x.natAbs ≤ 12000000000000) (hy : dl y.natAbs ≤ 12000000000000) (hN : dl y.natAbs ≤ N) :
 PCall Tryz.prog 126 [.I x, .I y] (.I (Nat.gcd x.natAbs y.natAbs : Nat)) := by
 refine PCall.of_vc (tabs mixed (tbl_cons (divide_C hL) (tbl_cons norm_C tbl_nil))) Tryz.func126 rfl Tryz.ntmps126 Tryz.results126 (by simp) ?_
 simp only [go_sem]
 refine ⟨by rfl, ?_⟩
 refine AWp.loops (X := { p : Nat × Nat // Nat.gcd p.1 p.2 = Nat.gcd x.natAbs y.natAbs ∧ dl p.1 ≤ 12000000000000 ∧ dl p.2 ≤ dl y.natAbs })
  (fun a => mkSt [(4, .ptr 0 2 0 0), (5, .lst (V.limbs (dg a.1.1))), (6, .lst (V.limbs (dg a.1.2)))]
   [(0, true, ⟨43, 2, [.agg [.raw (.bool false), .raw (.slice none 0 0)]]⟩)] 1 28)
  (fun a => a.1.2) ⟨(x.natAbs, y.natAbs), rfl, hx, Nat.le_refl _⟩ (Wk.of [2] (by decide) ?_) ?_
 ·simp only [go_sem]
 ·rintro ⟨⟨p, q⟩, hg, hp, hq⟩
  simp only at hg hp hq
  refine vc_at (tabs mixed (tbl_cons (divide_C hL) (tbl_cons norm_C tbl_nil))) ?_
  by_cases h0 : q = 0
  ·subst h0
   simp only [go_sem, dg_zero]
   refine out_I (dg_canon _) (by simp) ?_
   rw [sv_false, lv_dg, ← hg, Nat.gcd_zero_right]
  ·have c1 : 0 < (((dg q).length : Nat) : Int) := by
    have := dl_eq_zero (n := q)
    unfold dl at this
    omega
   have hq0 : dg q ≠ [] := fun h => h0 (dg_eq_nil.1 h)
   obtain ⟨r1, r2, r3⟩ := dr_spec (dg_canon p) (dg_canon q) hq0
   have sr : sv false (dr (dg p) (dg q)) = ((p % q : Nat) : Int) := by rw [sv_false, r2, lv_dg, lv_dg]
   have l1 : (dg p).length = dl p := rfl
   have l2 : (dg q).length = dl q := rfl
   have hlt := Nat.mod_lt p (Nat.pos_of_ne_zero h0)
   have hd := dl_mono (Nat.le_of_lt hlt)
   simp only [go_sem, c1, sr, Int.natAbs_natCast]
   refine ⟨⟨⟨dg_canon _, dg_canon _⟩, hq0, by omega, by omega, by omega⟩, ⟨r1, by omega⟩, ?_⟩
   refine ⟨⟨(q, p % q), ?_, by simp only; omega, by simp only; omega⟩, Wk.of [0] (by decide) ?_, hlt⟩
   ·rw [← hg, Nat.gcd_comm p q, Nat.gcd_rec q p, Nat.gcd_comm]
   ·simp only [go_sem]
end Go.Proofs.YtfbogelmgdojgaaGreat

