/- Texts LS4 in one. -/
import Derived.Test.YtlhapagililgmaaGreatR36
/- The law of sums. -/
namespace Go.Proofs.YtlhapagililgmaaGreat
set_option linter.unusedSimpArgs false
set_option linter.unusedVariables false
open Go.RowKit

theorem cmp_le (a b : Rat) : cmpQ a b ≤ 0 ↔ a ≤ b := by
 unfold cmpQ
 by_cases h : a < b
 ·rw [if_pos h]; exact ⟨fun _ => by grind, fun _ => by decide⟩
 ·rw [if_neg h]
  by_cases h2 : a = b
  ·rw [if_pos h2]; exact ⟨fun _ => by grind, fun _ => by decide⟩
  ·rw [if_neg h2]; exact ⟨fun h => absurd h (by decide), fun h3 => by grind⟩
set_option maxRecDepth 8000 in
set_option maxHeartbeats 1000000 in
theorem adds_V (x : List Int) (y : List Nat) (hx : PyOk x y 5) (a b e d : Int) (ha : (B8 a ∧ B8 b) ∧ B8 e ∧ B8 d) (z : Int × Int) (hz : B8 z.1 ∧ B8 z.2) : PCall Tryz.prog 6 [.agg [.lst (V.i8s x), .lst (V.bytes y)], .agg [.agg [.raw (.int .i8 a), .raw (.int .i8 b)], .agg [.raw (.int .i8 e), .raw (.int .i8 d)]], .agg [.raw (.int .i8 z.1), .raw (.int .i8 z.2)]] (.raw (.bool true)) := by
 obtain ⟨z, z'⟩ := z
 obtain ⟨⟨zl, zh⟩, zl', zh'⟩ := hz
 simp only at zl zh zl' zh'
 have T := (tabs mixed (tbl_cons sanity4_C (tbl_cons made4_C (tbl_cons bounds_C (tbl_cons r2Made_C (tbl_cons r2Cmp_C (tbl_cons count_C (tbl_cons rPMul_C (tbl_cons rSc_C tbl_nil)))))))))
 have hs := py_Lw x y
 have hx' := eq_true hx
 have b1 := eq_true ha.1.1
 have b2 := eq_true ha.1.2
 have b3 := eq_true ha.2.1
 have b4 := eq_true ha.2.2
 have q1 := wq_sz (b := b) ha.1.1
 have q2 := wq_sz (b := d) ha.2.1
 have f0 : IntKind.i64.wrap z = z := IntWalk.i64_in _ ⟨by omega, by omega⟩
 have f1 : IntKind.i64.wrap (z' % 256 % 9) = z' % 256 % 9 := IntWalk.i64_in _ ⟨by omega, by omega⟩
 have ec0 : qs (mdQ z (1 + z' % 256 % 9)) ≤ 1 := md_sz (by omega) (by omega) (by omega)
 have k3 := mdQ_mul (z := z * 2 + 1) (d := 3) (by decide)
 have kz : (z * 2 + 1).natAbs ≤ 1000 := by omega
 have k0 : mdQ (z * 2 + 1) 3 ≠ 0 := fun h => by
  rw [h, Rat.mul_zero] at k3
  have : (z * 2 + 1 : Int) = 0 := intCast_inj4 k3.symm
  omega
 have kq : qs (mdQ (z * 2 + 1) 3) ≤ 1 := md_sz (by omega) (by omega) (by omega)
 obtain ⟨p, ep⟩ : ∃ p, pyL x y 5 = p := ⟨_, rfl⟩
 obtain ⟨lo, el⟩ : ∃ p, wQ a b = p := ⟨_, rfl⟩
 obtain ⟨hi, eh⟩ : ∃ p, wQ e d = p := ⟨_, rfl⟩
 obtain ⟨c, ec⟩ : ∃ p, mdQ z (1 + z' % 256 % 9) = p := ⟨_, rfl⟩
 obtain ⟨k, ek⟩ : ∃ p, mdQ (z * 2 + 1) 3 = p := ⟨_, rfl⟩
 rw [ep] at hs
 rw [el] at q1
 rw [eh] at q2
 rw [ec] at ec0
 rw [ek] at k3 k0 kq
 have k3 : ((3 : Nat) : Rat) * k = ((z * 2 + 1 : Int) : Rat) := k3
 have f2 : qs lo ≤ 5000000000000 := by omega
 have f3 : qs hi ≤ 5000000000000 := by omega
 have f4 : qs c ≤ 5000000000000 := by omega
 have f5 : qs k ≤ 5000000000000 := by omega
 have ml := mr_of hs.sz hs.sz (by decide)
 have kp1 := eq_true ml.1.1
 have kp2 := eq_true ml.1.2.1
 have kp3 := eq_true ml.2
 have kp4 := eq_true (show p.length ≤ 1000000 by have := hs.len; omega)
 refine PCall.of_vc T Tryz.func6 rfl Tryz.ntmps6 Tryz.results6 (by simp) ?_
 by_cases hlt : hi < lo
 ·have q := sumF hs (A := hi) (B := lo) (c := c) k0 k3 kz (by omega) (by omega) (by omega) (by grind)
  have sw : 0 < cmpQ lo hi := by unfold cmpQ; rw [if_neg (by grind), if_neg (by grind)]; decide
  have t1 := eq_true q.c1
  have t2 := eq_true q.c2
  have t3 := eq_true q.c3
  have t4 := eq_true q.c4
  have t5 := eq_true q.c5
  have v2 := q.e2
  have v3 := q.e3
  have y1 := q.b1
  have y2 := q.b2
  have y3 := q.s1
  have y4 := q.s2
  have v1 := q.e1
  obtain ⟨w, ew⟩ : ∃ w, cntP p hi lo = w := ⟨_, rfl⟩
  obtain ⟨u, eu⟩ : ∃ w, cntP p hi c = w := ⟨_, rfl⟩
  obtain ⟨v, ev⟩ : ∃ w, cntP p c lo = w := ⟨_, rfl⟩
  rw [ew] at v1 v2 v3 y1 y2
  rw [eu] at v1 y3
  rw [ev] at v1 y4
  have z1 : (w == w) = true := by simp
  have y5 : (w ≤ if 0 < (p.length : Int) - 1 then (p.length : Int) - 1 else 0) = True := eq_true (by split <;> omega)
  have key : (((cmpQ hi c ≤ 0) = True ∧ (cmpQ c lo ≤ 0) = True) ∧ (u + v != w) = false) ∨ (((cmpQ hi c ≤ 0) = True ∧ (cmpQ c lo ≤ 0) = False)) ∨ ((cmpQ hi c ≤ 0) = False) := by
   have r1 := cmp_le hi c
   have r2 := cmp_le c lo
   by_cases h1 : hi ≤ c
   ·by_cases h2 : c ≤ lo
    ·exact .inl ⟨⟨eq_true (r1.2 h1), eq_true (r2.2 h2)⟩, by rw [v1 h1 h2]; simp⟩
    ·exact .inr (.inl ⟨eq_true (r1.2 h1), eq_false fun h => h2 (r2.1 h)⟩)
   ·exact .inr (.inr (eq_false fun h => h1 (r1.1 h)))
  rcases key with ⟨⟨g1, g2⟩, g3⟩ | ⟨g1, g2⟩ | g1
  ·simp only [go_sem, hx', b1, b2, b3, b4, ep, el, eh, ec, ek, f0, f1, f2, f3, f4, f5, kp1, kp2, kp3, kp4, sw, t1, t2, t3, t4, t5, v2, v3, ew, eu, ev, z1, y1, y5, g1, g2, g3]
   refine ⟨by omega, ⟨by omega, by omega⟩, ⟨⟨by omega, by omega⟩, by omega, by omega⟩, ⟨by omega, by omega⟩, by rfl, ⟨by omega, by omega⟩, ⟨by omega, by omega⟩, ⟨by omega, by omega⟩, ⟨by have := hs.len; omega, by have := hs.len; omega⟩, by rfl⟩
  ·simp only [go_sem, hx', b1, b2, b3, b4, ep, el, eh, ec, ek, f0, f1, f2, f3, f4, f5, kp1, kp2, kp3, kp4, sw, t1, t2, t3, t4, t5, v2, v3, ew, eu, ev, z1, y1, y5, g1, g2]
   refine ⟨by omega, ⟨by omega, by omega⟩, ⟨⟨by omega, by omega⟩, by omega, by omega⟩, by rfl, ⟨by omega, by omega⟩, ⟨by omega, by omega⟩, ⟨by omega, by omega⟩, ⟨by have := hs.len; omega, by have := hs.len; omega⟩, by rfl⟩
  ·simp only [go_sem, hx', b1, b2, b3, b4, ep, el, eh, ec, ek, f0, f1, f2, f3, f4, f5, kp1, kp2, kp3, kp4, sw, t1, t2, t3, t4, t5, v2, v3, ew, eu, ev, z1, y1, y5, g1]
   refine ⟨by omega, ⟨by omega, by omega⟩, ⟨⟨by omega, by omega⟩, by omega, by omega⟩, by rfl, ⟨by omega, by omega⟩, ⟨by omega, by omega⟩, ⟨by omega, by omega⟩, ⟨by have := hs.len; omega, by have := hs.len; omega⟩, by rfl⟩
 ·have q := sumF hs (A := lo) (B := hi) (c := c) k0 k3 kz (by omega) (by omega) (by omega) (by grind)
  have sw : ¬ 0 < cmpQ lo hi := by unfold cmpQ; split <;> first | decide | (split <;> first | decide | (exfalso; grind))
  have t1 := eq_true q.c1
  have t2 := eq_true q.c2
  have t3 := eq_true q.c3
  have t4 := eq_true q.c4
  have t5 := eq_true q.c5
  have v2 := q.e2
  have v3 := q.e3
  have y1 := q.b1
  have y2 := q.b2
  have y3 := q.s1
  have y4 := q.s2
  have v1 := q.e1
  obtain ⟨w, ew⟩ : ∃ w, cntP p lo hi = w := ⟨_, rfl⟩
  obtain ⟨u, eu⟩ : ∃ w, cntP p lo c = w := ⟨_, rfl⟩
  obtain ⟨v, ev⟩ : ∃ w, cntP p c hi = w := ⟨_, rfl⟩
  rw [ew] at v1 v2 v3 y1 y2
  rw [eu] at v1 y3
  rw [ev] at v1 y4
  have z1 : (w == w) = true := by simp
  have y5 : (w ≤ if 0 < (p.length : Int) - 1 then (p.length : Int) - 1 else 0) = True := eq_true (by split <;> omega)
  have key : (((cmpQ lo c ≤ 0) = True ∧ (cmpQ c hi ≤ 0) = True) ∧ (u + v != w) = false) ∨ (((cmpQ lo c ≤ 0) = True ∧ (cmpQ c hi ≤ 0) = False)) ∨ ((cmpQ lo c ≤ 0) = False) := by
   have r1 := cmp_le lo c
   have r2 := cmp_le c hi
   by_cases h1 : lo ≤ c
   ·by_cases h2 : c ≤ hi
    ·exact .inl ⟨⟨eq_true (r1.2 h1), eq_true (r2.2 h2)⟩, by rw [v1 h1 h2]; simp⟩
    ·exact .inr (.inl ⟨eq_true (r1.2 h1), eq_false fun h => h2 (r2.1 h)⟩)
   ·exact .inr (.inr (eq_false fun h => h1 (r1.1 h)))
  rcases key with ⟨⟨g1, g2⟩, g3⟩ | ⟨g1, g2⟩ | g1
  ·simp only [go_sem, hx', b1, b2, b3, b4, ep, el, eh, ec, ek, f0, f1, f2, f3, f4, f5, kp1, kp2, kp3, kp4, sw, t1, t2, t3, t4, t5, v2, v3, ew, eu, ev, z1, y1, y5, g1, g2, g3]
   refine ⟨by omega, ⟨by omega, by omega⟩, ⟨⟨by omega, by omega⟩, by omega, by omega⟩, ⟨by omega, by omega⟩, by rfl, ⟨by omega, by omega⟩, ⟨by omega, by omega⟩, ⟨by omega, by omega⟩, ⟨by have := hs.len; omega, by have := hs.len; omega⟩, by rfl⟩
  ·simp only [go_sem, hx', b1, b2, b3, b4, ep, el, eh, ec, ek, f0, f1, f2, f3, f4, f5, kp1, kp2, kp3, kp4, sw, t1, t2, t3, t4, t5, v2, v3, ew, eu, ev, z1, y1, y5, g1, g2]
   refine ⟨by omega, ⟨by omega, by omega⟩, ⟨⟨by omega, by omega⟩, by omega, by omega⟩, by rfl, ⟨by omega, by omega⟩, ⟨by omega, by omega⟩, ⟨by omega, by omega⟩, ⟨by have := hs.len; omega, by have := hs.len; omega⟩, by rfl⟩
  ·simp only [go_sem, hx', b1, b2, b3, b4, ep, el, eh, ec, ek, f0, f1, f2, f3, f4, f5, kp1, kp2, kp3, kp4, sw, t1, t2, t3, t4, t5, v2, v3, ew, eu, ev, z1, y1, y5, g1]
   refine ⟨by omega, ⟨by omega, by omega⟩, ⟨⟨by omega, by omega⟩, by omega, by omega⟩, by rfl, ⟨by omega, by omega⟩, ⟨by omega, by omega⟩, ⟨by omega, by omega⟩, ⟨by have := hs.len; omega, by have := hs.len; omega⟩, by rfl⟩
set_option maxRecDepth 20000 in
theorem lawAdds_F (X Y Z : V) (h : Fits Tryz.prog 6 25 X) (h2 : Fits Tryz.prog 6 41 Y) (h3 : Fits Tryz.prog 6 39 Z) : PCall Tryz.prog 6 [X, Y, Z] (.raw (.bool true)) := by
 have u2 : Tryz.prog.underlying 39 = some (.array 2 38) := by kernel_rfl
 have u3 : Tryz.prog.underlying 38 = some (.int .i8) := by kernel_rfl
 obtain ⟨x, y, rfl, hx⟩ := fits_raw4 h
 obtain ⟨a, b, c, d, rfl, ha⟩ := fits_iv h2
 obtain ⟨z, rfl, hz⟩ := fits_pr u2 u3 h3
 exact adds_V x y hx a b c d ha z hz
end Go.Proofs.YtlhapagililgmaaGreat

