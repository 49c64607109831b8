/- Texts L9 in one. -/
import Derived.Test.YtbnhnmpgbpejaaaP29
import Derived.Test.YtbnhnmpgbpejaaaP30
/- IntegerGcd: the law returns true. -/
namespace Go.Proofs.Ytbnhnmpgbpejaaa
set_option linter.unusedSimpArgs false
set_option linter.unusedVariables false
open Go.RowKit

def kGcdA : Con := con2 pI pI fun x y => (dl x.natAbs ≤ 1000000000 ∧ dl y.natAbs ≤ 1000000000, .I (Nat.gcd x.natAbs y.natAbs : Nat))
attribute [go_sem ↓, go_sem] kGcdA
theorem gcdA_C : Ctr Try.prog 24 kGcdA := Ctr.c2 rfl fun x y h => gcd_V (longTo (dl y.natAbs)) x y h.1 h.2 (Nat.le_refl _)
set_option maxRecDepth 4000 in
set_option maxHeartbeats 1000000 in
theorem lawGcd_V (l m n : List Nat) (s t u : Bool) (hl : Lim l) (h1 : l.length ≤ 9223372036854775807) (hm : Lim m) (h2 : m.length ≤ 9223372036854775807) (hn : Lim n) (h3 : n.length ≤ 9223372036854775807) :
    PCall Try.prog 5 [.agg [.lst (V.limbs l), .raw (.bool s)], .agg [.lst (V.limbs m), .raw (.bool t)], .agg [.lst (V.limbs n), .raw (.bool u)]] (.raw (.bool true)) := by
  refine PCall.of_vc (tabs mixed (tbl_cons sanity_C (tbl_cons made_C (tbl_cons gcdA_C (tbl_cons rgcd_C (tbl_cons rmul_C (tbl_cons same_C (tbl_cons rvalid_C (tbl_cons rmade_C (tbl_cons rsign_C (tbl_cons rdm_C tbl_nil))))))))))) Try.func5 rfl Try.ntmps5 Try.results5 (by simp) ?_
  have q1 : (if 6 < (l.length : Int) then (6 : Int) else (l.length : Nat)).toNat = min l.length 6 := by split <;> omega
  have q2 : (if 6 < (m.length : Int) then (6 : Int) else (m.length : Nat)).toNat = min m.length 6 := by split <;> omega
  have q3 : (if 2 < (n.length : Int) then (2 : Int) else (n.length : Nat)).toNat = min n.length 2 := by split <;> omega
  have dX := mdZ_dl (l.take (min l.length 6)) s (hl.take _)
  have dY := mdZ_dl (m.take (min m.length 6)) t (hm.take _)
  have dZ := mdZ_dl (n.take (min n.length 2)) u (hn.take _)
  obtain ⟨X, hX⟩ : ∃ X, mdZ (l.take (min l.length 6)) s = X := ⟨_, rfl⟩
  obtain ⟨Y, hY⟩ : ∃ X, mdZ (m.take (min m.length 6)) t = X := ⟨_, rfl⟩
  obtain ⟨Z, hZ⟩ : ∃ X, mdZ (n.take (min n.length 2)) u = X := ⟨_, rfl⟩
  rw [hX] at dX
  rw [hY] at dY
  rw [hZ] at dZ
  have a1 := dl_mulI X Z
  have a2 := dl_mulI Y Z
  have t1 := hl.take (min l.length 6)
  have t2 := hm.take (min m.length 6)
  have t3 := hn.take (min n.length 2)
  obtain ⟨G, hG⟩ : ∃ G, G = Nat.gcd X.natAbs Y.natAbs := ⟨_, rfl⟩
  have g1 : Nat.gcd Y.natAbs X.natAbs = G := by rw [hG, Nat.gcd_comm]
  have g2 : Nat.gcd (X * Z).natAbs (Y * Z).natAbs = G * Z.natAbs := by rw [Int.natAbs_mul, Int.natAbs_mul, Nat.gcd_mul_right, hG]
  have e1 : sv false (dg Z.natAbs) = (Z.natAbs : Int) := by rw [sv_dg]; rfl
  have v1 := validB_I (G : Nat)
  rw [Int.natAbs_natCast] at v1
  have lG : (dg G).length = dl G := rfl
  have lZ := dg_lim Z.natAbs
  have lZ2 : (dg Z.natAbs).length = dl Z.natAbs := rfl
  have hGd : dl G ≤ 13 := by
    by_cases h0 : X = 0
    · have : G = Y.natAbs := by rw [hG, h0]; simp
      rw [this]; omega
    · have := Nat.gcd_le_left (m := X.natAbs) Y.natAbs (by omega)
      have := dl_mono (hG ▸ this : G ≤ X.natAbs)
      omega
  have hGZ : dl (G * Z.natAbs) ≤ 26 := by have := dl_mul G Z.natAbs; omega
  have z1 : (G : Int) * (Z.natAbs : Nat) = ((G * Z.natAbs : Nat) : Int) := by push_cast; rfl
  by_cases h0 : G = 0
  · have hx0 : X = 0 := by have := Nat.eq_zero_of_gcd_eq_zero_left (hG.symm.trans h0); omega
    have hy0 : Y = 0 := by have := Nat.eq_zero_of_gcd_eq_zero_right (hG.symm.trans h0); omega
    have b0 : (sgI ((G : Nat) : Int) == 0) = true := by rw [h0]; rfl
    have b1 : (sgI X == 0) = true := by rw [hx0]; rfl
    have b2 : (sgI Y == 0) = true := by rw [hy0]; rfl
    simp only [go_sem, List.reduceReplicate, false_implies, true_implies, true_and, and_true, implies_true, Nat.sub_zero, Int.cast_ofNat_Int, ↓reduceIte, Nat.reduceEqDiff, Nat.reduceLT, Nat.reduceLeDiff, Nat.reduceAdd, Nat.reduceSub, Nat.reduceMul, Int.reduceToNat, Int.reduceNeg, Int.reduceAdd, Int.reduceSub, Int.reduceMul, Int.reduceLT, Int.reduceLE, Int.reduceMod, Int.reducePow, Nat.reducePow, Int.reduceDiv, Nat.reduceBEq, Nat.reduceBNe, Int.reduceBEq, Int.reduceBNe, decide_true, decide_false, reduceCtorEq, Nat.add_zero, Nat.zero_add, Nat.zero_mul, Nat.one_mul, Nat.mul_one, Nat.lt_add_one, Nat.le_refl, Nat.zero_le, Nat.one_ne_zero, Nat.succ_ne_zero, Nat.zero_ne_one, Nat.add_one_ne_zero, Nat.ne_add_one, q1, q2, q3, hX, hY, hZ, ← hG, g1, g2, e1, v1, z1, b0, b1, b2, Int.natAbs_natCast]
    refine ⟨by split <;> omega, by split <;> omega, by split <;> omega, ?_⟩
    and_intros
    all_goals first | assumption | omega | rfl
  · have b0 : (sgI ((G : Nat) : Int) == 0) = false := beq_false (fun h => h0 (by have := sgI_zero.1 h; omega))
    have c0 : 0 < sgI ((G : Nat) : Int) := by
      rw [show sgI ((G : Nat) : Int) = 1 from cmpI_gt (by omega)]; decide
    have r1 : dmR X (G : Nat) = .tup [.I (X / (G : Nat)), .I 0, .raw (.int .i64 0)] := by
      unfold dmR
      rw [if_neg (by omega), Int.emod_eq_zero_of_dvd (Int.ofNat_dvd_left.2 (hG ▸ Nat.gcd_dvd_left _ _))]
    have r2 : dmR Y (G : Nat) = .tup [.I (Y / (G : Nat)), .I 0, .raw (.int .i64 0)] := by
      unfold dmR
      rw [if_neg (by omega), Int.emod_eq_zero_of_dvd (Int.ofNat_dvd_left.2 (hG ▸ Nat.gcd_dvd_right _ _))]
    have k2 : (sgI 0 == 0) = true := rfl
    simp only [go_sem, List.reduceReplicate, false_implies, true_implies, true_and, and_true, implies_true, Nat.sub_zero, Int.cast_ofNat_Int, ↓reduceIte, Nat.reduceEqDiff, Nat.reduceLT, Nat.reduceLeDiff, Nat.reduceAdd, Nat.reduceSub, Nat.reduceMul, Int.reduceToNat, Int.reduceNeg, Int.reduceAdd, Int.reduceSub, Int.reduceMul, Int.reduceLT, Int.reduceLE, Int.reduceMod, Int.reducePow, Nat.reducePow, Int.reduceDiv, Nat.reduceBEq, Nat.reduceBNe, Int.reduceBEq, Int.reduceBNe, decide_true, decide_false, reduceCtorEq, Nat.add_zero, Nat.zero_add, Nat.zero_mul, Nat.one_mul, Nat.mul_one, Nat.lt_add_one, Nat.le_refl, Nat.zero_le, Nat.one_ne_zero, Nat.succ_ne_zero, Nat.zero_ne_one, Nat.add_one_ne_zero, Nat.ne_add_one, q1, q2, q3, hX, hY, hZ, ← hG, g1, g2, e1, v1, z1, b0, c0, r1, r2, k2, Int.natAbs_natCast]
    refine ⟨by split <;> omega, by split <;> omega, by split <;> omega, ?_⟩
    and_intros
    all_goals first | assumption | omega | rfl
end Go.Proofs.Ytbnhnmpgbpejaaa
