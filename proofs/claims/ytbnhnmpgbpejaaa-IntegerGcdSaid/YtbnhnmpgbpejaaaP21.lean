/- Texts L1 in one. -/
import Derived.Test.YtbnhnmpgbpejaaaP18
/- The law's own helpers: sanity, made. -/
namespace Go.Proofs.Ytbnhnmpgbpejaaa
set_option linter.unusedSimpArgs false
set_option linter.unusedVariables false
open Go.RowKit

set_option maxRecDepth 8000 in
set_option maxHeartbeats 1000000 in
theorem sanity_V : PCall Try.prog 11 [] (.raw (.bool true)) := by
  refine PCall.of_vc (tabs mixed (tbl_cons (divMod_C longTo_one) (tbl_cons of_C (tbl_cons pow_C (tbl_cons read_C (tbl_cons small_C (tbl_cons same_C (tbl_cons rof_C (tbl_cons (gcd_C longTo_one) (tbl_cons sign_C (tbl_cons text_C (tbl_cons valid_C tbl_nil)))))))))))) Try.func11 rfl Try.ntmps11 Try.results11 (by simp) ?_
  have f1 : dmR (-7) 2 = .tup [.I (-4), .I 1, .raw (.int .i64 0)] := by unfold dmR; rw [if_neg (by decide)]; rfl
  have f2 : dmR 7 (-2) = .tup [.I (-3), .I 1, .raw (.int .i64 0)] := by unfold dmR; rw [if_neg (by decide)]; rfl
  have f3 : dmR 7 0 = .tup [.I 0, .I 0, .raw (.int .i64 3)] := by unfold dmR; rw [if_pos rfl]
  have f4 : powR 2 32 = .tup [.I 4294967296, .raw (.int .i64 0)] := by unfold powR; rw [if_pos (by decide)]; rfl
  have f5 : powR 2 257 = .tup [.I 0, .raw (.int .i64 1)] := by unfold powR; rw [if_neg (by decide)]
  have r1 : rdV (sbL ({ data := #[45, 48] } : ByteArray)) = 0 := by decide
  have r2 : rdC (sbL ({ data := #[45, 48] } : ByteArray)) = 4 := by decide
  have r3 : rdV (sbL ({ data := #[48, 48, 55] } : ByteArray)) = 0 := by decide
  have r4 : rdC (sbL ({ data := #[48, 48, 55] } : ByteArray)) = 4 := by decide
  have r5 : rdV (sbL ({ data := #[45, 55] } : ByteArray)) = -7 := by decide
  have r6 : rdC (sbL ({ data := #[45, 55] } : ByteArray)) = 0 := by decide
  have r7 : rdV (sbL ({ data := #[] } : ByteArray)) = 0 := by decide
  have r8 : rdC (sbL ({ data := #[] } : ByteArray)) = 4 := by decide
  have s1 : smallV (-9223372036854775808) = -9223372036854775808 := by decide
  have s2 : smallB (-9223372036854775808) = true := by decide
  have s3 : smallV 4294967296 = 4294967296 := by decide
  have s4 : smallB 4294967296 = true := by decide
  have m1 : (V.limbs [0]).set 0 (V.raw (Value.int IntKind.u32 5)) = V.limbs [5] := rfl
  have m2 : (V.limbs [0, 0]).set 0 (V.raw (Value.int IntKind.u32 0)) = V.limbs [0, 0] := rfl
  have m3 : (V.limbs [0, 0]).set 1 (V.raw (Value.int IntKind.u32 1)) = V.limbs [0, 1] := rfl
  have m4 : (V.limbs [0]).set 0 (V.raw (Value.int IntKind.u32 0)) = V.limbs [0] := rfl
  have v1 : sv true [5] = -5 := by decide
  have v2 : sv false [0, 1] = 4294967296 := by decide
  have g1 : Nat.gcd (Int.natAbs (-12)) (Int.natAbs 18) = 6 := by decide
  have g2 : Nat.gcd (Int.natAbs 0) (Int.natAbs 0) = 0 := by decide
  have t1 : ((mkB (txN (-120))).toList == ({ data := #[45, 49, 50, 48] } : ByteArray).toList) = true := by rw [eq_list]; decide
  have t2 : ((mkB (txN 0)).toList == ({ data := #[48] } : ByteArray).toList) = true := by rw [eq_list]; decide
  have y1 : sgI 0 = 0 := by decide
  have y2 : validB true [] = false := by decide
  have y3 : validB false [0] = false := by decide
  have y4 : validB false (dg (Int.natAbs 0)) = true := by decide
  have k1 : ([5] : List Nat).take 1 = [5] := rfl
  have k2 : ([0, 1] : List Nat).take 2 = [0, 1] := rfl
  have k3 : ([0] : List Nat).take 1 = [0] := rfl
  simp only [go_sem, List.reduceReplicate, false_implies, true_implies, true_and, and_true, implies_true, Nat.sub_zero, Int.cast_ofNat_Int, ↓reduceIte, Nat.reduceEqDiff, Nat.reduceLT, Nat.reduceLeDiff, Nat.reduceAdd, Nat.reduceSub, Nat.reduceMul, Int.reduceToNat, Int.reduceNeg, Int.reduceAdd, Int.reduceSub, Int.reduceMul, Int.reduceLT, Int.reduceLE, Int.reduceMod, Int.reducePow, Nat.reducePow, Int.reduceDiv, Nat.reduceBEq, Nat.reduceBNe, Int.reduceBEq, Int.reduceBNe, decide_true, decide_false, reduceCtorEq, Nat.add_zero, Nat.zero_add, Nat.zero_mul, Nat.one_mul, Nat.mul_one, Nat.lt_add_one, Nat.le_refl, Nat.zero_le, Nat.one_ne_zero, Nat.succ_ne_zero, Nat.zero_ne_one, Nat.add_one_ne_zero, Nat.ne_add_one, List.append_eq, List.cons_append, List.nil_append, f1, f2, f3, f4, f5, r1, r2, r3, r4, r5, r6, r7, r8, s1, s2, s3, s4, m1, m2, m3, m4, v1, v2, g1, g2, t1, t2, y1, y2, y3, y4, k1, k2, k3]
  have w1 : ∀ (z : Int) (k : Nat), z.natAbs < 4294967296 → 1 ≤ k → dl z.natAbs ≤ k := fun z k h hk => Nat.le_trans ((dl_le (k := 1)).2 (by simpa using h)) hk
  have w2 : dl (Int.natAbs 4294967296) ≤ 1000000000000 := Nat.le_trans ((dl_le (k := 2)).2 (by decide)) (by decide)
  have w3 : Canon [5] := ⟨Lim.cons (by decide) Lim.nil, fun _ => by decide⟩
  have w4 : Canon [0, 1] := ⟨lim_two (by decide) (by decide), fun _ => by decide⟩
  and_intros
  all_goals first | exact w2 | exact w3.1 | exact w3.2 | exact w4.1 | exact w4.2 | rfl | exact w1 _ _ (by decide) (by decide) | exact Nat.zero_le _
def kSanity : Con := con0 (True, .raw (.bool true))
attribute [go_sem ↓, go_sem] kSanity
theorem sanity_C : Ctr Try.prog 11 kSanity := Ctr.c0 rfl fun _ => sanity_V
/-- A raw integer: limbs and a sign. -/
def pMag : Pat (List Nat × Bool) where
  p
    | .agg [.lst l, .raw (.bool s)] => (unlimb l).map fun m => (True, m, s)
    | _ => none
  val a := .agg [.lst (V.limbs a.1), .raw (.bool a.2)]
  ok x c a h hc := by
    split at h
    · rename_i l s
      rcases hm : unlimb l with _ | m <;> rw [hm] at h
      · cases h
      · injection h with h; injection h with h1 h2; subst h1 h2
        rw [unlimb_ok l m hm]
        exact .refl _
    · cases h
@[go_sem ↓, go_sem] theorem ev_pMag {s : Bool} {l : List V} : pMag.p (.agg [.lst l, .raw (.bool s)]) = (unlimb l).map fun m => (True, m, s) := rfl
@[go_sem ↓, go_sem] theorem ev_pMag_val {a : List Nat × Bool} : pMag.val a = .agg [.lst (V.limbs a.1), .raw (.bool a.2)] := rfl
/-- What made makes of limbs and a sign. -/
def mdZ (l : List Nat) (s : Bool) : Int := sv s (l.take 12)
theorem made_V (l : List Nat) (s : Bool) (hl : Lim l) (h : l.length ≤ 9223372036854775807) : PCall Try.prog 15 [.agg [.lst (V.limbs l), .raw (.bool s)]] (.I (mdZ l s)) := by
  refine PCall.of_vc (tabs mixed (tbl_cons rmade_C tbl_nil)) Try.func15 rfl Try.ntmps15 Try.results15 (by simp) ?_
  have e1 : (if 12 < (l.length : Int) then (12 : Int) else (l.length : Nat)).toNat = min l.length 12 := by split <;> omega
  simp only [go_sem, List.reduceReplicate, false_implies, true_implies, true_and, and_true, implies_true, Nat.sub_zero, Int.cast_ofNat_Int, ↓reduceIte, Nat.reduceEqDiff, Nat.reduceLT, Nat.reduceLeDiff, Nat.reduceAdd, Nat.reduceSub, Nat.reduceMul, Int.reduceToNat, Int.reduceNeg, Int.reduceAdd, Int.reduceSub, Int.reduceMul, Int.reduceLT, Int.reduceLE, Int.reduceMod, Int.reducePow, Nat.reducePow, Int.reduceDiv, Nat.reduceBEq, Nat.reduceBNe, Int.reduceBEq, Int.reduceBNe, decide_true, decide_false, reduceCtorEq, Nat.add_zero, Nat.zero_add, Nat.zero_mul, Nat.one_mul, Nat.mul_one, Nat.lt_add_one, Nat.le_refl, Nat.zero_le, Nat.one_ne_zero, Nat.succ_ne_zero, Nat.zero_ne_one, Nat.add_one_ne_zero, Nat.ne_add_one, e1]
  refine ⟨by split <;> omega, ⟨hl.take _, by omega⟩, by rfl, out_II ?_⟩
  unfold mdZ
  congr 1
  rcases Nat.lt_or_ge 12 l.length with h | h
  · rw [Nat.min_eq_right (by omega)]
  · rw [Nat.min_eq_left h, List.take_of_length_le (Nat.le_refl _), List.take_of_length_le h]
def kMade : Con := con1 pMag fun a => (Lim a.1 ∧ a.1.length ≤ 9223372036854775807, .I (mdZ a.1 a.2))
attribute [go_sem ↓, go_sem] kMade
theorem made_C : Ctr Try.prog 15 kMade := Ctr.c1 rfl fun a h => made_V a.1 a.2 h.1 h.2
theorem mdZ_dl (l : List Nat) (s : Bool) (hl : Lim l) : dl (mdZ l s).natAbs ≤ 12 := by
  unfold mdZ
  rw [sv_natAbs]
  exact Nat.le_trans (dl_le_of_lim (hl.take 12)) (by rw [List.length_take]; omega)
end Go.Proofs.Ytbnhnmpgbpejaaa
