/- Texts LB1 in one. -/
import Derived.Test.YtilkleibnciloaaP48
import Derived.Test.YtilkleibnciloaaP47
import Derived.Test.YtilkleibnciloaaP41
/- The helpers of the laws of rational numbers: sanity, made. -/
namespace Go.Proofs.Ytilkleibnciloaa
set_option linter.unusedSimpArgs false
set_option linter.unusedVariables false
open Go.RowKit

theorem qs_small {a : Rat} (h1 : a.num.natAbs < 4294967296) (h2 : a.den < 4294967296) : qs a ≤ 1 :=
  Nat.max_le.2 ⟨(dl_le (k := 1)).2 (by simpa using h1), (dl_le (k := 1)).2 (by simpa using h2)⟩
set_option maxRecDepth 8000 in
set_option maxHeartbeats 1000000 in
theorem sanity2_V : PCall Try.prog 11 [] (.raw (.bool true)) := by
  refine PCall.of_vc (tabs mixed (tbl_cons r2Made_C (tbl_cons rof_C (tbl_cons qOf_C (tbl_cons qPow_C (tbl_cons r2Whole_C (tbl_cons qRead_C (tbl_cons qDiv_C (tbl_cons r2Same_C (tbl_cons qAdd_C (tbl_cons qSub_C (tbl_cons qMul_C (tbl_cons same_C (tbl_cons floor_C (tbl_cons qText_C (tbl_cons qCmp_C (tbl_cons qSign_C (tbl_cons qValid_C tbl_nil)))))))))))))))))) Try.func11 rfl Try.ntmps11 Try.results11 (by simp) ?_
  have f1 : ofR 2 (-4) = .tup [.Q (Rat.divInt 2 (-4)), .raw (.int .i64 0)] := if_neg (by decide)
  have f2 : ofR 0 7 = .tup [.Q (Rat.divInt 0 7), .raw (.int .i64 0)] := if_neg (by decide)
  have f3 : ofR 1 0 = .tup [.agg [.I 0, .I 0], .raw (.int .i64 3)] := if_pos rfl
  have f4 : powQ (mdQ 2 3) (-2) = .tup [.Q (powq (mdQ 2 3) (-2)), .raw (.int .i64 0)] := by unfold powQ; rw [if_neg (by decide), if_neg (by decide)]; rfl
  have f5 : powQ ((0 : Int) : Rat) 0 = .tup [.Q (powq ((0 : Int) : Rat) 0), .raw (.int .i64 0)] := by unfold powQ; rw [if_neg (by decide), if_neg (by decide)]; rfl
  have f6 : powQ ((0 : Int) : Rat) (-1) = .tup [.agg [.I 0, .I 0], .raw (.int .i64 3)] := by unfold powQ; rw [if_neg (by decide), if_pos (by decide)]; rfl
  have f7 : powQ ((1 : Int) : Rat) 257 = .tup [.agg [.I 0, .I 0], .raw (.int .i64 1)] := by unfold powQ; rw [if_pos (by decide)]; rfl
  have f8 : rdQ (sbL ({ data := #[52, 47, 54] } : ByteArray)) = .tup [.Q (Rat.divInt 4 6), .raw (.int .i64 0)] := by unfold rdQ; rw [if_neg (by decide), if_pos (by decide)]; rfl
  have f9 : rdQ (sbL ({ data := #[45, 48] } : ByteArray)) = .tup [.agg [.I 0, .I 0], .raw (.int .i64 4)] := by unfold rdQ; rw [if_neg (by decide), if_neg (by decide)]; rfl
  have f10 : rdQ (sbL ({ data := #[49, 47, 48] } : ByteArray)) = .tup [.agg [.I 0, .I 0], .raw (.int .i64 4)] := by unfold rdQ; rw [if_neg (by decide), if_neg (by decide)]; rfl
  have f11 : rdQ (sbL ({ data := #[50, 47, 45, 52] } : ByteArray)) = .tup [.agg [.I 0, .I 0], .raw (.int .i64 4)] := by unfold rdQ; rw [if_neg (by decide), if_neg (by decide)]; rfl
  have f12 : divR (mdQ 1 2) ((0 : Int) : Rat) = .tup [.agg [.I 0, .I 0], .raw (.int .i64 3)] := if_pos rfl
  have k1 : decide (Rat.divInt 2 (-4) = mdQ (-1) 2) = true := by decide +kernel
  have k2 : decide (Rat.divInt 0 7 = ((0 : Int) : Rat)) = true := by decide +kernel
  have k3 : decide (powq (mdQ 2 3) (-2) = mdQ 9 4) = true := by decide +kernel
  have k4 : decide (powq ((0 : Int) : Rat) 0 = ((1 : Int) : Rat)) = true := by decide +kernel
  have k5 : decide (Rat.divInt 4 6 = mdQ 2 3) = true := by decide +kernel
  have k6 : decide (mdQ 1 2 + mdQ 1 3 = mdQ 5 6) = true := by decide +kernel
  have k7 : decide (mdQ 1 2 - mdQ 1 2 = ((0 : Int) : Rat)) = true := by decide +kernel
  have k8 : decide (mdQ 2 3 * mdQ 3 4 = mdQ 1 2) = true := by decide +kernel
  have k9 : (mdQ (-7) 2).floor = -4 := by decide +kernel
  have k10 : ((mkB (txQ (mdQ (-1) 2))).toList == ({ data := #[45, 49, 47, 50] } : ByteArray).toList) = true := by rw [eq_list]; decide +kernel
  have k11 : ((mkB (txQ ((3 : Int) : Rat))).toList == ({ data := #[51] } : ByteArray).toList) = true := by rw [eq_list]; decide +kernel
  have k12 : cmpQ (mdQ (-1) 2) (mdQ (-1) 3) = -1 := by decide +kernel
  have k14 : validQ ((false, []), (false, [])) = false := by decide
  have k13 : sgI (mdQ 1 2).num = 1 := by decide +kernel
  simp only [go_sem, List.reduceReplicate, ↓reduceIte, Nat.reduceEqDiff, Nat.reduceLT, Nat.reduceLeDiff, Nat.reduceAdd, Nat.reduceSub, Nat.reduceMul, Int.reduceToNat, Int.reduceNeg, Int.reduceAdd, Int.reduceSub, Int.reduceMul, Int.reduceLT, Int.reduceLE, Int.reduceMod, Int.reducePow, Nat.reducePow, Int.reduceDiv, Nat.reduceBEq, Nat.reduceBNe, Int.reduceBEq, Int.reduceBNe, reduceCtorEq, f1, f2, f3, f4, f5, f6, f7, f8, f9, f10, f11, f12, k1, k2, k3, k4, k5, k6, k7, k8, k9, k10, k11, k12, k13, k14]
  have w1 : ∀ (z : Int) (k : Nat), z.natAbs < 4294967296 → 1 ≤ k → dl z.natAbs ≤ k := fun z k h hk => Nat.le_trans ((dl_le (k := 1)).2 (by simpa using h)) hk
  have w2 : ∀ (a : Rat) (k : Nat), a.num.natAbs < 4294967296 → a.den < 4294967296 → 1 ≤ k → qs a ≤ k := fun a k h1 h2 hk => Nat.le_trans (qs_small h1 h2) hk
  and_intros
  all_goals first | exact w1 _ _ (by decide +kernel) (by decide) | exact w2 _ _ (by decide +kernel) (by decide +kernel) (by decide) | exact Lim.nil | rfl
def kSanity2 : Con := con0 (True, .raw (.bool true))
attribute [go_sem ↓, go_sem] kSanity2
theorem sanity2_C : Ctr Try.prog 11 kSanity2 := Ctr.c0 rfl fun _ => sanity2_V
/-- What made makes: at most four limbs. -/
def mdR (n d : List Nat) (s : Bool) : Rat := Rat.divInt (sv s (n.take 4)) (if sv false (d.take 4) = 0 then 1 else sv false (d.take 4))
theorem take4 (l : List Nat) : List.take (if 4 < (l.length : Int) then (4 : Int) else (l.length : Nat)).toNat l = l.take 4 := by
  split
  · rfl
  · rw [Int.toNat_natCast, List.take_of_length_le (Nat.le_refl _), List.take_of_length_le (by omega)]
set_option maxRecDepth 8000 in
theorem made2_V (n d : List Nat) (s : Bool) (hn : Lim n) (hd : Lim d) (h1 : n.length ≤ 9223372036854775807) (h2 : d.length ≤ 9223372036854775807) :
    PCall Try.prog 12 [.agg [.lst (V.limbs n), .lst (V.limbs d), .raw (.bool s)]] (.Q (mdR n d s)) := by
  refine PCall.of_vc (tabs mixed (tbl_cons rmade_C (tbl_cons rof_C (tbl_cons rsign_C (tbl_cons r2Of_C tbl_nil))))) Try.func12 rfl Try.ntmps12 Try.results12 (by simp) ?_
  have dX : dl (sv s (n.take 4)).natAbs ≤ 4 := by rw [sv_natAbs]; exact Nat.le_trans (dl_le_of_lim (hn.take 4)) (by rw [List.length_take]; omega)
  have dY : dl (sv false (d.take 4)).natAbs ≤ 4 := by rw [sv_natAbs]; exact Nat.le_trans (dl_le_of_lim (hd.take 4)) (by rw [List.length_take]; omega)
  have ln := hn.take 4
  have ld := hd.take 4
  unfold mdR
  obtain ⟨X, hX⟩ : ∃ X, sv s (n.take 4) = X := ⟨_, rfl⟩
  obtain ⟨Y, hY⟩ : ∃ X, sv false (d.take 4) = X := ⟨_, rfl⟩
  rw [hX] at dX
  rw [hY] at dY
  rw [hX, hY]
  have g1 : dl (Int.natAbs 1) ≤ 1000000000 := Nat.le_trans l1 (by decide)
  by_cases hy0 : Y = 0
  · subst hy0
    have c0 : (sgI 0 == 0) = true := rfl
    have r1 : ofR X 1 = .tup [.Q (Rat.divInt X 1), .raw (.int .i64 0)] := if_neg (by decide)
    rw [if_pos rfl]
    simp only [go_sem, List.reduceReplicate, ↓reduceIte, Nat.reduceEqDiff, Nat.reduceLT, Nat.reduceLeDiff, Nat.reduceAdd, Nat.reduceSub, Nat.reduceMul, Int.reduceToNat, Int.reduceNeg, Int.reduceAdd, Int.reduceSub, Int.reduceMul, Int.reduceLT, Int.reduceLE, Int.reduceMod, Int.reducePow, Nat.reducePow, Int.reduceDiv, Nat.reduceBEq, Nat.reduceBNe, Int.reduceBEq, Int.reduceBNe, reduceCtorEq, take4, hX, hY, c0, r1]
    and_intros
    all_goals first | assumption | rfl | (split <;> omega) | omega
  · have c0 : (sgI Y == 0) = false := beqF (fun h => hy0 (sgI_zero.1 h))
    have r1 : ofR X Y = .tup [.Q (Rat.divInt X Y), .raw (.int .i64 0)] := if_neg hy0
    rw [if_neg hy0]
    simp only [go_sem, List.reduceReplicate, ↓reduceIte, Nat.reduceEqDiff, Nat.reduceLT, Nat.reduceLeDiff, Nat.reduceAdd, Nat.reduceSub, Nat.reduceMul, Int.reduceToNat, Int.reduceNeg, Int.reduceAdd, Int.reduceSub, Int.reduceMul, Int.reduceLT, Int.reduceLE, Int.reduceMod, Int.reducePow, Nat.reducePow, Int.reduceDiv, Nat.reduceBEq, Nat.reduceBNe, Int.reduceBEq, Int.reduceBNe, reduceCtorEq, take4, hX, hY, c0, r1]
    and_intros
    all_goals first | assumption | rfl | (split <;> omega) | omega
/-- A raw rational number: two rows of limbs and a sign. -/
def pMag2 : Pat (List Nat × List Nat × Bool) where
  p
    | .agg [.lst l, .lst m, .raw (.bool s)] => (unlimb l).bind fun a => (unlimb m).map fun b => (True, a, b, s)
    | _ => none
  val a := .agg [.lst (V.limbs a.1), .lst (V.limbs a.2.1), .raw (.bool a.2.2)]
  ok x c a h hc := by
    split at h
    · rename_i l m s
      rcases hl : unlimb l with _ | a <;> rw [hl] at h
      · cases h
      · rcases hm : unlimb m with _ | b <;> simp only [hm, bind_some] at h
        · cases h
        · injection h with h; injection h with h1 h2; subst h1 h2
          rw [unlimb_ok l a hl, unlimb_ok m b hm]
          exact .refl _
    · cases h
@[go_sem ↓, go_sem] theorem ev_pMag2 {s : Bool} {l m : List V} : pMag2.p (.agg [.lst l, .lst m, .raw (.bool s)]) = (unlimb l).bind fun a => (unlimb m).map fun b => (True, a, b, s) := rfl
@[go_sem ↓, go_sem] theorem ev_pMag2_val {a : List Nat × List Nat × Bool} : pMag2.val a = .agg [.lst (V.limbs a.1), .lst (V.limbs a.2.1), .raw (.bool a.2.2)] := rfl
def kMade2 : Con := con1 pMag2 fun a => ((Lim a.1 ∧ Lim a.2.1) ∧ a.1.length ≤ 9223372036854775807 ∧ a.2.1.length ≤ 9223372036854775807, .Q (mdR a.1 a.2.1 a.2.2))
attribute [go_sem ↓, go_sem] kMade2
theorem made2_C : Ctr Try.prog 12 kMade2 := Ctr.c1 rfl fun a h => made2_V a.1 a.2.1 a.2.2 h.1.1 h.1.2 h.2.1 h.2.2
theorem mdR_qs (n d : List Nat) (s : Bool) (hn : Lim n) (hd : Lim d) : qs (mdR n d s) ≤ 4 := by
  have dX : dl (sv s (n.take 4)).natAbs ≤ 4 := by rw [sv_natAbs]; exact Nat.le_trans (dl_le_of_lim (hn.take 4)) (by rw [List.length_take]; omega)
  have dY : dl (sv false (d.take 4)).natAbs ≤ 4 := by rw [sv_natAbs]; exact Nat.le_trans (dl_le_of_lim (hd.take 4)) (by rw [List.length_take]; omega)
  unfold mdR
  refine Nat.le_trans (qs_divInt _ _) ?_
  have := l1
  split <;> omega
/-- An argument of the laws. -/
theorem fits_raw2 {X : V} (h : Fits Try.prog 6 24 X) : ∃ (n d : List Nat) (s : Bool), X = .agg [.lst (V.limbs n), .lst (V.limbs d), .raw (.bool s)] ∧ (Lim n ∧ n.length ≤ 9223372036854775807) ∧ Lim d ∧ d.length ≤ 9223372036854775807 := by
  obtain ⟨l, rfl, hl⟩ := fits_struct Try.underlying24 h
  obtain ⟨x, l, rfl, hx, hl⟩ := fitL_cons hl
  obtain ⟨y, l, rfl, hy, hl⟩ := fitL_cons hl
  obtain ⟨z, l, rfl, hz, hl⟩ := fitL_cons hl
  obtain rfl := fitL_nil hl
  obtain ⟨n, rfl, n1, n2⟩ := fits_limbs Try.underlying22 Try.underlying74 hx
  obtain ⟨d, rfl, d1, d2⟩ := fits_limbs Try.underlying22 Try.underlying74 hy
  obtain ⟨s, rfl⟩ := fits_bool Try.underlying4 hz
  exact ⟨n, d, s, rfl, ⟨n1, n2⟩, d1, d2⟩
end Go.Proofs.Ytilkleibnciloaa
