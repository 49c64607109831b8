/- Texts LC3 in one. -/
import Derived.Test.YthhpmapbhdebeaaGreatP61
/- The law of rings: sums and products of polynomials. -/
namespace Go.Proofs.YthhpmapbhdebeaaGreat
set_option linter.unusedSimpArgs false
set_option linter.unusedVariables false
open Go.RowKit

theorem beq_len0 (l : List Rat) : ((l.length : Int) == 0) = decide (l = []) := by
  cases l with
  | nil => rfl
  | cons x l => rw [decide_eq_false (by simp)]; simp; omega
theorem pMul_nil (b : List Rat) : pMul [] b = [] := rfl
theorem pMul_comm (a b : List Rat) : pMul a b = pMul b a := ev_inj (can_pMul _ _) (can_pMul _ _) fun x => by rw [ev_pMul, ev_pMul]; grind
theorem pMul_nil' (a : List Rat) : pMul a [] = [] := by rw [pMul_comm, pMul_nil]
theorem sz_one : Sz [((1 : Int) : Rat)] 1 1 := ⟨Nat.le_refl _, PB_cons qs_1 (PB_nil (Nat.le_refl _)), fun _ => by decide +kernel⟩
set_option maxRecDepth 20000 in
set_option maxHeartbeats 2000000 in
theorem ring_V (x : Th) (hx : x.Ok) : PCall Tryz.prog 5 [x.v] (.raw (.bool true)) := by
  have hx' := hx
  obtain ⟨⟨pa, pb, pc⟩, hz⟩ := hx
  refine PCall.of_vc (tabs mixed (tbl_cons sanity3_C (tbl_cons made3_C (tbl_cons r2Whole_C (tbl_cons pMul_C (tbl_cons pAdd_C (tbl_cons pSub_C (tbl_cons rPEq_C tbl_nil)))))))) Tryz.func5 rfl Tryz.ntmps5 Tryz.results5 (by simp [Th.v]) ?_
  have ha : Sz (psL x.A 5) 5 1 := psL_sz pa 5
  have hb : Sz (psL x.B 5) 5 1 := psL_sz pb 5
  have hc : Sz (psL x.C 3) 3 1 := psL_sz pc 3
  unfold Th.v
  obtain ⟨a, ea⟩ : ∃ a, psL x.A 5 = a := ⟨_, rfl⟩
  obtain ⟨b, eb⟩ : ∃ a, psL x.B 5 = a := ⟨_, rfl⟩
  obtain ⟨c, ec⟩ : ∃ a, psL x.C 3 = a := ⟨_, rfl⟩
  rw [ea] at ha
  rw [eb] at hb
  rw [ec] at hc
  have h1 := sz_one
  have hab := ha.mul hb
  have hba := hb.mul ha
  have hs := ha.add hb
  have hs' := hb.add ha
  have hd := hs.sub hb
  have habc := hab.mul hc
  have hbc := hb.mul hc
  have habc' := ha.mul hbc
  have hsc := hs.mul hc
  have hac := ha.mul hc
  have hsum := hac.add hbc
  have ha1 := ha.mul h1
  have k1 : decide (pAdd a b = pAdd b a) = true := decide_eq_true (ev_inj hs.can hs'.can fun x => by simp only [ev_pAdd]; grind)
  have k2 : decide (pSub (pAdd a b) b = a) = true := decide_eq_true (ev_inj hd.can ha.can fun x => by simp only [ev_pAdd, ev_pSub]; grind)
  have k3 : decide (pMul a b = pMul b a) = true := decide_eq_true (pMul_comm a b)
  have k4 : decide (pMul (pMul a b) c = pMul a (pMul b c)) = true := decide_eq_true (ev_inj habc.can habc'.can fun x => by simp only [ev_pMul]; grind)
  have k5 : decide (pMul (pAdd a b) c = pAdd (pMul a c) (pMul b c)) = true := decide_eq_true (ev_inj hsc.can hsum.can fun x => by simp only [ev_pMul, ev_pAdd]; grind)
  have k6 : decide (pMul a [((1 : Int) : Rat)] = a) = true := decide_eq_true (ev_inj ha1.can ha.can fun x => by
    simp only [ev_pMul, ev]
    have : ((1 : Int) : Rat) = 1 := rfl
    grind)
  have m1 := Sz.cm ha hb
  have m2 := Sz.cm hb ha
  have m3 := Sz.cm hab hc
  have m4 := Sz.cm hb hc
  have m5 := Sz.cm ha hbc
  have m6 := Sz.cm hs hc
  have m7 := Sz.cm ha hc
  have m8 := Sz.cm ha h1
  have c1 := ha.c1
  have c2 := hb.c1
  have c3 := hab.c1
  have c4 := hba.c1
  have c5 := hs.c1
  have c6 := hs'.c1
  have c7 := hd.c1
  have c8 := habc.c1
  have c9 := habc'.c1
  have c10 := hsc.c1
  have c11 := hac.c1
  have c12 := hbc.c1
  have c13 := hsum.c1
  have c14 := ha1.c1
  have la : a.length ≤ 999999 := Nat.le_trans ha.len (by decide)
  by_cases a0 : a = []
  · have l1 : ((a.length : Int) == 0) = true := by rw [beq_len0]; exact decide_eq_true a0
    have l2 : (((pMul a b).length : Int) == 0) = true := by rw [beq_len0, a0, pMul_nil]; rfl
    simp only [app_cons, app_nil]
    simp (maxSteps := 2000000) only [go_sem, List.reduceReplicate, ↓reduceIte, Nat.reduceEqDiff, Nat.reduceLT, Nat.reduceLeDiff, Nat.reduceAdd, Nat.reduceSub, Nat.reduceMul, Int.reduceToNat, Int.reduceNeg, Int.reduceAdd, Int.reduceSub, Int.reduceMul, Int.reduceLT, Int.reduceLE, Int.reduceMod, Int.reducePow, Nat.reducePow, Int.reduceDiv, Nat.reduceBEq, Nat.reduceBNe, Int.reduceBEq, Int.reduceBNe, reduceCtorEq, ea, eb, ec, pa, pb, pc, k1, k2, k3, k4, k5, k6, m1, m2, m3, m4, m5, m6, m7, m8, c1, c2, c3, c4, c5, c6, c7, c8, c9, c10, c11, c12, c13, c14, la, l1, l2]
  · have l1 : ((a.length : Int) == 0) = false := by rw [beq_len0]; exact decide_eq_false a0
    by_cases b0 : b = []
    · have l3 : ((b.length : Int) == 0) = true := by rw [beq_len0]; exact decide_eq_true b0
      have l2 : (((pMul a b).length : Int) == 0) = true := by rw [beq_len0, b0, pMul_nil']; rfl
      simp only [app_cons, app_nil]
      simp (maxSteps := 2000000) only [go_sem, List.reduceReplicate, ↓reduceIte, Nat.reduceEqDiff, Nat.reduceLT, Nat.reduceLeDiff, Nat.reduceAdd, Nat.reduceSub, Nat.reduceMul, Int.reduceToNat, Int.reduceNeg, Int.reduceAdd, Int.reduceSub, Int.reduceMul, Int.reduceLT, Int.reduceLE, Int.reduceMod, Int.reducePow, Nat.reducePow, Int.reduceDiv, Nat.reduceBEq, Nat.reduceBNe, Int.reduceBEq, Int.reduceBNe, reduceCtorEq, ea, eb, ec, pa, pb, pc, k1, k2, k3, k4, k5, k6, m1, m2, m3, m4, m5, m6, m7, m8, c1, c2, c3, c4, c5, c6, c7, c8, c9, c10, c11, c12, c13, c14, la, l1, l2, l3]
    · have l3 : ((b.length : Int) == 0) = false := by rw [beq_len0]; exact decide_eq_false b0
      have hl := len_pMul ha.can hb.can a0 b0
      have a1 := List.length_pos_iff.2 a0
      have b1 := List.length_pos_iff.2 b0
      have l2 : (((pMul a b).length : Int) == 0) = false := by rw [beq_len0]; exact decide_eq_false fun e => by rw [e, List.length_nil] at hl; omega
      have l4 : (((pMul a b).length : Int) == (a.length : Int) + (b.length : Int) - 1) = true := by rw [hl]; simp; omega
      have r1 : -9223372036854775808 ≤ (a.length : Int) + (b.length : Int) ∧ (a.length : Int) + (b.length : Int) ≤ 9223372036854775807 := by have := ha.len; have := hb.len; omega
      have r2 : -9223372036854775808 ≤ (a.length : Int) + (b.length : Int) - 1 ∧ (a.length : Int) + (b.length : Int) - 1 ≤ 9223372036854775807 := by have := ha.len; have := hb.len; omega
      simp only [app_cons, app_nil]
      simp (maxSteps := 2000000) only [go_sem, List.reduceReplicate, ↓reduceIte, Nat.reduceEqDiff, Nat.reduceLT, Nat.reduceLeDiff, Nat.reduceAdd, Nat.reduceSub, Nat.reduceMul, Int.reduceToNat, Int.reduceNeg, Int.reduceAdd, Int.reduceSub, Int.reduceMul, Int.reduceLT, Int.reduceLE, Int.reduceMod, Int.reducePow, Nat.reducePow, Int.reduceDiv, Nat.reduceBEq, Nat.reduceBNe, Int.reduceBEq, Int.reduceBNe, reduceCtorEq, ea, eb, ec, pa, pb, pc, k1, k2, k3, k4, k5, k6, m1, m2, m3, m4, m5, m6, m7, m8, c1, c2, c3, c4, c5, c6, c7, c8, c9, c10, c11, c12, c13, c14, la, l1, l2, l3, l4, r1, r2]
set_option maxRecDepth 20000 in
theorem lawRing_F (X : V) (h : Fits Tryz.prog 6 26 X) : PCall Tryz.prog 5 [X] (.raw (.bool true)) := by
  obtain ⟨x, rfl, hx⟩ := fits_three h
  exact ring_V x hx
end Go.Proofs.YthhpmapbhdebeaaGreat
