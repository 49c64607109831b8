/- Texts J1 J2 J3 J4 in one. -/
import Derived.Test.YtfbogelmgdojgaaGreatR27
import Derived.Test.YtfbogelmgdojgaaGreatR20
import Derived.Test.YtfbogelmgdojgaaGreatR26
/- Contracts: package quotient and its reference, first functions. -/
namespace Go.Proofs.YtfbogelmgdojgaaGreat
set_option linter.unusedSimpArgs false
set_option linter.unusedVariables false
open Go.RowKit

def kQRed : Con := con2 pR pR fun q a => (DvOk a q ∧ q ≠ [], .lst (V.rats (pMod a q)))
attribute [go_sem ↓, go_sem] kQRed
theorem qRed_C : Ctr Tryz.prog 15 kQRed := Ctr.c2 (by kernel_rfl) fun q a h => by
 obtain ⟨hd, q0⟩ := h
 show PCall _ _ _ (.lst (V.rats (pMod a q)))
 have e1 : dmP a q = .tup [.lst (V.rats (pDiv a q)), .lst (V.rats (pMod a q)), .raw (.int .i64 0)] := if_neg q0
 refine PCall.of_vc (tabs mixed (tbl_cons pDM_C tbl_nil)) Tryz.func15 rfl Tryz.ntmps15 Tryz.results15 (by simp) ?_
 simp only [go_sem, e1, hd]
def kQMulq : Con := con3 pR pR pR fun q a b => ((a.length + b.length ≤ 1000000 ∧ ∃ j k, (PB a j ∧ PB b k) ∧ a.length * (j + k + 1) ≤ 4999999999999) ∧ DvOk (pMul a b) q ∧ q ≠ [], .lst (V.rats (pMod (pMul a b) q)))
attribute [go_sem ↓, go_sem] kQMulq
theorem qMulq_C : Ctr Tryz.prog 17 kQMulq := Ctr.c3 (by kernel_rfl) fun q a b h => by
 obtain ⟨hm, hd, q0⟩ := h
 show PCall _ _ _ (.lst (V.rats (pMod (pMul a b) q)))
 refine PCall.of_vc (tabs mixed (tbl_cons pMul_C (tbl_cons qRed_C tbl_nil))) Tryz.func17 rfl Tryz.ntmps17 Tryz.results17 (by simp) ?_
 simp only [go_sem, hm, hd, q0]
def invR (q a : List Rat) : V := if (pExt (pMod a q) q).1.length = 1 then .tup [.lst (V.rats (pMod (pExt (pMod a q) q).2.1 q)), .raw (.int .i64 0)] else .tup [.lst (V.rats []), .raw (.int .i64 60)]
def kQInv : Con := con2 pR pR fun q a => ((DvOk a q ∧ q ≠ []) ∧ (∃ n, ExOk n (pMod a q) q [1] [] [] [1]) ∧ ((pExt (pMod a q) q).1.length = 1 → DvOk (pExt (pMod a q) q).2.1 q), invR q a)
attribute [go_sem ↓, go_sem] kQInv
theorem qInv_C : Ctr Tryz.prog 11 kQInv := Ctr.c2 (by kernel_rfl) fun q a h => by
 obtain ⟨⟨hd, q0⟩, hx, hs⟩ := h
 show PCall _ _ _ (invR q a)
 refine PCall.of_vc (tabs mixed (tbl_cons ext_C (tbl_cons qRed_C tbl_nil))) Tryz.func11 rfl Tryz.ntmps11 Tryz.results11 (by simp) ?_
 unfold invR
 by_cases h1 : (pExt (pMod a q) q).1.length = 1
 ·rw [if_pos h1]
  have c1 : (((pExt (pMod a q) q).1.length : Int) != 1) = false := by rw [h1]; rfl
  have hs := hs h1
  simp only [go_sem, hd, q0, hx, c1, hs]
 ·rw [if_neg h1]
  have c1 : (((pExt (pMod a q) q).1.length : Int) != 1) = true := by simp; omega
  simp only [go_sem, hd, q0, hx, c1]
  exact .inl rfl
def kQNorm : Con := con2 pR pR fun q a => ((Can q ∧ q.length ≤ 1000000 ∧ ∃ s, PB q s ∧ s ≤ 2500000000000) ∧ (DvOk a q ∧ q ≠ []) ∧ ∃ n, ReOk n 1 (pMonic q) (pMod a q), .Q (pRes (pMonic q) (pMod a q)))
attribute [go_sem ↓, go_sem] kQNorm
theorem qNorm_C : Ctr Tryz.prog 22 kQNorm := Ctr.c2 (by kernel_rfl) fun q a h => by
 obtain ⟨hm, ⟨hd, q0⟩, hr⟩ := h
 show PCall _ _ _ (.Q (pRes (pMonic q) (pMod a q)))
 refine PCall.of_vc (tabs mixed (tbl_cons pMonic_C (tbl_cons qRed_C (tbl_cons res_C tbl_nil)))) Tryz.func22 rfl Tryz.ntmps22 Tryz.results22 (by simp) ?_
 simp only [go_sem, hm, hd, q0, hr]
def validQ3 (q : List Rat) : Bool := (((tr q).length : Int) == (q.length : Int)) && (decide (1 < q.length) && decide ((pGcd q (pDiff q)).length = 1))
def kQVal : Con := con1 pR fun q => ((q.length ≤ 1000000 ∧ PB q 5000000000000) ∧ (1 < q.length → ∃ n, GcOk n q (pDiff q)), .raw (.bool (validQ3 q)))
attribute [go_sem ↓, go_sem] kQVal
theorem qVal_C : Ctr Tryz.prog 29 kQVal := Ctr.c1 (by kernel_rfl) fun q h => by
 obtain ⟨⟨hl, hp⟩, hg⟩ := h
 show PCall _ _ _ (.raw (.bool (validQ3 q)))
 refine PCall.of_vc (tabs mixed (tbl_cons pValid_C (tbl_cons pDiff_C (tbl_cons pGcd_C tbl_nil)))) Tryz.func29 rfl Tryz.ntmps29 Tryz.results29 (by simp) ?_
 unfold validQ3
 rcases hv : (((tr q).length : Int) == (q.length : Int)) with _ | _
 ·simp only [go_sem, hl, hp, hv, Bool.false_and]
 ·by_cases h1 : 1 < q.length
  ·have c1 : (1 : Int) < (q.length : Int) := by omega
   have hg := hg h1
   by_cases h2 : (pGcd q (pDiff q)).length = 1
   ·have c2 : (((pGcd q (pDiff q)).length : Int) == 1) = true := by rw [h2]; rfl
    simp only [go_sem, hl, hp, hv, c1, c2, hg, h1, h2, Bool.true_and, decide_true]
   ·have c2 : (((pGcd q (pDiff q)).length : Int) == 1) = false := by simp; omega
    simp only [go_sem, hl, hp, hv, c1, c2, hg, h1, h2, Bool.true_and, decide_true, decide_false]
  ·have c1 : ¬ (1 : Int) < (q.length : Int) := by omega
   simp only [go_sem, hl, hp, hv, c1, h1, Bool.true_and, decide_false, Bool.false_and]
def kROver : Con := con2 pR pR fun a b => (DvOk a b ∧ b ≠ [], .lst (V.rats (pDiv a b)))
attribute [go_sem ↓, go_sem] kROver
theorem rOver_C : Ctr Tryz.prog 87 kROver := Ctr.c2 (by kernel_rfl) fun a b h => by
 obtain ⟨hd, b0⟩ := h
 show PCall _ _ _ (.lst (V.rats (pDiv a b)))
 have e1 : dmP a b = .tup [.lst (V.rats (pDiv a b)), .lst (V.rats (pMod a b)), .raw (.int .i64 0)] := if_neg b0
 refine PCall.of_vc (tabs mixed (tbl_cons rDM_C tbl_nil)) Tryz.func87 rfl Tryz.ntmps87 Tryz.results87 (by simp) ?_
 simp only [go_sem, e1, hd]
end Go.Proofs.YtfbogelmgdojgaaGreat


/- Contracts: power sums. -/
namespace Go.Proofs.YtfbogelmgdojgaaGreat
set_option linter.unusedSimpArgs false
set_option linter.unusedVariables false
open Go.RowKit

def nwBy (k : Nat) (l : List Rat) (i : Nat) : Rat := if i < k then cf l (k - i) else ((k : Int) : Rat)
def nwN (q : List Rat) (k : Nat) (l : List Rat) : Nat → Rat
 | 0 => ((0 : Int) : Rat)
 | i + 1 => nwN q k l i - cf q (q.length - 1 - (i + 1)) * nwBy k l (i + 1)
def nwV (q : List Rat) (k : Nat) (l : List Rat) : Rat := if k = 0 then (((q.length - 1 : Nat) : Int) : Rat) else nwN q k l (min k (q.length - 1))
def nwL (q : List Rat) : Nat → List Rat
 | 0 => []
 | k + 1 => nwL q k ++ [nwV q k (nwL q k)]
theorem nwL_len (q : List Rat) : ∀ k, (nwL q k).length = k
 | 0 => rfl
 | k + 1 => by rw [nwL, List.length_append, nwL_len q k]; rfl
def NwOk (q : List Rat) (L : Nat) : Prop := (q.length ≤ 1000000 ∧ PB q 5000000000000 ∧ L ≤ 1000000) ∧ ∀ k, k ≤ L → PB (nwL q k) 5000000000000 ∧ ∀ i, i ≤ q.length → qs (nwN q k (nwL q k) i) ≤ 5000000000000 ∧ qs (cf q (q.length - 1 - (i + 1)) * nwBy k (nwL q k) (i + 1)) ≤ 5000000000000
def nwS (q : List Rat) (l : Nat) : Nat → St
 | 0 => mkSt [(0, .raw (.func (.yield l) #[] #[])), (1, .pel (.raw (.int .i64 ((q.length - 1 : Nat) : Int)))), (2, .pel (.lst (V.rats q))), (4, .raw (.slice none 0 0)), (5, .raw (.int .i64 ((0 : Nat) : Int)))] [] 0 54
 | k + 1 => mkSt [(0, .raw (.func (.yield l) #[] #[])), (1, .pel (.raw (.int .i64 ((q.length - 1 : Nat) : Int)))), (2, .pel (.lst (V.rats q))), (4, .sl 0 4 0 (k + 1)), (5, .raw (.int .i64 ((k + 1 : Nat) : Int)))] [(0, true, ⟨45, 4, V.rats (nwL q (k + 1))⟩)] 1 54
theorem nwN_step (q : List Rat) (k : Nat) (l : List Rat) (i : Nat) : nwN q k l (i + 1) = nwN q k l i - cf q (q.length - 1 - (i + 1)) * nwBy k l (i + 1) := rfl
set_option maxRecDepth 4000 in
theorem sums1_S (q : List Rat) (L : Nat) (h1 : 1 ≤ q.length) (h : NwOk q L) : SeqC Tryz.prog 103 [.pel (.raw (.int .i64 ((q.length - 1 : Nat) : Int))), .pel (.lst (V.rats q))] L (fun i => some [.Q (nwV q i (nwL q i))]) := by
 obtain ⟨⟨hl, hb, hL⟩, hk⟩ := h
 have T := (tabs mixed (tbl_cons whole_C (tbl_cons qMul_C (tbl_cons qSub_C tbl_nil))))
 have mx : maxLen = 9223372036854775807 := by decide
 refine SeqC.of_it Tryz.func103 rfl Tryz.ntmps103 Tryz.results103 (by simp) fun l N J hN hJ => ?_
 refine AIt.seq (AIt.of hJ (vc_ok T _ _ _ ?_))
 simp only [go_sem]
 refine AIt.seq (AIt.of hJ (vc_ok T _ _ _ ?_))
 simp only [go_sem]
 refine AIt.block (AIt.loops hJ (X := Nat) (nwS q l) (fun x => x) (fun x => N + 1 - x) (fun x => by cases x <;> rfl) 0 rfl (Wk.of [] (by decide) ?_) ?_)
 ·simp only [go_sem]
  exact ⟨renV_pure rfl, renV_pure rfl⟩
 have r0 : -9223372036854775808 ≤ ((q.length - 1 : Nat) : Int) ∧ ((q.length - 1 : Nat) : Int) ≤ 9223372036854775807 := ⟨by omega, by omega⟩
 rintro k hkN
 rcases k with _ | k
 ·-- the first sum
  show AIt _ J _ _ _ (mkSt _ _ _ _)
  refine AIt.seq (AIt.block (AIt.seq (AIt.of hJ (vc_at T ?_))))
  simp only [go_sem, r0]
  refine AIt.seq (AIt.of hJ (vc_ok T _ _ _ ?_))
  simp only [go_sem]
  refine AIt.seq (AIt.of hJ (vc_ok T _ _ _ ?_))
  simp only [go_sem, mx]
  refine AIt.seq (AIt.yieldR T hJ [_, _] [_] _ rfl rfl rfl ?_)
  have e0 : nwV q 0 (nwL q 0) = (((q.length - 1 : Nat) : Int) : Rat) := if_pos rfl
  simp only [go_sem, e0]
  refine ⟨?_, ?_⟩
  ·refine AIt.cond (t := false) rfl ⟨fun e => (by cases e), fun _ => AIt.of hJ (vc_ok T _ _ _ ?_)⟩
   simp only [go_sem]
   refine AIt.of hJ (vc_ok T _ _ _ ?_)
   simp only [go_sem]
   refine ⟨1, rfl, Wk.of [9] (by decide) ?_, by omega⟩
   have e1 : V.rats (nwL q (0 + 1)) = [.Q (((q.length - 1 : Nat) : Int) : Rat)] := by rw [← e0]; rfl
   simp only [go_sem, e1]
   exact ⟨renV_pure rfl, renV_pure rfl⟩
  ·refine AIt.cond (t := true) rfl ⟨fun _ => AIt.of hJ (vc_ok T _ _ _ ?_), fun e => (by cases e)⟩
   simp only [go_sem]
   exact fun n e => by cases e
 ·-- a later sum
  obtain ⟨k1, k2⟩ := hk (k + 1) (by omega)
  show AIt _ J _ _ _ (mkSt _ _ _ _)
  refine AIt.seq (AIt.block (AIt.seq (AIt.of hJ (vc_at T ?_))))
  simp only [go_sem, r0]
  obtain ⟨p, ep⟩ : ∃ p, nwL q (k + 1) = p := ⟨_, rfl⟩
  have lp : p.length = k + 1 := by rw [← ep, nwL_len]
  rw [ep] at k1 k2 ⊢
  refine AIt.seq (AIt.of hJ (AWp.cut (E := fun e τ => e = .normal ∧ τ = mkSt [(0, .raw (.func (.yield l) #[] #[])), (1, .pel (.raw (.int .i64 ((q.length - 1 : Nat) : Int)))), (2, .pel (.lst (V.rats q))), (4, .sl 0 4 0 (k + 1)), (5, .raw (.int .i64 ((k + 1 : Nat) : Int))), (6, .ptr 1 4 0 0)] [(0, true, ⟨45, 4, V.rats p⟩), (1, true, ⟨45, 4, [.Q (nwV q (k + 1) p)]⟩)] 2 54) ?_ ?_))
  ·refine vc_ok T _ _ _ ?_
   have c0 : (0 : Int) < ((k + 1 : Nat) : Int) := by omega
   simp only [go_sem, c0]
   refine AWp.loops (X := { i : Nat // i ≤ min (k + 1) (q.length - 1) }) (fun i => mkSt [(0, .raw (.func (.yield l) #[] #[])), (1, .pel (.raw (.int .i64 ((q.length - 1 : Nat) : Int)))), (2, .pel (.lst (V.rats q))), (4, .sl 0 4 0 (k + 1)), (5, .raw (.int .i64 ((k + 1 : Nat) : Int))), (6, .ptr 1 4 0 0), (7, .raw (.int .i64 ((i.1 + 1 : Nat) : Int)))] [(0, true, ⟨45, 4, V.rats p⟩), (1, true, ⟨45, 4, [.Q (nwN q (k + 1) p i.1)]⟩)] 2 54) (fun i => min (k + 1) (q.length - 1) - i.1) ⟨0, Nat.zero_le _⟩ (Wk.of [0, 3] (by decide) ?_) ?_
   ·simp only [go_sem, nwN]
    exact ⟨renV_pure rfl, renV_pure rfl⟩
   ·rintro ⟨i, hi⟩
    refine vc_at T ?_
    have mn : (if ((q.length - 1 : Nat) : Int) < ((k + 1 : Nat) : Int) then ((q.length - 1 : Nat) : Int) else ((k + 1 : Nat) : Int)) = ((min (k + 1) (q.length - 1) : Nat) : Int) := by split <;> omega
    obtain ⟨x1, x2⟩ := k2 i (by omega)
    by_cases hlt : i < min (k + 1) (q.length - 1)
    ·have c1 : ((i + 1 : Nat) : Int) ≤ ((min (k + 1) (q.length - 1) : Nat) : Int) := by omega
     have c2 : ((q.length - 1 : Nat) : Int) - ((i + 1 : Nat) : Int) = ((q.length - 1 - (i + 1) : Nat) : Int) := by omega
     have c3 : ((i + 1 : Nat) : Int) + 1 = ((i + 1 + 1 : Nat) : Int) := by omega
     have c4 : q.length - 1 - (i + 1) < q.length := by omega
     have c5 := hb (q.length - 1 - (i + 1))
     by_cases hik : i < k
     ·have d1 : ((i + 1 : Nat) : Int) < ((k + 1 : Nat) : Int) := by omega
      have d2 : ((k + 1 : Nat) : Int) - ((i + 1 : Nat) : Int) = ((k - i : Nat) : Int) := by omega
      have d3 : k - i < p.length := by omega
      have d4 := k1 (k - i)
      have d5 : nwBy (k + 1) p (i + 1) = cf p (k - i) := by unfold nwBy; rw [if_pos (by omega), show k + 1 - (i + 1) = k - i from by omega]
      rw [d5] at x2
      simp only [go_sem, c1, mn, c2, c3, c4, c5, d1, d2, d3, d4, x1, x2]
      refine ⟨⟨by omega, by omega⟩, ⟨by omega, by omega⟩, ⟨by omega, by omega⟩, ⟨by omega, by omega⟩, ⟨by omega, by omega⟩, by rfl, ⟨by omega, by omega⟩, ⟨i + 1, hlt⟩, Wk.of [0, 1] (by decide) ?_, by simp only; omega⟩
      have e2 : nwN q (k + 1) p (i + 1) = nwN q (k + 1) p i - cf q (q.length - 1 - (i + 1)) * cf p (k - i) := by rw [nwN_step, d5]
      simp only [go_sem, e2]
      exact ⟨renV_pure rfl, renV_pure rfl⟩
     ·have d1 : ¬ ((i + 1 : Nat) : Int) < ((k + 1 : Nat) : Int) := by omega
      have d5 : nwBy (k + 1) p (i + 1) = (((k + 1 : Nat) : Int) : Rat) := by unfold nwBy; rw [if_neg (by omega)]
      rw [d5] at x2
      have d4 : qs (((k + 1 : Nat) : Int) : Rat) ≤ 5000000000000 := Nat.le_trans (qs_nat (z := k + 1) (by omega)) (by decide)
      simp only [go_sem, c1, mn, c2, c3, c4, c5, d1, d4, x1, x2]
      refine ⟨⟨by omega, by omega⟩, ⟨by omega, by omega⟩, ⟨by omega, by omega⟩, by rfl, ⟨by omega, by omega⟩, ⟨i + 1, hlt⟩, Wk.of [0, 1] (by decide) ?_, by simp only; omega⟩
      have e2 : nwN q (k + 1) p (i + 1) = nwN q (k + 1) p i - cf q (q.length - 1 - (i + 1)) * (((k + 1 : Nat) : Int) : Rat) := by rw [nwN_step, d5]
      simp only [go_sem, e2]
      exact ⟨renV_pure rfl, renV_pure rfl⟩
    ·obtain rfl : i = min (k + 1) (q.length - 1) := by omega
     have e1 : nwV q (k + 1) p = nwN q (k + 1) p (min (k + 1) (q.length - 1)) := if_neg (by omega)
     have c1 : ¬ ((min (k + 1) (q.length - 1) + 1 : Nat) : Int) ≤ ((min (k + 1) (q.length - 1) : Nat) : Int) := by omega
     simp only [go_sem, mn, c1]
     refine ⟨_, Wk.of [0, 1] (by decide) ?_, rfl⟩
     simp only [go_sem, e1]
     exact ⟨renV_pure rfl, renV_pure rfl⟩
  ·rintro e τ ⟨rfl, rfl⟩
   refine ⟨rfl, ?_⟩
   simp only [go_sem]
   refine AIt.seq (AIt.of hJ (vc_at T ?_))
   simp only [go_sem, mx]
   refine ⟨by omega, ⟨by omega, by omega⟩, ?_⟩
   refine AIt.seq (AIt.yieldR T hJ [_, _] [_] _ rfl rfl rfl ?_)
   have e0 : nwV q (k + 1) (nwL q (k + 1)) = nwV q (k + 1) p := by rw [ep]
   simp only [go_sem, e0]
   refine ⟨?_, ?_⟩
   ·refine AIt.cond (t := false) rfl ⟨fun e => (by cases e), fun _ => AIt.of hJ (vc_ok T _ _ _ ?_)⟩
    simp only [go_sem]
    refine AIt.of hJ (vc_ok T _ _ _ ?_)
    have c3 : ((k + 1 : Nat) : Int) + 1 = ((k + 1 + 1 : Nat) : Int) := by omega
    simp only [go_sem, c3]
    refine ⟨⟨by omega, by omega⟩, k + 1 + 1, rfl, Wk.of [5] (by decide) ?_, by omega⟩
    have e1 : V.rats (nwL q (k + 1 + 1)) = V.rats (List.take (k + 1) p ++ [nwV q (k + 1) p]) := by rw [List.take_of_length_le (by omega), ← ep]; rfl
    simp only [go_sem, e1]
    exact ⟨renV_pure rfl, renV_pure rfl⟩
   ·refine AIt.cond (t := true) rfl ⟨fun _ => AIt.of hJ (vc_ok T _ _ _ ?_), fun e => (by cases e)⟩
    simp only [go_sem]
    exact fun n e => by cases e
def kSums : Con := con1 pR fun q => (1 ≤ q.length ∧ q.length ≤ 1000000, .clo (.func 103) [] [.pel (.raw (.int .i64 ((q.length - 1 : Nat) : Int))), .pel (.lst (V.rats q))])
attribute [go_sem ↓, go_sem] kSums
theorem sums_C : Ctr Tryz.prog 62 kSums := Ctr.c1 (by kernel_rfl) fun q h => by
 obtain ⟨h1, h2⟩ := h
 have e1 : (q.length : Int) - 1 = ((q.length - 1 : Nat) : Int) := by omega
 refine PCall.of_vc (tabs mixed tbl_nil) Tryz.func62 rfl Tryz.ntmps62 Tryz.results62 (by simp) ?_
 simp only [go_sem, e1]
 exact ⟨by omega, by omega⟩
def nwR (q : List Rat) (n : Int) : List Rat := nwL q n.toNat
theorem nwR_len (q : List Rat) (n : Int) : (nwR q n).length = n.toNat := nwL_len _ _
def PoOk (q : List Rat) (n : Nat) : Prop := (Can q ∧ q.length ≤ 1000000 ∧ ∃ s, PB q s ∧ s ≤ 2500000000000) ∧ (1 ≤ (pMonic q).length ∧ (pMonic q).length ≤ 1000000) ∧ NwOk (pMonic q) n
def powHs (r : List Rat) (n : Nat) : Nat → Hp
 | 0 => mkH [(0, false, ⟨3, 1, [.raw (.int .i64 (n : Nat))]⟩), (1, false, ⟨29, 1, [.raw (.slice none 0 0)]⟩)]
 | i + 1 => mkH [(0, false, ⟨3, 1, [.raw (.int .i64 (n : Nat))]⟩), (1, false, ⟨29, 1, [.sl 2 4 0 (i + 1)]⟩), (2, false, ⟨45, 4, V.rats (nwL r (i + 1))⟩)]
def kPow6 : Con := con2 pR (pN .i64) fun q n => (0 < n → PoOk q n.toNat, .lst (V.rats (nwR (pMonic q) n)))
attribute [go_sem ↓, go_sem] kPow6
theorem power6_C : Ctr Tryz.prog 25 kPow6 := Ctr.c2 (by kernel_rfl) fun q n h => by
 unfold nwR
 refine PCall.of_vc (tabs mixed (tbl_cons pMonic_C (tbl_cons sums_C tbl_nil))) Tryz.func25 rfl Tryz.ntmps25 Tryz.results25 (by simp) ?_
 by_cases h0 : n ≤ 0
 ·have e0 : n.toNat = 0 := by omega
  simp only [go_sem, h0, e0, nwL, rats_0]
 ·obtain ⟨hm, ⟨l1, l2⟩, hk⟩ := h (by omega)
  obtain ⟨N, rfl⟩ : ∃ N : Nat, n = (N : Nat) := ⟨n.toNat, by omega⟩
  rw [Int.toNat_natCast] at hk ⊢
  obtain ⟨r, er⟩ : ∃ r, pMonic q = r := ⟨_, rfl⟩
  rw [er] at l1 l2 hk ⊢
  have h0' : ¬ (N : Int) ≤ 0 := h0
  have T := (tabs mixed (tbl_cons pMonic_C (tbl_cons sums_C tbl_nil)))
  have mx : maxLen = 9223372036854775807 := by decide
  have hL := hk.1.2.2
  simp only [go_sem, h0', hm, er, l1, l2]
  refine AWp.rounds (sums1_S r N l1 hk) (by kernel_rfl) (N - 1) (Nat.sub_le _ _) (s0 := mkS [(3, .ptr 0 1 0 0), (4, .raw (.slice none 0 0)), (5, .ptr 1 1 0 0), (11, .clo (.func 103) [] [.pel (.raw (.int .i64 ((r.length - 1 : Nat) : Int))), .pel (.lst (V.rats r))])]) (m := 2) (M := 22)
   (powHs r N) (fun n => if n = 0 then 2 else 3) (fun id H n => id = 0 ∧ H = powHs r N N ∧ n = 3) rfl (Wk.of [0, 4] (by decide) ?_) rfl rfl (fun i => by cases i <;> exact ⟨rfl, rfl, trivial⟩) (fun n ys hy hn => ?_) (fun id H n hs => ?_) (fun n hn hx => by cases hx)
  ·simp only [go_sem]
   exact ⟨⟨rfl, rfl⟩, rfl, rfl⟩
  ·injection hy with hy
   subst hy
   refine ⟨⟨rfl, by decide⟩, vc_ok T _ _ _ ?_⟩
   rcases n with _ | n
   ·simp only [go_sem, powHs]
    refine vc_ok T _ _ _ ?_
    have e2 : V.rats (nwL r (0 + 1)) = [.Q (nwV r 0 (nwL r 0))] := rfl
    by_cases h1 : N = 1
    ·subst h1
     simp only [go_sem, mx]
     refine ⟨_, _, ⟨rfl, rfl⟩, Wk.ofM 2 (ss := []) (hs := [(0, false, ⟨3, 1, [.raw (.int .i64 1)]⟩), (1, false, ⟨29, 1, [.sl 2 4 0 (0 + 1)]⟩), (2, true, ⟨45, 4, V.rats (nwL r (0 + 1))⟩)]) [0, 1, 7] (by decide) (by decide) ?_⟩
     simp only [go_sem, e2]
    ·have c1 : ((1 : Int) == (N : Int)) = false := by simp; omega
     simp only [go_sem, mx, c1]
     refine ⟨by omega, Wk.ofM 2 (ss := []) (hs := [(0, false, ⟨3, 1, [.raw (.int .i64 (N : Nat))]⟩), (1, false, ⟨29, 1, [.sl 2 4 0 (0 + 1)]⟩), (2, true, ⟨45, 4, V.rats (nwL r (0 + 1))⟩)]) [0, 1, 7] (by decide) (by decide) ?_⟩
     simp only [go_sem, e2]
   ·simp only [go_sem, powHs]
    refine vc_ok T _ _ _ ?_
    have e1 : (V.rats (nwL r (n + 1))).take (n + 1) = V.rats (nwL r (n + 1)) := List.take_of_length_le (by rw [rats_len, nwL_len]; exact Nat.le_refl _)
    have e2 : V.rats (nwL r (n + 1 + 1)) = V.rats (nwL r (n + 1) ++ [nwV r (n + 1) (nwL r (n + 1))]) := rfl
    by_cases h1 : N = n + 1 + 1
    ·subst h1
     have c1 : (((n + 1 + 1 : Nat) : Int) == ((n + 1 + 1 : Nat) : Int)) = true := by simp
     simp only [go_sem, mx, c1, e1, nwL_len]
     refine ⟨⟨by omega, by omega⟩, _, _, ⟨rfl, rfl⟩, Wk.ofM 2 (ss := []) (hs := [(0, false, ⟨3, 1, [.raw (.int .i64 (n + 1 + 1 : Nat))]⟩), (1, false, ⟨29, 1, [.sl 2 4 0 (n + 1 + 1)]⟩), (2, true, ⟨45, 4, V.rats (nwL r (n + 1 + 1))⟩)]) [0, 1, 8] (by decide) (by decide) ?_⟩
     simp only [go_sem, e2]
    ·have c1 : (((n + 1 + 1 : Nat) : Int) == (N : Int)) = false := by simp; omega
     simp only [go_sem, mx, c1, e1, nwL_len]
     refine ⟨⟨by omega, by omega⟩, by omega, Wk.ofM 2 (ss := []) (hs := [(0, false, ⟨3, 1, [.raw (.int .i64 (N : Nat))]⟩), (1, false, ⟨29, 1, [.sl 2 4 0 (n + 1 + 1)]⟩), (2, true, ⟨45, 4, V.rats (nwL r (n + 1 + 1))⟩)]) [0, 1, 8] (by decide) (by decide) ?_⟩
     simp only [go_sem, e2]
  ·obtain ⟨rfl, rfl, rfl⟩ := hs
   obtain ⟨N, rfl⟩ : ∃ M, N = M + 1 := ⟨N - 1, by omega⟩
   have e1 : (V.rats (nwL r (N + 1))).take (N + 1) = V.rats (nwL r (N + 1)) := List.take_of_length_le (by rw [rats_len, nwL_len]; exact Nat.le_refl _)
   simp only [go_sem, powHs, nwL_len, e1]
end Go.Proofs.YtfbogelmgdojgaaGreat


/- The moduli that the laws make. -/
namespace Go.Proofs.YtfbogelmgdojgaaGreat
set_option linter.unusedSimpArgs false
set_option linter.unusedVariables false
open Go.RowKit

theorem zs_cf (l : List Int) (n i : Nat) : cf (zsL l (n : Nat)) i = ((if i < min l.length n then l.getD i 0 else 0 : Int) : Rat) := by
 unfold zsL
 rw [cf_tr, cf_rg, Int.toNat_natCast]
 split <;> rfl
theorem zs_B8 {l : List Int} (h : ∀ z ∈ l, B8 z) (n i : Nat) : B8 (if i < min l.length n then l.getD i 0 else 0) := by
 split
 ·exact B8.get h i
 ·exact ⟨by decide, by decide⟩
theorem zs_sz {l : List Int} (h : ∀ z ∈ l, B8 z) (n : Nat) : Sz (zsL l (n : Nat)) n 1 := ⟨by
 unfold zsL
 refine Nat.le_trans (tr_len _) ?_
 rw [rg_len]; omega, fun i => by
 rw [zs_cf]
 obtain ⟨h1, h2⟩ := zs_B8 h n i
 refine Nat.le_trans (qs_int _) ?_
 have e1 : dl (if i < min l.length n then l.getD i 0 else 0 : Int).natAbs ≤ 1 := dl_le.2 (by simp only [Nat.pow_one]; omega)
 omega, tr_can _⟩
theorem zs_diff {l : List Int} (h : ∀ z ∈ l, B8 z) : PB (pDiff (zsL l 5)) 1 := fun i => by
 rw [cf_pDiff, show (5 : Int) = ((5 : Nat) : Int) from rfl, zs_cf]
 obtain ⟨h1, h2⟩ := zs_B8 h 5 (i + 1)
 by_cases hi : i + 1 < 5
 ·rw [show ((i + 1 : Nat) : Rat) * ((if i + 1 < min l.length 5 then l.getD (i + 1) 0 else 0 : Int) : Rat) = (((i + 1 : Nat) : Int) * (if i + 1 < min l.length 5 then l.getD (i + 1) 0 else 0 : Int) : Int) from by push_cast; rfl]
  generalize (if i + 1 < min l.length 5 then l.getD (i + 1) 0 else 0 : Int) = z at h1 h2
  refine Nat.le_trans (qs_int _) ?_
  have e1 : dl (((i + 1 : Nat) : Int) * z).natAbs ≤ 1 := dl_le.2 (by
   simp only [Nat.pow_one]
   have h3 : i = 0 ∨ i = 1 ∨ i = 2 ∨ i = 3 := by omega
   rcases h3 with rfl | rfl | rfl | rfl <;> omega)
  omega
 ·rw [if_neg (by omega)]
  rw [show ((i + 1 : Nat) : Rat) * ((0 : Int) : Rat) = 0 from by simp]
  exact qs_0
def mod6 (l : List Int) : List Rat := if (zsL l 5).length < 2 then zsL [0, 1] 2 else sqp (zsL l 5)
structure Md0 (q : List Rat) (n k : Nat) : Prop where
 can : Can q
 len : q.length = n
 pb : PB q k
 cs0 : (2 ≤ n ∧ n ≤ 5) ∧ k ≤ 5504
structure Md (q : List Rat) (n k : Nat) : Prop extends Md0 q n k where
 cs : (n = 2 ∧ k = 448) ∨ (n = 3 ∧ k = 448) ∨ (n = 4 ∧ k = 5504) ∨ (n = 5 ∧ k = 1)
theorem mod6_md {l : List Int} (h : ∀ z ∈ l, B8 z) : ∃ n k, Md (mod6 l) n k := by
 have hs : Sz (zsL l 5) 5 1 := zs_sz h 5
 unfold mod6
 split
 ·refine ⟨2, 448, ?_⟩
  have h2 := zs_sz (l := [0, 1]) (b8 _ (by decide)) 2
  exact ⟨⟨h2.can, by decide +kernel, h2.pb.mono (by decide), by decide⟩, .inl ⟨rfl, rfl⟩⟩
 ·rename_i h2
  obtain ⟨p1, p2, p3⟩ := sqp_sz hs (zs_diff h) (by omega)
  obtain ⟨⟨⟨cq, l1⟩, l2⟩, l3, l4⟩ := sqp_len hs.can (by omega)
  have l5 := hs.len
  have l6 : (sqp (zsL l 5)).length = 2 ∨ (sqp (zsL l 5)).length = 3 ∨ (sqp (zsL l 5)).length = 4 ∨ (sqp (zsL l 5)).length = 5 := by omega
  rcases l6 with e | e | e | e
  ·exact ⟨2, 448, ⟨cq, e, p2 (by omega), by decide⟩, .inl ⟨rfl, rfl⟩⟩
  ·exact ⟨3, 448, ⟨cq, e, p2 (by omega), by decide⟩, .inr (.inl ⟨rfl, rfl⟩)⟩
  ·exact ⟨4, 5504, ⟨cq, e, p1, by decide⟩, .inr (.inr (.inl ⟨rfl, rfl⟩))⟩
  ·exact ⟨5, 1, ⟨cq, e, p3 e, by decide⟩, .inr (.inr (.inr ⟨rfl, rfl⟩))⟩
theorem Md0.sz {q : List Rat} {n k : Nat} (h : Md0 q n k) : Sz q 5 5504 := ⟨by have := h.len; have := h.cs0; omega, h.pb.mono (by have := h.cs0; omega), h.can⟩
theorem Md0.two {q : List Rat} {n k : Nat} (h : Md0 q n k) : 2 ≤ q.length := by have := h.len; have := h.cs0; omega
theorem Md0.ne {q : List Rat} {n k : Nat} (h : Md0 q n k) : q ≠ [] := fun e => by have := h.two; rw [e] at this; simp at this
def kMade6 : Con := con1 pI8 fun l => (l.length ≤ 9223372036854775807 ∧ ∀ z ∈ l, B8 z, .lst (V.rats (mod6 l)))
attribute [go_sem ↓, go_sem] kMade6
theorem rMade6_C : Ctr Tryz.prog 49 kMade6 := Ctr.c1 (by kernel_rfl) fun l h => by
 obtain ⟨hl, hb⟩ := h
 show PCall _ _ _ (.lst (V.rats (mod6 l)))
 have hs : Sz (zsL l 5) 5 1 := zs_sz hb 5
 have hd := zs_diff hb
 have w2 : (∀ z ∈ ([0, 1] : List Int), B8 z) = True := eq_true (b8 _ (by decide))
 have cd := can_pDiff (zsL l 5)
 have ld := len_pDiff hs.can
 have l5 := hs.len
 obtain ⟨a, ea⟩ : ∃ a, zsL l 5 = a := ⟨_, rfl⟩
 refine PCall.of_vc (tabs mixed (tbl_cons rInts_C (tbl_cons rDiff_C (tbl_cons rGcd_C (tbl_cons rOver_C tbl_nil))))) Tryz.func49 rfl Tryz.ntmps49 Tryz.results49 (by simp) ?_
 unfold mod6
 rw [ea] at hs hd cd ld l5 ⊢
 by_cases h2 : a.length < 2
 ·have c1 : (a.length : Int) < 2 := by omega
  rw [if_pos h2]
  simp only [go_sem, hl, hb, w2, ea, c1]
  exact hb
 ·have c1 : ¬ (a.length : Int) < 2 := by omega
  rw [if_neg h2]
  have key : ∀ n, n = 2 ∨ n = 3 ∨ n = 4 ∨ n = 5 → gcC 10 n 1 (n - 1) 1 = true ∧ gcM 10 n 1 (n - 1) 1 ≤ 5000 := fun n hn => by
   rcases hn with rfl | rfl | rfl | rfl <;> exact ⟨by decide +kernel, by decide +kernel⟩
  obtain ⟨k1, k2⟩ := key a.length (by omega)
  obtain ⟨g, pg⟩ := gcC_ok 10 k1 hs.can cd rfl ld hs.pb hd
  have g : ∃ n, GcOk n a (pDiff a) := ⟨10, g⟩
  obtain ⟨⟨_, q2⟩, q3, q4⟩ := sqp_len hs.can (show 2 ≤ a.length by omega)
  have gne : pGcd a (pDiff a) ≠ [] := fun e => by rw [e] at q2 q3; simp only [List.length_nil] at q2 q3; omega
  have ovr : DvOk a (pGcd a (pDiff a)) := ⟨⟨hs.can, can_pMonic _⟩, by omega, 1, 10001, ⟨hs.pb, (monic_PB pg).mono (by omega)⟩,
   Nat.le_trans (Nat.mul_le_mul_right _ (Nat.pow_le_pow_right (by decide) (show a.length - (pGcd a (pDiff a)).length + 1 ≤ 6 by omega))) (by decide)⟩
  have d1 := hs.c1
  unfold sqp
  simp only [go_sem, hl, hb, ea, c1, d1, g, ovr, gne]
  exact hb
end Go.Proofs.YtfbogelmgdojgaaGreat


/- Contracts: traces, powers of an element. -/
namespace Go.Proofs.YtfbogelmgdojgaaGreat
set_option linter.unusedSimpArgs false
set_option linter.unusedVariables false
open Go.RowKit

def trF (r p : List Rat) : Nat → Rat
 | 0 => ((0 : Int) : Rat)
 | i + 1 => trF r p i + cf r i * cf p i
def trQ (q a : List Rat) : Rat := trF (pMod a q) (nwR (pMonic q) (pMod a q).length) (pMod a q).length
def TrOk (q a : List Rat) : Prop := (DvOk a q ∧ q ≠ []) ∧ (0 < (pMod a q).length → PoOk q (pMod a q).length) ∧ PB (pMod a q) 5000000000000 ∧ PB (nwR (pMonic q) (pMod a q).length) 5000000000000 ∧
 ∀ i, i < (pMod a q).length → qs (trF (pMod a q) (nwR (pMonic q) (pMod a q).length) i) ≤ 5000000000000 ∧ qs (cf (pMod a q) i * cf (nwR (pMonic q) (pMod a q).length) i) ≤ 5000000000000
def kTrace : Con := con2 pR pR fun q a => (TrOk q a, .Q (trQ q a))
attribute [go_sem ↓, go_sem] kTrace
theorem trace_C : Ctr Tryz.prog 20 kTrace := Ctr.c2 (by kernel_rfl) fun q a h => by
 obtain ⟨⟨hd, q0⟩, hp, hr, hw, ht⟩ := h
 unfold trQ
 have T := (tabs mixed (tbl_cons qRed_C (tbl_cons whole_C (tbl_cons power6_C (tbl_cons qMul_C (tbl_cons qAdd_C tbl_nil))))))
 obtain ⟨r, er⟩ : ∃ r, pMod a q = r := ⟨_, rfl⟩
 rw [er] at hp hr hw ht ⊢
 obtain ⟨p, ep⟩ : ∃ p, nwR (pMonic q) r.length = p := ⟨_, rfl⟩
 have lp : p.length = r.length := by rw [← ep, nwR_len]; omega
 rw [ep] at hw ht ⊢
 refine PCall.of_vc (tabs mixed (tbl_cons qRed_C (tbl_cons whole_C (tbl_cons power6_C (tbl_cons qMul_C (tbl_cons qAdd_C tbl_nil)))))) Tryz.func20 rfl Tryz.ntmps20 Tryz.results20 (by simp) ?_
 have hp' : (0 < (r.length : Int) → PoOk q (r.length : Int).toNat) = True := eq_true fun h => by rw [Int.toNat_natCast]; exact hp (by omega)
 simp only [go_sem, hd, q0, er, ep, lp]
 refine ⟨fun h => hp (by omega), ?_⟩
 refine AWp.loops (X := { i : Nat // i ≤ r.length }) (fun i => mkSt [(0, .lst (V.rats q)), (1, .lst (V.rats r)), (4, .ptr 0 4 0 0), (5, .ptr 1 4 0 0), (15, .lst (V.rats p)), (16, .raw (.int .i64 (r.length : Nat))), (17, .raw (.int .i64 (i.1 : Nat)))] [(0, true, ⟨45, 4, [.agg [.raw (.bool false), .raw (.slice none 0 0), .raw (.bool false), .raw (.slice none 0 0)]]⟩), (1, true, ⟨45, 4, [.Q (trF r p i.1)]⟩)] 2 32) (fun i => r.length - i.1) ⟨0, Nat.zero_le _⟩ (Wk.of [0, 6] (by decide) ?_) ?_
 ·simp only [go_sem, trF]
 ·rintro ⟨i, hi⟩
  refine vc_at T ?_
  by_cases hin : i < r.length
  ·have c1 : (i : Int) < (r.length : Nat) := by omega
   have c2 : (i : Int) + 1 = ((i + 1 : Nat) : Int) := by omega
   have h1 := ht i hin
   have h2 := hr i
   have h3 := hw i
   have hin' : i < p.length := by omega
   have hrl := (hp (by omega)).2.2.1.2.2
   simp only [go_sem, c1, c2, h1, h2, h3, hin, hin']
   refine ⟨⟨by omega, by omega⟩, by omega, by rfl, ⟨by omega, by omega⟩, ⟨i + 1, hin⟩, Wk.of [0, 1] (by decide) ?_, by simp only; omega⟩
   simp only [go_sem, trF]
  ·obtain rfl : i = r.length := by omega
   have c1 : ¬ (r.length : Int) < (r.length : Nat) := by omega
   simp only [go_sem, c1]
def pwE (q r : List Rat) : Nat → List Rat
 | 0 => r
 | i + 1 => pMod (pMul (pwE q r i) r) q
def V.pls (l : List (List Rat)) : List V := l.map fun p => .lst (V.rats p)
@[go_sem] theorem pls_len (l : List (List Rat)) : (V.pls l).length = l.length := by simp [V.pls]
@[go_sem ↓, go_sem] theorem ev_pls_get {l : List (List Rat)} {i : Nat} {k : V → Prop} : optC (V.pls l)[i]? k = (i < l.length ∧ k (.lst (V.rats (l.getD i [])))) := by
  unfold V.pls
  rw [List.getElem?_map, List.getD_eq_getElem?_getD]
  by_cases h : i < l.length
  ·simp [List.getElem?_eq_getElem h, optC, h]
  ·simp [List.getElem?_eq_none (Nat.le_of_not_lt h), optC, h]
@[go_sem] theorem pls_frz (l : List (List Rat)) : frzOk (V.pls l) = True := eq_true (frzOk_map (fun a => ⟨rfl, by simp, by simp⟩) l)
@[go_sem] theorem pls_pure (l : List (List Rat)) : allPure (V.pls l) = True := eq_true fun y hy => by
  obtain ⟨p, _, rfl⟩ := List.mem_map.1 hy
  rfl
theorem pls_snoc (l : List (List Rat)) (p : List Rat) : V.pls l ++ [.lst (V.rats p)] = V.pls (l ++ [p]) := by simp [V.pls]
def pwsL (q r : List Rat) (n : Nat) : List (List Rat) := (List.range (n + 1)).map (pwE q r)
theorem pwsL_len (q r : List Rat) (n : Nat) : (pwsL q r n).length = n + 1 := by simp [pwsL]
theorem pwsL_snoc (q r : List Rat) (n : Nat) : pwsL q r n ++ [pwE q r (n + 1)] = pwsL q r (n + 1) := by unfold pwsL; rw [List.range_succ (n := n + 1), List.map_append]; rfl
theorem pwsL_get (q r : List Rat) {n i : Nat} (h : i ≤ n) : (pwsL q r n).getD i [] = pwE q r i := by
 unfold pwsL
 rw [List.getD_eq_getElem?_getD, List.getElem?_map, List.getElem?_range (by omega)]
 rfl
def MqOk (q a b : List Rat) : Prop := (a.length + b.length ≤ 1000000 ∧ ∃ j k, (PB a j ∧ PB b k) ∧ a.length * (j + k + 1) ≤ 4999999999999) ∧ DvOk (pMul a b) q ∧ q ≠ []
def pRg : Pat (List Rat) where
 p
  | .agg [.lst l] => (unrat l).map fun m => (True, m)
  | _ => none
 val l := .agg [.lst (V.rats l)]
 ok x c a h hc := by
  split at h
  ·rename_i l
   rcases hm : unrat l with _ | m <;> rw [hm] at h
   ·cases h
   ·injection h with h; injection h with h1 h2; subst h2
    rw [unrat_ok l m hm]; exact .refl _
  ·cases h
@[go_sem ↓, go_sem] theorem ev_pRg {l : List V} : pRg.p (.agg [.lst l]) = (unrat l).map fun m => (True, m) := rfl
@[go_sem ↓, go_sem] theorem ev_pRg_mk {l : List Rat} : pRg.val l = .agg [.lst (V.rats l)] := rfl
def kRMulq : Con := con3 pRg pR pR fun q a b => (MqOk q a b, .lst (V.rats (pMod (pMul a b) q)))
attribute [go_sem ↓, go_sem] kRMulq
theorem rgMul_C : Ctr Tryz.prog 63 kRMulq := Ctr.c3 (by kernel_rfl) fun q a b h => by
 obtain ⟨hm, hd, q0⟩ := h
 show PCall _ _ _ (.lst (V.rats (pMod (pMul a b) q)))
 refine PCall.of_vc (tabs mixed (tbl_cons qMulq_C tbl_nil)) Tryz.func63 rfl Tryz.ntmps63 Tryz.results63 (by simp) ?_
 simp only [go_sem, hm, hd, q0]
def pMl (g : FuncId) : Pat (List Rat) where
 p
  | .clo (.func f) [.agg [.lst l]] [] => if f = g then (unrat l).map fun m => (True, m) else none
  | _ => none
 val l := .clo (.func g) [.agg [.lst (V.rats l)]] []
 ok x c a h hc := by
  split at h
  ·rename_i f l
   split at h
   ·rename_i e; subst e
    rcases hm : unrat l with _ | m <;> rw [hm] at h
    ·cases h
    ·injection h with h; injection h with h1 h2; subst h2
     rw [unrat_ok l m hm]; exact .inl rfl
   ·cases h
  ·cases h
@[go_sem ↓, go_sem] theorem ev_pMl {g : FuncId} {l : List V} : (pMl g).p (.clo (.func g) [.agg [.lst l]] []) = (unrat l).map fun m => (True, m) := if_pos rfl
@[go_sem ↓, go_sem] theorem ev_pMl_val {g : FuncId} {l : List Rat} : (pMl g).val l = .clo (.func g) [.agg [.lst (V.rats l)]] [] := rfl
def PwsOk (q r : List Rat) (n : Int) : Prop := n ≤ 1000 ∧ ∀ i : Nat, (i : Int) < n - 1 → MqOk q (pwE q r i) r
def kPows : Con := con3 pR (pN .i64) (pMl 63) fun r n q => (PwsOk q r n, .lst (V.pls (pwsL q r (n - 1).toNat)))
attribute [go_sem ↓, go_sem] kPows
theorem pows_C : Ctr Tryz.prog 64 kPows := Ctr.c3 (by kernel_rfl) fun r n q h => by
 obtain ⟨hn, hi⟩ := h
 show PCall _ _ _ (.lst (V.pls (pwsL q r (n - 1).toNat)))
 have T := (tabs mixed (tbl_cons rgMul_C tbl_nil))
 have mx : maxLen = 9223372036854775807 := by decide
 refine PCall.of_vc (tabs mixed (tbl_cons rgMul_C tbl_nil)) Tryz.func64 rfl Tryz.ntmps64 Tryz.results64 (by simp) ?_
 simp only [go_sem]
 refine AWp.loops (X := { i : Nat // i ≤ (n - 1).toNat }) (fun i => mkSt [(0, .lst (V.rats r)), (1, .raw (.int .i64 n)), (2, .clo (.func 63) [.agg [.lst (V.rats q)]] []), (6, .raw (.slice none 0 0)), (7, .sl 0 1 0 (i.1 + 1))] [(0, true, ⟨30, 1, V.pls (pwsL q r i.1)⟩)] 1 27) (fun i => (n - 1).toNat - i.1) ⟨0, Nat.zero_le _⟩ (Wk.of [2] (by decide) ?_) ?_
 ·have e0 : V.pls (pwsL q r 0) = [.lst (V.rats r)] := rfl
  simp only [go_sem, e0]
  exact ⟨rfl, rfl⟩
 ·rintro ⟨i, hin⟩
  refine vc_at T ?_
  by_cases hlt : i < (n - 1).toNat
  ·have c1 : ((i + 1 : Nat) : Int) < n := by omega
   have c2 : ((i + 1 : Nat) : Int) - 1 = (i : Nat) := by omega
   obtain ⟨m1, m2, m3⟩ := hi i (by omega)
   have e1 : (pwsL q r i).getD i [] = pwE q r i := pwsL_get q r (Nat.le_refl _)
   have e2 : pMod (pMul (pwE q r i) r) q = pwE q r (i + 1) := rfl
   have e3 : (V.pls (pwsL q r i)).take (i + 1) = V.pls (pwsL q r i) := List.take_of_length_le (by rw [pls_len, pwsL_len]; exact Nat.le_refl _)
   have m0 := hi i (by omega)
   simp only [go_sem, c1, c2, e1, e2, e3, m0, pwsL_len, pls_snoc, pwsL_snoc, mx]
   refine ⟨⟨by omega, by omega⟩, ⟨by omega, by omega⟩, ⟨by omega, by omega⟩, ⟨i + 1, hlt⟩, Wk.of [16] (by decide) ?_, by simp only; omega⟩
   simp only [go_sem]
   exact ⟨rfl, rfl⟩
  ·obtain rfl : i = (n - 1).toNat := by omega
   have c1 : ¬ (((n - 1).toNat + 1 : Nat) : Int) < n := by omega
   have e3 : (V.pls (pwsL q r (n - 1).toNat)).take ((n - 1).toNat + 1) = V.pls (pwsL q r (n - 1).toNat) := List.take_of_length_le (by rw [pls_len, pwsL_len]; exact Nat.le_refl _)
   simp only [go_sem, c1, pwsL_len, e3]
end Go.Proofs.YtfbogelmgdojgaaGreat

