/- Texts J2 in one. -/
import Derived.Test.YtfbogelmgdojgaaGreatP71
/- Contracts: power sums. -/
namespace Go.Proofs.YtfbogelmgdojgaaGreat
set_option linter.unusedSimpArgs false
set_option linter.unusedVariables false
open Go.RowKit

def nwBy (k : Nat) (l : List Rat) (i : Nat) : Rat := if i < k then cf l (k - i) else ((k : Int) : Rat)
def nwN (q : List Rat) (k : Nat) (l : List Rat) : Nat → Rat
  | 0 => ((0 : Int) : Rat)
  | i + 1 => nwN q k l i - cf q (q.length - 1 - (i + 1)) * nwBy k l (i + 1)
def nwV (q : List Rat) (k : Nat) (l : List Rat) : Rat := if k = 0 then (((q.length - 1 : Nat) : Int) : Rat) else nwN q k l (min k (q.length - 1))
/-- The first sums of powers of the roots. -/
def nwL (q : List Rat) : Nat → List Rat
  | 0 => []
  | k + 1 => nwL q k ++ [nwV q k (nwL q k)]
theorem nwL_len (q : List Rat) : ∀ k, (nwL q k).length = k
  | 0 => rfl
  | k + 1 => by rw [nwL, List.length_append, nwL_len q k]; rfl
/-- The sizes within the sums. -/
def NwOk (q : List Rat) (L : Nat) : Prop := (q.length ≤ 1000000 ∧ PB q 10000000000 ∧ L ≤ 1000000) ∧ ∀ k, k ≤ L → PB (nwL q k) 10000000000 ∧ ∀ i, i ≤ q.length → qs (nwN q k (nwL q k) i) ≤ 10000000000 ∧ qs (cf q (q.length - 1 - (i + 1)) * nwBy k (nwL q k) (i + 1)) ≤ 10000000000
def nwS (q : List Rat) (l : Nat) : Nat → St
  | 0 => mkSt [(0, .raw (.func (.yield l) #[] #[])), (1, .pel (.raw (.int .i64 ((q.length - 1 : Nat) : Int)))), (2, .pel (.lst (V.rats q))), (4, .raw (.slice none 0 0)), (5, .raw (.int .i64 ((0 : Nat) : Int)))] [] 0 54
  | k + 1 => mkSt [(0, .raw (.func (.yield l) #[] #[])), (1, .pel (.raw (.int .i64 ((q.length - 1 : Nat) : Int)))), (2, .pel (.lst (V.rats q))), (4, .sl 0 4 0 (k + 1)), (5, .raw (.int .i64 ((k + 1 : Nat) : Int)))] [(0, true, ⟨45, 4, V.rats (nwL q (k + 1))⟩)] 1 54
theorem nwN_step (q : List Rat) (k : Nat) (l : List Rat) (i : Nat) : nwN q k l (i + 1) = nwN q k l i - cf q (q.length - 1 - (i + 1)) * nwBy k l (i + 1) := rfl
set_option maxRecDepth 4000 in
theorem sums1_S (q : List Rat) (L : Nat) (h1 : 1 ≤ q.length) (h : NwOk q L) : SeqC Tryz.prog 103 [.pel (.raw (.int .i64 ((q.length - 1 : Nat) : Int))), .pel (.lst (V.rats q))] L (fun i => some [.Q (nwV q i (nwL q i))]) := by
  obtain ⟨⟨hl, hb, hL⟩, hk⟩ := h
  have T := (tabs mixed (tbl_cons whole_C (tbl_cons qMul_C (tbl_cons qSub_C tbl_nil))))
  have mx : maxLen = 9223372036854775807 := by decide
  refine SeqC.of_it Tryz.func103 rfl Tryz.ntmps103 Tryz.results103 (by simp) fun l N J hN hJ => ?_
  refine AIt.seq (AIt.of hJ (vc_ok T _ _ _ ?_))
  simp only [go_sem]
  refine AIt.seq (AIt.of hJ (vc_ok T _ _ _ ?_))
  simp only [go_sem]
  refine AIt.block (AIt.loops hJ (X := Nat) (nwS q l) (fun x => x) (fun x => N + 1 - x) (fun x => by cases x <;> rfl) 0 rfl (Wk.of [] (by decide) ?_) ?_)
  · simp only [go_sem]
    exact ⟨renV_pure rfl, renV_pure rfl⟩
  have r0 : -9223372036854775808 ≤ ((q.length - 1 : Nat) : Int) ∧ ((q.length - 1 : Nat) : Int) ≤ 9223372036854775807 := ⟨by omega, by omega⟩
  rintro k hkN
  rcases k with _ | k
  · -- the first sum
    show AIt _ J _ _ _ (mkSt _ _ _ _)
    refine AIt.seq (AIt.block (AIt.seq (AIt.of hJ (vc_at T ?_))))
    simp only [go_sem, r0]
    refine AIt.seq (AIt.of hJ (vc_ok T _ _ _ ?_))
    simp only [go_sem]
    refine AIt.seq (AIt.of hJ (vc_ok T _ _ _ ?_))
    simp only [go_sem, mx]
    refine AIt.seq (AIt.yieldR T hJ [_, _] [_] _ rfl rfl rfl ?_)
    have e0 : nwV q 0 (nwL q 0) = (((q.length - 1 : Nat) : Int) : Rat) := if_pos rfl
    simp only [go_sem, e0]
    refine ⟨?_, ?_⟩
    · refine AIt.cond (t := false) rfl ⟨fun e => (by cases e), fun _ => AIt.of hJ (vc_ok T _ _ _ ?_)⟩
      simp only [go_sem]
      refine AIt.of hJ (vc_ok T _ _ _ ?_)
      simp only [go_sem]
      refine ⟨1, rfl, Wk.of [9] (by decide) ?_, by omega⟩
      have e1 : V.rats (nwL q (0 + 1)) = [.Q (((q.length - 1 : Nat) : Int) : Rat)] := by rw [← e0]; rfl
      simp only [go_sem, e1]
      exact ⟨renV_pure rfl, renV_pure rfl⟩
    · refine AIt.cond (t := true) rfl ⟨fun _ => AIt.of hJ (vc_ok T _ _ _ ?_), fun e => (by cases e)⟩
      simp only [go_sem]
      exact fun n e => by cases e
  · -- a later sum
    obtain ⟨k1, k2⟩ := hk (k + 1) (by omega)
    show AIt _ J _ _ _ (mkSt _ _ _ _)
    refine AIt.seq (AIt.block (AIt.seq (AIt.of hJ (vc_at T ?_))))
    simp only [go_sem, r0]
    obtain ⟨p, ep⟩ : ∃ p, nwL q (k + 1) = p := ⟨_, rfl⟩
    have lp : p.length = k + 1 := by rw [← ep, nwL_len]
    rw [ep] at k1 k2 ⊢
    refine AIt.seq (AIt.of hJ (AWp.cut (E := fun e τ => e = .normal ∧ τ = mkSt [(0, .raw (.func (.yield l) #[] #[])), (1, .pel (.raw (.int .i64 ((q.length - 1 : Nat) : Int)))), (2, .pel (.lst (V.rats q))), (4, .sl 0 4 0 (k + 1)), (5, .raw (.int .i64 ((k + 1 : Nat) : Int))), (6, .ptr 1 4 0 0)] [(0, true, ⟨45, 4, V.rats p⟩), (1, true, ⟨45, 4, [.Q (nwV q (k + 1) p)]⟩)] 2 54) ?_ ?_))
    · refine vc_ok T _ _ _ ?_
      have c0 : (0 : Int) < ((k + 1 : Nat) : Int) := by omega
      simp only [go_sem, c0]
      refine AWp.loops (X := { i : Nat // i ≤ min (k + 1) (q.length - 1) }) (fun i => mkSt [(0, .raw (.func (.yield l) #[] #[])), (1, .pel (.raw (.int .i64 ((q.length - 1 : Nat) : Int)))), (2, .pel (.lst (V.rats q))), (4, .sl 0 4 0 (k + 1)), (5, .raw (.int .i64 ((k + 1 : Nat) : Int))), (6, .ptr 1 4 0 0), (7, .raw (.int .i64 ((i.1 + 1 : Nat) : Int)))] [(0, true, ⟨45, 4, V.rats p⟩), (1, true, ⟨45, 4, [.Q (nwN q (k + 1) p i.1)]⟩)] 2 54) (fun i => min (k + 1) (q.length - 1) - i.1) ⟨0, Nat.zero_le _⟩ (Wk.of [0, 3] (by decide) ?_) ?_
      · simp only [go_sem, nwN]
        exact ⟨renV_pure rfl, renV_pure rfl⟩
      · rintro ⟨i, hi⟩
        refine vc_at T ?_
        have mn : (if ((q.length - 1 : Nat) : Int) < ((k + 1 : Nat) : Int) then ((q.length - 1 : Nat) : Int) else ((k + 1 : Nat) : Int)) = ((min (k + 1) (q.length - 1) : Nat) : Int) := by split <;> omega
        obtain ⟨x1, x2⟩ := k2 i (by omega)
        by_cases hlt : i < min (k + 1) (q.length - 1)
        · have c1 : ((i + 1 : Nat) : Int) ≤ ((min (k + 1) (q.length - 1) : Nat) : Int) := by omega
          have c2 : ((q.length - 1 : Nat) : Int) - ((i + 1 : Nat) : Int) = ((q.length - 1 - (i + 1) : Nat) : Int) := by omega
          have c3 : ((i + 1 : Nat) : Int) + 1 = ((i + 1 + 1 : Nat) : Int) := by omega
          have c4 : q.length - 1 - (i + 1) < q.length := by omega
          have c5 := hb (q.length - 1 - (i + 1))
          by_cases hik : i < k
          · have d1 : ((i + 1 : Nat) : Int) < ((k + 1 : Nat) : Int) := by omega
            have d2 : ((k + 1 : Nat) : Int) - ((i + 1 : Nat) : Int) = ((k - i : Nat) : Int) := by omega
            have d3 : k - i < p.length := by omega
            have d4 := k1 (k - i)
            have d5 : nwBy (k + 1) p (i + 1) = cf p (k - i) := by unfold nwBy; rw [if_pos (by omega), show k + 1 - (i + 1) = k - i from by omega]
            rw [d5] at x2
            simp only [go_sem, c1, mn, c2, c3, c4, c5, d1, d2, d3, d4, x1, x2]
            refine ⟨⟨by omega, by omega⟩, ⟨by omega, by omega⟩, ⟨by omega, by omega⟩, ⟨by omega, by omega⟩, ⟨by omega, by omega⟩, by rfl, ⟨by omega, by omega⟩, ⟨i + 1, hlt⟩, Wk.of [0, 1] (by decide) ?_, by simp only; omega⟩
            have e2 : nwN q (k + 1) p (i + 1) = nwN q (k + 1) p i - cf q (q.length - 1 - (i + 1)) * cf p (k - i) := by rw [nwN_step, d5]
            simp only [go_sem, e2]
            exact ⟨renV_pure rfl, renV_pure rfl⟩
          · have d1 : ¬ ((i + 1 : Nat) : Int) < ((k + 1 : Nat) : Int) := by omega
            have d5 : nwBy (k + 1) p (i + 1) = (((k + 1 : Nat) : Int) : Rat) := by unfold nwBy; rw [if_neg (by omega)]
            rw [d5] at x2
            have d4 : qs (((k + 1 : Nat) : Int) : Rat) ≤ 10000000000 := Nat.le_trans (qs_nat (z := k + 1) (by omega)) (by decide)
            simp only [go_sem, c1, mn, c2, c3, c4, c5, d1, d4, x1, x2]
            refine ⟨⟨by omega, by omega⟩, ⟨by omega, by omega⟩, ⟨by omega, by omega⟩, by rfl, ⟨by omega, by omega⟩, ⟨i + 1, hlt⟩, Wk.of [0, 1] (by decide) ?_, by simp only; omega⟩
            have e2 : nwN q (k + 1) p (i + 1) = nwN q (k + 1) p i - cf q (q.length - 1 - (i + 1)) * (((k + 1 : Nat) : Int) : Rat) := by rw [nwN_step, d5]
            simp only [go_sem, e2]
            exact ⟨renV_pure rfl, renV_pure rfl⟩
        · obtain rfl : i = min (k + 1) (q.length - 1) := by omega
          have e1 : nwV q (k + 1) p = nwN q (k + 1) p (min (k + 1) (q.length - 1)) := if_neg (by omega)
          have c1 : ¬ ((min (k + 1) (q.length - 1) + 1 : Nat) : Int) ≤ ((min (k + 1) (q.length - 1) : Nat) : Int) := by omega
          simp only [go_sem, mn, c1]
          refine ⟨_, Wk.of [0, 1] (by decide) ?_, rfl⟩
          simp only [go_sem, e1]
          exact ⟨renV_pure rfl, renV_pure rfl⟩
    · rintro e τ ⟨rfl, rfl⟩
      refine ⟨rfl, ?_⟩
      simp only [go_sem]
      refine AIt.seq (AIt.of hJ (vc_at T ?_))
      simp only [go_sem, mx]
      refine ⟨by omega, ⟨by omega, by omega⟩, ?_⟩
      refine AIt.seq (AIt.yieldR T hJ [_, _] [_] _ rfl rfl rfl ?_)
      have e0 : nwV q (k + 1) (nwL q (k + 1)) = nwV q (k + 1) p := by rw [ep]
      simp only [go_sem, e0]
      refine ⟨?_, ?_⟩
      · refine AIt.cond (t := false) rfl ⟨fun e => (by cases e), fun _ => AIt.of hJ (vc_ok T _ _ _ ?_)⟩
        simp only [go_sem]
        refine AIt.of hJ (vc_ok T _ _ _ ?_)
        have c3 : ((k + 1 : Nat) : Int) + 1 = ((k + 1 + 1 : Nat) : Int) := by omega
        simp only [go_sem, c3]
        refine ⟨⟨by omega, by omega⟩, k + 1 + 1, rfl, Wk.of [5] (by decide) ?_, by omega⟩
        have e1 : V.rats (nwL q (k + 1 + 1)) = V.rats (List.take (k + 1) p ++ [nwV q (k + 1) p]) := by rw [List.take_of_length_le (by omega), ← ep]; rfl
        simp only [go_sem, e1]
        exact ⟨renV_pure rfl, renV_pure rfl⟩
      · refine AIt.cond (t := true) rfl ⟨fun _ => AIt.of hJ (vc_ok T _ _ _ ?_), fun e => (by cases e)⟩
        simp only [go_sem]
        exact fun n e => by cases e
def kSums : Con := con1 pR fun q => (1 ≤ q.length ∧ q.length ≤ 1000000, .clo (.func 103) [] [.pel (.raw (.int .i64 ((q.length - 1 : Nat) : Int))), .pel (.lst (V.rats q))])
attribute [go_sem ↓, go_sem] kSums
theorem sums_C : Ctr Tryz.prog 62 kSums := Ctr.c1 (by kernel_rfl) fun q h => by
  obtain ⟨h1, h2⟩ := h
  have e1 : (q.length : Int) - 1 = ((q.length - 1 : Nat) : Int) := by omega
  refine PCall.of_vc (tabs mixed tbl_nil) Tryz.func62 rfl Tryz.ntmps62 Tryz.results62 (by simp) ?_
  simp only [go_sem, e1]
  exact ⟨by omega, by omega⟩
/-- The first power sums of a polynomial. -/
def nwR (q : List Rat) (n : Int) : List Rat := nwL q n.toNat
theorem nwR_len (q : List Rat) (n : Int) : (nwR q n).length = n.toNat := nwL_len _ _
def PoOk (q : List Rat) (n : Nat) : Prop := (Can q ∧ q.length ≤ 1000000 ∧ ∃ s, PB q s ∧ s ≤ 5000000000) ∧ (1 ≤ (pMonic q).length ∧ (pMonic q).length ≤ 1000000) ∧ NwOk (pMonic q) n
def powHs (r : List Rat) (n : Nat) : Nat → Hp
  | 0 => mkH [(0, false, ⟨3, 1, [.raw (.int .i64 (n : Nat))]⟩), (1, false, ⟨29, 1, [.raw (.slice none 0 0)]⟩)]
  | i + 1 => mkH [(0, false, ⟨3, 1, [.raw (.int .i64 (n : Nat))]⟩), (1, false, ⟨29, 1, [.sl 2 4 0 (i + 1)]⟩), (2, false, ⟨45, 4, V.rats (nwL r (i + 1))⟩)]
def kPow6 : Con := con2 pR (pN .i64) fun q n => (0 < n → PoOk q n.toNat, .lst (V.rats (nwR (pMonic q) n)))
attribute [go_sem ↓, go_sem] kPow6
theorem power6_C : Ctr Tryz.prog 25 kPow6 := Ctr.c2 (by kernel_rfl) fun q n h => by
  unfold nwR
  refine PCall.of_vc (tabs mixed (tbl_cons pMonic_C (tbl_cons sums_C tbl_nil))) Tryz.func25 rfl Tryz.ntmps25 Tryz.results25 (by simp) ?_
  by_cases h0 : n ≤ 0
  · have e0 : n.toNat = 0 := by omega
    simp only [go_sem, h0, e0, nwL, rats_0]
  · obtain ⟨hm, ⟨l1, l2⟩, hk⟩ := h (by omega)
    obtain ⟨N, rfl⟩ : ∃ N : Nat, n = (N : Nat) := ⟨n.toNat, by omega⟩
    rw [Int.toNat_natCast] at hk ⊢
    obtain ⟨r, er⟩ : ∃ r, pMonic q = r := ⟨_, rfl⟩
    rw [er] at l1 l2 hk ⊢
    have h0' : ¬ (N : Int) ≤ 0 := h0
    have T := (tabs mixed (tbl_cons pMonic_C (tbl_cons sums_C tbl_nil)))
    have mx : maxLen = 9223372036854775807 := by decide
    have hL := hk.1.2.2
    simp only [go_sem, h0', hm, er, l1, l2]
    refine AWp.rounds (sums1_S r N l1 hk) (by kernel_rfl) (N - 1) (Nat.sub_le _ _) (s0 := mkS [(3, .ptr 0 1 0 0), (4, .raw (.slice none 0 0)), (5, .ptr 1 1 0 0), (11, .clo (.func 103) [] [.pel (.raw (.int .i64 ((r.length - 1 : Nat) : Int))), .pel (.lst (V.rats r))])]) (m := 2) (M := 22)
      (powHs r N) (fun n => if n = 0 then 2 else 3) (fun id H n => id = 0 ∧ H = powHs r N N ∧ n = 3) rfl (Wk.of [0, 4] (by decide) ?_) rfl rfl (fun i => by cases i <;> exact ⟨rfl, rfl, trivial⟩) (fun n ys hy hn => ?_) (fun id H n hs => ?_) (fun n hn hx => by cases hx)
    · simp only [go_sem]
      exact ⟨⟨rfl, rfl⟩, rfl, rfl⟩
    · injection hy with hy
      subst hy
      refine ⟨⟨rfl, by decide⟩, vc_ok T _ _ _ ?_⟩
      rcases n with _ | n
      · simp only [go_sem, powHs]
        refine vc_ok T _ _ _ ?_
        have e2 : V.rats (nwL r (0 + 1)) = [.Q (nwV r 0 (nwL r 0))] := rfl
        by_cases h1 : N = 1
        · subst h1
          simp only [go_sem, mx]
          refine ⟨_, _, ⟨rfl, rfl⟩, Wk.ofM 2 (ss := []) (hs := [(0, false, ⟨3, 1, [.raw (.int .i64 1)]⟩), (1, false, ⟨29, 1, [.sl 2 4 0 (0 + 1)]⟩), (2, true, ⟨45, 4, V.rats (nwL r (0 + 1))⟩)]) [0, 1, 7] (by decide) (by decide) ?_⟩
          simp only [go_sem, e2]
        · have c1 : ((1 : Int) == (N : Int)) = false := by simp; omega
          simp only [go_sem, mx, c1]
          refine ⟨by omega, Wk.ofM 2 (ss := []) (hs := [(0, false, ⟨3, 1, [.raw (.int .i64 (N : Nat))]⟩), (1, false, ⟨29, 1, [.sl 2 4 0 (0 + 1)]⟩), (2, true, ⟨45, 4, V.rats (nwL r (0 + 1))⟩)]) [0, 1, 7] (by decide) (by decide) ?_⟩
          simp only [go_sem, e2]
      · simp only [go_sem, powHs]
        refine vc_ok T _ _ _ ?_
        have e1 : (V.rats (nwL r (n + 1))).take (n + 1) = V.rats (nwL r (n + 1)) := List.take_of_length_le (by rw [rats_len, nwL_len]; exact Nat.le_refl _)
        have e2 : V.rats (nwL r (n + 1 + 1)) = V.rats (nwL r (n + 1) ++ [nwV r (n + 1) (nwL r (n + 1))]) := rfl
        by_cases h1 : N = n + 1 + 1
        · subst h1
          have c1 : (((n + 1 + 1 : Nat) : Int) == ((n + 1 + 1 : Nat) : Int)) = true := by simp
          simp only [go_sem, mx, c1, e1, nwL_len]
          refine ⟨⟨by omega, by omega⟩, _, _, ⟨rfl, rfl⟩, Wk.ofM 2 (ss := []) (hs := [(0, false, ⟨3, 1, [.raw (.int .i64 (n + 1 + 1 : Nat))]⟩), (1, false, ⟨29, 1, [.sl 2 4 0 (n + 1 + 1)]⟩), (2, true, ⟨45, 4, V.rats (nwL r (n + 1 + 1))⟩)]) [0, 1, 8] (by decide) (by decide) ?_⟩
          simp only [go_sem, e2]
        · have c1 : (((n + 1 + 1 : Nat) : Int) == (N : Int)) = false := by simp; omega
          simp only [go_sem, mx, c1, e1, nwL_len]
          refine ⟨⟨by omega, by omega⟩, by omega, Wk.ofM 2 (ss := []) (hs := [(0, false, ⟨3, 1, [.raw (.int .i64 (N : Nat))]⟩), (1, false, ⟨29, 1, [.sl 2 4 0 (n + 1 + 1)]⟩), (2, true, ⟨45, 4, V.rats (nwL r (n + 1 + 1))⟩)]) [0, 1, 8] (by decide) (by decide) ?_⟩
          simp only [go_sem, e2]
    · obtain ⟨rfl, rfl, rfl⟩ := hs
      obtain ⟨N, rfl⟩ : ∃ M, N = M + 1 := ⟨N - 1, by omega⟩
      have e1 : (V.rats (nwL r (N + 1))).take (N + 1) = V.rats (nwL r (N + 1)) := List.take_of_length_le (by rw [rats_len, nwL_len]; exact Nat.le_refl _)
      simp only [go_sem, powHs, nwL_len, e1]
end Go.Proofs.YtfbogelmgdojgaaGreat
