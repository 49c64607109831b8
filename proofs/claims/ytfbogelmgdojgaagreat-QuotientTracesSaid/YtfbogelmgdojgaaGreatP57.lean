/- Texts G13 G14 G15 G16 in one. -/
import Derived.Test.YtfbogelmgdojgaaGreatP56
import Derived.Test.YtfbogelmgdojgaaGreatP52
import Derived.Test.YtfbogelmgdojgaaGreatP44
/- Contracts: the resultant. -/
namespace Go.Proofs.YtfbogelmgdojgaaGreat
set_option linter.unusedSimpArgs false
set_option linter.unusedVariables false
open Go.RowKit

def PwOk (c : Rat) (n : Nat) : Prop := n ≤ 1000000 ∧ n * qs c + 1 ≤ 5000000000 ∧ qs c ≤ 5000000000
/-- The sizes within the resultant. -/
def ReOk : Nat → Rat → List Rat → List Rat → Prop
  | 0, _, _, _ => False
  | n + 1, o, a, b => (Can a ∧ Can b) ∧ (a.length ≤ 1000000 ∧ b.length ≤ 1000000) ∧ qs o ≤ 5000000000 ∧
    (if a = [] ∨ b = [] then True else if b.length = 1 then PwOk (cf b 0) (a.length - 1) else if a.length = 1 then PwOk (cf a 0) (b.length - 1) else
      if a.length < b.length then ReOk n (sgm (a.length - 1) (b.length - 1) o) b a else
      DvOk a b ∧ (pMod a b = [] ∨ (PwOk (lead b) (a.length - (pMod a b).length) ∧ qs (o * lead b ^ (a.length - (pMod a b).length)) ≤ 5000000000 ∧ ReOk n (sgm (a.length - 1) (b.length - 1) (o * lead b ^ (a.length - (pMod a b).length))) b (pMod a b))))
def kRes : Con := con2 pR pR fun a b => (∃ n, ReOk n 1 a b, .Q (pRes a b))
attribute [go_sem ↓, go_sem] kRes
set_option maxRecDepth 4000 in
theorem res_C : Ctr Tryz.prog 60 kRes := Ctr.c2 (by kernel_rfl) fun A B h => by
  obtain ⟨n, hn⟩ := h
  show PCall _ _ _ (.Q (pRes A B))
  refine PCall.of_vc (tabs mixed (tbl_cons one_C (tbl_cons whole_C (tbl_cons power_C (tbl_cons qMul_C (tbl_cons qNeg_C (tbl_cons pDM_C (tbl_cons lead_C tbl_nil)))))))) Tryz.func60 rfl Tryz.ntmps60 Tryz.results60 (by simp) ?_
  simp only [go_sem]
  refine AWp.loops (X := { p : Nat × Rat × List Rat × List Rat // ReOk p.1 p.2.1 p.2.2.1 p.2.2.2 ∧ p.2.1 * pRes p.2.2.1 p.2.2.2 = pRes A B })
    (fun p => mkSt [(0, .lst (V.rats p.1.2.2.1)), (1, .lst (V.rats p.1.2.2.2)), (4, .ptr 0 4 0 0), (5, .ptr 1 4 0 0)] [(0, true, ⟨45, 4, [.agg [.raw (.bool false), .raw (.slice none 0 0), .raw (.bool false), .raw (.slice none 0 0)]]⟩), (1, true, ⟨45, 4, [.Q p.1.2.1]⟩)] 2 88)
    (fun p => p.1.1) ⟨(n, 1, A, B), hn, by simp only; grind⟩ (Wk.of [0, 2] (by decide) ?_) ?_
  · simp only [go_sem]
    trace_state
  · rintro ⟨⟨m, o, a, b⟩, hm, he⟩
    simp only at hm he
    refine vc_at (tabs mixed (tbl_cons one_C (tbl_cons whole_C (tbl_cons power_C (tbl_cons qMul_C (tbl_cons qNeg_C (tbl_cons pDM_C (tbl_cons lead_C tbl_nil)))))))) ?_
    rcases m with _ | m
    · exact hm.elim
    · obtain ⟨⟨ca, cb⟩, ⟨la, lb⟩, qo, hm⟩ := hm
      rw [pRes_step ca cb] at he
      by_cases h0 : a = [] ∨ b = []
      · rw [if_pos h0] at he
        have e0 : pRes A B = 0 := by rw [← he]; grind
        have hw : ((Rat.ofInt 0 : Rat)) = 0 := rfl
        by_cases a0 : a = []
        · subst a0
          have c1 : ((0 : Nat) : Int) - 1 < 0 := by decide
          simp only [go_sem, c1, List.length_nil, e0]
          exact ⟨⟨by omega, by omega⟩, .inl rfl⟩
        · have b0 : b = [] := h0.resolve_left a0
          subst b0
          have al := List.length_pos_iff.2 a0
          have c1 : ¬ (a.length : Int) - 1 < 0 := by omega
          have c2 : ((0 : Nat) : Int) - 1 < 0 := by decide
          simp only [go_sem, c1, c2, List.length_nil, e0]
          exact ⟨⟨by omega, by omega⟩, .inl rfl⟩
      · rw [if_neg h0] at he hm
        have a0 : a ≠ [] := fun e => h0 (.inl e)
        have b0 : b ≠ [] := fun e => h0 (.inr e)
        have al := List.length_pos_iff.2 a0
        have bl := List.length_pos_iff.2 b0
        have m1 : (a.length : Int) - 1 = ((a.length - 1 : Nat) : Int) := by omega
        have n1 : (b.length : Int) - 1 = ((b.length - 1 : Nat) : Int) := by omega
        have c1 : ¬ ((a.length - 1 : Nat) : Int) < 0 := by omega
        have c2 : ¬ ((b.length - 1 : Nat) : Int) < 0 := by omega
        by_cases hb1 : b.length = 1
        · rw [if_pos hb1] at he hm
          have c3 : (((b.length - 1 : Nat) : Int) == 0) = true := by rw [hb1]; rfl
          obtain ⟨p1, p2, p3⟩ := hm
          have lb0 : lead b = cf b 0 := by unfold lead; rw [hb1]
          rw [lb0] at he
          have q1 := qs_powN (Nat.le_refl (qs (cf b 0))) (a.length - 1)
          simp only [go_sem, m1, n1, c1, c2, c3]
          exact ⟨⟨by omega, by omega⟩, ⟨by omega, by omega⟩, by omega, bl, ⟨by omega, by omega, by omega, p3⟩, ⟨by omega, by omega⟩, by rfl, .inl (by rw [he])⟩
        · rw [if_neg hb1] at he hm
          have c3 : (((b.length - 1 : Nat) : Int) == 0) = false := beqF (by omega)
          by_cases ha1 : a.length = 1
          · rw [if_pos ha1] at he hm
            have c4 : (((a.length - 1 : Nat) : Int) == 0) = true := by rw [ha1]; rfl
            obtain ⟨p1, p2, p3⟩ := hm
            have lb0 : lead a = cf a 0 := by unfold lead; rw [ha1]
            rw [lb0] at he
            have q1 := qs_powN (Nat.le_refl (qs (cf a 0))) (b.length - 1)
            simp only [go_sem, m1, n1, c1, c2, c3, c4]
            exact ⟨⟨by omega, by omega⟩, ⟨by omega, by omega⟩, by omega, al, ⟨by omega, by omega, by omega, p3⟩, ⟨by omega, by omega⟩, by rfl, .inl (by rw [he])⟩
          · rw [if_neg ha1] at he hm
            have c4 : (((a.length - 1 : Nat) : Int) == 0) = false := beqF (by omega)
            have mm : ((a.length - 1 : Nat) : Int) * ((b.length - 1 : Nat) : Int) = (((a.length - 1) * (b.length - 1) : Nat) : Int) := (Int.natCast_mul _ _).symm
            have mb : (a.length - 1) * (b.length - 1) ≤ 1000000 * 1000000 := Nat.mul_le_mul (by omega) (by omega)
            by_cases hlt : a.length < b.length
            · rw [if_pos hlt] at he hm
              have c5 : ((a.length - 1 : Nat) : Int) < ((b.length - 1 : Nat) : Int) := by omega
              by_cases hs : (a.length - 1) * (b.length - 1) % 2 = 1
              · have t1 : ((((a.length - 1) * (b.length - 1) : Nat) : Int) % 2 == 1) = true := by rw [show (((a.length - 1) * (b.length - 1) : Nat) : Int) % 2 = 1 from by omega]; rfl
                simp only [sgm, if_pos hs] at he hm
                simp only [go_sem, m1, n1, c1, c2, c3, c4, c5, mm, t1]
                refine ⟨⟨by omega, by omega⟩, ⟨by omega, by omega⟩, ⟨by omega, by omega⟩, ⟨(m, -o, b, a), hm, by simp only; rw [← he]; grind⟩, Wk.of [0, 1] (by decide) ?_, by simp only; omega⟩
                simp only [go_sem]
              · have t1 : ((((a.length - 1) * (b.length - 1) : Nat) : Int) % 2 == 1) = false := beqF (by omega)
                simp only [sgm, if_neg hs] at he hm
                simp only [go_sem, m1, n1, c1, c2, c3, c4, c5, mm, t1]
                refine ⟨⟨by omega, by omega⟩, ⟨by omega, by omega⟩, ⟨by omega, by omega⟩, ⟨(m, o, b, a), hm, by simp only; exact he⟩, Wk.of [0, 1] (by decide) ?_, by simp only; omega⟩
                simp only [go_sem]
            · rw [if_neg hlt] at he hm
              obtain ⟨hd, hm⟩ := hm
              have c5 : ¬ ((a.length - 1 : Nat) : Int) < ((b.length - 1 : Nat) : Int) := by omega
              have r1 : dmP a b = .tup [.lst (V.rats (pDiv a b)), .lst (V.rats (pMod a b)), .raw (.int .i64 0)] := if_neg b0
              by_cases r0 : pMod a b = []
              · rw [if_pos r0] at he
                have e0 : pRes A B = 0 := by rw [← he]; grind
                have c6 : ((0 : Int) == 0) = true := rfl
                simp only [go_sem, m1, n1, c1, c2, c3, c4, c5, r1, r0, e0, c6, List.length_nil]
                exact ⟨⟨by omega, by omega⟩, ⟨by omega, by omega⟩, hd, .inl rfl⟩
              · rw [if_neg r0] at he
                obtain ⟨⟨p1, p2, p3⟩, q0, hm⟩ := hm.resolve_left r0
                have rl := List.length_pos_iff.2 r0
                have rlt : (pMod a b).length < b.length := (dm_ok ca cb b0).2.1
                have c6 : (((pMod a b).length : Int) == 0) = false := beqF (by omega)
                have e5 : ((a.length - 1 : Nat) : Int) - (pMod a b).length + 1 = ((a.length - (pMod a b).length : Nat) : Int) := by omega
                have q1 := qs_powN (Nat.le_refl (qs (lead b))) (a.length - (pMod a b).length)
                by_cases hs : (a.length - 1) * (b.length - 1) % 2 = 1
                · have t1 : ((((a.length - 1) * (b.length - 1) : Nat) : Int) % 2 == 1) = true := by rw [show (((a.length - 1) * (b.length - 1) : Nat) : Int) % 2 = 1 from by omega]; rfl
                  simp only [sgm, if_pos hs] at he hm
                  simp only [go_sem, m1, n1, c1, c2, c3, c4, c5, r1, c6, e5, mm, t1]
                  refine ⟨⟨by omega, by omega⟩, ⟨by omega, by omega⟩, hd, ⟨b0, lb⟩, ⟨by omega, by omega⟩, ⟨by omega, by omega⟩, ⟨by omega, by omega, by omega, p3⟩, ⟨by omega, by omega⟩, by rfl, ⟨by omega, by omega⟩, ⟨(m, -(o * lead b ^ (a.length - (pMod a b).length)), b, pMod a b), hm, by simp only; rw [← he]; grind⟩, Wk.of [0, 1] (by decide) ?_, by simp only; omega⟩
                  simp only [go_sem]
                · have t1 : ((((a.length - 1) * (b.length - 1) : Nat) : Int) % 2 == 1) = false := beqF (by omega)
                  simp only [sgm, if_neg hs] at he hm
                  simp only [go_sem, m1, n1, c1, c2, c3, c4, c5, r1, c6, e5, mm, t1]
                  refine ⟨⟨by omega, by omega⟩, ⟨by omega, by omega⟩, hd, ⟨b0, lb⟩, ⟨by omega, by omega⟩, ⟨by omega, by omega⟩, ⟨by omega, by omega, by omega, p3⟩, ⟨by omega, by omega⟩, by rfl, ⟨by omega, by omega⟩, ⟨(m, o * lead b ^ (a.length - (pMod a b).length), b, pMod a b), hm, by simp only; rw [← he]; grind⟩, Wk.of [0, 1] (by decide) ?_, by simp only; omega⟩
                  simp only [go_sem]
end Go.Proofs.YtfbogelmgdojgaaGreat

/- Contracts: the squarefree decomposition. -/
namespace Go.Proofs.YtfbogelmgdojgaaGreat
set_option linter.unusedSimpArgs false
set_option linter.unusedVariables false
open Go.RowKit

/-- Factors, as values. -/
def V.facs (l : List (List Rat × Nat)) : List V := l.map fun p => .agg [.lst (V.rats p.1), .raw (.int .i64 (p.2 : Nat))]
theorem facs_nil : V.facs [] = [] := rfl
theorem facs_snoc (l : List (List Rat × Nat)) (p : List Rat) (n : Nat) : V.facs l ++ [.agg [.lst (V.rats p), .raw (.int .i64 (n : Nat))]] = V.facs (l ++ [(p, n)]) := by simp [V.facs]
@[go_sem] theorem facs_len (l : List (List Rat × Nat)) : (V.facs l).length = l.length := by simp [V.facs]
@[go_sem] theorem facs_wid (l : List (List Rat × Nat)) : allWid (V.facs l) 2 = True := eq_true fun y hy => by
  obtain ⟨p, _, rfl⟩ := List.mem_map.1 hy
  rfl
@[go_sem] theorem facs_pure (l : List (List Rat × Nat)) : allPure (V.facs l) = True := eq_true fun y hy => by
  obtain ⟨p, _, rfl⟩ := List.mem_map.1 hy
  rfl
@[go_sem] theorem facs_frz (l : List (List Rat × Nat)) : frzOk (V.facs l) = True := eq_true (frzOk_map (fun a => ⟨rfl, by simp, by simp⟩) l)
/-- The sizes within the decomposition. -/
def SqOk : Nat → List Rat → List Rat → Prop
  | 0, _, _ => False
  | k + 1, b, c => if b.length ≤ 1 then True else
    ((b.length ≤ 1000000 ∧ c.length ≤ 1000000) ∧ PB b 10000000000 ∧ PB c 10000000000 ∧ PB (pDiff b) 10000000000) ∧ (∃ n, GcOk n b (pSub c (pDiff b))) ∧
    (DvOk b (pGcd b (pSub c (pDiff b))) ∧ DvOk (pSub c (pDiff b)) (pGcd b (pSub c (pDiff b)))) ∧ pGcd b (pSub c (pDiff b)) ≠ [] ∧
    SqOk k (pDiv b (pGcd b (pSub c (pDiff b)))) (pDiv (pSub c (pDiff b)) (pGcd b (pSub c (pDiff b))))
def SfOk (k : Nat) (a : List Rat) : Prop := k ≤ 1000000 ∧ a.length ≤ 1000000 ∧ (2 ≤ a.length → PB a 10000000000 ∧ (∃ n, GcOk n a (pDiff a)) ∧ (DvOk a (pGcd a (pDiff a)) ∧ DvOk (pDiff a) (pGcd a (pDiff a))) ∧ pGcd a (pDiff a) ≠ [] ∧ SqOk k (pDiv a (pGcd a (pDiff a))) (pDiv (pDiff a) (pGcd a (pDiff a))))
/-- The state of the loop: nothing is made before the first factor. -/
def sqS (b c : List Rat) (n : Nat) : List (List Rat × Nat) → St
  | [] => mkSt [(2, .raw (.slice none 0 0)), (3, .raw (.slice none 0 0)), (6, .lst (V.rats b)), (7, .lst (V.rats c)), (8, .raw (.int .i64 (n : Nat)))] [] 0 52
  | x :: l => mkSt [(2, .raw (.slice none 0 0)), (3, .sl 0 2 0 (l.length + 1)), (6, .lst (V.rats b)), (7, .lst (V.rats c)), (8, .raw (.int .i64 (n : Nat)))] [(0, true, ⟨84, 2, V.facs (x :: l)⟩)] 1 52
structure SqS where
  k : Nat
  n : Nat
  b : List Rat
  c : List Rat
  acc : List (List Rat × Nat)
  rest : List (List Rat × Nat)
theorem sqf_V (k : Nat) (a : List Rat) (l : List (List Rat × Nat)) (h : SfOk k a) (he : pSqf k a = some l) : PCall Tryz.prog 68 [.lst (V.rats a)] (.lst (V.facs l)) := by
  obtain ⟨hk, la, hs⟩ := h
  refine PCall.of_vc (tabs mixed (tbl_cons pDiff_C (tbl_cons pGcd_C (tbl_cons exact_C (tbl_cons pSub_C tbl_nil))))) Tryz.func68 rfl Tryz.ntmps68 Tryz.results68 (by simp) ?_
  unfold pSqf at he
  by_cases h2 : a.length < 2
  · rw [if_pos h2] at he
    injection he with he
    subst he
    have c1 : (a.length : Int) < 2 := by omega
    simp only [go_sem, c1, facs_nil]
  · rw [if_neg h2] at he
    have c1 : ¬ (a.length : Int) < 2 := by omega
    obtain ⟨h1, h3, ⟨h4, h5⟩, h6, h7⟩ := hs (by omega)
    simp only [go_sem, c1]
    refine ⟨⟨la, h1⟩, h3, ⟨h4, h6⟩, ⟨h5, h6⟩, ?_⟩
    refine AWp.loops (X := { p : SqS // SqOk p.k p.b p.c ∧ sqL p.k p.n p.b p.c = some p.rest ∧ p.acc ++ p.rest = l ∧ p.k + p.n ≤ 2000000 ∧ p.acc.length ≤ p.n })
      (fun p => sqS p.1.b p.1.c p.1.n p.1.acc) (fun p => p.1.k) ⟨⟨k, 1, _, _, [], l⟩, h7, he, rfl, by simp only; omega, by simp⟩ (Wk.of [] (by decide) ?_) ?_
    · simp only [go_sem]
      exact ⟨rfl, rfl⟩
    · rintro ⟨⟨k, n, b, c, acc, rest⟩, hk', hq, hr, hn, hl⟩
      simp only at hk' hq hr hn hl
      rcases k with _ | k
      · exact hk'.elim
      · unfold sqL at hq
        by_cases hb : b.length ≤ 1
        · rw [if_pos hb] at hq
          injection hq with hq
          subst hq
          rw [List.append_nil] at hr
          subst hr
          have c2 : ¬ 1 < (b.length : Int) := by omega
          cases acc with
          | nil =>
            refine vc_at (tabs mixed (tbl_cons pDiff_C (tbl_cons pGcd_C (tbl_cons exact_C (tbl_cons pSub_C tbl_nil))))) ?_
            simp only [go_sem, c2, facs_nil]
          | cons x acc =>
            refine vc_at (tabs mixed (tbl_cons pDiff_C (tbl_cons pGcd_C (tbl_cons exact_C (tbl_cons pSub_C tbl_nil))))) ?_
            have f3 : (V.facs (x :: acc)).take (acc.length + 1) = V.facs (x :: acc) := List.take_of_length_le (by simp [V.facs])
            simp only [go_sem, c2, f3]
        · rw [if_neg hb] at hq
          have c2 : 1 < (b.length : Int) := by omega
          have n1 : (n : Int) + 1 = ((n + 1 : Nat) : Int) := by omega
          unfold SqOk at hk'
          rw [if_neg hb] at hk'
          obtain ⟨⟨⟨lb, lc⟩, pb, pc, pd⟩, hg, ⟨hd1, hd2⟩, g0, hk'⟩ := hk'
          obtain ⟨l', hl', rfl⟩ : ∃ l', sqL k (n + 1) (pDiv b (pGcd b (pSub c (pDiff b)))) (pDiv (pSub c (pDiff b)) (pGcd b (pSub c (pDiff b)))) = some l' ∧ (if (pGcd b (pSub c (pDiff b))).length ≤ 1 then l' else (pGcd b (pSub c (pDiff b)), n) :: l') = rest := by
            rcases hx : sqL k (n + 1) (pDiv b (pGcd b (pSub c (pDiff b)))) (pDiv (pSub c (pDiff b)) (pGcd b (pSub c (pDiff b)))) with _ | l' <;> rw [hx] at hq
            · cases hq
            · injection hq with hq
              exact ⟨l', rfl, hq⟩
          have dlen : (pDiff b).length ≤ 1000000 := Nat.le_trans (tr_len _) (by rcases len_dL b with h | h <;> omega)
          by_cases hp : (pGcd b (pSub c (pDiff b))).length ≤ 1
          · rw [if_pos hp] at hr
            have c3 : ¬ 1 < ((pGcd b (pSub c (pDiff b))).length : Int) := by omega
            cases acc with
            | nil =>
              refine vc_at (tabs mixed (tbl_cons pDiff_C (tbl_cons pGcd_C (tbl_cons exact_C (tbl_cons pSub_C tbl_nil))))) ?_
              simp only [go_sem, c2, c3, n1]
              refine ⟨⟨lb, pb⟩, ⟨⟨lc, dlen⟩, pc, pd⟩, hg, ⟨hd1, g0⟩, ⟨hd2, g0⟩, ⟨by omega, by omega⟩, ⟨⟨k, n + 1, _, _, [], l'⟩, hk', hl', hr, by simp only; omega, by simp⟩, Wk.of [] (by decide) ?_, Nat.lt_succ_self k⟩
              simp only [go_sem]
              exact ⟨rfl, rfl⟩
            | cons x acc =>
              refine vc_at (tabs mixed (tbl_cons pDiff_C (tbl_cons pGcd_C (tbl_cons exact_C (tbl_cons pSub_C tbl_nil))))) ?_
              simp only [go_sem, c2, c3, n1]
              refine ⟨⟨lb, pb⟩, ⟨⟨lc, dlen⟩, pc, pd⟩, hg, ⟨hd1, g0⟩, ⟨hd2, g0⟩, ⟨by omega, by omega⟩, ⟨⟨k, n + 1, _, _, x :: acc, l'⟩, hk', hl', hr, by simp only; omega, by simp only [List.length_cons] at hl ⊢; omega⟩, Wk.of [0] (by decide) ?_, Nat.lt_succ_self k⟩
              simp only [go_sem]
              exact ⟨rfl, rfl⟩
          · rw [if_neg hp] at hr
            have c3 : 1 < ((pGcd b (pSub c (pDiff b))).length : Int) := by omega
            cases acc with
            | nil =>
              refine vc_at (tabs mixed (tbl_cons pDiff_C (tbl_cons pGcd_C (tbl_cons exact_C (tbl_cons pSub_C tbl_nil))))) ?_
              simp only [go_sem, c2, c3, n1]
              refine ⟨⟨lb, pb⟩, ⟨⟨lc, dlen⟩, pc, pd⟩, hg, by decide, ⟨hd1, g0⟩, ⟨hd2, g0⟩, ⟨by omega, by omega⟩, ⟨⟨k, n + 1, _, _, [(pGcd b (pSub c (pDiff b)), n)], l'⟩, hk', hl', hr, by simp only; omega, by simp⟩, Wk.of [20] (by decide) ?_, Nat.lt_succ_self k⟩
              simp only [go_sem]
              exact ⟨⟨rfl, rfl⟩, rfl⟩
            | cons x acc =>
              refine vc_at (tabs mixed (tbl_cons pDiff_C (tbl_cons pGcd_C (tbl_cons exact_C (tbl_cons pSub_C tbl_nil))))) ?_
              simp only [go_sem, c2, c3, n1]
              have f3 : (V.facs (x :: acc)).take (acc.length + 1) = V.facs (x :: acc) := List.take_of_length_le (by simp [V.facs])
              have mx : maxLen = 9223372036854775807 := by decide
              simp only [List.length_cons] at hl
              refine ⟨⟨lb, pb⟩, ⟨⟨lc, dlen⟩, pc, pd⟩, hg, ⟨by omega, by omega⟩, ⟨hd1, g0⟩, ⟨hd2, g0⟩, ⟨by omega, by omega⟩, ⟨⟨k, n + 1, _, _, x :: (acc ++ [(pGcd b (pSub c (pDiff b)), n)]), l'⟩, hk', hl', by simp only; rw [← hr]; simp, by simp only; omega, by simp; omega⟩, Wk.of [21] (by decide) ?_, Nat.lt_succ_self k⟩
              simp only [go_sem, f3, List.length_append]
              exact ⟨⟨rfl, rfl⟩, (facs_snoc (x :: acc) _ n).symm⟩
end Go.Proofs.YtfbogelmgdojgaaGreat

/- Contracts: a loop over a list from its end. -/
namespace Go.Proofs.YtfbogelmgdojgaaGreat
set_option linter.unusedSimpArgs false
set_option linter.unusedVariables false
open Go.RowKit

/-- The values of a list, from its end. -/
def xsBack (l : List V) : Nat → Option (List V) := fun n => if n < l.length then some [.raw (.int .i64 ((l.length : Int) - 1 - n)), l.getD (l.length - 1 - n) .any] else none
theorem xsBack_none {l : List V} {n : Nat} (h : ¬ n < l.length) : xsBack l n = none := if_neg h
theorem xsBack_some {l : List V} {n : Nat} (h : n < l.length) : xsBack l n = some [.raw (.int .i64 ((l.length : Int) - 1 - n)), l.getD (l.length - 1 - n) .any] := if_pos h
theorem xsBack_rats {a : List Rat} {n : Nat} (h : n < a.length) : xsBack (V.rats a) n = some [.raw (.int .i64 ((a.length : Int) - 1 - n)), .Q (cf a (a.length - 1 - n))] := by
  rw [xsBack_some (by rw [rats_len]; exact h), rats_len, List.getD_eq_getElem?_getD, rats_get (by omega)]
  rfl
theorem xsBack_rats0 {a : List Rat} {n : Nat} (h : ¬ n < a.length) : xsBack (V.rats a) n = none := xsBack_none (by rw [rats_len]; exact h)
end Go.Proofs.YtfbogelmgdojgaaGreat

/- Contracts: the value of a polynomial. -/
namespace Go.Proofs.YtfbogelmgdojgaaGreat
set_option linter.unusedSimpArgs false
set_option linter.unusedVariables false
open Go.RowKit

theorem ev_drop (a : List Rat) (x : Rat) {n : Nat} (h : n < a.length) : ev (a.drop n) x = ev (a.drop (n + 1)) x * x + cf a n := by
  have h1 : a.drop n = cf a n :: a.drop (n + 1) := by
    rw [List.drop_eq_getElem_cons h]
    unfold cf
    rw [List.getD_eq_getElem?_getD, List.getElem?_eq_getElem h]
    rfl
  rw [h1]
  show cf a n + x * ev (a.drop (n + 1)) x = _
  grind
/-- The sizes within the evaluation. -/
def EvOk (a : List Rat) (x : Rat) : Prop := ∀ n, qs (ev (a.drop n) x) ≤ 10000000000 ∧ qs (ev (a.drop n) x * x) ≤ 10000000000
def kPEval : Con := con2 pR pQ fun a x => ((a.length ≤ 1000000 ∧ PB a 10000000000 ∧ qs x ≤ 10000000000) ∧ EvOk a x, .Q (ev a x))
attribute [go_sem ↓, go_sem] kPEval
end Go.Proofs.YtfbogelmgdojgaaGreat
