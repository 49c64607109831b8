/- Texts G13 G14 G16 H1 H2 H3 H4 in one. -/
import Derived.Test.YtfbogelmgdojgaaGreatR24
import Derived.Test.YtfbogelmgdojgaaGreatR23
import Derived.Test.YtfbogelmgdojgaaGreatR20
/- Contracts: the resultant. -/
namespace Go.Proofs.YtfbogelmgdojgaaGreat
set_option linter.unusedSimpArgs false
set_option linter.unusedVariables false
open Go.RowKit

def PwOk (c : Rat) (n : Nat) : Prop := n ≤ 1000000 ∧ n * qs c + 1 ≤ 2500000000000 ∧ qs c ≤ 2500000000000
def ReOk : Nat → Rat → List Rat → List Rat → Prop
 | 0, _, _, _ => False
 | n + 1, o, a, b => (Can a ∧ Can b) ∧ (a.length ≤ 1000000 ∧ b.length ≤ 1000000) ∧ qs o ≤ 2500000000000 ∧
   (if a = [] ∨ b = [] then True else if b.length = 1 then PwOk (cf b 0) (a.length - 1) else if a.length = 1 then PwOk (cf a 0) (b.length - 1) else
    if a.length < b.length then ReOk n (sgm (a.length - 1) (b.length - 1) o) b a else
    DvOk a b ∧ (pMod a b = [] ∨ (PwOk (lead b) (a.length - (pMod a b).length) ∧ qs (o * lead b ^ (a.length - (pMod a b).length)) ≤ 2500000000000 ∧ ReOk n (sgm (a.length - 1) (b.length - 1) (o * lead b ^ (a.length - (pMod a b).length))) b (pMod a b))))
def kRes : Con := con2 pR pR fun a b => (∃ n, ReOk n 1 a b, .Q (pRes a b))
attribute [go_sem ↓, go_sem] kRes
set_option maxRecDepth 4000 in
theorem res_C : Ctr Tryz.prog 60 kRes := Ctr.c2 (by kernel_rfl) fun A B h => by
 obtain ⟨n, hn⟩ := h
 show PCall _ _ _ (.Q (pRes A B))
 refine PCall.of_vc (tabs mixed (tbl_cons one_C (tbl_cons whole_C (tbl_cons power_C (tbl_cons qMul_C (tbl_cons qNeg_C (tbl_cons pDM_C (tbl_cons lead_C tbl_nil)))))))) Tryz.func60 rfl Tryz.ntmps60 Tryz.results60 (by simp) ?_
 simp only [go_sem]
 refine AWp.loops (X := { p : Nat × Rat × List Rat × List Rat // ReOk p.1 p.2.1 p.2.2.1 p.2.2.2 ∧ p.2.1 * pRes p.2.2.1 p.2.2.2 = pRes A B })
  (fun p => mkSt [(0, .lst (V.rats p.1.2.2.1)), (1, .lst (V.rats p.1.2.2.2)), (4, .ptr 0 4 0 0), (5, .ptr 1 4 0 0)] [(0, true, ⟨45, 4, [.agg [.raw (.bool false), .raw (.slice none 0 0), .raw (.bool false), .raw (.slice none 0 0)]]⟩), (1, true, ⟨45, 4, [.Q p.1.2.1]⟩)] 2 88)
  (fun p => p.1.1) ⟨(n, 1, A, B), hn, by simp only; grind⟩ (Wk.of [0, 2] (by decide) ?_) ?_
 ·simp only [go_sem]
  trace_state
 ·rintro ⟨⟨m, o, a, b⟩, hm, he⟩
  simp only at hm he
  refine vc_at (tabs mixed (tbl_cons one_C (tbl_cons whole_C (tbl_cons power_C (tbl_cons qMul_C (tbl_cons qNeg_C (tbl_cons pDM_C (tbl_cons lead_C tbl_nil)))))))) ?_
  rcases m with _ | m
  ·exact hm.elim
  ·obtain ⟨⟨ca, cb⟩, ⟨la, lb⟩, qo, hm⟩ := hm
   rw [pRes_step ca cb] at he
   by_cases h0 : a = [] ∨ b = []
   ·rw [if_pos h0] at he
    have e0 : pRes A B = 0 := by rw [← he]; grind
    have hw : ((Rat.ofInt 0 : Rat)) = 0 := rfl
    by_cases a0 : a = []
    ·subst a0
     have c1 : ((0 : Nat) : Int) - 1 < 0 := by decide
     simp only [go_sem, c1, List.length_nil, e0]
     exact ⟨⟨by omega, by omega⟩, .inl rfl⟩
    ·have b0 : b = [] := h0.resolve_left a0
     subst b0
     have al := List.length_pos_iff.2 a0
     have c1 : ¬ (a.length : Int) - 1 < 0 := by omega
     have c2 : ((0 : Nat) : Int) - 1 < 0 := by decide
     simp only [go_sem, c1, c2, List.length_nil, e0]
     exact ⟨⟨by omega, by omega⟩, .inl rfl⟩
   ·rw [if_neg h0] at he hm
    have a0 : a ≠ [] := fun e => h0 (.inl e)
    have b0 : b ≠ [] := fun e => h0 (.inr e)
    have al := List.length_pos_iff.2 a0
    have bl := List.length_pos_iff.2 b0
    have m1 : (a.length : Int) - 1 = ((a.length - 1 : Nat) : Int) := by omega
    have n1 : (b.length : Int) - 1 = ((b.length - 1 : Nat) : Int) := by omega
    have c1 : ¬ ((a.length - 1 : Nat) : Int) < 0 := by omega
    have c2 : ¬ ((b.length - 1 : Nat) : Int) < 0 := by omega
    by_cases hb1 : b.length = 1
    ·rw [if_pos hb1] at he hm
     have c3 : (((b.length - 1 : Nat) : Int) == 0) = true := by rw [hb1]; rfl
     obtain ⟨p1, p2, p3⟩ := hm
     have lb0 : lead b = cf b 0 := by unfold lead; rw [hb1]
     rw [lb0] at he
     have q1 := qs_powN (Nat.le_refl (qs (cf b 0))) (a.length - 1)
     simp only [go_sem, m1, n1, c1, c2, c3]
     exact ⟨⟨by omega, by omega⟩, ⟨by omega, by omega⟩, by omega, bl, ⟨by omega, by omega, by omega, p3⟩, ⟨by omega, by omega⟩, by rfl, .inl (by rw [he])⟩
    ·rw [if_neg hb1] at he hm
     have c3 : (((b.length - 1 : Nat) : Int) == 0) = false := beqF (by omega)
     by_cases ha1 : a.length = 1
     ·rw [if_pos ha1] at he hm
      have c4 : (((a.length - 1 : Nat) : Int) == 0) = true := by rw [ha1]; rfl
      obtain ⟨p1, p2, p3⟩ := hm
      have lb0 : lead a = cf a 0 := by unfold lead; rw [ha1]
      rw [lb0] at he
      have q1 := qs_powN (Nat.le_refl (qs (cf a 0))) (b.length - 1)
      simp only [go_sem, m1, n1, c1, c2, c3, c4]
      exact ⟨⟨by omega, by omega⟩, ⟨by omega, by omega⟩, by omega, al, ⟨by omega, by omega, by omega, p3⟩, ⟨by omega, by omega⟩, by rfl, .inl (by rw [he])⟩
     ·rw [if_neg ha1] at he hm
      have c4 : (((a.length - 1 : Nat) : Int) == 0) = false := beqF (by omega)
      have mm : ((a.length - 1 : Nat) : Int) * ((b.length - 1 : Nat) : Int) = (((a.length - 1) * (b.length - 1) : Nat) : Int) := (Int.natCast_mul _ _).symm
      have mb : (a.length - 1) * (b.length - 1) ≤ 1000000 * 1000000 := Nat.mul_le_mul (by omega) (by omega)
      by_cases hlt : a.length < b.length
      ·rw [if_pos hlt] at he hm
       have c5 : ((a.length - 1 : Nat) : Int) < ((b.length - 1 : Nat) : Int) := by omega
       by_cases hs : (a.length - 1) * (b.length - 1) % 2 = 1
       ·have t1 : ((((a.length - 1) * (b.length - 1) : Nat) : Int) % 2 == 1) = true := by rw [show (((a.length - 1) * (b.length - 1) : Nat) : Int) % 2 = 1 from by omega]; rfl
        simp only [sgm, if_pos hs] at he hm
        simp only [go_sem, m1, n1, c1, c2, c3, c4, c5, mm, t1]
        refine ⟨⟨by omega, by omega⟩, ⟨by omega, by omega⟩, ⟨by omega, by omega⟩, ⟨(m, -o, b, a), hm, by simp only; rw [← he]; grind⟩, Wk.of [0, 1] (by decide) ?_, by simp only; omega⟩
        simp only [go_sem]
       ·have t1 : ((((a.length - 1) * (b.length - 1) : Nat) : Int) % 2 == 1) = false := beqF (by omega)
        simp only [sgm, if_neg hs] at he hm
        simp only [go_sem, m1, n1, c1, c2, c3, c4, c5, mm, t1]
        refine ⟨⟨by omega, by omega⟩, ⟨by omega, by omega⟩, ⟨by omega, by omega⟩, ⟨(m, o, b, a), hm, by simp only; exact he⟩, Wk.of [0, 1] (by decide) ?_, by simp only; omega⟩
        simp only [go_sem]
      ·rw [if_neg hlt] at he hm
       obtain ⟨hd, hm⟩ := hm
       have c5 : ¬ ((a.length - 1 : Nat) : Int) < ((b.length - 1 : Nat) : Int) := by omega
       have r1 : dmP a b = .tup [.lst (V.rats (pDiv a b)), .lst (V.rats (pMod a b)), .raw (.int .i64 0)] := if_neg b0
       by_cases r0 : pMod a b = []
       ·rw [if_pos r0] at he
        have e0 : pRes A B = 0 := by rw [← he]; grind
        have c6 : ((0 : Int) == 0) = true := rfl
        simp only [go_sem, m1, n1, c1, c2, c3, c4, c5, r1, r0, e0, c6, List.length_nil]
        exact ⟨⟨by omega, by omega⟩, ⟨by omega, by omega⟩, hd, .inl rfl⟩
       ·rw [if_neg r0] at he
        obtain ⟨⟨p1, p2, p3⟩, q0, hm⟩ := hm.resolve_left r0
        have rl := List.length_pos_iff.2 r0
        have rlt : (pMod a b).length < b.length := (dm_ok ca cb b0).2.1
        have c6 : (((pMod a b).length : Int) == 0) = false := beqF (by omega)
        have e5 : ((a.length - 1 : Nat) : Int) - (pMod a b).length + 1 = ((a.length - (pMod a b).length : Nat) : Int) := by omega
        have q1 := qs_powN (Nat.le_refl (qs (lead b))) (a.length - (pMod a b).length)
        by_cases hs : (a.length - 1) * (b.length - 1) % 2 = 1
        ·have t1 : ((((a.length - 1) * (b.length - 1) : Nat) : Int) % 2 == 1) = true := by rw [show (((a.length - 1) * (b.length - 1) : Nat) : Int) % 2 = 1 from by omega]; rfl
         simp only [sgm, if_pos hs] at he hm
         simp only [go_sem, m1, n1, c1, c2, c3, c4, c5, r1, c6, e5, mm, t1]
         refine ⟨⟨by omega, by omega⟩, ⟨by omega, by omega⟩, hd, ⟨b0, lb⟩, ⟨by omega, by omega⟩, ⟨by omega, by omega⟩, ⟨by omega, by omega, by omega, p3⟩, ⟨by omega, by omega⟩, by rfl, ⟨by omega, by omega⟩, ⟨(m, -(o * lead b ^ (a.length - (pMod a b).length)), b, pMod a b), hm, by simp only; rw [← he]; grind⟩, Wk.of [0, 1] (by decide) ?_, by simp only; omega⟩
         simp only [go_sem]
        ·have t1 : ((((a.length - 1) * (b.length - 1) : Nat) : Int) % 2 == 1) = false := beqF (by omega)
         simp only [sgm, if_neg hs] at he hm
         simp only [go_sem, m1, n1, c1, c2, c3, c4, c5, r1, c6, e5, mm, t1]
         refine ⟨⟨by omega, by omega⟩, ⟨by omega, by omega⟩, hd, ⟨b0, lb⟩, ⟨by omega, by omega⟩, ⟨by omega, by omega⟩, ⟨by omega, by omega, by omega, p3⟩, ⟨by omega, by omega⟩, by rfl, ⟨by omega, by omega⟩, ⟨(m, o * lead b ^ (a.length - (pMod a b).length), b, pMod a b), hm, by simp only; rw [← he]; grind⟩, Wk.of [0, 1] (by decide) ?_, by simp only; omega⟩
         simp only [go_sem]
end Go.Proofs.YtfbogelmgdojgaaGreat


/- Contracts: the squarefree decomposition. -/
namespace Go.Proofs.YtfbogelmgdojgaaGreat
set_option linter.unusedSimpArgs false
set_option linter.unusedVariables false
open Go.RowKit

def V.facs (l : List (List Rat × Nat)) : List V := l.map fun p => .agg [.lst (V.rats p.1), .raw (.int .i64 (p.2 : Nat))]
theorem facs_nil : V.facs [] = [] := rfl
theorem facs_snoc (l : List (List Rat × Nat)) (p : List Rat) (n : Nat) : V.facs l ++ [.agg [.lst (V.rats p), .raw (.int .i64 (n : Nat))]] = V.facs (l ++ [(p, n)]) := by simp [V.facs]
@[go_sem] theorem facs_len (l : List (List Rat × Nat)) : (V.facs l).length = l.length := by simp [V.facs]
@[go_sem] theorem facs_wid (l : List (List Rat × Nat)) : allWid (V.facs l) 2 = True := eq_true fun y hy => by
  obtain ⟨p, _, rfl⟩ := List.mem_map.1 hy
  rfl
@[go_sem] theorem facs_pure (l : List (List Rat × Nat)) : allPure (V.facs l) = True := eq_true fun y hy => by
  obtain ⟨p, _, rfl⟩ := List.mem_map.1 hy
  rfl
@[go_sem] theorem facs_frz (l : List (List Rat × Nat)) : frzOk (V.facs l) = True := eq_true (frzOk_map (fun a => ⟨rfl, by simp, by simp⟩) l)
def SqOk : Nat → List Rat → List Rat → Prop
 | 0, _, _ => False
 | k + 1, b, c => if b.length ≤ 1 then True else
   ((b.length ≤ 1000000 ∧ c.length ≤ 1000000) ∧ PB b 5000000000000 ∧ PB c 5000000000000 ∧ PB (pDiff b) 5000000000000) ∧ (∃ n, GcOk n b (pSub c (pDiff b))) ∧
   (DvOk b (pGcd b (pSub c (pDiff b))) ∧ DvOk (pSub c (pDiff b)) (pGcd b (pSub c (pDiff b)))) ∧ pGcd b (pSub c (pDiff b)) ≠ [] ∧
   SqOk k (pDiv b (pGcd b (pSub c (pDiff b)))) (pDiv (pSub c (pDiff b)) (pGcd b (pSub c (pDiff b))))
def SfOk (k : Nat) (a : List Rat) : Prop := k ≤ 1000000 ∧ a.length ≤ 1000000 ∧ (2 ≤ a.length → PB a 5000000000000 ∧ (∃ n, GcOk n a (pDiff a)) ∧ (DvOk a (pGcd a (pDiff a)) ∧ DvOk (pDiff a) (pGcd a (pDiff a))) ∧ pGcd a (pDiff a) ≠ [] ∧ SqOk k (pDiv a (pGcd a (pDiff a))) (pDiv (pDiff a) (pGcd a (pDiff a))))
def sqS (b c : List Rat) (n : Nat) : List (List Rat × Nat) → St
 | [] => mkSt [(2, .raw (.slice none 0 0)), (3, .raw (.slice none 0 0)), (6, .lst (V.rats b)), (7, .lst (V.rats c)), (8, .raw (.int .i64 (n : Nat)))] [] 0 52
 | x :: l => mkSt [(2, .raw (.slice none 0 0)), (3, .sl 0 2 0 (l.length + 1)), (6, .lst (V.rats b)), (7, .lst (V.rats c)), (8, .raw (.int .i64 (n : Nat)))] [(0, true, ⟨84, 2, V.facs (x :: l)⟩)] 1 52
structure SqS where
 k : Nat
 n : Nat
 b : List Rat
 c : List Rat
 acc : List (List Rat × Nat)
 rest : List (List Rat × Nat)
theorem sqf_V (k : Nat) (a : List Rat) (l : List (List Rat × Nat)) (h : SfOk k a) (he : pSqf k a = some l) : PCall Tryz.prog 68 [.lst (V.rats a)] (.lst (V.facs l)) := by
 obtain ⟨hk, la, hs⟩ := h
 refine PCall.of_vc (tabs mixed (tbl_cons pDiff_C (tbl_cons pGcd_C (tbl_cons exact_C (tbl_cons pSub_C tbl_nil))))) Tryz.func68 rfl Tryz.ntmps68 Tryz.results68 (by simp) ?_
 unfold pSqf at he
 by_cases h2 : a.length < 2
 ·rw [if_pos h2] at he
  injection he with he
  subst he
  have c1 : (a.length : Int) < 2 := by omega
  simp only [go_sem, c1, facs_nil]
 ·rw [if_neg h2] at he
  have c1 : ¬ (a.length : Int) < 2 := by omega
  obtain ⟨h1, h3, ⟨h4, h5⟩, h6, h7⟩ := hs (by omega)
  simp only [go_sem, c1]
  refine ⟨⟨la, h1⟩, h3, ⟨h4, h6⟩, ⟨h5, h6⟩, ?_⟩
  refine AWp.loops (X := { p : SqS // SqOk p.k p.b p.c ∧ sqL p.k p.n p.b p.c = some p.rest ∧ p.acc ++ p.rest = l ∧ p.k + p.n ≤ 2000000 ∧ p.acc.length ≤ p.n })
   (fun p => sqS p.1.b p.1.c p.1.n p.1.acc) (fun p => p.1.k) ⟨⟨k, 1, _, _, [], l⟩, h7, he, rfl, by simp only; omega, by simp⟩ (Wk.of [] (by decide) ?_) ?_
  ·simp only [go_sem]
   exact ⟨rfl, rfl⟩
  ·rintro ⟨⟨k, n, b, c, acc, rest⟩, hk', hq, hr, hn, hl⟩
   simp only at hk' hq hr hn hl
   rcases k with _ | k
   ·exact hk'.elim
   ·unfold sqL at hq
    by_cases hb : b.length ≤ 1
    ·rw [if_pos hb] at hq
     injection hq with hq
     subst hq
     rw [List.append_nil] at hr
     subst hr
     have c2 : ¬ 1 < (b.length : Int) := by omega
     cases acc with
     | nil =>
       refine vc_at (tabs mixed (tbl_cons pDiff_C (tbl_cons pGcd_C (tbl_cons exact_C (tbl_cons pSub_C tbl_nil))))) ?_
       simp only [go_sem, c2, facs_nil]
     | cons x acc =>
       refine vc_at (tabs mixed (tbl_cons pDiff_C (tbl_cons pGcd_C (tbl_cons exact_C (tbl_cons pSub_C tbl_nil))))) ?_
       have f3 : (V.facs (x :: acc)).take (acc.length + 1) = V.facs (x :: acc) := List.take_of_length_le (by simp [V.facs])
       simp only [go_sem, c2, f3]
    ·rw [if_neg hb] at hq
     have c2 : 1 < (b.length : Int) := by omega
     have n1 : (n : Int) + 1 = ((n + 1 : Nat) : Int) := by omega
     unfold SqOk at hk'
     rw [if_neg hb] at hk'
     obtain ⟨⟨⟨lb, lc⟩, pb, pc, pd⟩, hg, ⟨hd1, hd2⟩, g0, hk'⟩ := hk'
     obtain ⟨l', hl', rfl⟩ : ∃ l', sqL k (n + 1) (pDiv b (pGcd b (pSub c (pDiff b)))) (pDiv (pSub c (pDiff b)) (pGcd b (pSub c (pDiff b)))) = some l' ∧ (if (pGcd b (pSub c (pDiff b))).length ≤ 1 then l' else (pGcd b (pSub c (pDiff b)), n) :: l') = rest := by
      rcases hx : sqL k (n + 1) (pDiv b (pGcd b (pSub c (pDiff b)))) (pDiv (pSub c (pDiff b)) (pGcd b (pSub c (pDiff b)))) with _ | l' <;> rw [hx] at hq
      ·cases hq
      ·injection hq with hq
       exact ⟨l', rfl, hq⟩
     have dlen : (pDiff b).length ≤ 1000000 := Nat.le_trans (tr_len _) (by rcases len_dL b with h | h <;> omega)
     by_cases hp : (pGcd b (pSub c (pDiff b))).length ≤ 1
     ·rw [if_pos hp] at hr
      have c3 : ¬ 1 < ((pGcd b (pSub c (pDiff b))).length : Int) := by omega
      cases acc with
      | nil =>
        refine vc_at (tabs mixed (tbl_cons pDiff_C (tbl_cons pGcd_C (tbl_cons exact_C (tbl_cons pSub_C tbl_nil))))) ?_
        simp only [go_sem, c2, c3, n1]
        refine ⟨⟨lb, pb⟩, ⟨⟨lc, dlen⟩, pc, pd⟩, hg, ⟨hd1, g0⟩, ⟨hd2, g0⟩, ⟨by omega, by omega⟩, ⟨⟨k, n + 1, _, _, [], l'⟩, hk', hl', hr, by simp only; omega, by simp⟩, Wk.of [] (by decide) ?_, Nat.lt_succ_self k⟩
        simp only [go_sem]
        exact ⟨rfl, rfl⟩
      | cons x acc =>
        refine vc_at (tabs mixed (tbl_cons pDiff_C (tbl_cons pGcd_C (tbl_cons exact_C (tbl_cons pSub_C tbl_nil))))) ?_
        simp only [go_sem, c2, c3, n1]
        refine ⟨⟨lb, pb⟩, ⟨⟨lc, dlen⟩, pc, pd⟩, hg, ⟨hd1, g0⟩, ⟨hd2, g0⟩, ⟨by omega, by omega⟩, ⟨⟨k, n + 1, _, _, x :: acc, l'⟩, hk', hl', hr, by simp only; omega, by simp only [List.length_cons] at hl ⊢; omega⟩, Wk.of [0] (by decide) ?_, Nat.lt_succ_self k⟩
        simp only [go_sem]
        exact ⟨rfl, rfl⟩
     ·rw [if_neg hp] at hr
      have c3 : 1 < ((pGcd b (pSub c (pDiff b))).length : Int) := by omega
      cases acc with
      | nil =>
        refine vc_at (tabs mixed (tbl_cons pDiff_C (tbl_cons pGcd_C (tbl_cons exact_C (tbl_cons pSub_C tbl_nil))))) ?_
        simp only [go_sem, c2, c3, n1]
        refine ⟨⟨lb, pb⟩, ⟨⟨lc, dlen⟩, pc, pd⟩, hg, by decide, ⟨hd1, g0⟩, ⟨hd2, g0⟩, ⟨by omega, by omega⟩, ⟨⟨k, n + 1, _, _, [(pGcd b (pSub c (pDiff b)), n)], l'⟩, hk', hl', hr, by simp only; omega, by simp⟩, Wk.of [20] (by decide) ?_, Nat.lt_succ_self k⟩
        simp only [go_sem]
        exact ⟨⟨rfl, rfl⟩, rfl⟩
      | cons x acc =>
        refine vc_at (tabs mixed (tbl_cons pDiff_C (tbl_cons pGcd_C (tbl_cons exact_C (tbl_cons pSub_C tbl_nil))))) ?_
        simp only [go_sem, c2, c3, n1]
        have f3 : (V.facs (x :: acc)).take (acc.length + 1) = V.facs (x :: acc) := List.take_of_length_le (by simp [V.facs])
        have mx : maxLen = 9223372036854775807 := by decide
        simp only [List.length_cons] at hl
        refine ⟨⟨lb, pb⟩, ⟨⟨lc, dlen⟩, pc, pd⟩, hg, ⟨by omega, by omega⟩, ⟨hd1, g0⟩, ⟨hd2, g0⟩, ⟨by omega, by omega⟩, ⟨⟨k, n + 1, _, _, x :: (acc ++ [(pGcd b (pSub c (pDiff b)), n)]), l'⟩, hk', hl', by simp only; rw [← hr]; simp, by simp only; omega, by simp; omega⟩, Wk.of [21] (by decide) ?_, Nat.lt_succ_self k⟩
        simp only [go_sem, f3, List.length_append]
        exact ⟨⟨rfl, rfl⟩, (facs_snoc (x :: acc) _ n).symm⟩
end Go.Proofs.YtfbogelmgdojgaaGreat


/- Contracts: the value of a polynomial. -/
namespace Go.Proofs.YtfbogelmgdojgaaGreat
set_option linter.unusedSimpArgs false
set_option linter.unusedVariables false
open Go.RowKit

end Go.Proofs.YtfbogelmgdojgaaGreat


/- Contracts: the reference of package poly, first functions. -/
namespace Go.Proofs.YtfbogelmgdojgaaGreat
set_option linter.unusedSimpArgs false
set_option linter.unusedVariables false
open Go.RowKit

def kRZero : Con := con0 (True, .Q 0)
attribute [go_sem ↓, go_sem] kRZero
theorem rZero_C : Ctr Tryz.prog 77 kRZero := Ctr.c0 (by kernel_rfl) fun _ => by
 refine PCall.of_vc (tabs mixed (tbl_cons r2Whole_C tbl_nil)) Tryz.func77 rfl Tryz.ntmps77 Tryz.results77 (by simp) ?_
 simp only [go_sem]
 exact .inl rfl
theorem rOne_C : Ctr Tryz.prog 93 kOne := Ctr.c0 (by kernel_rfl) fun _ => by
 refine PCall.of_vc (tabs mixed (tbl_cons r2Whole_C tbl_nil)) Tryz.func93 rfl Tryz.ntmps93 Tryz.results93 (by simp) ?_
 simp only [go_sem]
 exact .inl rfl
def kRAt : Con := con2 pR (pN .i64) fun p i => (True, .Q (if i < 0 then 0 else cf p i.toNat))
attribute [go_sem ↓, go_sem] kRAt
theorem rAt_C : Ctr Tryz.prog 76 kRAt := Ctr.c2 (by kernel_rfl) fun p i _ => by
 show PCall _ _ _ (.Q (if i < 0 then 0 else cf p i.toNat))
 refine PCall.of_vc (tabs mixed (tbl_cons rZero_C tbl_nil)) Tryz.func76 rfl Tryz.ntmps76 Tryz.results76 (by simp) ?_
 by_cases h0 : i < 0
 ·simp only [go_sem, h0]
 ·rw [if_neg h0]
  by_cases h1 : (p.length : Int) ≤ i
  ·have e : cf p i.toNat = 0 := cf_ge (by omega)
   simp only [go_sem, h0, h1, e]
  ·simp only [go_sem, h0, h1]
   exact ⟨⟨by omega, by omega⟩, by omega⟩
end Go.Proofs.YtfbogelmgdojgaaGreat


/- Contracts: the reference of package poly, equality. -/
namespace Go.Proofs.YtfbogelmgdojgaaGreat
set_option linter.unusedSimpArgs false
set_option linter.unusedVariables false
open Go.RowKit

theorem rPEq_C : Ctr Tryz.prog 14 kPEq := Ctr.c2 (by kernel_rfl) fun a b h => by
 obtain ⟨⟨la, lb⟩, ha, hb⟩ := h
 refine PCall.of_vc (tabs mixed (tbl_cons r2Cmp_C tbl_nil)) Tryz.func14 rfl Tryz.ntmps14 Tryz.results14 (by simp) ?_
 by_cases hl : a.length = b.length
 ·have c0 : (!((a.length : Int) == (b.length : Int))) = false := by rw [hl]; simp
  have c0' : ((a.length : Int) != (b.length : Int)) = false := c0
  simp only [go_sem, c0, c0']
  refine AWp.loops (X := { i : Nat // i ≤ a.length ∧ ∀ j, j < i → cf a j = cf b j })
   (fun i => mkSt [(0, .lst (V.rats a)), (1, .lst (V.rats b)), (4, .raw (.bool false)), (5, .raw (.int .i64 (i.1 : Nat)))] [] 0 27)
   (fun i => a.length - i.1) ⟨0, Nat.zero_le _, fun j h => by omega⟩ (Wk.of [] (by decide) ?_) ?_
  ·simp only [go_sem]
  ·rintro ⟨i, hi, he⟩
   refine vc_at (tabs mixed (tbl_cons r2Cmp_C tbl_nil)) ?_
   by_cases hin : i < a.length
   ·have c1 : (i : Int) < (a.length : Nat) := by omega
    have c2 : (i : Int) + 1 = ((i + 1 : Nat) : Int) := by omega
    have q1 := ha i
    have q2 := hb i
    by_cases hq : cf a i = cf b i
    ·have d0 : (cmpQ (cf a i) (cf b i) == 0) = true := by rw [cmpQ_eq0]; exact decide_eq_true hq
     have d1 : (cmpQ (cf a i) (cf b i) != 0) = false := by unfold bne; rw [d0]; rfl
     simp only [go_sem, c1, c2, d0, d1]
     refine ⟨by omega, hin, ⟨by omega, by omega⟩, by omega, ⟨q1, q2⟩, by rfl, ⟨by omega, by omega⟩, ⟨i + 1, hin, fun j hj => ?_⟩, Wk.of [] (by decide) ?_, by simp only; omega⟩
     ·by_cases e : j = i
      ·subst e; exact hq
      ·exact he j (by omega)
     ·simp only [go_sem]
    ·have d0 : (cmpQ (cf a i) (cf b i) == 0) = false := by rw [cmpQ_eq0]; exact decide_eq_false hq
     have d1 : (cmpQ (cf a i) (cf b i) != 0) = true := by unfold bne; rw [d0]; rfl
     have d2 : decide (a = b) = false := decide_eq_false fun e => hq (by rw [e])
     simp only [go_sem, c1, c2, d0, d1, d2]
     exact ⟨by omega, hin, ⟨by omega, by omega⟩, by omega, ⟨q1, q2⟩, by rfl⟩
   ·have c1 : ¬ (i : Int) < (a.length : Nat) := by omega
    have d2 : decide (a = b) = true := decide_eq_true (cf_ext hl fun j => by
     by_cases hj : j < i
     ·exact he j hj
     ·rw [cf_ge (by omega), cf_ge (by omega)])
    simp only [go_sem, c1, d2]
 ·have c0 : (!((a.length : Int) == (b.length : Int))) = true := by simp; omega
  have c0' : ((a.length : Int) != (b.length : Int)) = true := c0
  have d2 : decide (a = b) = false := decide_eq_false fun e => hl (by rw [e])
  simp only [go_sem, c0, c0', d2]
end Go.Proofs.YtfbogelmgdojgaaGreat


/- Contracts: the reference of package poly, lists without zeros at the end. -/
namespace Go.Proofs.YtfbogelmgdojgaaGreat
set_option linter.unusedSimpArgs false
set_option linter.unusedVariables false
open Go.RowKit

def rg (F : Nat → Rat) (n : Nat) : List Rat := (List.range n).map F
@[go_sem] theorem rg_len (F : Nat → Rat) (n : Nat) : (rg F n).length = n := by simp [rg]
theorem rg_0 (F : Nat → Rat) : rg F 0 = [] := rfl
theorem rg_snoc (F : Nat → Rat) (i : Nat) : rg F i ++ [F i] = rg F (i + 1) := by unfold rg; rw [List.range_succ, List.map_append]; rfl
@[go_sem] theorem rg_take (F : Nat → Rat) (i : Nat) : (rg F i).take i = rg F i := List.take_of_length_le (by rw [rg_len]; exact Nat.le_refl _)
theorem take_rg {l : List Rat} {n : Nat} (h : n ≤ l.length) : l.take n = rg (cf l) n := cf_ext (by rw [rg_len, List.length_take]; omega) fun i => by
 by_cases hi : i < n
 ·unfold rg cf
  rw [List.getD_eq_getElem?_getD, List.getElem?_take, if_pos hi, List.getD_eq_getElem?_getD, List.getElem?_map, List.getElem?_range hi]
  rfl
 ·rw [cf_ge (by rw [List.length_take]; omega), cf_ge (by rw [rg_len]; omega)]
theorem cf_rg (F : Nat → Rat) (n i : Nat) : cf (rg F n) i = if i < n then F i else 0 := by
 by_cases hi : i < n
 ·rw [if_pos hi]
  unfold rg cf
  rw [List.getD_eq_getElem?_getD, List.getElem?_map, List.getElem?_range hi]
  rfl
 ·rw [if_neg hi, cf_ge (by rw [rg_len]; omega)]
theorem rats_0 : V.rats [] = [] := rfl
theorem rTrim_V (l : List Rat) (h : l.length ≤ 1000000000) : PCall Tryz.prog 42 [.lst (V.rats l)] (.lst (V.rats (tr l))) := by
 refine PCall.of_vc (tabs mixed (tbl_cons r2Sign_C tbl_nil)) Tryz.func42 rfl Tryz.ntmps42 Tryz.results42 (by simp) ?_
 simp only [go_sem]
 refine AWp.cut (E := fun e τ => e = .exit 0 ∧ ∃ n : Nat, (n ≤ l.length ∧ (∀ i, n ≤ i → cf l i = 0) ∧ (n ≠ 0 → cf l (n - 1) ≠ 0)) ∧ τ = mkSt [(0, .lst (V.rats l)), (2, .raw (.slice none 0 0)), (3, .raw (.int .i64 (n : Nat)))] [] 0 35) ?_ ?_
 ·refine AWp.loops (X := { n : Nat // n ≤ l.length ∧ ∀ i, n ≤ i → cf l i = 0 }) (fun n => mkSt [(0, .lst (V.rats l)), (2, .raw (.slice none 0 0)), (3, .raw (.int .i64 (n.1 : Nat)))] [] 0 35) (fun n => n.1) ⟨l.length, Nat.le_refl _, fun i h => cf_ge h⟩ (Wk.of [] (by decide) ?_) ?_
  ·simp only [go_sem]
  ·rintro ⟨n, hn, hz⟩
   refine vc_at (tabs mixed (tbl_cons r2Sign_C tbl_nil)) ?_
   rcases n with _ | n
   ·simp only [go_sem]
    refine ⟨_, Wk.of [] (by decide) ?_, 0, ⟨hn, hz, fun e => absurd rfl e⟩, rfl⟩
    simp only [go_sem, Int.natCast_zero]
   ·have e1 := pred_nat n
    have e2 : 0 < ((n + 1 : Nat) : Int) := by omega
    by_cases hc : cf l n = 0
    ·have c1 : (sgI (cf l n).num == 0) = true := by rw [sgn_numQ]; exact decide_eq_true hc
     simp only [go_sem, e1, e2, c1]
     refine ⟨by omega, by omega, by omega, by omega, ⟨n, by omega, fun i hi => ?_⟩, Wk.of [] (by decide) ?_, by simp only; omega⟩
     ·rcases Nat.eq_or_lt_of_le hi with h | h
      ·rw [← h]; exact hc
      ·exact hz i h
     ·simp only [go_sem]
    ·have c1 : (sgI (cf l n).num == 0) = false := by rw [sgn_numQ]; exact decide_eq_false hc
     simp only [go_sem, e1, e2, c1]
     refine ⟨by omega, by omega, by omega, _, Wk.of [] (by decide) ?_, n + 1, ⟨hn, hz, fun _ => hc⟩, rfl⟩
     simp only [go_sem]
 ·rintro e τ ⟨rfl, n, ⟨hn, hz, hc⟩, rfl⟩
  rw [mkSt_eq]
  simp only [go_sem]
  rw [tr_at hn hz hc, take_rg hn]
  refine AWp.loops (X := { i : Nat // i ≤ n }) (fun i => mkSt [(0, .lst (V.rats l)), (2, .raw (.slice none 0 0)), (3, .raw (.int .i64 (n : Nat))), (4, .sl 0 4 0 i.1), (5, .raw (.int .i64 (i.1 : Nat)))] [(0, true, ⟨45, 4, V.rats (rg (cf l) i.1)⟩)] 1 35) (fun i => n - i.1) ⟨0, Nat.zero_le _⟩ (Wk.of [0] (by decide) ?_) ?_
  ·simp only [go_sem, rg_0, rats_0, Int.natCast_zero]
  ·rintro ⟨i, hi⟩
   refine vc_at (tabs mixed (tbl_cons r2Sign_C tbl_nil)) ?_
   by_cases hin : i < n
   ·have c1 : (i : Int) < (n : Nat) := by omega
    have c2 : (i : Int) + 1 = ((i + 1 : Nat) : Int) := by omega
    have mx : maxLen = 9223372036854775807 := by decide
    simp only [go_sem, c1, c2, rg_snoc, mx]
    refine ⟨⟨by omega, by omega⟩, by omega, ⟨by omega, by omega⟩, ⟨by omega, by omega⟩, ⟨i + 1, hin⟩, Wk.of [10] (by decide) ?_, by simp only; omega⟩
    simp only [go_sem]
   ·obtain rfl : i = n := by omega
    have c1 : ¬ (i : Int) < (i : Nat) := by omega
    simp only [go_sem, c1]
    trace_state
end Go.Proofs.YtfbogelmgdojgaaGreat


/- Contracts: the reference of package poly, polynomials out of small integers. -/
namespace Go.Proofs.YtfbogelmgdojgaaGreat
set_option linter.unusedSimpArgs false
set_option linter.unusedVariables false
open Go.RowKit

def kRTrim : Con := con1 pR fun l => (l.length ≤ 1000000000, .lst (V.rats (tr l)))
attribute [go_sem ↓, go_sem] kRTrim
theorem rTrim_C : Ctr Tryz.prog 42 kRTrim := Ctr.c1 (by kernel_rfl) fun l h => rTrim_V l h
def V.i8s (l : List Int) : List V := l.map fun z => .raw (.int .i8 z)
@[go_sem] theorem i8s_len (l : List Int) : (V.i8s l).length = l.length := by simp [V.i8s]
@[go_sem ↓, go_sem] theorem ev_i8s_get {l : List Int} {i : Nat} {k : V → Prop} : optC (V.i8s l)[i]? k = (i < l.length ∧ k (.raw (.int .i8 (l.getD i 0)))) := by
  unfold V.i8s
  rw [List.getElem?_map, List.getD_eq_getElem?_getD]
  by_cases h : i < l.length
  ·simp [List.getElem?_eq_getElem h, optC, h]
  ·simp [List.getElem?_eq_none (Nat.le_of_not_lt h), optC, h]
def uni8 : List V → Option (List Int)
 | [] => some []
 | .raw (.int .i8 q) :: l => (uni8 l).map (q :: ·)
 | _ => none
theorem uni8_ok : ∀ (l : List V) (m : List Int), uni8 l = some m → l = V.i8s m
 | [], m, h => by injection h with h; subst h; rfl
 | x :: l, m, h => by
   unfold uni8 at h
   split at h
   ·cases ‹_ = []›
   ·rename_i q l' e
    injection e with e1 e2; subst e1 e2
    rcases hm : uni8 l with _ | m' <;> rw [hm] at h
    ·cases h
    ·injection h with h
     subst h
     rw [uni8_ok l m' hm]
     rfl
   ·cases h
@[go_sem ↓, go_sem] theorem uni8_i8s (l : List Int) : uni8 (V.i8s l) = some l := by
  induction l with
  | nil => rfl
  | cons x l ih =>
    show (uni8 (V.i8s l)).map (x :: ·) = _
    rw [ih]; rfl
@[go_sem ↓, go_sem] theorem uni8_nil : uni8 [] = some [] := rfl
@[go_sem ↓, go_sem] theorem uni8_cons (q : Int) (l : List V) : uni8 (.raw (.int .i8 q) :: l) = (uni8 l).map (q :: ·) := rfl
def pI8 : Pat (List Int) where
 p
  | .lst l => (uni8 l).map fun m => (True, m)
  | _ => none
 val l := .lst (V.i8s l)
 ok x c a h hc := by
  split at h
  ·rename_i l
   rcases hm : uni8 l with _ | m <;> rw [hm] at h
   ·cases h
   ·injection h with h; injection h with h1 h2; subst h2
    rw [uni8_ok l m hm]; exact .refl _
  ·cases h
@[go_sem ↓, go_sem] theorem ev_pI8 {l : List V} : pI8.p (.lst l) = (uni8 l).map fun m => (True, m) := rfl
@[go_sem ↓, go_sem] theorem ev_pI8_mk {l : List Int} : pI8.val l = .lst (V.i8s l) := rfl
def V.prs (l : List (Int × Int)) : List V := l.map fun z => .agg [.raw (.int .i8 z.1), .raw (.int .i8 z.2)]
@[go_sem] theorem prs_len (l : List (Int × Int)) : (V.prs l).length = l.length := by simp [V.prs]
@[go_sem ↓, go_sem] theorem ev_prs_get {l : List (Int × Int)} {i : Nat} {k : V → Prop} : optC (V.prs l)[i]? k = (i < l.length ∧ k (.agg [.raw (.int .i8 (l.getD i (0, 0)).1), .raw (.int .i8 (l.getD i (0, 0)).2)])) := by
  unfold V.prs
  rw [List.getElem?_map, List.getD_eq_getElem?_getD]
  by_cases h : i < l.length
  ·simp [List.getElem?_eq_getElem h, optC, h]
  ·simp [List.getElem?_eq_none (Nat.le_of_not_lt h), optC, h]
def unprs : List V → Option (List (Int × Int))
 | [] => some []
 | .agg [.raw (.int .i8 x), .raw (.int .i8 y)] :: l => (unprs l).map ((x, y) :: ·)
 | _ => none
theorem unprs_ok : ∀ (l : List V) (m : List (Int × Int)), unprs l = some m → l = V.prs m
 | [], m, h => by injection h with h; subst h; rfl
 | x :: l, m, h => by
   unfold unprs at h
   split at h
   ·cases ‹_ = []›
   ·rename_i p q l' e
    injection e with e1 e2; subst e1 e2
    rcases hm : unprs l with _ | m' <;> rw [hm] at h
    ·cases h
    ·injection h with h
     subst h
     rw [unprs_ok l m' hm]
     rfl
   ·cases h
@[go_sem ↓, go_sem] theorem unprs_prs (l : List (Int × Int)) : unprs (V.prs l) = some l := by
  induction l with
  | nil => rfl
  | cons x l ih =>
    show (unprs (V.prs l)).map ((x.1, x.2) :: ·) = _
    rw [ih]; rfl
def pPrs : Pat (List (Int × Int)) where
 p
  | .lst l => (unprs l).map fun m => (True, m)
  | _ => none
 val l := .lst (V.prs l)
 ok x c a h hc := by
  split at h
  ·rename_i l
   rcases hm : unprs l with _ | m <;> rw [hm] at h
   ·cases h
   ·injection h with h; injection h with h1 h2; subst h2
    rw [unprs_ok l m hm]; exact .refl _
  ·cases h
@[go_sem ↓, go_sem] theorem ev_pPrs {l : List V} : pPrs.p (.lst l) = (unprs l).map fun m => (True, m) := rfl
@[go_sem ↓, go_sem] theorem ev_pPrs_mk {l : List (Int × Int)} : pPrs.val l = .lst (V.prs l) := rfl
def B8 (z : Int) : Prop := -128 ≤ z ∧ z ≤ 127
theorem B8.get {l : List Int} (h : ∀ z ∈ l, B8 z) (i : Nat) : B8 (l.getD i 0) := by
 rw [List.getD_eq_getElem?_getD]
 rcases hi : l[i]? with _ | z
 ·exact ⟨by decide, by decide⟩
 ·exact h z (List.mem_of_getElem? hi)
theorem B8.get2 {l : List (Int × Int)} (h : ∀ z ∈ l, B8 z.1 ∧ B8 z.2) (i : Nat) : B8 (l.getD i (0, 0)).1 ∧ B8 (l.getD i (0, 0)).2 := by
 rw [List.getD_eq_getElem?_getD]
 rcases hi : l[i]? with _ | z
 ·exact ⟨⟨by decide, by decide⟩, by decide, by decide⟩
 ·exact h z (List.mem_of_getElem? hi)
def zsL (l : List Int) (n : Int) : List Rat := tr (rg (fun i => ((l.getD i 0 : Int) : Rat)) (min l.length n.toNat))
theorem rInts_V (l : List Int) (n : Int) (hl : l.length ≤ 9223372036854775807) (hn : n ≤ 1000) (h : ∀ z ∈ l, B8 z) : PCall Tryz.prog 13 [.lst (V.i8s l), .raw (.int .i64 n)] (.lst (V.rats (zsL l n))) := by
 refine PCall.of_vc (tabs mixed (tbl_cons rTrim_C (tbl_cons r2Whole_C tbl_nil))) Tryz.func13 rfl Tryz.ntmps13 Tryz.results13 (by simp) ?_
 obtain ⟨F, hF⟩ : ∃ F : Nat → Rat, F = fun i => ((l.getD i 0 : Int) : Rat) := ⟨_, rfl⟩
 unfold zsL
 rw [← hF]
 have mx : maxLen = 9223372036854775807 := by decide
 simp only [go_sem]
 refine AWp.loops (X := { i : Nat // i ≤ min l.length n.toNat }) (fun i => mkSt [(0, .lst (V.i8s l)), (1, .raw (.int .i64 n)), (4, .raw (.slice none 0 0)), (5, .sl 0 4 0 i.1), (6, .raw (.int .i64 (i.1 : Nat)))] [(0, true, ⟨45, 4, V.rats (rg F i.1)⟩)] 1 30) (fun i => min l.length n.toNat - i.1) ⟨0, Nat.zero_le _⟩ (Wk.of [1] (by decide) ?_) ?_
 ·simp only [go_sem, rg_0, rats_0, Int.natCast_zero]
 ·rintro ⟨i, hi⟩
  refine vc_at (tabs mixed (tbl_cons rTrim_C (tbl_cons r2Whole_C tbl_nil))) ?_
  by_cases hin : i < min l.length n.toNat
  ·have c1 : (i : Int) < (l.length : Nat) := by omega
   have c2 : (i : Int) < n := by omega
   have c3 : (i : Int) + 1 = ((i + 1 : Nat) : Int) := by omega
   obtain ⟨b1, b2⟩ := B8.get h i
   have f0 : IntKind.i64.wrap (l.getD i 0) = l.getD i 0 := IntWalk.i64_in _ ⟨by omega, by omega⟩
   have f1 : ((l.getD i 0 : Int) : Rat) = F i := by rw [hF]
   simp only [go_sem, c1, c2, c3, f0, f1, rg_snoc, mx]
   refine ⟨by omega, by omega, ⟨by omega, by omega⟩, ⟨by omega, by omega⟩, ⟨by omega, by omega⟩, ⟨i + 1, by omega⟩, Wk.of [18] (by decide) ?_, by simp only; omega⟩
   simp only [go_sem]
  ·obtain rfl : i = min l.length n.toNat := by omega
   by_cases hl' : l.length ≤ n.toNat
   ·have c1 : ¬ ((min l.length n.toNat : Nat) : Int) < (l.length : Nat) := by omega
    simp only [go_sem, c1]
    omega
   ·have c1 : ((min l.length n.toNat : Nat) : Int) < (l.length : Nat) := by omega
    have c2 : ¬ ((min l.length n.toNat : Nat) : Int) < n := by omega
    simp only [go_sem, c1, c2]
    omega
def kRInts : Con := con2 pI8 (pN .i64) fun l n => ((l.length ≤ 9223372036854775807 ∧ n ≤ 1000) ∧ ∀ z ∈ l, B8 z, .lst (V.rats (zsL l n)))
attribute [go_sem ↓, go_sem] kRInts
theorem rInts_C : Ctr Tryz.prog 13 kRInts := Ctr.c2 (by kernel_rfl) fun l n h => rInts_V l n h.1.1 h.1.2 h.2
def psL (l : List (Int × Int)) (n : Int) : List Rat := tr (rg (fun i => mdQ (l.getD i (0, 0)).1 (l.getD i (0, 0)).2) (min l.length n.toNat))
theorem rPolyMade_V (l : List (Int × Int)) (n : Int) (hl : l.length ≤ 9223372036854775807) (hn : n ≤ 1000) (h : ∀ z ∈ l, B8 z.1 ∧ B8 z.2) : PCall Tryz.prog 45 [.lst (V.prs l), .raw (.int .i64 n)] (.lst (V.rats (psL l n))) := by
 refine PCall.of_vc (tabs mixed (tbl_cons rTrim_C (tbl_cons r2Made_C tbl_nil))) Tryz.func45 rfl Tryz.ntmps45 Tryz.results45 (by simp) ?_
 obtain ⟨F, hF⟩ : ∃ F : Nat → Rat, F = fun i => mdQ (l.getD i (0, 0)).1 (l.getD i (0, 0)).2 := ⟨_, rfl⟩
 unfold psL
 rw [← hF]
 have mx : maxLen = 9223372036854775807 := by decide
 simp only [go_sem]
 refine AWp.loops (X := { i : Nat // i ≤ min l.length n.toNat }) (fun i => mkSt [(0, .lst (V.prs l)), (1, .raw (.int .i64 n)), (4, .raw (.slice none 0 0)), (5, .sl 0 4 0 i.1), (6, .raw (.int .i64 (i.1 : Nat)))] [(0, true, ⟨45, 4, V.rats (rg F i.1)⟩)] 1 37) (fun i => min l.length n.toNat - i.1) ⟨0, Nat.zero_le _⟩ (Wk.of [1] (by decide) ?_) ?_
 ·simp only [go_sem, rg_0, rats_0, Int.natCast_zero]
 ·rintro ⟨i, hi⟩
  refine vc_at (tabs mixed (tbl_cons rTrim_C (tbl_cons r2Made_C tbl_nil))) ?_
  by_cases hin : i < min l.length n.toNat
  ·have c1 : (i : Int) < (l.length : Nat) := by omega
   have c2 : (i : Int) < n := by omega
   have c3 : (i : Int) + 1 = ((i + 1 : Nat) : Int) := by omega
   obtain ⟨⟨b1, b2⟩, b3, b4⟩ := B8.get2 h i
   have f0 : IntKind.i64.wrap (l.getD i (0, 0)).1 = (l.getD i (0, 0)).1 := IntWalk.i64_in _ ⟨by omega, by omega⟩
   have f2 : IntKind.i64.wrap (l.getD i (0, 0)).2 = (l.getD i (0, 0)).2 := IntWalk.i64_in _ ⟨by omega, by omega⟩
   have f1 : mdQ (l.getD i (0, 0)).1 (l.getD i (0, 0)).2 = F i := by rw [hF]
   simp only [go_sem, c1, c2, c3, f0, f2, f1, rg_snoc, mx]
   refine ⟨by omega, by omega, by omega, by omega, ⟨⟨by omega, by omega⟩, by omega, by omega⟩, ⟨by omega, by omega⟩, by rfl, ⟨by omega, by omega⟩, ⟨i + 1, by omega⟩, Wk.of [25] (by decide) ?_, by simp only; omega⟩
   simp only [go_sem]
  ·obtain rfl : i = min l.length n.toNat := by omega
   by_cases hl' : l.length ≤ n.toNat
   ·have c1 : ¬ ((min l.length n.toNat : Nat) : Int) < (l.length : Nat) := by omega
    simp only [go_sem, c1]
    omega
   ·have c1 : ((min l.length n.toNat : Nat) : Int) < (l.length : Nat) := by omega
    have c2 : ¬ ((min l.length n.toNat : Nat) : Int) < n := by omega
    simp only [go_sem, c1, c2]
    omega
def P8 (l : List (Int × Int)) : Prop := l.length ≤ 9223372036854775807 ∧ ∀ z ∈ l, B8 z.1 ∧ B8 z.2
def kRPolyMade : Con := con2 pPrs (pN .i64) fun l n => (P8 l ∧ n ≤ 1000, .lst (V.rats (psL l n)))
attribute [go_sem ↓, go_sem] kRPolyMade
theorem rPolyMade_C : Ctr Tryz.prog 45 kRPolyMade := Ctr.c2 (by kernel_rfl) fun l n h => rPolyMade_V l n h.1.1 h.2 h.1.2
end Go.Proofs.YtfbogelmgdojgaaGreat

