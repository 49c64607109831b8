/- Texts G15 G16 in one. -/
import Derived.Test.YthhpmapbhdebeaaGreatP52
import Derived.Test.YthhpmapbhdebeaaGreatP44
import Derived.Test.YthhpmapbhdebeaaGreatP57
/- Contracts: a loop over a list from its end. -/
namespace Go.Proofs.YthhpmapbhdebeaaGreat
set_option linter.unusedSimpArgs false
set_option linter.unusedVariables false
open Go.RowKit

/-- The values of a list, from its end. -/
def xsBack (l : List V) : Nat → Option (List V) := fun n => if n < l.length then some [.raw (.int .i64 ((l.length : Int) - 1 - n)), l.getD (l.length - 1 - n) .any] else none
theorem xsBack_none {l : List V} {n : Nat} (h : ¬ n < l.length) : xsBack l n = none := if_neg h
theorem xsBack_some {l : List V} {n : Nat} (h : n < l.length) : xsBack l n = some [.raw (.int .i64 ((l.length : Int) - 1 - n)), l.getD (l.length - 1 - n) .any] := if_pos h
theorem xsBack_rats {a : List Rat} {n : Nat} (h : n < a.length) : xsBack (V.rats a) n = some [.raw (.int .i64 ((a.length : Int) - 1 - n)), .Q (cf a (a.length - 1 - n))] := by
  rw [xsBack_some (by rw [rats_len]; exact h), rats_len, List.getD_eq_getElem?_getD, rats_get (by omega)]
  rfl
theorem xsBack_rats0 {a : List Rat} {n : Nat} (h : ¬ n < a.length) : xsBack (V.rats a) n = none := xsBack_none (by rw [rats_len]; exact h)
theorem back1_S (a : List Rat) (h : a.length ≤ 1000000) : SeqC Tryz.prog 110 [.pel (.lst (V.rats a))] (xsBack (V.rats a)) := by
  refine SeqC.of_it Tryz.func110 rfl Tryz.ntmps110 Tryz.results110 (by simp) fun l N J hJ => ?_
  refine AIt.seq (AIt.of hJ (vc_ok (tabs mixed tbl_nil) _ _ _ ?_))
  simp only [go_sem, List.reduceReplicate, ↓reduceIte, Nat.reduceEqDiff, Nat.reduceLT, Nat.reduceLeDiff, Nat.reduceAdd, Nat.reduceSub, Nat.reduceMul, Int.reduceToNat, Int.reduceNeg, Int.reduceAdd, Int.reduceSub, Int.reduceMul, Int.reduceLT, Int.reduceLE, Int.reduceMod, Int.reducePow, Nat.reducePow, Int.reduceDiv, Nat.reduceBEq, Nat.reduceBNe, Int.reduceBEq, Int.reduceBNe, reduceCtorEq]
  refine ⟨⟨by omega, by omega⟩, ?_⟩
  refine AIt.block (AIt.loops hJ (X := { n : Nat // n ≤ a.length }) (fun x => mkSt [(0, .raw (.func (.yield l) #[] #[])), (1, .pel (.lst (V.rats a))), (3, .raw (.int .i64 ((a.length : Int) - 1 - (x.1 : Nat))))] [] 0 19) (fun x => x.1) (fun x => a.length - x.1) (fun _ => rfl) ⟨0, Nat.zero_le _⟩ rfl (Wk.of [] (by decide) ?_) ?_)
  · simp only [go_sem, List.reduceReplicate, ↓reduceIte, Nat.reduceEqDiff, Nat.reduceLT, Nat.reduceLeDiff, Nat.reduceAdd, Nat.reduceSub, Nat.reduceMul, Int.reduceToNat, Int.reduceNeg, Int.reduceAdd, Int.reduceSub, Int.reduceMul, Int.reduceLT, Int.reduceLE, Int.reduceMod, Int.reducePow, Nat.reducePow, Int.reduceDiv, Nat.reduceBEq, Nat.reduceBNe, Int.reduceBEq, Int.reduceBNe, reduceCtorEq, Int.sub_zero, Int.natCast_zero]
    exact renV_pure rfl
  rintro ⟨n, hn⟩ _
  refine AIt.seq (AIt.of hJ (vc_at (tabs mixed tbl_nil) ?_))
  by_cases hlt : n < a.length
  · have e0 : 0 ≤ (a.length : Int) - 1 - (n : Nat) := by omega
    simp only [go_sem, List.reduceReplicate, ↓reduceIte, Nat.reduceEqDiff, Nat.reduceLT, Nat.reduceLeDiff, Nat.reduceAdd, Nat.reduceSub, Nat.reduceMul, Int.reduceToNat, Int.reduceNeg, Int.reduceAdd, Int.reduceSub, Int.reduceMul, Int.reduceLT, Int.reduceLE, Int.reduceMod, Int.reducePow, Nat.reducePow, Int.reduceDiv, Nat.reduceBEq, Nat.reduceBNe, Int.reduceBEq, Int.reduceBNe, reduceCtorEq, e0]
    refine AIt.seq (AIt.block (AIt.seq (AIt.yieldR (tabs mixed tbl_nil) hJ [_, _, _, _, _, _] [_] _ rfl rfl rfl ?_)))
    have e1 : (a.length : Int) - 1 - (n : Nat) = ((a.length - 1 - n : Nat) : Int) := by omega
    simp only [go_sem, List.reduceReplicate, ↓reduceIte, Nat.reduceEqDiff, Nat.reduceLT, Nat.reduceLeDiff, Nat.reduceAdd, Nat.reduceSub, Nat.reduceMul, Int.reduceToNat, Int.reduceNeg, Int.reduceAdd, Int.reduceSub, Int.reduceMul, Int.reduceLT, Int.reduceLE, Int.reduceMod, Int.reducePow, Nat.reducePow, Int.reduceDiv, Nat.reduceBEq, Nat.reduceBNe, Int.reduceBEq, Int.reduceBNe, reduceCtorEq, e1]
    refine ⟨⟨by omega, by omega⟩, by omega, ?_, ?_, ?_⟩
    · rw [xsBack_some (by rw [rats_len]; exact hlt)]
      rw [rats_len, e1, List.getD_eq_getElem?_getD, rats_get (by omega)]
      rfl
    · refine AIt.cond (t := false) rfl ⟨fun e => (by cases e), fun _ => AIt.of hJ (vc_ok (tabs mixed tbl_nil) _ _ _ ?_)⟩
      simp only [go_sem, List.reduceReplicate, ↓reduceIte, Nat.reduceEqDiff, Nat.reduceLT, Nat.reduceLeDiff, Nat.reduceAdd, Nat.reduceSub, Nat.reduceMul, Int.reduceToNat, Int.reduceNeg, Int.reduceAdd, Int.reduceSub, Int.reduceMul, Int.reduceLT, Int.reduceLE, Int.reduceMod, Int.reducePow, Nat.reducePow, Int.reduceDiv, Nat.reduceBEq, Nat.reduceBNe, Int.reduceBEq, Int.reduceBNe, reduceCtorEq]
      refine AIt.of hJ (vc_ok (tabs mixed tbl_nil) _ _ _ ?_)
      simp only [go_sem, List.reduceReplicate, ↓reduceIte, Nat.reduceEqDiff, Nat.reduceLT, Nat.reduceLeDiff, Nat.reduceAdd, Nat.reduceSub, Nat.reduceMul, Int.reduceToNat, Int.reduceNeg, Int.reduceAdd, Int.reduceSub, Int.reduceMul, Int.reduceLT, Int.reduceLE, Int.reduceMod, Int.reducePow, Nat.reducePow, Int.reduceDiv, Nat.reduceBEq, Nat.reduceBNe, Int.reduceBEq, Int.reduceBNe, reduceCtorEq]
      refine ⟨⟨by omega, by omega⟩, ⟨n + 1, hlt⟩, rfl, Wk.of [] (by decide) ?_, by simp only; omega⟩
      have e2 : ((a.length - 1 - n : Nat) : Int) - 1 = (a.length : Int) - 1 - ((n + 1 : Nat) : Int) := by omega
      simp only [go_sem, List.reduceReplicate, ↓reduceIte, Nat.reduceEqDiff, Nat.reduceLT, Nat.reduceLeDiff, Nat.reduceAdd, Nat.reduceSub, Nat.reduceMul, Int.reduceToNat, Int.reduceNeg, Int.reduceAdd, Int.reduceSub, Int.reduceMul, Int.reduceLT, Int.reduceLE, Int.reduceMod, Int.reducePow, Nat.reducePow, Int.reduceDiv, Nat.reduceBEq, Nat.reduceBNe, Int.reduceBEq, Int.reduceBNe, reduceCtorEq, e2]
      exact renV_pure rfl
    · refine AIt.cond (t := true) rfl ⟨fun _ => AIt.of hJ (vc_ok (tabs mixed tbl_nil) _ _ _ ?_), fun e => (by cases e)⟩
      simp only [go_sem, List.reduceReplicate, ↓reduceIte, Nat.reduceEqDiff, Nat.reduceLT, Nat.reduceLeDiff, Nat.reduceAdd, Nat.reduceSub, Nat.reduceMul, Int.reduceToNat, Int.reduceNeg, Int.reduceAdd, Int.reduceSub, Int.reduceMul, Int.reduceLT, Int.reduceLE, Int.reduceMod, Int.reducePow, Nat.reducePow, Int.reduceDiv, Nat.reduceBEq, Nat.reduceBNe, Int.reduceBEq, Int.reduceBNe, reduceCtorEq]
      exact fun n e => by cases e
  · have e0 : ¬ 0 ≤ (a.length : Int) - 1 - (n : Nat) := by omega
    simp only [go_sem, List.reduceReplicate, ↓reduceIte, Nat.reduceEqDiff, Nat.reduceLT, Nat.reduceLeDiff, Nat.reduceAdd, Nat.reduceSub, Nat.reduceMul, Int.reduceToNat, Int.reduceNeg, Int.reduceAdd, Int.reduceSub, Int.reduceMul, Int.reduceLT, Int.reduceLE, Int.reduceMod, Int.reducePow, Nat.reducePow, Int.reduceDiv, Nat.reduceBEq, Nat.reduceBNe, Int.reduceBEq, Int.reduceBNe, reduceCtorEq, e0]
    exact fun m e => by cases e; exact xsBack_none (by rw [rats_len]; exact hlt)
def kBack : Con := con1 pR fun a => (a.length ≤ 1000000, .clo (.func 110) [] [.pel (.lst (V.rats a))])
attribute [go_sem ↓, go_sem] kBack
theorem back_C : Ctr Tryz.prog 88 kBack := Ctr.c1 (by kernel_rfl) fun a h => by
  refine PCall.of_vc (tabs mixed tbl_nil) Tryz.func88 rfl Tryz.ntmps88 Tryz.results88 (by simp) ?_
  simp only [go_sem, List.reduceReplicate, ↓reduceIte, Nat.reduceEqDiff, Nat.reduceLT, Nat.reduceLeDiff, Nat.reduceAdd, Nat.reduceSub, Nat.reduceMul, Int.reduceToNat, Int.reduceNeg, Int.reduceAdd, Int.reduceSub, Int.reduceMul, Int.reduceLT, Int.reduceLE, Int.reduceMod, Int.reducePow, Nat.reducePow, Int.reduceDiv, Nat.reduceBEq, Nat.reduceBNe, Int.reduceBEq, Int.reduceBNe, reduceCtorEq]
end Go.Proofs.YthhpmapbhdebeaaGreat

/- Contracts: the value of a polynomial. -/
namespace Go.Proofs.YthhpmapbhdebeaaGreat
set_option linter.unusedSimpArgs false
set_option linter.unusedVariables false
open Go.RowKit

theorem ev_drop (a : List Rat) (x : Rat) {n : Nat} (h : n < a.length) : ev (a.drop n) x = ev (a.drop (n + 1)) x * x + cf a n := by
  have h1 : a.drop n = cf a n :: a.drop (n + 1) := by
    rw [List.drop_eq_getElem_cons h]
    unfold cf
    rw [List.getD_eq_getElem?_getD, List.getElem?_eq_getElem h]
    rfl
  rw [h1]
  show cf a n + x * ev (a.drop (n + 1)) x = _
  grind
/-- The sizes within the evaluation. -/
def EvOk (a : List Rat) (x : Rat) : Prop := ∀ n, qs (ev (a.drop n) x) ≤ 100000000 ∧ qs (ev (a.drop n) x * x) ≤ 100000000
def kPEval : Con := con2 pR pQ fun a x => ((a.length ≤ 1000000 ∧ PB a 100000000 ∧ qs x ≤ 100000000) ∧ EvOk a x, .Q (ev a x))
attribute [go_sem ↓, go_sem] kPEval
theorem pEval_C : Ctr Tryz.prog 38 kPEval := Ctr.c2 (by kernel_rfl) fun a x h => by
  obtain ⟨⟨hl, hb, hx⟩, he⟩ := h
  refine PCall.of_vc (tabs mixed (tbl_cons whole_C (tbl_cons back_C tbl_nil))) Tryz.func38 rfl Tryz.ntmps38 Tryz.results38 (by simp) ?_
  simp only [go_sem, List.reduceReplicate, ↓reduceIte, Nat.reduceEqDiff, Nat.reduceLT, Nat.reduceLeDiff, Nat.reduceAdd, Nat.reduceSub, Nat.reduceMul, Int.reduceToNat, Int.reduceNeg, Int.reduceAdd, Int.reduceSub, Int.reduceMul, Int.reduceLT, Int.reduceLE, Int.reduceMod, Int.reducePow, Nat.reducePow, Int.reduceDiv, Nat.reduceBEq, Nat.reduceBNe, Int.reduceBEq, Int.reduceBNe, reduceCtorEq, hl]
  refine AWp.rounds (back1_S a hl) (by kernel_rfl) a.length (s0 := mkS [(3, .ptr 0 4 0 0), (4, .ptr 1 4 0 0), (5, .ptr 2 4 0 0), (10, .clo (.func 110) [] [.pel (.lst (V.rats a))])]) (m := 3) (M := 19)
    (fun n => mkH [(0, false, ⟨51, 4, [.Q x]⟩), (1, false, ⟨51, 4, [.agg [.raw (.bool false), .raw (.slice none 0 0), .raw (.bool false), .raw (.slice none 0 0)]]⟩), (2, false, ⟨51, 4, [.Q (ev (a.drop (a.length - n)) x)]⟩)]) (fun _ => 3) (fun _ _ _ => False) rfl (Wk.of [0, 1, 3] (by decide) ?_) rfl rfl (fun _ => ⟨rfl, rfl, rfl, trivial⟩) (fun n ys hy hn => ?_) (fun _ _ _ h => h.elim) (fun n hn hx => ?_)
  · have e0 : ev (List.drop (a.length - 0) a) x = ((0 : Int) : Rat) := by simp [ev]
    simp only [go_sem, List.reduceReplicate, ↓reduceIte, Nat.reduceEqDiff, Nat.reduceLT, Nat.reduceLeDiff, Nat.reduceAdd, Nat.reduceSub, Nat.reduceMul, Int.reduceToNat, Int.reduceNeg, Int.reduceAdd, Int.reduceSub, Int.reduceMul, Int.reduceLT, Int.reduceLE, Int.reduceMod, Int.reducePow, Nat.reducePow, Int.reduceDiv, Nat.reduceBEq, Nat.reduceBNe, Int.reduceBEq, Int.reduceBNe, reduceCtorEq, e0]
    refine ⟨⟨rfl, rfl⟩, renV_pure rfl, renV_pure rfl, ?_⟩
    rw [show List.drop a.length a = List.drop (a.length - 0) a from rfl, e0]
    exact renV_pure rfl
  · by_cases hlt : n < a.length
    · rw [xsBack_rats hlt] at hy
      injection hy with hy
      subst hy
      refine ⟨hlt, ⟨rfl, by decide⟩, vc_ok (tabs mixed (tbl_cons qMul_C (tbl_cons qAdd_C tbl_nil))) _ _ _ ?_⟩
      simp only [go_sem, List.reduceReplicate, ↓reduceIte, Nat.reduceEqDiff, Nat.reduceLT, Nat.reduceLeDiff, Nat.reduceAdd, Nat.reduceSub, Nat.reduceMul, Int.reduceToNat, Int.reduceNeg, Int.reduceAdd, Int.reduceSub, Int.reduceMul, Int.reduceLT, Int.reduceLE, Int.reduceMod, Int.reducePow, Nat.reducePow, Int.reduceDiv, Nat.reduceBEq, Nat.reduceBNe, Int.reduceBEq, Int.reduceBNe, reduceCtorEq]
      refine vc_ok (tabs mixed (tbl_cons qMul_C (tbl_cons qAdd_C tbl_nil))) _ _ _ ?_
      have f1 := he (a.length - n)
      have f2 := hb (a.length - 1 - n)
      simp only [go_sem, List.reduceReplicate, ↓reduceIte, Nat.reduceEqDiff, Nat.reduceLT, Nat.reduceLeDiff, Nat.reduceAdd, Nat.reduceSub, Nat.reduceMul, Int.reduceToNat, Int.reduceNeg, Int.reduceAdd, Int.reduceSub, Int.reduceMul, Int.reduceLT, Int.reduceLE, Int.reduceMod, Int.reducePow, Nat.reducePow, Int.reduceDiv, Nat.reduceBEq, Nat.reduceBNe, Int.reduceBEq, Int.reduceBNe, reduceCtorEq, f1.1, f1.2, f2, hx]
      refine ⟨by rfl, Wk.ofM 3 (ss := []) [0, 1, 2] (by decide) (by decide) ?_⟩
      have e3 : ev (a.drop (a.length - (n + 1))) x = ev (a.drop (a.length - n)) x * x + cf a (a.length - 1 - n) := by
        rw [ev_drop a x (n := a.length - (n + 1)) (by omega), show a.length - (n + 1) + 1 = a.length - n from by omega, show a.length - (n + 1) = a.length - 1 - n from by omega]
      simp only [go_sem, List.reduceReplicate, ↓reduceIte, Nat.reduceEqDiff, Nat.reduceLT, Nat.reduceLeDiff, Nat.reduceAdd, Nat.reduceSub, Nat.reduceMul, Int.reduceToNat, Int.reduceNeg, Int.reduceAdd, Int.reduceSub, Int.reduceMul, Int.reduceLT, Int.reduceLE, Int.reduceMod, Int.reducePow, Nat.reducePow, Int.reduceDiv, Nat.reduceBEq, Nat.reduceBNe, Int.reduceBEq, Int.reduceBNe, reduceCtorEq, e3]
      exact ⟨renV_pure rfl, renV_pure rfl, renV_pure rfl⟩
    · rw [xsBack_rats0 hlt] at hy
      cases hy
  · have hge : ¬ n < a.length := fun h => by
      rw [xsBack_rats h] at hx
      cases hx
    have e1 : a.length - n = 0 := by omega
    simp only [go_sem, List.reduceReplicate, ↓reduceIte, Nat.reduceEqDiff, Nat.reduceLT, Nat.reduceLeDiff, Nat.reduceAdd, Nat.reduceSub, Nat.reduceMul, Int.reduceToNat, Int.reduceNeg, Int.reduceAdd, Int.reduceSub, Int.reduceMul, Int.reduceLT, Int.reduceLE, Int.reduceMod, Int.reducePow, Nat.reducePow, Int.reduceDiv, Nat.reduceBEq, Nat.reduceBNe, Int.reduceBEq, Int.reduceBNe, reduceCtorEq, e1, List.drop_zero]
end Go.Proofs.YthhpmapbhdebeaaGreat
