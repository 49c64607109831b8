/- Contracts: slices.Clone. -/
import Derived.Test.YtbnhnmpgbpejaaaC8
namespace Go.Proofs.Ytbnhnmpgbpejaaa
set_option linter.unusedSimpArgs false
set_option linter.unusedVariables false
open Go.RowKit

theorem clone_V (x : Nat) (l : List Nat) (h1 : l.length ≤ 1000000000000) :
    PCall Try.prog 54 [.lst (V.limbs (x :: l))] (.lst (V.limbs (x :: l))) := by
  refine PCall.of_vc (tabs mixed tbl_nil) Try.func54 rfl Try.ntmps54 Try.results54 (by simp) ?_
  have e1 : V.limbs (x :: l) = .raw (.int .u32 (x : Nat)) :: V.limbs l := rfl
  rw [e1]
  have e2 : maxLen = 9223372036854775807 := by decide
  simp only [go_sem, List.reduceReplicate, false_implies, true_implies, true_and, and_true, implies_true, Nat.sub_zero, Int.cast_ofNat_Int, ↓reduceIte, Nat.reduceEqDiff, Nat.reduceLT, Nat.reduceLeDiff, Nat.reduceAdd, Nat.reduceSub, Nat.reduceMul, Int.reduceToNat, Int.reduceNeg, Int.reduceAdd, Int.reduceSub, Int.reduceMul, Int.reduceLT, Int.reduceLE, Int.reduceMod, Int.reducePow, Nat.reducePow, Int.reduceDiv, Nat.reduceBEq, Nat.reduceBNe, Int.reduceBEq, Int.reduceBNe, decide_true, decide_false, reduceCtorEq, Nat.add_zero, Nat.zero_add, Nat.zero_mul, Nat.one_mul, Nat.mul_one, Nat.lt_add_one, Nat.le_refl, Nat.zero_le, Nat.one_ne_zero, Nat.succ_ne_zero, Nat.zero_ne_one, Nat.add_one_ne_zero, Nat.ne_add_one, List.take_length, e2]
  exact ⟨⟨_, rfl⟩, by omega, by omega⟩
theorem clone_nil_walk (A : Option Addr) (c : Nat) (w : World) : Calls Try.prog 54 #[.slice A 0 c] w fun e w' => ∃ A' c', e = .returned (.slice A' 0 c') ∧ Below w.heap.size w w' := by
  have heq := Lib.run_eql_slice_nil (P := Try.prog) w 22 26 A 0 c 0 0 Try.underlying22
  cases A with
  | none =>
    simp only [Option.isNone_none] at heq
    go_enter Try.func54, Try.ntmps54
    go_wp2_with fail
    go_ret
    exact ⟨_, _, rfl, Below.refl _ _⟩
  | some A =>
    simp only [Option.isNone_some] at heq
    go_enter Try.func54, Try.ntmps54
    go_wp2_with fail
    go_ret
    exact ⟨_, _, rfl, (Below.refl _ _).alloc (Nat.le_refl _) _⟩
theorem clone_nil : PCall Try.prog 54 [.lst []] (.lst []) := by
  intro B w vs hl hv hB
  match vs, hl with
  | [v], _ =>
    have h := (hv 0 _ _ rfl rfl).atom rfl
    cases h with
    | nil _ A c =>
      refine (clone_nil_walk A c w).mono ?_
      rintro e w' ⟨A', c', rfl, hb⟩
      exact ⟨_, rfl, RepV.of_W (RepW.of_atom (.nil _ _ _) rfl rfl) (by intro l h; cases h), hb⟩
    | lst _ l b a c vs h0 => exact absurd rfl h0
def kClone : Con := con1 pL fun l => (l.length ≤ 1000000000000, .lst (V.limbs l))
attribute [go_sem ↓, go_sem] kClone
theorem clone_C : Ctr Try.prog 54 kClone := Ctr.c1 rfl fun l h => by
  cases l with
  | nil => exact clone_nil
  | cons x l => exact clone_V x l (by simp at h; omega)
end Go.Proofs.Ytbnhnmpgbpejaaa
