/- Texts H10 in one. -/
import Derived.Test.YtfbogelmgdojgaaGreatP68
import Derived.Test.YtfbogelmgdojgaaGreatP66
/- Contracts: the reference of package poly, cofactors. -/
namespace Go.Proofs.YtfbogelmgdojgaaGreat
set_option linter.unusedSimpArgs false
set_option linter.unusedVariables false
open Go.RowKit

theorem ExOk_PB {n : Nat} {a b s u t v : List Rat} (h : ExOk n a b s u t v) : (PB s 10000000000 ∧ PB t 10000000000) ∧ s.length ≤ 1000000 ∧ t.length ≤ 1000000 := by
  cases n with
  | zero => exact h.elim
  | succ n =>
    obtain ⟨_, _, h⟩ := h
    by_cases b0 : b = []
    · rw [if_pos b0] at h
      obtain ⟨k, _, h1, h2⟩ := h
      exact ⟨⟨h1.2.mono (by decide), h2.2.mono (by decide)⟩, h1.1, h2.1⟩
    · rw [if_neg b0] at h
      obtain ⟨_, ⟨_, h1, h2⟩, _⟩ := h
      exact ⟨⟨h1.2, h2.2⟩, h1.1.1.2, h2.1.1.2⟩
theorem LsOk_q {q x y : List Rat} (h : LsOk q x y) : PB q 10000000000 := by
  obtain ⟨⟨_, j, k, ⟨h1, h2⟩, h3⟩, _⟩ := h
  by_cases q0 : q = []
  · subst q0; exact PB_nil (by decide)
  · have := List.length_pos_iff.2 q0
    have h4 := Nat.mul_le_mul_right (j + k + 1) (show 1 ≤ q.length from this)
    exact h1.mono (by omega)
theorem rats_1 (q : Rat) : V.rats [q] = [.Q q] := rfl
theorem can_drop {l : List Rat} (h : Can l) (k : Nat) : Can (l.drop k) := fun h0 => by
  have hk : k < l.length := by
    refine Nat.lt_of_not_le fun h' => h0 ?_
    exact List.drop_eq_nil_of_le h'
  have e : cf (l.drop k) ((l.drop k).length - 1) = cf l (l.length - 1) := by
    unfold cf
    rw [List.getD_eq_getElem?_getD, List.getD_eq_getElem?_getD, List.getElem?_drop, List.length_drop, show k + (l.length - k - 1) = l.length - 1 from by omega]
  rw [e]
  exact h fun e' => by rw [e'] at hk; simp at hk
def kPRShift : Con := con2 pR pQ fun a c => (Can a ∧ ∃ N k C, (a.length ≤ N ∧ PB a k) ∧ (qs c ≤ C ∧ 1 ≤ C) ∧ N ≤ 1000 ∧ N * (shBd N k C + C + 1) ≤ 4000000000 ∧ shBd N k C ≤ 4000000000, .lst (V.rats (pShift c a)))
attribute [go_sem ↓, go_sem] kPRShift
theorem sh_step {a : List Rat} {c : Rat} (ha : Can a) {n : Nat} (hn : n < a.length) : pAdd (pMul (pShift c (a.drop (n + 1))) [c, 1]) (tr [cf a n]) = pShift c (a.drop n) := ev_inj (can_pAdd _ _) (can_pShift (can_drop ha n)) fun x => by
  have h1 : a.drop n = cf a n :: a.drop (n + 1) := by
    rw [List.drop_eq_getElem_cons hn]
    unfold cf
    rw [List.getD_eq_getElem?_getD, List.getElem?_eq_getElem hn]
    rfl
  rw [ev_pAdd, ev_pMul, ev_pShift, ev_tr, ev_pShift, h1]
  simp only [ev]
  grind
theorem tr_c1 (c : Rat) : tr [c, 1] = [c, 1] := ev_inj (tr_can _) (fun _ => (show (1 : Rat) ≠ 0 by decide +kernel)) fun x => ev_tr _ x
end Go.Proofs.YtfbogelmgdojgaaGreat
