/- Texts G10 G11 G12 in one. -/
import Derived.Test.YtfbogelmgdojgaaGreatP55
/- Contracts: the polynomial at x + c. -/
namespace Go.Proofs.YtfbogelmgdojgaaGreat
set_option linter.unusedSimpArgs false
set_option linter.unusedVariables false
open Go.RowKit

theorem cf_ext {l m : List Rat} (h : l.length = m.length) (hc : ∀ i, cf l i = cf m i) : l = m := by
  refine List.ext_getElem h fun i h1 h2 => ?_
  have := hc i
  unfold cf at this
  rw [List.getD_eq_getElem?_getD, List.getD_eq_getElem?_getD, List.getElem?_eq_getElem h1, List.getElem?_eq_getElem h2] at this
  exact this
theorem hd0_cf (l : List Rat) : hd0 l = cf l 0 := by cases l <;> rfl
theorem cf_syn (c : Rat) : ∀ (l : List Rat) (j : Nat), cf (syn c l) j = cf l j + c * cf (syn c l) (j + 1)
  | [], j => by
    show (0 : Rat) = 0 + c * 0
    grind
  | r :: l, 0 => by
    show r + c * hd0 (syn c l) = r + c * cf (syn c l) 0
    rw [hd0_cf]
  | r :: l, j + 1 => by
    show cf (syn c l) j = cf l j + c * cf (syn c l) (j + 1)
    exact cf_syn c l j
/-- The sizes within the shift. -/
def ShOk : Nat → Rat → List Rat → Prop
  | 0, _, _ => True
  | n + 1, c, l => (∃ s, (PB l s ∧ PB (syn c l) s) ∧ s ≤ 4000000000) ∧ ShOk n c (tl0 (syn c l))
def kQClone0 : Con := con1 pR fun l => (l = [], .lst (V.rats []))
attribute [go_sem ↓, go_sem] kQClone0
theorem qclone0_C : Ctr Tryz.prog 95 kQClone0 := Ctr.c1 (by kernel_rfl) fun l h => by
  subst h
  refine PCall.lst0 fun A c => ?_
  cases A with
  | none =>
    refine PCall.of_vc (tabs mixed tbl_nil) Tryz.func95 rfl Tryz.ntmps95 Tryz.results95 (by simp) ?_
    have e2 : maxLen = 9223372036854775807 := by decide
    simp only [go_sem, e2]
    exact ⟨⟨_, rfl⟩, .inl rfl⟩
  | some A =>
    refine PCall.of_vc (tabs mixed tbl_nil) Tryz.func95 rfl Tryz.ntmps95 Tryz.results95 (by simp) ?_
    have e2 : maxLen = 9223372036854775807 := by decide
    simp only [go_sem, e2]
    exact ⟨⟨_, rfl⟩, .inl rfl⟩
def kPShift : Con := con2 pR pQ fun a c => (Can a ∧ a.length ≤ 1000000 ∧ qs c ≤ 4000000000 ∧ ShOk a.length c a, .lst (V.rats (pShift c a)))
attribute [go_sem ↓, go_sem] kPShift
end Go.Proofs.YtfbogelmgdojgaaGreat

/- Contracts: equal polynomials. -/
namespace Go.Proofs.YtfbogelmgdojgaaGreat
set_option linter.unusedSimpArgs false
set_option linter.unusedVariables false
open Go.RowKit

/-- A known function as a value. -/
def pF (g : FuncId) : Pat Unit where
  p
    | .clo (.func f) [] [] => if f = g then some (True, ()) else none
    | _ => none
  val _ := .clo (.func g) [] []
  ok x c a h hc := by
    split at h
    · split at h
      · rename_i e; subst e; exact .inl rfl
      · cases h
    · cases h
@[go_sem ↓, go_sem] theorem ev_pF {g : FuncId} : (pF g).p (.clo (.func g) [] []) = some (True, ()) := if_pos rfl
@[go_sem ↓, go_sem] theorem ev_pF_val {g : FuncId} {u : Unit} : (pF g).val u = .clo (.func g) [] [] := rfl
theorem cmpQ_eq0 (x y : Rat) : (cmpQ x y == 0) = decide (x = y) := by
  unfold cmpQ
  by_cases h : x = y
  · subst h
    simp [Rat.lt_irrefl]
  · rw [decide_eq_false h]
    by_cases h1 : x < y
    · simp [h1]
    · simp [h1, h]
def kEq1 : Con := con2 pQ pQ fun x y => (qs x ≤ 10000000000 ∧ qs y ≤ 10000000000, .raw (.bool (decide (x = y))))
attribute [go_sem ↓, go_sem] kEq1
def kPEq : Con := con2 pR pR fun a b => ((a.length ≤ 1000000 ∧ b.length ≤ 1000000) ∧ PB a 10000000000 ∧ PB b 10000000000, .raw (.bool (decide (a = b))))
attribute [go_sem ↓, go_sem] kPEq
end Go.Proofs.YtfbogelmgdojgaaGreat

/- Contracts: valid polynomials. -/
namespace Go.Proofs.YtfbogelmgdojgaaGreat
set_option linter.unusedSimpArgs false
set_option linter.unusedVariables false
open Go.RowKit

def kVal1 : Con := con1 pQ fun x => (qs x ≤ 10000000000, .raw (.bool false))
attribute [go_sem ↓, go_sem] kVal1
theorem val1_C : Ctr Tryz.prog 110 kVal1 := Ctr.c1 (by kernel_rfl) fun x h => by
  refine PCall.of_vc (tabs mixed (tbl_cons qValid_C tbl_nil)) Tryz.func110 rfl Tryz.ntmps110 Tryz.results110 (by simp) ?_
  have e1 := validQ_Q x
  simp only [go_sem, e1]
  exact ⟨⟨dg_lim _, dg_lim _⟩, szLN h (by omega), szLD h (by omega)⟩
def kIdxF : Con := con2 pR (pF 110) fun a _ => (a.length ≤ 1000000 ∧ PB a 10000000000, .raw (.int .i64 (-1)))
attribute [go_sem ↓, go_sem] kIdxF
theorem idxF_C : Ctr Tryz.prog 136 kIdxF := Ctr.c2 (by kernel_rfl) fun a _ h => by
  obtain ⟨la, ha⟩ := h
  refine PCall.of_vc (tabs mixed (tbl_cons val1_C tbl_nil)) Tryz.func136 rfl Tryz.ntmps136 Tryz.results136 (by simp) ?_
  simp only [go_sem]
  refine AWp.loops (X := { i : Nat // i ≤ a.length })
    (fun i => mkSt [(0, .lst (V.rats a)), (1, .clo (.func 110) [] []), (4, .raw (.int .i64 0)), (7, .raw (.int .i64 (a.length : Nat))), (8, .raw (.int .i64 (i.1 : Nat)))] [] 0 19)
    (fun i => a.length - i.1) ⟨0, Nat.zero_le _⟩ (Wk.of [] (by decide) ?_) ?_
  · simp only [go_sem]
  · rintro ⟨i, hi⟩
    refine vc_at (tabs mixed (tbl_cons val1_C tbl_nil)) ?_
    by_cases hin : i < a.length
    · have c1 : (i : Int) < (a.length : Nat) := by omega
      have c2 : (i : Int) + 1 = ((i + 1 : Nat) : Int) := by omega
      have q1 := ha i
      simp only [go_sem, c1, c2]
      refine ⟨by omega, hin, q1, ⟨by omega, by omega⟩, ⟨i + 1, hin⟩, Wk.of [] (by decide) ?_, by simp only; omega⟩
      simp only [go_sem]
    · have c1 : ¬ (i : Int) < (a.length : Nat) := by omega
      simp only [go_sem, c1]
def kContF : Con := con2 pR (pF 110) fun a _ => (a.length ≤ 1000000 ∧ PB a 10000000000, .raw (.bool false))
attribute [go_sem ↓, go_sem] kContF
theorem contF_C : Ctr Tryz.prog 112 kContF := Ctr.c2 (by kernel_rfl) fun a _ h => by
  refine PCall.of_vc (tabs mixed (tbl_cons idxF_C tbl_nil)) Tryz.func112 rfl Tryz.ntmps112 Tryz.results112 (by simp) ?_
  have c1 : ¬ (0 : Int) ≤ -1 := by decide
  simp only [go_sem, c1]
  exact h
def kPValid : Con := con1 pR fun a => (a.length ≤ 1000000 ∧ PB a 10000000000, .raw (.bool (((tr a).length : Int) == (a.length : Int))))
attribute [go_sem ↓, go_sem] kPValid
theorem pValid_C : Ctr Tryz.prog 72 kPValid := Ctr.c1 (by kernel_rfl) fun a h => by
  refine PCall.of_vc (tabs mixed (tbl_cons contF_C (tbl_cons trim_C tbl_nil))) Tryz.func72 rfl Tryz.ntmps72 Tryz.results72 (by simp) ?_
  simp only [go_sem]
  exact ⟨h, Nat.le_trans h.1 (by decide)⟩
end Go.Proofs.YtfbogelmgdojgaaGreat
