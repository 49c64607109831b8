/- IntegerDivides: whatever two integers are made of the limbs and signs that come in, the law returns true, and the input reads as it did. No condition. -/
import Derived.Test.YtbnhnmpgbpejaaaP24
import Derived.Test.YtbnhnmpgbpejaaaP29
namespace Go.Proofs.Ytbnhnmpgbpejaaa
set_option linter.unusedSimpArgs false
set_option linter.unusedVariables false
open Go.ChangeShapes Go.WideShapes Go.ChangeAt Go.RowKit

set_option maxRecDepth 100000 in
theorem integerDivides_lifted (os : Os) (started : os.Started) (H : Type) (enc : TypeId × Value → H) :
    ReturnsInHanded {} Try.checked os 4 .any (Rows.integerDividesSpec.pre6 enc Try.prog Try.f4 Rows.integerDividesRow.domain false) (Rows.integerDividesSpec.post enc Try.prog Try.f4 false true false false) := by
  refine returnsInHanded_of_change (C := Try.checked) own_knob started (by kernel_rfl) Try.func4
    (ChangeSpec.witness6 (enc := enc) (C := Try.checked) false ⟨#[], #[.agg #[.slice none 0 0, .bool false], .agg #[.slice none 0 0, .bool false]], []⟩ 8 (by kernel_rfl) (by kernel_rfl) (by kernel_rfl) (by kernel_rfl)) ?_
  intro W base args ds gs before hval0 hW hcnd _
  have hval : ∀ (j : Nat) t v, Try.f4.params[j]? = some t → args[j]? = some v → Value.okWide Try.prog W .any base t v := hval0
  have hW' := hW
  obtain ⟨p, q, hA0, hV, rfl, hfz, hnd⟩ := hW
  have hA : DataW.TrodAll enc Try.prog W 0 (fun _ => true) true Try.f4.params.toList args.toList ds p := hA0
  rw [Try.params4] at hA hval
  obtain ⟨v0, vs0, d0, ds0, p0, q0, hargs, rfl, rfl, h0, r0⟩ := trodAll_cons hA
  obtain ⟨v1, vs1, d1, ds1, p1, q1, rfl, rfl, rfl, h1, r1⟩ := trodAll_cons r0
  obtain ⟨rfl, rfl, rfl⟩ := trodAll_nil r1
  obtain rfl : args = #[v0, v1] := by cases args; simp_all
  obtain ⟨l0, s0, hl0, hll0, hr0⟩ := rep_raw Try.underlying24 (by kernel_rfl) cells_raw Try.underlying22 Try.underlying26 cells_u32 Try.underlying4 (hval 0 24 v0 rfl rfl) h0
  obtain ⟨l1, s1, hl1, hll1, hr1⟩ := rep_raw Try.underlying24 (by kernel_rfl) cells_raw Try.underlying22 Try.underlying26 cells_u32 Try.underlying4 (hval 1 24 v1 rfl rfl) h1
  have hc := law_calls (w := W) (vs := [v0, v1]) (lawDivides_V l0 l1 s0 s1 hl0 hll0 hl1 hll1) rfl (fun j x v hx hv => by
    match j with
    | 0 => simp at hx hv; subst hx hv; exact hr0
    | 1 => simp at hx hv; subst hx hv; exact hr1
    | j + 2 => simp at hx)
  refine hc.mono fun e W' ⟨he, hb⟩ => ⟨_, he, ?_⟩
  exact law_post (tb := 4) rfl laid_out (by rw [Try.params4]; exact of_decide_eq_true (by kernel_rfl)) rfl Try.underlying4 rfl hW' hb
theorem integerDivides_over : Rows.integerDividesRow.holds Try.pinned (OpenSpec.ofChange Rows.integerDividesSpec) :=
  OpenClaim.holds_of_wide 4 Try.f4 rfl rfl rfl rfl rfl rfl rfl ⟨rfl, rfl, rfl, rfl, rfl⟩ rfl rfl rfl rfl rfl (by kernel_rfl) Try.func4 (by kernel_rfl)
    (of_decide_eq_true (by kernel_rfl)) (by unfold Func.isWrapper; first | (rw [if_pos (by decide +kernel)]; kernel_rfl) | (rw [if_neg (by decide +kernel)]; exact ⟨rfl, rfl⟩))
    (fun os started H enc _ => integerDivides_lifted os started H enc)
theorem integerDivides_proved : Rows.IntegerDividesSaid := integerDivides_over
#print axioms integerDivides_proved
end Go.Proofs.Ytbnhnmpgbpejaaa
