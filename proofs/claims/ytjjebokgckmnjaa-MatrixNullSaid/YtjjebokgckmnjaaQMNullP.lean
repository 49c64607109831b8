/- MatrixNull: the vectors of the kernel solve the homogeneous system and belong to the free columns. No condition. -/
import Derived.Test.YtjjebokgckmnjaaR16
import Derived.Test.YtjjebokgckmnjaaR22
import Derived.Test.YtjjebokgckmnjaaR34
namespace Go.Proofs.Ytjjebokgckmnjaa
set_option linter.unusedSimpArgs false
set_option linter.unusedVariables false
open Go.ChangeShapes Go.WideShapes Go.ChangeAt Go.RowKit

set_option maxRecDepth 100000 in
theorem matrixNull_lifted (os : Os) (started : os.Started) (H : Type) (enc : TypeId × Value → H) :
    ReturnsInHanded {} Try.checked os 3 .any (Rows.matrixNullSpec.pre6 enc Try.prog Try.f3 Rows.matrixNullRow.domain false) (Rows.matrixNullSpec.post enc Try.prog Try.f3 false true false false) := by
  refine returnsInHanded_of_change (C := Try.checked) own_knob started (by kernel_rfl) Try.func3
    (ChangeSpec.witness6 (enc := enc) (C := Try.checked) false ⟨#[], #[.agg #[.int .u8 0, .int .u8 0, .slice none 0 0]], []⟩ 8 (by kernel_rfl) (by kernel_rfl) (by kernel_rfl) (by kernel_rfl)) ?_
  intro W base args ds gs before hval0 hW hcnd _
  have hval : ∀ (j : Nat) t v, Try.f3.params[j]? = some t → args[j]? = some v → Value.okWide Try.prog W .any base t v := hval0
  have hW' := hW
  obtain ⟨p, q, hA0, hV, rfl, hfz, hnd⟩ := hW
  have hA : DataW.TrodAll enc Try.prog W 0 (fun _ => true) true Try.f3.params.toList args.toList ds p := hA0
  rw [Try.params3] at hA hval
  obtain ⟨v0, vs0, d0, ds0, p0, q0, hargs, rfl, rfl, h0, r0⟩ := trodAll_cons hA
  obtain ⟨rfl, rfl, rfl⟩ := trodAll_nil r0
  obtain rfl : args = #[v0] := by cases args; simp_all
  obtain ⟨X0, f0, hr0⟩ := rep_fits 6 (by kernel_rfl) (hval 0 24 v0 rfl rfl) h0
  have hc := law_calls (w := W) (vs := [v0]) (lawNull5_F X0 f0) rfl (fun j x v hx hv => by
    match j with
    | 0 => simp at hx hv; subst hx hv; exact hr0
    | j + 1 => simp at hx)
  refine hc.mono fun e W' ⟨he, hb⟩ => ⟨_, he, ?_⟩
  exact law_post (tb := 4) rfl laid_out (by rw [Try.params3]; exact of_decide_eq_true (by kernel_rfl)) rfl Try.underlying4 rfl hW' hb
theorem matrixNull_over : Rows.matrixNullRow.holds Try.pinned (OpenSpec.ofChange Rows.matrixNullSpec) :=
  OpenClaim.holds_of_wide 3 Try.f3 rfl rfl rfl rfl rfl rfl rfl ⟨rfl, rfl, rfl, rfl, rfl⟩ rfl rfl rfl rfl rfl (by kernel_rfl) Try.func3 (by kernel_rfl)
    (of_decide_eq_true (by kernel_rfl)) (by unfold Func.isWrapper; first | (rw [if_pos (by decide +kernel)]; kernel_rfl) | (rw [if_neg (by decide +kernel)]; exact ⟨rfl, rfl⟩))
    (fun os started H enc _ => matrixNull_lifted os started H enc)
theorem matrixNull_proved : Rows.MatrixNullSaid := matrixNull_over
#print axioms matrixNull_proved
end Go.Proofs.Ytjjebokgckmnjaa

