/- MatrixConsistent: a right side that is a product is always solved, and the solution differs by the kernel. No condition. -/
import Derived.Test.YtjjebokgckmnjaaR16
import Derived.Test.YtjjebokgckmnjaaR22
import Derived.Test.YtjjebokgckmnjaaR34
namespace Go.Proofs.Ytjjebokgckmnjaa
set_option linter.unusedSimpArgs false
set_option linter.unusedVariables false
open Go.ChangeShapes Go.WideShapes Go.ChangeAt Go.RowKit

set_option maxRecDepth 100000 in
theorem matrixConsistent_lifted (os : Os) (started : os.Started) (H : Type) (enc : TypeId × Value → H) :
    ReturnsInHanded {} Try.checked os 5 .any (Rows.matrixConsistentSpec.pre6 enc Try.prog Try.f5 Rows.matrixConsistentRow.domain false) (Rows.matrixConsistentSpec.post enc Try.prog Try.f5 false true false false) := by
  refine returnsInHanded_of_change (C := Try.checked) own_knob started (by kernel_rfl) Try.func5
    (ChangeSpec.witness6 (enc := enc) (C := Try.checked) false ⟨#[], #[.agg #[.int .u8 0, .int .u8 0, .slice none 0 0], .slice none 0 0], []⟩ 8 (by kernel_rfl) (by kernel_rfl) (by kernel_rfl) (by kernel_rfl)) ?_
  intro W base args ds gs before hval0 hW hcnd _
  have hval : ∀ (j : Nat) t v, Try.f5.params[j]? = some t → args[j]? = some v → Value.okWide Try.prog W .any base t v := hval0
  have hW' := hW
  obtain ⟨p, q, hA0, hV, rfl, hfz, hnd⟩ := hW
  have hA : DataW.TrodAll enc Try.prog W 0 (fun _ => true) true Try.f5.params.toList args.toList ds p := hA0
  rw [Try.params5] at hA hval
  obtain ⟨v0, vs0, d0, ds0, p0, q0, hargs, rfl, rfl, h0, r0⟩ := trodAll_cons hA
  obtain ⟨v1, vs1, d1, ds1, p1, q1, rfl, rfl, rfl, h1, r1⟩ := trodAll_cons r0
  obtain ⟨rfl, rfl, rfl⟩ := trodAll_nil r1
  obtain rfl : args = #[v0, v1] := by cases args; simp_all
  obtain ⟨X0, f0, hr0⟩ := rep_fits 6 (by kernel_rfl) (hval 0 24 v0 rfl rfl) h0
  obtain ⟨X1, f1, hr1⟩ := rep_fits 6 (by kernel_rfl) (hval 1 22 v1 rfl rfl) h1
  have hc := law_calls (w := W) (vs := [v0, v1]) (lawCons5_F X0 X1 f0 f1) rfl (fun j x v hx hv => by
    match j with
    | 0 => simp at hx hv; subst hx hv; exact hr0
    | 1 => simp at hx hv; subst hx hv; exact hr1
    | j + 2 => simp at hx)
  refine hc.mono fun e W' ⟨he, hb⟩ => ⟨_, he, ?_⟩
  exact law_post (tb := 4) rfl laid_out (by rw [Try.params5]; exact of_decide_eq_true (by kernel_rfl)) rfl Try.underlying4 rfl hW' hb
theorem matrixConsistent_over : Rows.matrixConsistentRow.holds Try.pinned (OpenSpec.ofChange Rows.matrixConsistentSpec) :=
  OpenClaim.holds_of_wide 5 Try.f5 rfl rfl rfl rfl rfl rfl rfl ⟨rfl, rfl, rfl, rfl, rfl⟩ rfl rfl rfl rfl rfl (by kernel_rfl) Try.func5 (by kernel_rfl)
    (of_decide_eq_true (by kernel_rfl)) (by unfold Func.isWrapper; first | (rw [if_pos (by decide +kernel)]; kernel_rfl) | (rw [if_neg (by decide +kernel)]; exact ⟨rfl, rfl⟩))
    (fun os started H enc _ => matrixConsistent_lifted os started H enc)
theorem matrixConsistent_proved : Rows.MatrixConsistentSaid := matrixConsistent_over
#print axioms matrixConsistent_proved
end Go.Proofs.Ytjjebokgckmnjaa

