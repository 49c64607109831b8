/- PolyResultant: the resultant agrees with the determinant of the Sylvester matrix, is multiplicative, changes its sign as the rows are exchanged, and vanishes exactly if there is a common factor. No condition. -/
import Derived.Test.YthhpmapbhdebeaaGreatR16
import Derived.Test.YthhpmapbhdebeaaGreatR23
import Derived.Test.YthhpmapbhdebeaaGreatR32
namespace Go.Proofs.YthhpmapbhdebeaaGreat
set_option linter.unusedSimpArgs false
set_option linter.unusedVariables false
open Go.ChangeShapes Go.WideShapes Go.ChangeAt Go.RowKit

set_option maxRecDepth 100000 in
theorem polyResultant_lifted (os : Os) (started : os.Started) (H : Type) (enc : TypeId × Value → H) :
    ReturnsInHanded {} Tryz.checked os 4 .any (Rows.polyResultantSpec.pre6 enc Tryz.prog Tryz.f4 Rows.polyResultantRow.domain false) (Rows.polyResultantSpec.post enc Tryz.prog Tryz.f4 false true false false) := by
  refine returnsInHanded_of_change (C := Tryz.checked) own_knob started (by kernel_rfl) Tryz.func4
    (ChangeSpec.witness6 (enc := enc) (C := Tryz.checked) false ⟨#[], #[.agg #[.slice none 0 0, .slice none 0 0, .slice none 0 0, .int .i8 0, .int .i8 0]], []⟩ 8 (by kernel_rfl) (by kernel_rfl) (by kernel_rfl) (by kernel_rfl)) ?_
  intro W base args ds gs before hval0 hW hcnd _
  have hval : ∀ (j : Nat) t v, Tryz.f4.params[j]? = some t → args[j]? = some v → Value.okWide Tryz.prog W .any base t v := hval0
  have hW' := hW
  obtain ⟨p, q, hA0, hV, rfl, hfz, hnd⟩ := hW
  have hA : DataW.TrodAll enc Tryz.prog W 0 (fun _ => true) true Tryz.f4.params.toList args.toList ds p := hA0
  rw [Tryz.params4] at hA hval
  obtain ⟨v0, vs0, d0, ds0, p0, q0, hargs, rfl, rfl, h0, r0⟩ := trodAll_cons hA
  obtain ⟨rfl, rfl, rfl⟩ := trodAll_nil r0
  obtain rfl : args = #[v0] := by cases args; simp_all
  obtain ⟨X0, f0, hr0⟩ := rep_fits 6 (by kernel_rfl) (hval 0 26 v0 rfl rfl) h0
  have hc := law_calls (w := W) (vs := [v0]) (lawResultant_F X0 f0) rfl (fun j x v hx hv => by
    match j with
    | 0 => simp at hx hv; subst hx hv; exact hr0
    | j + 1 => simp at hx)
  refine hc.mono fun e W' ⟨he, hb⟩ => ⟨_, he, ?_⟩
  exact law_post (tb := 4) rfl laid_out (by rw [Tryz.params4]; exact of_decide_eq_true (by kernel_rfl)) rfl Tryz.underlying4 rfl hW' hb
theorem polyResultant_over : Rows.polyResultantRow.holds Tryz.pinned (OpenSpec.ofChange Rows.polyResultantSpec) :=
  OpenClaim.holds_of_wide 4 Tryz.f4 rfl rfl rfl rfl rfl rfl rfl ⟨rfl, rfl, rfl, rfl, rfl⟩ rfl rfl rfl rfl rfl (by kernel_rfl) Tryz.func4 (by kernel_rfl)
    (of_decide_eq_true (by kernel_rfl)) (by unfold Func.isWrapper; first | (rw [if_pos (by decide +kernel)]; kernel_rfl) | (rw [if_neg (by decide +kernel)]; exact ⟨rfl, rfl⟩))
    (fun os started H enc _ => polyResultant_lifted os started H enc)
theorem polyResultant_proved : Rows.PolyResultantSaid := polyResultant_over
#print axioms polyResultant_proved
end Go.Proofs.YthhpmapbhdebeaaGreat

