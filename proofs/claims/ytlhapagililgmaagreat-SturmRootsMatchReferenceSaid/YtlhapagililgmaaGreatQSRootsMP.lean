/- SturmRootsMatchReference: Rationals and Integers return the roots of the reference, at which the polynomial is 0. No condition. -/
import Derived.Test.YtlhapagililgmaaGreatR16
import Derived.Test.YtlhapagililgmaaGreatR23
import Derived.Test.YtlhapagililgmaaGreatR37
namespace Go.Proofs.YtlhapagililgmaaGreat
set_option linter.unusedSimpArgs false
set_option linter.unusedVariables false
open Go.ChangeShapes Go.WideShapes Go.ChangeAt Go.RowKit

set_option maxRecDepth 100000 in
theorem sturmRootsMatchReference_lifted (os : Os) (started : os.Started) (H : Type) (enc : TypeId × Value → H) :
 ReturnsInHanded {} Tryz.checked os 9 .any (Rows.sturmRootsMatchReferenceSpec.pre6 enc Tryz.prog Tryz.f9 Rows.sturmRootsMatchReferenceRow.domain false) (Rows.sturmRootsMatchReferenceSpec.post enc Tryz.prog Tryz.f9 false true false false) := by
 refine returnsInHanded_of_change (C := Tryz.checked) own_knob started (by kernel_rfl) Tryz.func9
  (ChangeSpec.witness6 (enc := enc) (C := Tryz.checked) false ⟨#[], #[.agg #[.slice none 0 0, .slice none 0 0]], []⟩ 8 (by kernel_rfl) (by kernel_rfl) (by kernel_rfl) (by kernel_rfl)) ?_
 intro W base args ds gs before hval0 hW hcnd _
 have hval : ∀ (j : Nat) t v, Tryz.f9.params[j]? = some t → args[j]? = some v → Value.okWide Tryz.prog W .any base t v := hval0
 have hW' := hW
 obtain ⟨p, q, hA0, hV, rfl, hfz, hnd⟩ := hW
 have hA : DataW.TrodAll enc Tryz.prog W 0 (fun _ => true) true Tryz.f9.params.toList args.toList ds p := hA0
 rw [Tryz.params9] at hA hval
 obtain ⟨v0, vs0, d0, ds0, p0, q0, hargs, rfl, rfl, h0, r0⟩ := trodAll_cons hA
 obtain ⟨rfl, rfl, rfl⟩ := trodAll_nil r0
 obtain rfl : args = #[v0] := by cases args; simp_all
 obtain ⟨X0, f0, hr0⟩ := rep_fits 6 (by kernel_rfl) (hval 0 25 v0 rfl rfl) h0
 have hc := law_calls (w := W) (vs := [v0]) (lawRootsM_F X0 f0) rfl (fun j x v hx hv => by
  match j with
  | 0 => simp at hx hv; subst hx hv; exact hr0
  | j + 1 => simp at hx)
 refine hc.mono fun e W' ⟨he, hb⟩ => ⟨_, he, ?_⟩
 exact law_post (tb := 4) rfl laid_out (by rw [Tryz.params9]; exact of_decide_eq_true (by kernel_rfl)) rfl Tryz.underlying4 rfl hW' hb
theorem sturmRootsMatchReference_over : Rows.sturmRootsMatchReferenceRow.holds Tryz.pinned (OpenSpec.ofChange Rows.sturmRootsMatchReferenceSpec) :=
 OpenClaim.holds_of_wide 9 Tryz.f9 rfl rfl rfl rfl rfl rfl rfl ⟨rfl, rfl, rfl, rfl, rfl⟩ rfl rfl rfl rfl rfl (by kernel_rfl) Tryz.func9 (by kernel_rfl)
  (of_decide_eq_true (by kernel_rfl)) (by unfold Func.isWrapper; first | (rw [if_pos (by decide +kernel)]; kernel_rfl) | (rw [if_neg (by decide +kernel)]; exact ⟨rfl, rfl⟩))
  (fun os started H enc _ => sturmRootsMatchReference_lifted os started H enc)
theorem sturmRootsMatchReference_proved : Rows.SturmRootsMatchReferenceSaid := sturmRootsMatchReference_over
#print axioms sturmRootsMatchReference_proved
end Go.Proofs.YtlhapagililgmaaGreat

