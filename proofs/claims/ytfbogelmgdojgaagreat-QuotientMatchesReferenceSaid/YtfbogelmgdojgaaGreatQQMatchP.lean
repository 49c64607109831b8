/- QuotientMatchesReference: QuotientMatchesReference: all functions of package quotient agree with the reference implementation. No condition. No condition. -/
import Derived.Test.YtfbogelmgdojgaaGreatR16
import Derived.Test.YtfbogelmgdojgaaGreatR23
import Derived.Test.YtfbogelmgdojgaaGreatR40
namespace Go.Proofs.YtfbogelmgdojgaaGreat
set_option linter.unusedSimpArgs false
set_option linter.unusedVariables false
open Go.ChangeShapes Go.WideShapes Go.ChangeAt Go.RowKit

set_option maxRecDepth 100000 in
theorem quotientMatchesReference_lifted (os : Os) (started : os.Started) (H : Type) (enc : TypeId × Value → H) :
 ReturnsInHanded {} Tryz.checked os 3 .any (Rows.quotientMatchesReferenceSpec.pre6 enc Tryz.prog Tryz.f3 Rows.quotientMatchesReferenceRow.domain false) (Rows.quotientMatchesReferenceSpec.post enc Tryz.prog Tryz.f3 false true false false) := by
 refine returnsInHanded_of_change (C := Tryz.checked) own_knob started (by kernel_rfl) Tryz.func3
  (ChangeSpec.witness6 (enc := enc) (C := Tryz.checked) false ⟨#[], #[.agg #[.slice none 0 0, .slice none 0 0, .slice none 0 0, .int .i8 0, .int .i8 0], .int .i8 0], []⟩ 8 (by kernel_rfl) (by kernel_rfl) (by kernel_rfl) (by kernel_rfl)) ?_
 intro W base args ds gs before hval0 hW hcnd _
 have hval : ∀ (j : Nat) t v, Tryz.f3.params[j]? = some t → args[j]? = some v → Value.okWide Tryz.prog W .any base t v := hval0
 have hW' := hW
 obtain ⟨p, q, hA0, hV, rfl, hfz, hnd⟩ := hW
 have hA : DataW.TrodAll enc Tryz.prog W 0 (fun _ => true) true Tryz.f3.params.toList args.toList ds p := hA0
 rw [Tryz.params3] at hA hval
 obtain ⟨v0, vs0, d0, ds0, p0, q0, hargs, rfl, rfl, h0, r0⟩ := trodAll_cons hA
 obtain ⟨v1, vs1, d1, ds1, p1, q1, rfl, rfl, rfl, h1, r1⟩ := trodAll_cons r0
 obtain ⟨rfl, rfl, rfl⟩ := trodAll_nil r1
 obtain rfl : args = #[v0, v1] := by cases args; simp_all
 obtain ⟨X0, f0, hr0⟩ := rep_fits 6 (by kernel_rfl) (hval 0 27 v0 rfl rfl) h0
 obtain ⟨X1, f1, hr1⟩ := rep_fits 6 (by kernel_rfl) (hval 1 24 v1 rfl rfl) h1
 have hc := law_calls (w := W) (vs := [v0, v1]) (lawMatches6_F X0 X1 f0 f1) rfl (fun j x v hx hv => by
  match j with
  | 0 => simp at hx hv; subst hx hv; exact hr0
  | 1 => simp at hx hv; subst hx hv; exact hr1
  | j + 2 => simp at hx)
 refine hc.mono fun e W' ⟨he, hb⟩ => ⟨_, he, ?_⟩
 exact law_post (tb := 4) rfl laid_out (by rw [Tryz.params3]; exact of_decide_eq_true (by kernel_rfl)) rfl Tryz.underlying4 rfl hW' hb
theorem quotientMatchesReference_over : Rows.quotientMatchesReferenceRow.holds Tryz.pinned (OpenSpec.ofChange Rows.quotientMatchesReferenceSpec) :=
 OpenClaim.holds_of_wide 3 Tryz.f3 rfl rfl rfl rfl rfl rfl rfl ⟨rfl, rfl, rfl, rfl, rfl⟩ rfl rfl rfl rfl rfl (by kernel_rfl) Tryz.func3 (by kernel_rfl)
  (of_decide_eq_true (by kernel_rfl)) (by unfold Func.isWrapper; first | (rw [if_pos (by decide +kernel)]; kernel_rfl) | (rw [if_neg (by decide +kernel)]; exact ⟨rfl, rfl⟩))
  (fun os started H enc _ => quotientMatchesReference_lifted os started H enc)
theorem quotientMatchesReference_proved : Rows.QuotientMatchesReferenceSaid := quotientMatchesReference_over
#print axioms quotientMatchesReference_proved
end Go.Proofs.YtfbogelmgdojgaaGreat

