/- SturmShifts: the roots of a shifted polynomial are the shifted roots. No condition. -/
import Derived.Test.YtlhapagililgmaaGreatR16
import Derived.Test.YtlhapagililgmaaGreatR23
import Derived.Test.YtlhapagililgmaaGreatR36
namespace Go.Proofs.YtlhapagililgmaaGreat
set_option linter.unusedSimpArgs false
set_option linter.unusedVariables false
open Go.ChangeShapes Go.WideShapes Go.ChangeAt Go.RowKit

set_option maxRecDepth 100000 in
theorem sturmShifts_lifted (os : Os) (started : os.Started) (H : Type) (enc : TypeId × Value → H) :
 ReturnsInHanded {} Tryz.checked os 10 .any (Rows.sturmShiftsSpec.pre6 enc Tryz.prog Tryz.f10 Rows.sturmShiftsRow.domain false) (Rows.sturmShiftsSpec.post enc Tryz.prog Tryz.f10 false true false false) := by
 refine returnsInHanded_of_change (C := Tryz.checked) own_knob started (by kernel_rfl) Tryz.func10
  (ChangeSpec.witness6 (enc := enc) (C := Tryz.checked) false ⟨#[], #[.agg #[.slice none 0 0, .slice none 0 0], .agg #[.int .i8 0, .int .i8 0, .int .i8 0, .int .i8 0], .agg #[.int .i8 0, .int .i8 0]], []⟩ 8 (by kernel_rfl) (by kernel_rfl) (by kernel_rfl) (by kernel_rfl)) ?_
 intro W base args ds gs before hval0 hW hcnd _
 have hval : ∀ (j : Nat) t v, Tryz.f10.params[j]? = some t → args[j]? = some v → Value.okWide Tryz.prog W .any base t v := hval0
 have hW' := hW
 obtain ⟨p, q, hA0, hV, rfl, hfz, hnd⟩ := hW
 have hA : DataW.TrodAll enc Tryz.prog W 0 (fun _ => true) true Tryz.f10.params.toList args.toList ds p := hA0
 rw [Tryz.params10] at hA hval
 obtain ⟨v0, vs0, d0, ds0, p0, q0, hargs, rfl, rfl, h0, r0⟩ := trodAll_cons hA
 obtain ⟨v1, vs1, d1, ds1, p1, q1, rfl, rfl, rfl, h1, r1⟩ := trodAll_cons r0
 obtain ⟨v2, vs2, d2, ds2, p2, q2, rfl, rfl, rfl, h2, r2⟩ := trodAll_cons r1
 obtain ⟨rfl, rfl, rfl⟩ := trodAll_nil r2
 obtain rfl : args = #[v0, v1, v2] := by cases args; simp_all
 obtain ⟨X0, f0, hr0⟩ := rep_fits 6 (by kernel_rfl) (hval 0 25 v0 rfl rfl) h0
 obtain ⟨X1, f1, hr1⟩ := rep_fits 6 (by kernel_rfl) (hval 1 41 v1 rfl rfl) h1
 obtain ⟨X2, f2, hr2⟩ := rep_fits 6 (by kernel_rfl) (hval 2 39 v2 rfl rfl) h2
 have hc := law_calls (w := W) (vs := [v0, v1, v2]) (lawShifts_F X0 X1 X2 f0 f1 f2) rfl (fun j x v hx hv => by
  match j with
  | 0 => simp at hx hv; subst hx hv; exact hr0
  | 1 => simp at hx hv; subst hx hv; exact hr1
  | 2 => simp at hx hv; subst hx hv; exact hr2
  | j + 3 => simp at hx)
 refine hc.mono fun e W' ⟨he, hb⟩ => ⟨_, he, ?_⟩
 exact law_post (tb := 4) rfl laid_out (by rw [Tryz.params10]; exact of_decide_eq_true (by kernel_rfl)) rfl Tryz.underlying4 rfl hW' hb
theorem sturmShifts_over : Rows.sturmShiftsRow.holds Tryz.pinned (OpenSpec.ofChange Rows.sturmShiftsSpec) :=
 OpenClaim.holds_of_wide 10 Tryz.f10 rfl rfl rfl rfl rfl rfl rfl ⟨rfl, rfl, rfl, rfl, rfl⟩ rfl rfl rfl rfl rfl (by kernel_rfl) Tryz.func10 (by kernel_rfl)
  (of_decide_eq_true (by kernel_rfl)) (by unfold Func.isWrapper; first | (rw [if_pos (by decide +kernel)]; kernel_rfl) | (rw [if_neg (by decide +kernel)]; exact ⟨rfl, rfl⟩))
  (fun os started H enc _ => sturmShifts_lifted os started H enc)
theorem sturmShifts_proved : Rows.SturmShiftsSaid := sturmShifts_over
#print axioms sturmShifts_proved
end Go.Proofs.YtlhapagililgmaaGreat

