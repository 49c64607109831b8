/- IntegerPowers: whatever two integers are made of the limbs and signs that come in, and whatever the exponents, the law returns true, and the input reads as it did. No condition. -/
import Derived.Test.YtbnhnmpgbpejaaaP24
import Derived.Test.YtbnhnmpgbpejaaaP23
namespace Go.Proofs.Ytbnhnmpgbpejaaa
set_option linter.unusedSimpArgs false
set_option linter.unusedVariables false
open Go.ChangeShapes Go.WideShapes Go.ChangeAt Go.RowKit

set_option maxRecDepth 100000 in
theorem integerPowers_lifted (os : Os) (started : os.Started) (H : Type) (enc : TypeId × Value → H) :
    ReturnsInHanded {} Try.checked os 6 .any (Rows.integerPowersSpec.pre6 enc Try.prog Try.f6 Rows.integerPowersRow.domain false) (Rows.integerPowersSpec.post enc Try.prog Try.f6 false true false false) := by
  refine returnsInHanded_of_change (C := Try.checked) own_knob started (by kernel_rfl) Try.func6
    (ChangeSpec.witness6 (enc := enc) (C := Try.checked) false ⟨#[], #[.agg #[.slice none 0 0, .bool false], .agg #[.slice none 0 0, .bool false], .agg #[.int .i64 0, .int .i64 0]], []⟩ 8 (by kernel_rfl) (by kernel_rfl) (by kernel_rfl) (by kernel_rfl)) ?_
  intro W base args ds gs before hval0 hW hcnd _
  have hval : ∀ (j : Nat) t v, Try.f6.params[j]? = some t → args[j]? = some v → Value.okWide Try.prog W .any base t v := hval0
  have hW' := hW
  obtain ⟨p, q, hA0, hV, rfl, hfz, hnd⟩ := hW
  have hA : DataW.TrodAll enc Try.prog W 0 (fun _ => true) true Try.f6.params.toList args.toList ds p := hA0
  rw [Try.params6] at hA hval
  obtain ⟨v0, vs0, d0, ds0, p0, q0, hargs, rfl, rfl, h0, r0⟩ := trodAll_cons hA
  obtain ⟨v1, vs1, d1, ds1, p1, q1, rfl, rfl, rfl, h1, r1⟩ := trodAll_cons r0
  obtain ⟨v2, vs2, d2, ds2, p2, q2, rfl, rfl, rfl, h2, r2⟩ := trodAll_cons r1
  obtain ⟨rfl, rfl, rfl⟩ := trodAll_nil r2
  obtain rfl : args = #[v0, v1, v2] := by cases args; simp_all
  obtain ⟨l0, s0, hl0, hll0, hr0⟩ := rep_raw Try.underlying24 (by kernel_rfl) cells_raw Try.underlying22 Try.underlying26 cells_u32 Try.underlying4 (hval 0 24 v0 rfl rfl) h0
  obtain ⟨l1, s1, hl1, hll1, hr1⟩ := rep_raw Try.underlying24 (by kernel_rfl) cells_raw Try.underlying22 Try.underlying26 cells_u32 Try.underlying4 (hval 1 24 v1 rfl rfl) h1
  obtain ⟨n2, m2, hn2, hm2, hr2⟩ := rep_ii Try.underlying45 Try.underlying3 cells_ii cells_int (hval 2 45 v2 rfl rfl) h2
  have hc := law_calls (w := W) (vs := [v0, v1, v2]) (lawPowers_V l0 l1 n2 m2 s0 s1 hl0 hll0 hl1 hll1 hn2 hm2) rfl (fun j x v hx hv => by
    match j with
    | 0 => simp at hx hv; subst hx hv; exact hr0
    | 1 => simp at hx hv; subst hx hv; exact hr1
    | 2 => simp at hx hv; subst hx hv; exact hr2
    | j + 3 => simp at hx)
  refine hc.mono fun e W' ⟨he, hb⟩ => ⟨_, he, ?_⟩
  exact law_post (tb := 4) rfl laid_out (by rw [Try.params6]; exact of_decide_eq_true (by kernel_rfl)) rfl Try.underlying4 rfl hW' hb
theorem integerPowers_over : Rows.integerPowersRow.holds Try.pinned (OpenSpec.ofChange Rows.integerPowersSpec) :=
  OpenClaim.holds_of_wide 6 Try.f6 rfl rfl rfl rfl rfl rfl rfl ⟨rfl, rfl, rfl, rfl, rfl⟩ rfl rfl rfl rfl rfl (by kernel_rfl) Try.func6 (by kernel_rfl)
    (of_decide_eq_true (by kernel_rfl)) (by unfold Func.isWrapper; first | (rw [if_pos (by decide +kernel)]; kernel_rfl) | (rw [if_neg (by decide +kernel)]; exact ⟨rfl, rfl⟩))
    (fun os started H enc _ => integerPowers_lifted os started H enc)
theorem integerPowers_proved : Rows.IntegerPowersSaid := integerPowers_over
#print axioms integerPowers_proved
end Go.Proofs.Ytbnhnmpgbpejaaa
