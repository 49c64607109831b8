/- Rows of limbs and of bytes in the abstract run. -/
import Derived.Test.YtbnhnmpgbpejaaaA22
import Derived.Test.YtbnhnmpgbpejaaaTy
namespace Go.Proofs.Ytbnhnmpgbpejaaa
set_option linter.unusedSimpArgs false
set_option linter.unusedVariables false
open Go.RowKit

theorem mixed : Try.prog.follows .mixedOrders = true := by rfl
@[go_sem] theorem limbs_len (l : List Nat) : (V.limbs l).length = l.length := by simp [V.limbs]
theorem limbs_get {l : List Nat} {i : Nat} (h : i < l.length) : (V.limbs l)[i]? = some (.raw (.int .u32 (at0 l i))) := by
  simp [V.limbs, at0, List.getElem?_eq_getElem h]
@[go_sem ↓, go_sem] theorem ev_limbs_get {l : List Nat} {i : Nat} {k : V → Prop} : optC (V.limbs l)[i]? k = (i < l.length ∧ k (.raw (.int .u32 (at0 l i : Nat)))) := by
  by_cases h : i < l.length
  · rw [limbs_get h]; simp [optC, h]
  · have : (V.limbs l)[i]? = none := by rw [List.getElem?_eq_none]; rw [limbs_len]; omega
    rw [this]; simp [optC, h]
@[go_sem] theorem limbs_take (l : List Nat) (n : Nat) : (V.limbs l).take n = V.limbs (l.take n) := by simp [V.limbs]
@[go_sem] theorem limbs_drop (l : List Nat) (n : Nat) : (V.limbs l).drop n = V.limbs (l.drop n) := by simp [V.limbs]
@[go_sem] theorem limbs_append (l m : List Nat) : V.limbs l ++ V.limbs m = V.limbs (l ++ m) := by simp [V.limbs]
@[go_sem] theorem limbs_wid (l : List Nat) : allWid (V.limbs l) 1 = True := by
  simp only [eq_iff_iff, iff_true]
  intro y hy
  obtain ⟨x, _, rfl⟩ := List.mem_map.1 hy
  rfl
@[go_sem] theorem limbs_wid' (l : List Nat) : (∀ y ∈ V.limbs l, y.atoms.length = 1) = True := by
  simp only [eq_iff_iff, iff_true]
  intro y hy
  obtain ⟨x, _, rfl⟩ := List.mem_map.1 hy
  rfl
@[go_sem] theorem limbs_good (l : List Nat) : allGood (V.limbs l) = True := by
  simp only [eq_iff_iff, iff_true]
  intro y hy
  obtain ⟨x, _, rfl⟩ := List.mem_map.1 hy
  rfl
@[go_sem] theorem limbs_pure (l : List Nat) : allPure (V.limbs l) = True := by
  simp only [eq_iff_iff, iff_true]
  intro y hy
  obtain ⟨x, _, rfl⟩ := List.mem_map.1 hy
  rfl
theorem limbs_set {l : List Nat} {i x : Nat} {X : Int} (h : X = x) : (V.limbs l).set i (.raw (.int .u32 X)) = V.limbs (l.set i x) := by
  subst h; simp [V.limbs, List.map_set]
@[go_sem] theorem limbs_rep (n : Nat) : List.replicate n (.raw (.int .u32 0)) = V.limbs (List.replicate n 0) := by simp [V.limbs]
@[go_sem] theorem limbs_setN (l : List Nat) (i x : Nat) : (V.limbs l).set i (.raw (.int .u32 (x : Nat))) = V.limbs (l.set i x) := limbs_set rfl
theorem limbs_nil : ([] : List V) = V.limbs [] := rfl
theorem limbs_one {x : Nat} {X : Int} (h : X = x) : [V.raw (.int .u32 X)] = V.limbs [x] := by subst h; rfl
theorem limbs_two {x y : Nat} {X Y : Int} (h : X = x) (h' : Y = y) : [V.raw (.int .u32 X), V.raw (.int .u32 Y)] = V.limbs [x, y] := by subst h h'; rfl
/-- The integer that a sign and limbs are. -/
def sv (s : Bool) (l : List Nat) : Int := if s = true then -(lv l : Int) else lv l
theorem sv_natAbs (s : Bool) (l : List Nat) : (sv s l).natAbs = lv l := by unfold sv; split <;> omega
/-- A sign and canonical limbs are an integer. -/
theorem atoms_I {s : Bool} {l : List Nat} (hl : Canon l) (hs : s = true → l ≠ []) : V.atoms (.I (sv s l)) = [.raw (.bool s), .lst (V.limbs l)] := by
  have e : dg (sv s l).natAbs = l := by rw [sv_natAbs]; exact (dg_of_canon hl rfl).symm
  have h2 : decide (sv s l < 0) = s := by
    cases s
    · simp [sv]
    · have := lv_pos hl (hs rfl); simp [sv]; omega
  show V.atomsI _ = _
  unfold V.atomsI
  rw [e, h2]
theorem out_I {s : Bool} {l : List Nat} {z : Int} (hl : Canon l) (hs : s = true → l ≠ []) (hz : z = sv s l) : OutEq (.agg [.raw (.bool s), .lst (V.limbs l)]) (.I z) := by
  subst hz
  refine .atoms rfl rfl ?_
  rw [atoms_I hl hs]
  simp [V.atoms, V.atomsL]
theorem out_I0 {z : Int} (hz : z = 0) : OutEq (.agg [.raw (.bool false), .emp]) (.I z) := by
  subst hz
  exact .inr (.inl ⟨rfl, rfl, rfl, rfl, trivial⟩)
theorem out_In {z : Int} (hz : z = 0) : OutEq (.agg [.raw (.bool false), .raw (.slice none 0 0)]) (.I z) := by
  subst hz
  exact .inr (.inl ⟨rfl, rfl, rfl, ⟨rfl, rfl⟩, trivial⟩)
theorem sv_open (z : Int) : ∃ s l, z = sv s l ∧ Canon l ∧ (s = true → l ≠ []) ∧ dg z.natAbs = l ∧ decide (z < 0) = s ∧ l.length = dl z.natAbs := by
  refine ⟨decide (z < 0), dg z.natAbs, ?_, dg_canon _, ?_, rfl, rfl, rfl⟩
  · unfold sv; rw [lv_dg]; by_cases hz : z < 0 <;> simp [hz] <;> omega
  · intro hz e; rw [dg_eq_nil] at e; simp at hz; omega
theorem sv_zero {s : Bool} {l : List Nat} (hl : Canon l) : sv s l = 0 ↔ l = [] := by
  constructor
  · intro h
    have : lv l = 0 := by rw [← sv_natAbs s l, h]; rfl
    by_cases e : l = []
    · exact e
    · have := lv_pos hl e; omega
  · rintro rfl; cases s <;> rfl
attribute [go_sem] Int.toNat_natCast List.length_replicate List.length_append List.length_set List.length_take List.length_drop decide_eq_true_eq decide_eq_false_iff_not
theorem raw_int {k : IntKind} {a b : Int} (h : a = b) : V.raw (.int k a) = .raw (.int k b) := by rw [h]
theorem out_int {k : IntKind} {a b : Int} (h : a = b) : OutEq (V.raw (.int k a)) (.raw (.int k b)) := .inl (by rw [h])
theorem out_bool {a b : Bool} (h : a = b) : OutEq (V.raw (.bool a)) (.raw (.bool b)) := .inl (by rw [h])
end Go.Proofs.Ytbnhnmpgbpejaaa
