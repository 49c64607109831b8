/- Texts E6 in one. -/
import Derived.Test.YtfbogelmgdojgaaGreatP20
/- Contracts of the reference: divide for one limb, DivMod, Gcd. -/
namespace Go.Proofs.YtfbogelmgdojgaaGreat
set_option linter.unusedSimpArgs false
set_option linter.unusedVariables false
open Go.RowKit

/-- The reference's division of absolute values works for divisors of at most N limbs. -/
def RDivTo (N : Nat) : Prop := ∀ l m : List Nat, Canon l → Canon m → m ≠ [] → l.length ≤ 1000000000000 → m.length ≤ 1000000000000 → m.length ≤ N →
  PCall Tryz.prog 148 [.lst (V.limbs l), .lst (V.limbs m)] (.tup [.I (lv l / lv m : Nat), .I (lv l % lv m : Nat)])
set_option maxRecDepth 2000 in
theorem rdiv_short (l : List Nat) (y : Nat) (hl : Canon l) (hm : Canon [y]) (h1 : l.length ≤ 1000000000000) :
    PCall Tryz.prog 148 [.lst (V.limbs l), .lst (V.limbs [y])] (.tup [.I (lv l / lv [y] : Nat), .I (lv l % lv [y] : Nat)]) := by
  refine PCall.of_vc (tabs mixed (tbl_cons rshort_C (tbl_cons rmade_C tbl_nil))) Tryz.func148 rfl Tryz.ntmps148 Tryz.results148 (by simp) ?_
  have c2 : (((([y] : List Nat).length : Nat) : Int) == 1) = true := rfl
  have hy := hm.1.head
  have hy0 : y ≠ 0 := hm.2 (by simp)
  have hlt := Nat.mod_lt (lv l) (Nat.pos_of_ne_zero hy0)
  have s1 : sv false (nl l.length (lv l / y)) = ((lv l / y : Nat) : Int) := by
    rw [sv_false, lv_nl _ _ (Nat.lt_of_le_of_lt (Nat.div_le_self _ _) (lv_lt hl.1))]
  have s2 : sv false [lv l % y] = ((lv l % y : Nat) : Int) := by rw [sv_false, lv_one]
  have t1 : ([lv l % y] : List Nat).take 1 = [lv l % y] := rfl
  rw [lv_one]
  simp only [go_sem, c2, at0_cons_zero, s1, s2, nl_length, List.set_cons_zero, t1]
  exact ⟨⟨hl.1, by omega, by omega, by omega⟩, ⟨nl_lim _ _, by omega⟩, Lim.cons (by omega) Lim.nil⟩
theorem rdivTo_one : RDivTo 1 := fun l m hl hm h0 h1 h2 hN => by
  match m, h0, hN with
  | [y], _, _ => exact rdiv_short l y hl hm h1
def kRDivide (N : Nat) : Con := con2 pL pL fun l m => ((Canon l ∧ Canon m) ∧ m ≠ [] ∧ l.length ≤ 1000000000000 ∧ m.length ≤ 1000000000000 ∧ m.length ≤ N, .tup [.I (lv l / lv m : Nat), .I (lv l % lv m : Nat)])
attribute [go_sem ↓, go_sem] kRDivide
theorem rdivide_C {N : Nat} (hL : RDivTo N) : Ctr Tryz.prog 148 (kRDivide N) := Ctr.c2 (by kernel_rfl) fun l m h => hL l m h.1.1 h.1.2 h.2.1 h.2.2.1 h.2.2.2.1 h.2.2.2.2
set_option maxRecDepth 8000 in
set_option maxHeartbeats 2000000 in
theorem rdivMod_V {N : Nat} (hL : RDivTo N) (x y : Int) (hx : dl x.natAbs ≤ 100000000000) (hy : dl y.natAbs ≤ 100000000000) (hN : dl y.natAbs ≤ N) :
    PCall Tryz.prog 140 [.I x, .I y] (dmR x y) := by
  obtain ⟨s, l, hz, hl, hs, e1, e2, e3⟩ := sv_open x
  obtain ⟨t, m, hz', hm, ht, f1, f2, f3⟩ := sv_open y
  refine PCall.of_vc (tabs mixed (tbl_cons (rdivide_C hL) (tbl_cons rmade_C (tbl_cons radd_C (tbl_cons rof_C (tbl_cons rsub_C (tbl_cons (C := kRNeg) rneg_C (tbl_cons rsign_C tbl_nil)))))))) Tryz.func140 rfl Tryz.ntmps140 Tryz.results140 (by simp) ?_
  unfold dmR
  have z1 : sv s l = x := hz.symm
  have z2 : sv t m = y := hz'.symm
  by_cases hy0 : y = 0
  · have hm0 : m = [] := by rw [← sv_zero (s := t) hm, ← hz', hy0]
    rw [if_pos hy0]
    have b0 : (sgI y == 0) = true := by rw [hy0]; rfl
    have m1 := hl.1
    have m2 := hm.1
    simp only [go_sem, e1, e2, f1, f2, z1, z2, b0]
    exact ⟨⟨m1, by omega⟩, ⟨m2, by omega⟩, by rfl, out_In rfl⟩
  · have hm0 : m ≠ [] := fun h => hy0 (by rw [hz']; exact (sv_zero hm).2 h)
    have b0 : (sgI y == 0) = false := by
      have : sgI y ≠ 0 := fun h => hy0 (by unfold sgI cmpI at h; split at h <;> (try split at h) <;> omega)
      simpa using this
    have hp := lv_pos hm hm0
    rw [if_neg hy0]
    have d1 : dl (Int.natAbs 1) ≤ 4000000000000 := Nat.le_trans (dl_le (k := 1).2 (by decide)) (by decide)
    have d2 : dl (lv l / lv m) ≤ l.length := dl_le.2 (Nat.lt_of_le_of_lt (Nat.div_le_self _ _) (lv_lt hl.1))
    have hrm := Nat.mod_lt (lv l) hp
    have d3 : dl (lv l % lv m) ≤ m.length := dl_le.2 (Nat.lt_trans hrm (lv_lt hm.1))
    have g1 : sv s l / sv t m = x / y := by rw [hz, hz']
    have g2 : sv s l % sv t m = x % y := by rw [hz, hz']
    have m1 := hl.1
    have m2 := hm.1
    have d4 : dl (((lv l / lv m : Nat) : Int)).natAbs ≤ l.length := by rw [Int.natAbs_natCast]; exact d2
    have d5 : dl (sv false m).natAbs ≤ m.length := by rw [sv_natAbs]; exact dl_le_of_lim hm.1
    have d6 : dl (((lv l % lv m : Nat) : Int)).natAbs ≤ m.length := by rw [Int.natAbs_natCast]; exact d3
    have d7 := dl_addI ((lv l / lv m : Nat) : Int) 1
    by_cases hR : s = false ∨ lv l % lv m = 0
    · obtain ⟨h1, h2⟩ := dm_pos (t := t) (l := l) hp hR
      rw [← g1, ← g2, h1, h2]
      cases s
      · cases t
        · simp only [go_sem, e1, e2, f1, f2, z1, z2, b0]
          and_intros <;> first | rfl | assumption | omega | exact hl.2 | exact hm.2
        · simp only [go_sem, e1, e2, f1, f2, z1, z2, b0]
          and_intros <;> first | rfl | assumption | omega | exact hl.2 | exact hm.2
      · have hR2 : ¬ 0 < sgI ((lv l % lv m : Nat) : Int) := by
          have h0 : lv l % lv m = 0 := by simpa using hR
          rw [h0]; decide
        cases t
        · simp only [go_sem, e1, e2, f1, f2, z1, z2, b0, hR2]
          and_intros <;> first | rfl | assumption | omega | exact hl.2 | exact hm.2
        · simp only [go_sem, e1, e2, f1, f2, z1, z2, b0, hR2]
          and_intros <;> first | rfl | assumption | omega | exact hl.2 | exact hm.2
    · have hs1 : s = true := by
        cases s
        · exact absurd (.inl rfl) hR
        · rfl
      have hR0 : lv l % lv m ≠ 0 := fun h => hR (.inr h)
      subst hs1
      have c1 : 0 < sgI ((lv l % lv m : Nat) : Int) := by
        rw [show sgI ((lv l % lv m : Nat) : Int) = 1 from cmpI_gt (by omega)]; decide
      obtain ⟨h1, h2⟩ := dm_neg (t := t) (l := l) hp hR0
      rw [← g1, ← g2, h1, h2]
      have z3 : sv false m - ((lv l % lv m : Nat) : Int) = ((lv m - lv l % lv m : Nat) : Int) := by rw [sv_false]; omega
      have z4 : sv false m = ((lv m : Nat) : Int) := rfl
      cases t
      · have z5 : y - ((lv l % lv m : Nat) : Int) = ((lv m - lv l % lv m : Nat) : Int) := by rw [hz']; exact z3
        simp only [go_sem, e1, e2, f1, f2, z1, z2, b0, c1, z5]
        and_intros <;> first | rfl | assumption | omega | exact hl.2 | exact hm.2
      · simp only [go_sem, e1, e2, f1, f2, z1, z2, b0, c1, z3]
        and_intros <;> first | rfl | assumption | omega | exact hl.2 | exact hm.2
def kRDivMod (N : Nat) : Con := con2 pI pI fun x y => (dl x.natAbs ≤ 100000000000 ∧ dl y.natAbs ≤ 100000000000 ∧ dl y.natAbs ≤ N, dmR x y)
attribute [go_sem ↓, go_sem] kRDivMod
theorem rdivMod_C {N : Nat} (hL : RDivTo N) : Ctr Tryz.prog 140 (kRDivMod N) := Ctr.c2 (by kernel_rfl) fun x y h => rdivMod_V hL x y h.1 h.2.1 h.2.2
end Go.Proofs.YtfbogelmgdojgaaGreat
