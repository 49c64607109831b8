/- Texts F1 in one. -/
import Derived.Test.YtfbogelmgdojgaaGreatP18
import Derived.Test.YtfbogelmgdojgaaGreatP09
import Derived.Test.YtfbogelmgdojgaaGreatP28
import Derived.Test.YtfbogelmgdojgaaGreatP30
/- Rational numbers: patterns of values, plain laws of lowest terms and of sizes. -/
namespace Go.Proofs.YtfbogelmgdojgaaGreat
set_option linter.unusedSimpArgs false
set_option linter.unusedVariables false
open Go.RowKit

theorem beqF {a b : Int} (h : a ≠ b) : (a == b) = false := by simpa using h
theorem beqT {a b : Int} (h : a = b) : (a == b) = true := by simpa using h
theorem bneF {a b : Int} (h : a = b) : (a != b) = false := by simpa using h
theorem bneT {a b : Int} (h : a ≠ b) : (a != b) = true := by simpa using h
theorem sg_cases (x : Int) : (x < 0 ∧ sgI x = -1) ∨ (x = 0 ∧ sgI x = 0) ∨ (0 < x ∧ sgI x = 1) := by
  rcases Int.lt_trichotomy x 0 with h | h | h
  · exact .inl ⟨h, cmpI_lt h⟩
  · exact .inr (.inl ⟨h, by rw [h]; rfl⟩)
  · exact .inr (.inr ⟨h, cmpI_gt h⟩)
theorem atsLe_append : ∀ {a b c d : List V}, atsLe a b → atsLe c d → atsLe (a ++ c) (b ++ d)
  | [], [], _, _, _, h => h
  | _ :: _, _ :: _, _, _, h1, h2 => ⟨h1.1, atsLe_append h1.2 h2⟩
  | [], _ :: _, _, _, h, _ => h.elim
  | _ :: _, [], _, _, h, _ => h.elim
theorem OutEq.ats {x : V} {z : Int} (h : OutEq x (.I z)) : atsLe x.atoms (V.atomsI z) := by
  rcases h with h | ⟨_, _, h⟩ | ⟨_, h, _⟩
  · subst h; exact atsLe.refl _
  · exact h
  · cases h
theorem out_P {x y : V} {n d : Int} (hx : OutEq x (.I n)) (hy : OutEq y (.I d)) : OutEq (.agg [x, y]) (.agg [.I n, .I d]) := by
  refine .inr (.inl ⟨rfl, rfl, ?_⟩)
  show atsLe (x.atoms ++ (y.atoms ++ [])) (V.atomsI n ++ (V.atomsI d ++ []))
  exact atsLe_append hx.ats (atsLe_append hy.ats trivial)
theorem out_PQ {x : V} {n d : Int} {q : Rat} (h : OutEq x (.agg [.I n, .I d])) (h1 : n = q.num) (h2 : d = q.den) : OutEq x (.Q q) := by
  have e : (V.agg [.I n, .I d]).atoms = (V.Q q).atoms := by
    show V.atomsI n ++ (V.atomsI d ++ []) = V.atomsI q.num ++ V.atomsI q.den
    rw [h1, h2, List.append_nil]
  rcases h with h | ⟨h3, _, h4⟩ | ⟨_, h, _⟩
  · subst h; exact .atoms rfl rfl e
  · exact .inr (.inl ⟨h3, rfl, e ▸ h4⟩)
  · cases h
theorem out_Q {x y : V} {n d : Int} {q : Rat} (hx : OutEq x (.I n)) (hy : OutEq y (.I d)) (h1 : n = q.num) (h2 : d = q.den) : OutEq (.agg [x, y]) (.Q q) := out_PQ (out_P hx hy) h1 h2
theorem out_QP {q : Rat} {n d : Int} (h1 : q.num = n) (h2 : (q.den : Int) = d) : OutEq (.Q q) (.agg [.I n, .I d]) := by
  refine .atoms rfl rfl ?_
  show V.atomsI q.num ++ V.atomsI q.den = V.atomsI n ++ (V.atomsI d ++ [])
  rw [h1, h2, List.append_nil]
theorem out_QQ {a b : Rat} (h : a = b) : OutEq (.Q a) (.Q b) := .inl (by rw [h])
/-- Numerator and denominator. -/
def pq (q : Rat) : Int × Int := (q.num, (q.den : Int))
@[go_sem] theorem pq_inj {a b : Rat} : (pq a = pq b) = (a = b) := by
  refine propext ⟨fun h => ?_, fun h => by rw [h]⟩
  injection h with h1 h2
  exact Rat.ext h1 (by omega)
@[go_sem] theorem pq_fst {a : Rat} : (pq a).1 = a.num := rfl
@[go_sem] theorem pq_snd {a : Rat} : (pq a).2 = (a.den : Int) := rfl
/-- A pair of integers. -/
def pP : Pat (Int × Int) where
  p
    | .Q q => some (True, pq q)
    | .agg [x, y] => (pI.p x).bind fun a => (pI.p y).map fun b => (a.1 ∧ b.1, (a.2, b.2))
    | _ => none
  val a := .agg [.I a.1, .I a.2]
  ok x c a h hc := by
    split at h
    · injection h with h; injection h with h1 h2; subst h2; exact out_QP rfl rfl
    · rename_i x y
      rcases ha : pI.p x with _ | ⟨c1, a1⟩ <;> rw [ha] at h
      · cases h
      · rcases hb : pI.p y with _ | ⟨c2, a2⟩ <;> simp only [hb, bind_some] at h
        · cases h
        · injection h with h; injection h with h1 h2; subst h1 h2
          exact out_P (pI.ok _ _ _ ha hc.1) (pI.ok _ _ _ hb hc.2)
    · cases h
@[go_sem ↓, go_sem] theorem ev_pP {q : Rat} : pP.p (.Q q) = some (True, pq q) := rfl
@[go_sem ↓, go_sem] theorem ev_pP_agg {x y : V} : pP.p (.agg [x, y]) = (pI.p x).bind fun a => (pI.p y).map fun b => (a.1 ∧ b.1, (a.2, b.2)) := rfl
@[go_sem ↓, go_sem] theorem ev_pP_val {a : Int × Int} : pP.val a = .agg [.I a.1, .I a.2] := rfl
/-- A rational number in lowest terms. -/
def pQ : Pat Rat where
  p
    | .Q q => some (True, q)
    | .agg [x, y] => (pI.p x).bind fun a => (pI.p y).map fun b => (a.1 ∧ b.1 ∧ (Rat.divInt a.2 b.2).num = a.2 ∧ ((Rat.divInt a.2 b.2).den : Int) = b.2, Rat.divInt a.2 b.2)
    | _ => none
  val := .Q
  ok x c a h hc := by
    split at h
    · injection h with h; injection h with h1 h2; subst h2; exact .refl _
    · rename_i x y
      rcases ha : pI.p x with _ | ⟨c1, a1⟩ <;> rw [ha] at h
      · cases h
      · rcases hb : pI.p y with _ | ⟨c2, a2⟩ <;> simp only [hb, bind_some] at h
        · cases h
        · injection h with h; injection h with h1 h2; subst h1 h2
          exact out_Q (pI.ok _ _ _ ha hc.1) (pI.ok _ _ _ hb hc.2.1) hc.2.2.1.symm hc.2.2.2.symm
    · cases h
@[go_sem ↓, go_sem] theorem ev_pQ {q : Rat} : pQ.p (.Q q) = some (True, q) := rfl
@[go_sem ↓, go_sem] theorem ev_pQ_val {q : Rat} : pQ.val q = .Q q := rfl
/- Lowest terms. -/
theorem low_pos (n d : Int) (hd : 0 < d) : (Rat.divInt n d).num = n / (Nat.gcd n.natAbs d.natAbs : Nat) ∧ ((Rat.divInt n d).den : Int) = d / (Nat.gcd n.natAbs d.natAbs : Nat) := by
  have e : Int.gcd d n = Nat.gcd n.natAbs d.natAbs := Nat.gcd_comm _ _
  rw [Rat.num_divInt, Rat.den_divInt, if_neg (by omega), Int.sign_eq_one_of_pos hd, Int.one_mul, e]
  refine ⟨rfl, ?_⟩
  rw [Int.natCast_ediv]
  congr 1
  omega
theorem low_one (n d : Int) (hd : 0 < d) (h : Nat.gcd n.natAbs d.natAbs = 1) : (Rat.divInt n d).num = n ∧ ((Rat.divInt n d).den : Int) = d := by
  obtain ⟨h1, h2⟩ := low_pos n d hd
  rw [h1, h2, h]
  exact ⟨Int.ediv_one _, Int.ediv_one _⟩
theorem low_neg (n d : Int) : Rat.divInt (-n) (-d) = Rat.divInt n d := Rat.neg_divInt_neg n d
/-- The size of a rational number. -/
def qs (q : Rat) : Nat := max (dl q.num.natAbs) (dl q.den)
theorem qs_num (q : Rat) : dl q.num.natAbs ≤ qs q := Nat.le_max_left _ _
theorem qs_den (q : Rat) : dl q.den ≤ qs q := Nat.le_max_right _ _
theorem qs_pos (q : Rat) : 1 ≤ qs q := by
  have h1 := qs_den q
  have h2 := q.den_pos
  have h3 : dl q.den ≠ 0 := fun h => by rw [dl_eq_zero] at h; omega
  omega
theorem qs_divInt (n d : Int) : qs (Rat.divInt n d) ≤ max (max (dl n.natAbs) (dl d.natAbs)) 1 := by
  unfold qs
  by_cases h : d = 0
  · subst h
    rw [Rat.divInt_zero]
    show max (dl 0) (dl 1) ≤ _
    have : dl 1 ≤ 1 := dl_le.2 (by decide)
    have := dl_zero
    omega
  · rw [Rat.num_divInt, Rat.den_divInt, if_neg h]
    have h1 : dl (d.sign * n / (Int.gcd d n : Nat)).natAbs ≤ dl n.natAbs := dl_mono (by
      refine Nat.le_trans (Int.natAbs_ediv_le_natAbs _ _) ?_
      rw [Int.natAbs_mul]
      have : d.sign.natAbs ≤ 1 := by rw [Int.natAbs_sign]; split <;> omega
      exact Nat.le_trans (Nat.mul_le_mul_right _ this) (by omega))
    have h2 : dl (d.natAbs / Int.gcd d n) ≤ dl d.natAbs := dl_mono (Nat.div_le_self _ _)
    omega
theorem add_dI (a b : Rat) : Rat.divInt (a.num * b.den + b.num * a.den) ((a.den : Int) * b.den) = a + b := by
  rw [Rat.add_def', ← Int.natCast_mul, Rat.divInt_ofNat]
theorem sub_dI (a b : Rat) : Rat.divInt (a.num * b.den - b.num * a.den) ((a.den : Int) * b.den) = a - b := by
  rw [Rat.sub_def', ← Int.natCast_mul, Rat.divInt_ofNat]
theorem mul_dI (a b : Rat) : Rat.divInt (a.num * b.num) ((a.den : Int) * b.den) = a * b := by
  rw [Rat.mul_def', ← Int.natCast_mul, Rat.divInt_ofNat]
theorem div_dI (a b : Rat) : Rat.divInt (a.num * b.den) ((a.den : Int) * b.num) = a / b := by
  rw [Rat.div_def, Rat.inv_def]
  conv => rhs; rw [← Rat.num_divInt_den a, Rat.divInt_mul_divInt]
theorem qs_add (a b : Rat) : qs (a + b) ≤ qs a + qs b + 1 := by
  rw [← add_dI]
  refine Nat.le_trans (qs_divInt _ _) ?_
  have h1 : dl (a.num * b.den + b.num * a.den).natAbs ≤ qs a + qs b + 1 := by
    refine Nat.le_trans (dl_mono (Int.natAbs_add_le _ _)) (Nat.le_trans (dl_add _ _) ?_)
    have e1 := dl_mulI a.num b.den
    have e2 := dl_mulI b.num a.den
    rw [Int.natAbs_natCast] at e1 e2
    have := qs_num a; have := qs_num b; have := qs_den a; have := qs_den b
    omega
  have h2 := dl_mulI a.den b.den
  rw [Int.natAbs_natCast, Int.natAbs_natCast] at h2
  have := qs_den a; have := qs_den b
  omega
theorem qs_neg (a : Rat) : qs (-a) = qs a := by
  unfold qs
  rw [Rat.neg_num, Rat.neg_den, Int.natAbs_neg]
theorem qs_sub (a b : Rat) : qs (a - b) ≤ qs a + qs b + 1 := by
  rw [Rat.sub_eq_add_neg, ← qs_neg b]; exact qs_add _ _
theorem qs_mul (a b : Rat) : qs (a * b) ≤ qs a + qs b := by
  rw [← mul_dI]
  refine Nat.le_trans (qs_divInt _ _) ?_
  have h1 := dl_mulI a.num b.num
  have h2 := dl_mulI a.den b.den
  rw [Int.natAbs_natCast, Int.natAbs_natCast] at h2
  have := qs_num a; have := qs_num b; have := qs_den a; have := qs_den b; have := qs_pos a
  omega
theorem qs_div (a b : Rat) : qs (a / b) ≤ qs a + qs b := by
  rw [← div_dI]
  refine Nat.le_trans (qs_divInt _ _) ?_
  have h1 := dl_mulI a.num b.den
  have h2 := dl_mulI a.den b.num
  rw [Int.natAbs_natCast] at h1 h2
  have := qs_num a; have := qs_num b; have := qs_den a; have := qs_den b; have := qs_pos a
  omega
theorem qs_int (z : Int) : qs (z : Rat) ≤ max (dl z.natAbs) 1 := by
  unfold qs
  rw [Rat.num_intCast, Rat.den_intCast]
  have : dl 1 ≤ 1 := dl_le.2 (by decide)
  omega
end Go.Proofs.YtfbogelmgdojgaaGreat
