/- Texts F1 F2 F3 F4 F6 in one. -/
import Derived.Test.YtlhapagililgmaaGreatR15
import Derived.Test.YtlhapagililgmaaGreatR13
import Derived.Test.YtlhapagililgmaaGreatR17
import Derived.Test.YtlhapagililgmaaGreatR18
/- Rational numbers: patterns of values, plain laws of lowest terms and of sizes. -/
namespace Go.Proofs.YtlhapagililgmaaGreat
set_option linter.unusedSimpArgs false
set_option linter.unusedVariables false
open Go.RowKit

theorem beqF {a b : Int} (h : a ≠ b) : (a == b) = false := by simpa using h
theorem beqT {a b : Int} (h : a = b) : (a == b) = true := by simpa using h
theorem sg_cases (x : Int) : (x < 0 ∧ sgI x = -1) ∨ (x = 0 ∧ sgI x = 0) ∨ (0 < x ∧ sgI x = 1) := by
 rcases Int.lt_trichotomy x 0 with h | h | h
 ·exact .inl ⟨h, cmpI_lt h⟩
 ·exact .inr (.inl ⟨h, by rw [h]; rfl⟩)
 ·exact .inr (.inr ⟨h, cmpI_gt h⟩)
theorem atsLe_append : ∀ {a b c d : List V}, atsLe a b → atsLe c d → atsLe (a ++ c) (b ++ d)
 | [], [], _, _, _, h => h
 | _ :: _, _ :: _, _, _, h1, h2 => ⟨h1.1, atsLe_append h1.2 h2⟩
 | [], _ :: _, _, _, h, _ => h.elim
 | _ :: _, [], _, _, h, _ => h.elim
theorem OutEq.ats {x : V} {z : Int} (h : OutEq x (.I z)) : atsLe x.atoms (V.atomsI z) := by
 rcases h with h | ⟨_, _, h⟩ | ⟨_, h, _⟩
 ·subst h; exact atsLe.refl _
 ·exact h
 ·cases h
theorem out_P {x y : V} {n d : Int} (hx : OutEq x (.I n)) (hy : OutEq y (.I d)) : OutEq (.agg [x, y]) (.agg [.I n, .I d]) := by
 refine .inr (.inl ⟨rfl, rfl, ?_⟩)
 show atsLe (x.atoms ++ (y.atoms ++ [])) (V.atomsI n ++ (V.atomsI d ++ []))
 exact atsLe_append hx.ats (atsLe_append hy.ats trivial)
theorem out_PQ {x : V} {n d : Int} {q : Rat} (h : OutEq x (.agg [.I n, .I d])) (h1 : n = q.num) (h2 : d = q.den) : OutEq x (.Q q) := by
 have e : (V.agg [.I n, .I d]).atoms = (V.Q q).atoms := by
  show V.atomsI n ++ (V.atomsI d ++ []) = V.atomsI q.num ++ V.atomsI q.den
  rw [h1, h2, List.append_nil]
 rcases h with h | ⟨h3, _, h4⟩ | ⟨_, h, _⟩
 ·subst h; exact .atoms rfl rfl e
 ·exact .inr (.inl ⟨h3, rfl, e ▸ h4⟩)
 ·cases h
theorem out_Q {x y : V} {n d : Int} {q : Rat} (hx : OutEq x (.I n)) (hy : OutEq y (.I d)) (h1 : n = q.num) (h2 : d = q.den) : OutEq (.agg [x, y]) (.Q q) := out_PQ (out_P hx hy) h1 h2
theorem out_QP {q : Rat} {n d : Int} (h1 : q.num = n) (h2 : (q.den : Int) = d) : OutEq (.Q q) (.agg [.I n, .I d]) := by
 refine .atoms rfl rfl ?_
 show V.atomsI q.num ++ V.atomsI q.den = V.atomsI n ++ (V.atomsI d ++ [])
 rw [h1, h2, List.append_nil]
theorem out_QQ {a b : Rat} (h : a = b) : OutEq (.Q a) (.Q b) := .inl (by rw [h])
def pq (q : Rat) : Int × Int := (q.num, (q.den : Int))
@[go_sem] theorem pq_inj {a b : Rat} : (pq a = pq b) = (a = b) := by
 refine propext ⟨fun h => ?_, fun h => by rw [h]⟩
 injection h with h1 h2
 exact Rat.ext h1 (by omega)
@[go_sem] theorem pq_fst {a : Rat} : (pq a).1 = a.num := rfl
@[go_sem] theorem pq_snd {a : Rat} : (pq a).2 = (a.den : Int) := rfl
def pP : Pat (Int × Int) where
 p
  | .Q q => some (True, pq q)
  | .agg [x, y] => (pI.p x).bind fun a => (pI.p y).map fun b => (a.1 ∧ b.1, (a.2, b.2))
  | _ => none
 val a := .agg [.I a.1, .I a.2]
 ok x c a h hc := by
  split at h
  ·injection h with h; injection h with h1 h2; subst h2; exact out_QP rfl rfl
  ·rename_i x y
   rcases ha : pI.p x with _ | ⟨c1, a1⟩ <;> rw [ha] at h
   ·cases h
   ·rcases hb : pI.p y with _ | ⟨c2, a2⟩ <;> simp only [hb, bind_some] at h
    ·cases h
    ·injection h with h; injection h with h1 h2; subst h1 h2
     exact out_P (pI.ok _ _ _ ha hc.1) (pI.ok _ _ _ hb hc.2)
  ·cases h
@[go_sem ↓, go_sem] theorem ev_pP {q : Rat} : pP.p (.Q q) = some (True, pq q) := rfl
@[go_sem ↓, go_sem] theorem ev_pP_agg {x y : V} : pP.p (.agg [x, y]) = (pI.p x).bind fun a => (pI.p y).map fun b => (a.1 ∧ b.1, (a.2, b.2)) := rfl
@[go_sem ↓, go_sem] theorem ev_pP_val {a : Int × Int} : pP.val a = .agg [.I a.1, .I a.2] := rfl
def pQ : Pat Rat where
 p
  | .Q q => some (True, q)
  | .agg [x, y] => (pI.p x).bind fun a => (pI.p y).map fun b => (a.1 ∧ b.1 ∧ (Rat.divInt a.2 b.2).num = a.2 ∧ ((Rat.divInt a.2 b.2).den : Int) = b.2, Rat.divInt a.2 b.2)
  | _ => none
 val := .Q
 ok x c a h hc := by
  split at h
  ·injection h with h; injection h with h1 h2; subst h2; exact .refl _
  ·rename_i x y
   rcases ha : pI.p x with _ | ⟨c1, a1⟩ <;> rw [ha] at h
   ·cases h
   ·rcases hb : pI.p y with _ | ⟨c2, a2⟩ <;> simp only [hb, bind_some] at h
    ·cases h
    ·injection h with h; injection h with h1 h2; subst h1 h2
     exact out_Q (pI.ok _ _ _ ha hc.1) (pI.ok _ _ _ hb hc.2.1) hc.2.2.1.symm hc.2.2.2.symm
  ·cases h
@[go_sem ↓, go_sem] theorem ev_pQ {q : Rat} : pQ.p (.Q q) = some (True, q) := rfl
@[go_sem ↓, go_sem] theorem ev_pQ_val {q : Rat} : pQ.val q = .Q q := rfl
/- Lowest terms. -/
theorem low_pos (n d : Int) (hd : 0 < d) : (Rat.divInt n d).num = n / (Nat.gcd n.natAbs d.natAbs : Nat) ∧ ((Rat.divInt n d).den : Int) = d / (Nat.gcd n.natAbs d.natAbs : Nat) := by
 have e : Int.gcd d n = Nat.gcd n.natAbs d.natAbs := Nat.gcd_comm _ _
 rw [Rat.num_divInt, Rat.den_divInt, if_neg (by omega), Int.sign_eq_one_of_pos hd, Int.one_mul, e]
 refine ⟨rfl, ?_⟩
 rw [Int.natCast_ediv]
 congr 1
 omega
theorem low_neg (n d : Int) : Rat.divInt (-n) (-d) = Rat.divInt n d := Rat.neg_divInt_neg n d
def qs (q : Rat) : Nat := max (dl q.num.natAbs) (dl q.den)
theorem qs_num (q : Rat) : dl q.num.natAbs ≤ qs q := Nat.le_max_left _ _
theorem qs_den (q : Rat) : dl q.den ≤ qs q := Nat.le_max_right _ _
theorem qs_pos (q : Rat) : 1 ≤ qs q := by
 have h1 := qs_den q
 have h2 := q.den_pos
 have h3 : dl q.den ≠ 0 := fun h => by rw [dl_eq_zero] at h; omega
 omega
theorem qs_divInt (n d : Int) : qs (Rat.divInt n d) ≤ max (max (dl n.natAbs) (dl d.natAbs)) 1 := by
 unfold qs
 by_cases h : d = 0
 ·subst h
  rw [Rat.divInt_zero]
  show max (dl 0) (dl 1) ≤ _
  have : dl 1 ≤ 1 := dl_le.2 (by decide)
  have := dl_zero
  omega
 ·rw [Rat.num_divInt, Rat.den_divInt, if_neg h]
  have h1 : dl (d.sign * n / (Int.gcd d n : Nat)).natAbs ≤ dl n.natAbs := dl_mono (by
   refine Nat.le_trans (Int.natAbs_ediv_le_natAbs _ _) ?_
   rw [Int.natAbs_mul]
   have : d.sign.natAbs ≤ 1 := by rw [Int.natAbs_sign]; split <;> omega
   exact Nat.le_trans (Nat.mul_le_mul_right _ this) (by omega))
  have h2 : dl (d.natAbs / Int.gcd d n) ≤ dl d.natAbs := dl_mono (Nat.div_le_self _ _)
  omega
theorem add_dI (a b : Rat) : Rat.divInt (a.num * b.den + b.num * a.den) ((a.den : Int) * b.den) = a + b := by
 rw [Rat.add_def', ← Int.natCast_mul, Rat.divInt_ofNat]
theorem sub_dI (a b : Rat) : Rat.divInt (a.num * b.den - b.num * a.den) ((a.den : Int) * b.den) = a - b := by
 rw [Rat.sub_def', ← Int.natCast_mul, Rat.divInt_ofNat]
theorem mul_dI (a b : Rat) : Rat.divInt (a.num * b.num) ((a.den : Int) * b.den) = a * b := by
 rw [Rat.mul_def', ← Int.natCast_mul, Rat.divInt_ofNat]
theorem div_dI (a b : Rat) : Rat.divInt (a.num * b.den) ((a.den : Int) * b.num) = a / b := by
 rw [Rat.div_def, Rat.inv_def]
 conv => rhs; rw [← Rat.num_divInt_den a, Rat.divInt_mul_divInt]
theorem qs_add (a b : Rat) : qs (a + b) ≤ qs a + qs b + 1 := by
 rw [← add_dI]
 refine Nat.le_trans (qs_divInt _ _) ?_
 have h1 : dl (a.num * b.den + b.num * a.den).natAbs ≤ qs a + qs b + 1 := by
  refine Nat.le_trans (dl_mono (Int.natAbs_add_le _ _)) (Nat.le_trans (dl_add _ _) ?_)
  have e1 := dl_mulI a.num b.den
  have e2 := dl_mulI b.num a.den
  rw [Int.natAbs_natCast] at e1 e2
  have := qs_num a; have := qs_num b; have := qs_den a; have := qs_den b
  omega
 have h2 := dl_mulI a.den b.den
 rw [Int.natAbs_natCast, Int.natAbs_natCast] at h2
 have := qs_den a; have := qs_den b
 omega
theorem qs_neg (a : Rat) : qs (-a) = qs a := by
 unfold qs
 rw [Rat.neg_num, Rat.neg_den, Int.natAbs_neg]
theorem qs_sub (a b : Rat) : qs (a - b) ≤ qs a + qs b + 1 := by
 rw [Rat.sub_eq_add_neg, ← qs_neg b]; exact qs_add _ _
theorem qs_mul (a b : Rat) : qs (a * b) ≤ qs a + qs b := by
 rw [← mul_dI]
 refine Nat.le_trans (qs_divInt _ _) ?_
 have h1 := dl_mulI a.num b.num
 have h2 := dl_mulI a.den b.den
 rw [Int.natAbs_natCast, Int.natAbs_natCast] at h2
 have := qs_num a; have := qs_num b; have := qs_den a; have := qs_den b; have := qs_pos a
 omega
theorem qs_div (a b : Rat) : qs (a / b) ≤ qs a + qs b := by
 rw [← div_dI]
 refine Nat.le_trans (qs_divInt _ _) ?_
 have h1 := dl_mulI a.num b.den
 have h2 := dl_mulI a.den b.num
 rw [Int.natAbs_natCast] at h1 h2
 have := qs_num a; have := qs_num b; have := qs_den a; have := qs_den b; have := qs_pos a
 omega
theorem qs_int (z : Int) : qs (z : Rat) ≤ max (dl z.natAbs) 1 := by
 unfold qs
 rw [Rat.num_intCast, Rat.den_intCast]
 have : dl 1 ≤ 1 := dl_le.2 (by decide)
 omega
end Go.Proofs.YtlhapagililgmaaGreat


/- Contracts: package rational, the arithmetic. -/
namespace Go.Proofs.YtlhapagililgmaaGreat
set_option linter.unusedSimpArgs false
set_option linter.unusedVariables false
open Go.RowKit

set_option maxRecDepth 4000 in
theorem lowest_V (n d : Int) (hd : d ≠ 0) (h1 : dl n.natAbs ≤ 12000000000000) (h2 : dl d.natAbs ≤ 12000000000000) : PCall Tryz.prog 112 [.I n, .I d] (.Q (Rat.divInt n d)) := by
 refine PCall.of_vc (tabs mixed (tbl_cons sign_C (tbl_cons neg_C (tbl_cons gcdA_C (tbl_cons of_C (tbl_cons cmpZ_C (tbl_cons divModA_C tbl_nil))))))) Tryz.func112 rfl Tryz.ntmps112 Tryz.results112 (by simp) ?_
 obtain ⟨G, hG⟩ : ∃ G, G = Nat.gcd n.natAbs d.natAbs := ⟨_, rfl⟩
 have hG0 : 0 < G := by rw [hG]; exact Nat.gcd_pos_of_pos_right _ (by omega)
 have hGd : dl G ≤ 12000000000000 := Nat.le_trans (dl_mono (by rw [hG]; exact Nat.gcd_le_right _ (by omega))) h2
 have hdm : ∀ x : Int, dmR x (G : Nat) = .tup [.I (x / (G : Nat)), .I (x % (G : Nat)), .raw (.int .i64 0)] := fun x => if_neg (by omega)
 have l1 : dl (Int.natAbs 1) ≤ 30000000000000 := Nat.le_trans ((dl_le (k := 1)).2 (by decide)) (by decide)
 by_cases hs : d < 0
 ·have c0 : sgI d < 0 := by rw [show sgI d = -1 from cmpI_lt hs]; decide
  obtain ⟨p1, p2⟩ := low_pos (-n) (-d) (by omega)
  rw [low_neg, Int.natAbs_neg, Int.natAbs_neg, ← hG] at p1 p2
  by_cases hg : G = 1
  ·have c1 : (cmpI ((G : Nat) : Int) 1 != 0) = false := by rw [hg]; rfl
   rw [hg] at p1 p2
   simp only [go_sem, c0, Int.natAbs_neg, ← hG, c1, Int.natAbs_natCast]
   exact ⟨by rfl, ⟨h1, h2⟩, ⟨by omega, l1⟩, by rfl, out_Q (.refl _) (.refl _) (by rw [p1]; exact (Int.ediv_one _).symm) (by rw [p2]; exact (Int.ediv_one _).symm)⟩
  ·have c1 : (cmpI ((G : Nat) : Int) 1 != 0) = true := by rw [show cmpI ((G : Nat) : Int) 1 = 1 from cmpI_gt (by omega)]; rfl
   simp only [go_sem, c0, Int.natAbs_neg, ← hG, c1, hdm, Int.natAbs_natCast]
   exact ⟨by rfl, ⟨h1, h2⟩, ⟨by omega, l1⟩, by rfl, ⟨h1, hGd⟩, ⟨h2, hGd⟩, out_Q (.refl _) (.refl _) p1.symm p2.symm⟩
 ·have c0 : ¬ sgI d < 0 := by rw [show sgI d = 1 from cmpI_gt (by omega)]; decide
  obtain ⟨p1, p2⟩ := low_pos n d (by omega)
  rw [← hG] at p1 p2
  by_cases hg : G = 1
  ·have c1 : (cmpI ((G : Nat) : Int) 1 != 0) = false := by rw [hg]; rfl
   rw [hg] at p1 p2
   simp only [go_sem, c0, ← hG, c1, Int.natAbs_natCast]
   exact ⟨⟨h1, h2⟩, ⟨by omega, l1⟩, by rfl, out_Q (.refl _) (.refl _) (by rw [p1]; exact (Int.ediv_one _).symm) (by rw [p2]; exact (Int.ediv_one _).symm)⟩
  ·have c1 : (cmpI ((G : Nat) : Int) 1 != 0) = true := by rw [show cmpI ((G : Nat) : Int) 1 = 1 from cmpI_gt (by omega)]; rfl
   simp only [go_sem, c0, ← hG, c1, hdm, Int.natAbs_natCast]
   exact ⟨⟨h1, h2⟩, ⟨by omega, l1⟩, by rfl, ⟨h1, hGd⟩, ⟨h2, hGd⟩, out_Q (.refl _) (.refl _) p1.symm p2.symm⟩
def kLowest : Con := con2 pI pI fun n d => (d ≠ 0 ∧ dl n.natAbs ≤ 12000000000000 ∧ dl d.natAbs ≤ 12000000000000, .Q (Rat.divInt n d))
attribute [go_sem ↓, go_sem] kLowest
theorem lowest_C : Ctr Tryz.prog 112 kLowest := Ctr.c2 (by kernel_rfl) fun n d h => lowest_V n d h.1 h.2.1 h.2.2
def qErr (c : Int) : V := .tup [.agg [.I 0, .I 0], .raw (.int .i64 c)]
def qOk (q : Rat) : V := .tup [.Q q, .raw (.int .i64 0)]
def ofR (n d : Int) : V := if d = 0 then qErr 3 else qOk (Rat.divInt n d)
theorem qOf_V (n d : Int) (h1 : dl n.natAbs ≤ 12000000000000) (h2 : dl d.natAbs ≤ 12000000000000) : PCall Tryz.prog 111 [.I n, .I d] (ofR n d) := by
 refine PCall.of_vc (tabs mixed (tbl_cons sign_C (tbl_cons lowest_C tbl_nil))) Tryz.func111 rfl Tryz.ntmps111 Tryz.results111 (by simp) ?_
 unfold ofR
 by_cases hd : d = 0
 ·have c0 : (sgI d == 0) = true := by rw [hd]; rfl
  rw [if_pos hd]
  unfold qErr
  simp only [go_sem, c0]
  exact out_P (out_In rfl) (out_In rfl)
 ·have c0 : (sgI d == 0) = false := beqF (fun h => hd (sgI_zero.1 h))
  rw [if_neg hd]
  unfold qOk
  simp only [go_sem, c0]
  exact ⟨hd, h1, h2⟩
def kQOf : Con := con2 pI pI fun n d => (dl n.natAbs ≤ 12000000000000 ∧ dl d.natAbs ≤ 12000000000000, ofR n d)
attribute [go_sem ↓, go_sem] kQOf
theorem qOf_C : Ctr Tryz.prog 111 kQOf := Ctr.c2 (by kernel_rfl) fun n d h => qOf_V n d h.1 h.2
def kWhole : Con := con1 (pN .i64) fun n => (-9223372036854775808 ≤ n ∧ n ≤ 9223372036854775807, .Q (n : Rat))
attribute [go_sem ↓, go_sem] kWhole
theorem whole_C : Ctr Tryz.prog 67 kWhole := Ctr.c1 (by kernel_rfl) fun n h => by
 refine PCall.of_vc (tabs mixed (tbl_cons of_C tbl_nil)) Tryz.func67 rfl Tryz.ntmps67 Tryz.results67 (by simp) ?_
 simp only [go_sem]
 exact ⟨h, out_Q (.refl _) (.refl _) rfl rfl⟩
def kQSign : Con := con1 pQ fun a => (True, .raw (.int .i64 (sgI a.num)))
attribute [go_sem ↓, go_sem] kQSign
theorem qSign_C : Ctr Tryz.prog 118 kQSign := Ctr.c1 (by kernel_rfl) fun a h => by
 refine PCall.of_vc (tabs mixed (tbl_cons sign_C tbl_nil)) Tryz.func118 rfl Tryz.ntmps118 Tryz.results118 (by simp) ?_
 simp only [go_sem]
def kQNeg : Con := con1 pQ fun a => (True, .Q (-a))
attribute [go_sem ↓, go_sem] kQNeg
theorem qNeg_C : Ctr Tryz.prog 70 kQNeg := Ctr.c1 (by kernel_rfl) fun a h => by
 refine PCall.of_vc (tabs mixed (tbl_cons neg_C tbl_nil)) Tryz.func70 rfl Tryz.ntmps70 Tryz.results70 (by simp) ?_
 simp only [go_sem]
 exact ⟨by rfl, out_Q (.refl _) (.refl _) rfl rfl⟩
def kFloor : Con := con1 pQ fun a => (qs a ≤ 12000000000000, .I a.floor)
attribute [go_sem ↓, go_sem] kFloor
theorem floor_C : Ctr Tryz.prog 69 kFloor := Ctr.c1 (by kernel_rfl) fun a h => by
 refine PCall.of_vc (tabs mixed (tbl_cons divModA_C tbl_nil)) Tryz.func69 rfl Tryz.ntmps69 Tryz.results69 (by simp) ?_
 have hd : (a.den : Int) ≠ 0 := by have := a.den_pos; omega
 have r1 : dmR a.num a.den = .tup [.I (a.num / a.den), .I (a.num % a.den), .raw (.int .i64 0)] := if_neg hd
 have q1 := qs_num a
 have q2 := qs_den a
 simp only [go_sem, r1, Int.natAbs_natCast]
 exact ⟨⟨Nat.le_trans q1 h, Nat.le_trans q2 h⟩, out_II (Rat.floor_def a).symm⟩
/- A product of two integers, handed over as a list. -/
def pII : Pat (Int × Int) where
 p
  | .lst [x, y] => (pI.p x).bind fun a => (pI.p y).map fun b => (a.1 ∧ b.1 ∧ x = .I a.2 ∧ y = .I b.2, (a.2, b.2))
  | _ => none
 val a := .lst [.I a.1, .I a.2]
 ok x c a h hc := by
  split at h
  ·rename_i x y
   rcases ha : pI.p x with _ | ⟨c1, a1⟩ <;> rw [ha] at h
   ·cases h
   ·rcases hb : pI.p y with _ | ⟨c2, a2⟩ <;> simp only [hb, bind_some] at h
    ·cases h
    ·injection h with h; injection h with h1 h2; subst h1 h2
     obtain ⟨_, _, e1, e2⟩ := hc
     simp only at e1 e2
     rw [e1, e2]
     exact .refl _
  ·cases h
@[go_sem ↓, go_sem] theorem ev_pII {x y : Int} : pII.p (.lst [.I x, .I y]) = some (True, (x, y)) := by
 show some _ = _
 simp
@[go_sem ↓, go_sem] theorem ev_pII_val {a : Int × Int} : pII.val a = .lst [.I a.1, .I a.2] := rfl
def tm (x y : Int) : Nat → Int
 | 0 => 1
 | 1 => x
 | _ => x * y
theorem times_V (x y : Int) (hx : dl x.natAbs ≤ 12000000000000) (hy : dl y.natAbs ≤ 12000000000000) : PCall Tryz.prog 106 [.lst [.I x, .I y]] (.I (x * y)) := by
 refine PCall.of_vc (tabs mixed (tbl_cons of_C (tbl_cons mul_C tbl_nil))) Tryz.func106 rfl Tryz.ntmps106 Tryz.results106 (by simp) ?_
 have l1 : dl (Int.natAbs 1) ≤ 1 := (dl_le (k := 1)).2 (by decide)
 simp only [go_sem]
 refine AWp.loops (X := { k : Nat // k ≤ 2 })
  (fun a => mkSt [(2, .ptr 0 2 0 0), (3, .ptr 1 2 0 0), (7, .lst [.I x, .I y]), (8, .raw (.int .i64 2)), (9, .raw (.int .i64 (a.1 : Nat)))]
   [(0, true, ⟨44, 2, [.agg [.raw (.bool false), .raw (.slice none 0 0)]]⟩), (1, true, ⟨44, 2, [.I (tm x y a.1)]⟩)] 2 18)
  (fun a => 2 - a.1) ⟨0, by decide⟩ (Wk.of [0, 2] (by decide) ?_) ?_
 ·simp only [go_sem, tm]
 ·rintro ⟨k, hk⟩
  refine vc_at (tabs mixed (tbl_cons of_C (tbl_cons mul_C tbl_nil))) ?_
  match k, hk with
  | 0, _ =>
    simp only [go_sem, tm, Int.one_mul]
    refine ⟨⟨by omega, by omega⟩, ⟨1, by decide⟩, Wk.of [0, 1] (by decide) ?_, by decide⟩
    simp only [go_sem, tm]
  | 1, _ =>
    simp only [go_sem, tm]
    refine ⟨⟨by omega, by omega⟩, ⟨2, by decide⟩, Wk.of [0, 1] (by decide) ?_, by decide⟩
    simp only [go_sem, tm]
  | 2, _ => simp only [go_sem, tm]
def kTimes : Con := con1 pII fun a => (dl a.1.natAbs ≤ 12000000000000 ∧ dl a.2.natAbs ≤ 12000000000000, .I (a.1 * a.2))
attribute [go_sem ↓, go_sem] kTimes
theorem times_C : Ctr Tryz.prog 106 kTimes := Ctr.c1 (by kernel_rfl) fun a h => times_V a.1 a.2 h.1 h.2
/- Arithmetic. -/
theorem szs {a : Rat} {k : Nat} (h : qs a ≤ k) : dl a.num.natAbs ≤ k ∧ dl ((a.den : Int)).natAbs ≤ k ∧ (a.den : Int) ≠ 0 := by
 have h1 := qs_num a
 have h2 := qs_den a
 have h3 := a.den_pos
 rw [Int.natAbs_natCast]
 exact ⟨by omega, by omega, by omega⟩
def kQMul : Con := con2 pQ pQ fun a b => (qs a ≤ 5000000000000 ∧ qs b ≤ 5000000000000, .Q (a * b))
attribute [go_sem ↓, go_sem] kQMul
theorem qMul_C : Ctr Tryz.prog 84 kQMul := Ctr.c2 (by kernel_rfl) fun a b h => by
 refine PCall.of_vc (tabs mixed (tbl_cons lowest_C (tbl_cons times_C tbl_nil))) Tryz.func84 rfl Tryz.ntmps84 Tryz.results84 (by simp) ?_
 obtain ⟨a1, a2, a3⟩ := szs h.1
 obtain ⟨b1, b2, b3⟩ := szs h.2
 have e1 := dl_mulI a.num b.num
 have e2 := dl_mulI a.den b.den
 have z := Int.mul_ne_zero a3 b3
 simp only [go_sem, mul_dI]
 and_intros <;> first | rfl | assumption | omega
def kQAdd : Con := con2 pQ pQ fun a b => (qs a ≤ 5000000000000 ∧ qs b ≤ 5000000000000, .Q (a + b))
attribute [go_sem ↓, go_sem] kQAdd
theorem qAdd_C : Ctr Tryz.prog 71 kQAdd := Ctr.c2 (by kernel_rfl) fun a b h => by
 refine PCall.of_vc (tabs mixed (tbl_cons lowest_C (tbl_cons times_C (tbl_cons add_C tbl_nil)))) Tryz.func71 rfl Tryz.ntmps71 Tryz.results71 (by simp) ?_
 obtain ⟨a1, a2, a3⟩ := szs h.1
 obtain ⟨b1, b2, b3⟩ := szs h.2
 have e1 := dl_mulI a.num b.den
 have e2 := dl_mulI b.num a.den
 have e3 := dl_mulI a.den b.den
 have e4 := dl_addI (a.num * b.den) (b.num * a.den)
 have z := Int.mul_ne_zero a3 b3
 simp only [go_sem, add_dI]
 and_intros <;> first | rfl | assumption | omega
def kQSub : Con := con2 pQ pQ fun a b => (qs a ≤ 5000000000000 ∧ qs b ≤ 5000000000000, .Q (a - b))
attribute [go_sem ↓, go_sem] kQSub
theorem qSub_C : Ctr Tryz.prog 133 kQSub := Ctr.c2 (by kernel_rfl) fun a b h => by
 refine PCall.of_vc (tabs mixed (tbl_cons lowest_C (tbl_cons times_C (tbl_cons sub_C tbl_nil)))) Tryz.func133 rfl Tryz.ntmps133 Tryz.results133 (by simp) ?_
 obtain ⟨a1, a2, a3⟩ := szs h.1
 obtain ⟨b1, b2, b3⟩ := szs h.2
 have e1 := dl_mulI a.num b.den
 have e2 := dl_mulI b.num a.den
 have e3 := dl_mulI a.den b.den
 have e4 := dl_subI (a.num * b.den) (b.num * a.den)
 have z := Int.mul_ne_zero a3 b3
 simp only [go_sem, sub_dI]
 and_intros <;> first | rfl | assumption | omega
def cmpQ (a b : Rat) : Int := if a < b then -1 else if a = b then 0 else 1
theorem cmpQ_I (a b : Rat) : cmpI (a.num * b.den) (b.num * a.den) = cmpQ a b := by
 unfold cmpQ cmpI
 by_cases h1 : a < b
 ·rw [if_pos h1, if_pos ((Rat.lt_iff a b).1 h1)]
 ·rw [if_neg h1, if_neg fun h => h1 ((Rat.lt_iff a b).2 h)]
  by_cases h2 : a = b
  ·rw [if_pos h2, if_pos (Rat.eq_iff_mul_eq_mul.1 h2)]
  ·rw [if_neg h2, if_neg fun h => h2 (Rat.eq_iff_mul_eq_mul.2 h)]
def kQCmp : Con := con2 pQ pQ fun a b => (qs a ≤ 5000000000000 ∧ qs b ≤ 5000000000000, .raw (.int .i64 (cmpQ a b)))
attribute [go_sem ↓, go_sem] kQCmp
theorem qCmp_C : Ctr Tryz.prog 60 kQCmp := Ctr.c2 (by kernel_rfl) fun a b h => by
 refine PCall.of_vc (tabs mixed (tbl_cons times_C (tbl_cons cmpZ_C tbl_nil))) Tryz.func60 rfl Tryz.ntmps60 Tryz.results60 (by simp) ?_
 obtain ⟨a1, a2, a3⟩ := szs h.1
 obtain ⟨b1, b2, b3⟩ := szs h.2
 have e1 := dl_mulI a.num b.den
 have e2 := dl_mulI b.num a.den
 simp only [go_sem, cmpQ_I]
 and_intros <;> first | rfl | assumption | omega
def divR (a b : Rat) : V := if b = 0 then qErr 3 else qOk (a / b)
def kQDiv : Con := con2 pQ pQ fun a b => (qs a ≤ 5000000000000 ∧ qs b ≤ 5000000000000, divR a b)
attribute [go_sem ↓, go_sem] kQDiv
theorem ofR_div (a b : Rat) : ofR (a.num * b.den) (a.den * b.num) = divR a b := by
 unfold ofR divR
 have h3 := a.den_pos
 by_cases h : b = 0
 ·rw [if_pos h, if_pos (by rw [h]; exact Int.mul_zero _)]
 ·have hb : b.num ≠ 0 := fun e => h (Rat.num_eq_zero.1 e)
  rw [if_neg h, if_neg (Int.mul_ne_zero (by omega) hb), div_dI]
theorem qDiv_C : Ctr Tryz.prog 68 kQDiv := Ctr.c2 (by kernel_rfl) fun a b h => by
 show PCall _ _ _ (divR a b)
 refine PCall.of_vc (tabs mixed (tbl_cons times_C (tbl_cons qOf_C tbl_nil))) Tryz.func68 rfl Tryz.ntmps68 Tryz.results68 (by simp) ?_
 obtain ⟨a1, a2, a3⟩ := szs h.1
 obtain ⟨b1, b2, b3⟩ := szs h.2
 have e1 := dl_mulI a.num b.den
 have e2 := dl_mulI a.den b.num
 have r := ofR_div a b
 by_cases hb : b = 0
 ·have d1 : divR a b = .tup [.agg [.I 0, .I 0], .raw (.int .i64 3)] := if_pos hb
  rw [d1] at r ⊢
  simp only [go_sem, r]
  and_intros <;> first | rfl | assumption | omega
 ·have d1 : divR a b = .tup [.Q (a / b), .raw (.int .i64 0)] := if_neg hb
  rw [d1] at r ⊢
  simp only [go_sem, r]
  and_intros <;> first | rfl | assumption | omega
end Go.Proofs.YtlhapagililgmaaGreat


/- Contracts: the reference of package rational; Valid. -/
namespace Go.Proofs.YtlhapagililgmaaGreat
set_option linter.unusedSimpArgs false
set_option linter.unusedVariables false
open Go.RowKit

set_option maxRecDepth 4000 in
theorem r2Of_V (n d : Int) (h1 : dl n.natAbs ≤ 12000000000000) (h2 : dl d.natAbs ≤ 12000000000000) : PCall Tryz.prog 113 [.I n, .I d] (ofR n d) := by
 refine PCall.of_vc (tabs mixed (tbl_cons rsign_C (tbl_cons (C := kRNeg) rneg_C (tbl_cons rgcd_C (tbl_cons rdm_C tbl_nil))))) Tryz.func113 rfl Tryz.ntmps113 Tryz.results113 (by simp) ?_
 unfold ofR
 by_cases hd : d = 0
 ·have c0 : (sgI d == 0) = true := by rw [hd]; rfl
  rw [if_pos hd]
  unfold qErr
  simp only [go_sem, c0]
  exact out_P (out_In rfl) (out_In rfl)
 ·have c0 : (sgI d == 0) = false := beqF (fun h => hd (sgI_zero.1 h))
  rw [if_neg hd]
  unfold qOk
  obtain ⟨G, hG⟩ : ∃ G, G = Nat.gcd n.natAbs d.natAbs := ⟨_, rfl⟩
  have hG0 : 0 < G := by rw [hG]; exact Nat.gcd_pos_of_pos_right _ (by omega)
  have hGd : dl G ≤ 12000000000000 := Nat.le_trans (dl_mono (by rw [hG]; exact Nat.gcd_le_right _ (by omega))) h2
  have hdm : ∀ x : Int, dmR x (G : Nat) = .tup [.I (x / (G : Nat)), .I (x % (G : Nat)), .raw (.int .i64 0)] := fun x => if_neg (by omega)
  by_cases hs : d < 0
  ·have c1 : sgI d < 0 := by rw [show sgI d = -1 from cmpI_lt hs]; decide
   obtain ⟨p1, p2⟩ := low_pos (-n) (-d) (by omega)
   rw [low_neg, Int.natAbs_neg, Int.natAbs_neg, ← hG] at p1 p2
   simp only [go_sem, c0, c1, Int.natAbs_neg, ← hG, hdm, Int.natAbs_natCast]
   and_intros <;> first | rfl | omega | exact out_Q (.refl _) (.refl _) p1.symm p2.symm
  ·have c1 : ¬ sgI d < 0 := by rw [show sgI d = 1 from cmpI_gt (by omega)]; decide
   obtain ⟨p1, p2⟩ := low_pos n d (by omega)
   rw [← hG] at p1 p2
   simp only [go_sem, c0, c1, ← hG, hdm, Int.natAbs_natCast]
   and_intros <;> first | rfl | omega | exact out_Q (.refl _) (.refl _) p1.symm p2.symm
theorem r2Of_C : Ctr Tryz.prog 113 kQOf := Ctr.c2 (by kernel_rfl) fun n d h => r2Of_V n d h.1 h.2
theorem r2of_C : Ctr Tryz.prog 78 kLowest := Ctr.c2 (by kernel_rfl) fun n d h => by
 refine PCall.of_vc (tabs mixed (tbl_cons r2Of_C tbl_nil)) Tryz.func78 rfl Tryz.ntmps78 Tryz.results78 (by simp) ?_
 obtain ⟨h0, h1, h2⟩ := h
 have r : ofR n d = .tup [.Q (Rat.divInt n d), .raw (.int .i64 0)] := if_neg h0
 simp only [go_sem, r]
 exact ⟨h1, h2⟩
def mdQ (n d : Int) : Rat := Rat.divInt n (if d = 0 then 1 else d)
def kR2Made : Con := con2 (pN .i64) (pN .i64) fun n d => ((-9223372036854775808 ≤ n ∧ n ≤ 9223372036854775807) ∧ -9223372036854775808 ≤ d ∧ d ≤ 9223372036854775807, .Q (mdQ n d))
attribute [go_sem ↓, go_sem] kR2Made
theorem dl_i64 {n : Int} (h : -9223372036854775808 ≤ n ∧ n ≤ 9223372036854775807) : dl n.natAbs ≤ 2 := dl_le.2 (by
 have : (4294967296 : Nat) ^ 2 = 18446744073709551616 := by decide
 omega)
theorem r2Made_C : Ctr Tryz.prog 26 kR2Made := Ctr.c2 (by kernel_rfl) fun n d h => by
 refine PCall.of_vc (tabs mixed (tbl_cons r2of_C (tbl_cons rof_C tbl_nil))) Tryz.func26 rfl Tryz.ntmps26 Tryz.results26 (by simp) ?_
 have e1 := dl_i64 h.1
 have e2 := dl_i64 h.2
 have h1 := h.1
 have h2 := h.2
 unfold mdQ
 by_cases hd : d = 0
 ·have c0 : (d == 0) = true := beqT hd
  rw [if_pos hd]
  have l1 : dl (Int.natAbs 1) ≤ 1 := (dl_le (k := 1)).2 (by decide)
  simp only [go_sem, c0]
  and_intros <;> first | omega | decide
 ·have c0 : (d == 0) = false := beqF hd
  rw [if_neg hd]
  simp only [go_sem, c0]
  and_intros <;> first | omega | decide
theorem r2Whole_C : Ctr Tryz.prog 45 kWhole := Ctr.c1 (by kernel_rfl) fun n h => by
 refine PCall.of_vc (tabs mixed (tbl_cons rof_C tbl_nil)) Tryz.func45 rfl Tryz.ntmps45 Tryz.results45 (by simp) ?_
 simp only [go_sem]
 exact ⟨h, out_Q (.refl _) (.refl _) rfl rfl⟩
theorem r2Sign_C : Ctr Tryz.prog 42 kQSign := Ctr.c1 (by kernel_rfl) fun a h => by
 refine PCall.of_vc (tabs mixed (tbl_cons rsign_C tbl_nil)) Tryz.func42 rfl Tryz.ntmps42 Tryz.results42 (by simp) ?_
 simp only [go_sem]
def kR2Neg : Con := con1 pQ fun a => (qs a ≤ 12000000000000, .Q (-a))
attribute [go_sem ↓, go_sem] kR2Neg
theorem r2Neg_C : Ctr Tryz.prog 76 kR2Neg := Ctr.c1 (by kernel_rfl) fun a h => by
 refine PCall.of_vc (tabs mixed (tbl_cons (C := kRNeg) rneg_C tbl_nil)) Tryz.func76 rfl Tryz.ntmps76 Tryz.results76 (by simp) ?_
 obtain ⟨a1, a2, a3⟩ := szs h
 simp only [go_sem]
 and_intros <;> first | rfl | omega | exact out_Q (.refl _) (.refl _) rfl rfl
theorem r2Floor_C : Ctr Tryz.prog 75 kFloor := Ctr.c1 (by kernel_rfl) fun a h => by
 refine PCall.of_vc (tabs mixed (tbl_cons rdm_C tbl_nil)) Tryz.func75 rfl Tryz.ntmps75 Tryz.results75 (by simp) ?_
 have hd : (a.den : Int) ≠ 0 := by have := a.den_pos; omega
 have r1 : dmR a.num a.den = .tup [.I (a.num / a.den), .I (a.num % a.den), .raw (.int .i64 0)] := if_neg hd
 have q1 := qs_num a
 have q2 := qs_den a
 simp only [go_sem, r1, Int.natAbs_natCast]
 exact ⟨⟨Nat.le_trans q1 h, Nat.le_trans q2 h⟩, out_II (Rat.floor_def a).symm⟩
theorem r2Mul_C : Ctr Tryz.prog 53 kQMul := Ctr.c2 (by kernel_rfl) fun a b h => by
 refine PCall.of_vc (tabs mixed (tbl_cons r2of_C (tbl_cons rmul_C tbl_nil))) Tryz.func53 rfl Tryz.ntmps53 Tryz.results53 (by simp) ?_
 obtain ⟨a1, a2, a3⟩ := szs h.1
 obtain ⟨b1, b2, b3⟩ := szs h.2
 have e1 := dl_mulI a.num b.num
 have e2 := dl_mulI a.den b.den
 have z := Int.mul_ne_zero a3 b3
 simp only [go_sem, mul_dI]
 and_intros <;> first | rfl | assumption | omega
theorem r2Add_C : Ctr Tryz.prog 57 kQAdd := Ctr.c2 (by kernel_rfl) fun a b h => by
 refine PCall.of_vc (tabs mixed (tbl_cons r2of_C (tbl_cons rmul_C (tbl_cons radd_C tbl_nil)))) Tryz.func57 rfl Tryz.ntmps57 Tryz.results57 (by simp) ?_
 obtain ⟨a1, a2, a3⟩ := szs h.1
 obtain ⟨b1, b2, b3⟩ := szs h.2
 have e1 := dl_mulI a.num b.den
 have e2 := dl_mulI b.num a.den
 have e3 := dl_mulI a.den b.den
 have e4 := dl_addI (a.num * b.den) (b.num * a.den)
 have z := Int.mul_ne_zero a3 b3
 simp only [go_sem, add_dI]
 and_intros <;> first | rfl | assumption | omega
theorem r2Sub_C : Ctr Tryz.prog 44 kQSub := Ctr.c2 (by kernel_rfl) fun a b h => by
 refine PCall.of_vc (tabs mixed (tbl_cons r2Add_C (tbl_cons r2Neg_C tbl_nil))) Tryz.func44 rfl Tryz.ntmps44 Tryz.results44 (by simp) ?_
 obtain ⟨h1, h2⟩ := h
 have e := Rat.sub_eq_add_neg a b
 simp only [go_sem, ← e, qs_neg]
 and_intros <;> first | rfl | assumption | omega
theorem r2Div_C : Ctr Tryz.prog 73 kQDiv := Ctr.c2 (by kernel_rfl) fun a b h => by
 show PCall _ _ _ (divR a b)
 refine PCall.of_vc (tabs mixed (tbl_cons rmul_C (tbl_cons r2Of_C tbl_nil))) Tryz.func73 rfl Tryz.ntmps73 Tryz.results73 (by simp) ?_
 obtain ⟨a1, a2, a3⟩ := szs h.1
 obtain ⟨b1, b2, b3⟩ := szs h.2
 have e1 := dl_mulI a.num b.den
 have e2 := dl_mulI a.den b.num
 have r := ofR_div a b
 by_cases hb : b = 0
 ·have d1 : divR a b = .tup [.agg [.I 0, .I 0], .raw (.int .i64 3)] := if_pos hb
  rw [d1] at r ⊢
  simp only [go_sem, r]
  and_intros <;> first | rfl | assumption | omega
 ·have d1 : divR a b = .tup [.Q (a / b), .raw (.int .i64 0)] := if_neg hb
  rw [d1] at r ⊢
  simp only [go_sem, r]
  and_intros <;> first | rfl | assumption | omega
theorem sg_sub (a b : Rat) : sgI (a - b).num = cmpQ a b := by
 unfold cmpQ
 rcases sg_cases (a - b).num with ⟨h, e⟩ | ⟨h, e⟩ | ⟨h, e⟩
 ·rw [e, if_pos]
  have h1 : ¬ 0 ≤ a - b := fun h2 => by have := Rat.num_nonneg.2 h2; omega
  exact Rat.not_le.1 fun h2 => h1 ((Rat.le_iff_sub_nonneg b a).1 h2)
 ·have h1 := Rat.num_eq_zero.1 h
  have h2 : a = b := by rw [← Rat.sub_add_cancel (a := a) (b := b), h1, Rat.zero_add]
  rw [e, h2, if_neg Rat.lt_irrefl, if_pos rfl]
 ·have h1 : 0 ≤ a - b := Rat.num_nonneg.1 (by omega)
  have h2 : b ≤ a := (Rat.le_iff_sub_nonneg b a).2 h1
  rw [e, if_neg (Rat.not_lt.2 h2), if_neg]
  intro h3
  rw [h3, Rat.sub_self] at h
  exact absurd h (by decide)
theorem r2Cmp_C : Ctr Tryz.prog 25 kQCmp := Ctr.c2 (by kernel_rfl) fun a b h => by
 refine PCall.of_vc (tabs mixed (tbl_cons r2Sub_C (tbl_cons r2Sign_C tbl_nil))) Tryz.func25 rfl Tryz.ntmps25 Tryz.results25 (by simp) ?_
 obtain ⟨h1, h2⟩ := h
 have e := sg_sub a b
 simp only [go_sem, e]
 exact ⟨h1, h2⟩
def kR2Same : Con := con2 pP pP fun a b => ((dl a.1.natAbs ≤ 30000000000000 ∧ dl a.2.natAbs ≤ 30000000000000) ∧ dl b.1.natAbs ≤ 30000000000000 ∧ dl b.2.natAbs ≤ 30000000000000, .raw (.bool (decide (a = b))))
attribute [go_sem ↓, go_sem] kR2Same
theorem r2Same_C : Ctr Tryz.prog 47 kR2Same := Ctr.c2 (by kernel_rfl) fun a b h => by
 obtain ⟨a1, a2⟩ := a
 obtain ⟨b1, b2⟩ := b
 obtain ⟨⟨h1, h2⟩, h3, h4⟩ := h
 refine PCall.of_vc (tabs mixed (tbl_cons same_C tbl_nil)) Tryz.func47 rfl Tryz.ntmps47 Tryz.results47 (by simp) ?_
 by_cases e1 : a1 = b1
 ·have c1 : decide (a1 = b1) = true := decide_eq_true e1
  have c2 : decide ((a1, a2) = (b1, b2)) = decide (a2 = b2) := by rw [e1]; simp
  simp only [go_sem, c1, c2]
  exact ⟨⟨h1, h3⟩, h2, h4⟩
 ·have c1 : decide (a1 = b1) = false := decide_eq_false e1
  have c2 : decide ((a1, a2) = (b1, b2)) = false := decide_eq_false fun h => e1 (by injection h)
  simp only [go_sem, c1, c2]
  exact ⟨h1, h3⟩
end Go.Proofs.YtlhapagililgmaaGreat


/- Contracts: powers and validity of rational numbers. -/
namespace Go.Proofs.YtlhapagililgmaaGreat
set_option linter.unusedSimpArgs false
set_option linter.unusedVariables false
open Go.RowKit

/- Validity. -/
end Go.Proofs.YtlhapagililgmaaGreat


/- Rational numbers: the rules of sizes. No program in sight. -/
namespace Go.Proofs.YtlhapagililgmaaGreat
set_option linter.unusedSimpArgs false
set_option linter.unusedVariables false
open Go.RowKit

theorem qsA {a b : Rat} {j k : Nat} (h : qs a ≤ j) (g : qs b ≤ k) : qs (a + b) ≤ j + k + 1 := Nat.le_trans (qs_add a b) (by omega)
theorem qsS {a b : Rat} {j k : Nat} (h : qs a ≤ j) (g : qs b ≤ k) : qs (a - b) ≤ j + k + 1 := Nat.le_trans (qs_sub a b) (by omega)
theorem qsM {a b : Rat} {j k : Nat} (h : qs a ≤ j) (g : qs b ≤ k) : qs (a * b) ≤ j + k := Nat.le_trans (qs_mul a b) (by omega)
theorem qsD {a b : Rat} {j k : Nat} (h : qs a ≤ j) (g : qs b ≤ k) : qs (a / b) ≤ j + k := Nat.le_trans (qs_div a b) (by omega)
theorem qsZ {z : Int} {j : Nat} (h : dl z.natAbs ≤ j) : qs (z : Rat) ≤ j + 1 := Nat.le_trans (qs_int z) (by omega)
theorem dlFl {a : Rat} {j : Nat} (h : qs a ≤ j) : dl a.floor.natAbs ≤ j := by
 rw [Rat.floor_def]
 exact Nat.le_trans (dl_mono (Int.natAbs_ediv_le_natAbs _ _)) (szs h).1
end Go.Proofs.YtlhapagililgmaaGreat

