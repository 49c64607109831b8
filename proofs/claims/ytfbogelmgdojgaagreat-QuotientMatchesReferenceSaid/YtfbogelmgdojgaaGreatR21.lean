/- Texts F1 F2 F3 F4 F6 in one. -/
import Derived.Test.YtfbogelmgdojgaaGreatR15
import Derived.Test.YtfbogelmgdojgaaGreatR13
import Derived.Test.YtfbogelmgdojgaaGreatR17
import Derived.Test.YtfbogelmgdojgaaGreatR18
/- Rational numbers: patterns of values, plain laws of lowest terms and of sizes. -/
namespace Go.Proofs.YtfbogelmgdojgaaGreat
set_option linter.unusedSimpArgs false
set_option linter.unusedVariables false
open Go.RowKit

theorem beqF {a b : Int} (h : a ≠ b) : (a == b) = false := by simpa using h
theorem beqT {a b : Int} (h : a = b) : (a == b) = true := by simpa using h
theorem sg_cases (x : Int) : (x < 0 ∧ sgI x = -1) ∨ (x = 0 ∧ sgI x = 0) ∨ (0 < x ∧ sgI x = 1) := by
 rcases Int.lt_trichotomy x 0 with h | h | h
 ·exact .inl ⟨h, cmpI_lt h⟩
 ·exact .inr (.inl ⟨h, by rw [h]; rfl⟩)
 ·exact .inr (.inr ⟨h, cmpI_gt h⟩)
theorem atsLe_append : ∀ {a b c d : List V}, atsLe a b → atsLe c d → atsLe (a ++ c) (b ++ d)
 | [], [], _, _, _, h => h
 | _ :: _, _ :: _, _, _, h1, h2 => ⟨h1.1, atsLe_append h1.2 h2⟩
 | [], _ :: _, _, _, h, _ => h.elim
 | _ :: _, [], _, _, h, _ => h.elim
theorem OutEq.ats {x : V} {z : Int} (h : OutEq x (.I z)) : atsLe x.atoms (V.atomsI z) := by
 rcases h with h | ⟨_, _, h⟩ | ⟨_, h, _⟩
 ·subst h; exact atsLe.refl _
 ·exact h
 ·cases h
theorem out_P {x y : V} {n d : Int} (hx : OutEq x (.I n)) (hy : OutEq y (.I d)) : OutEq (.agg [x, y]) (.agg [.I n, .I d]) := by
 refine .inr (.inl ⟨rfl, rfl, ?_⟩)
 show atsLe (x.atoms ++ (y.atoms ++ [])) (V.atomsI n ++ (V.atomsI d ++ []))
 exact atsLe_append hx.ats (atsLe_append hy.ats trivial)
theorem out_PQ {x : V} {n d : Int} {q : Rat} (h : OutEq x (.agg [.I n, .I d])) (h1 : n = q.num) (h2 : d = q.den) : OutEq x (.Q q) := by
 have e : (V.agg [.I n, .I d]).atoms = (V.Q q).atoms := by
  show V.atomsI n ++ (V.atomsI d ++ []) = V.atomsI q.num ++ V.atomsI q.den
  rw [h1, h2, List.append_nil]
 rcases h with h | ⟨h3, _, h4⟩ | ⟨_, h, _⟩
 ·subst h; exact .atoms rfl rfl e
 ·exact .inr (.inl ⟨h3, rfl, e ▸ h4⟩)
 ·cases h
theorem out_Q {x y : V} {n d : Int} {q : Rat} (hx : OutEq x (.I n)) (hy : OutEq y (.I d)) (h1 : n = q.num) (h2 : d = q.den) : OutEq (.agg [x, y]) (.Q q) := out_PQ (out_P hx hy) h1 h2
theorem out_QQ {a b : Rat} (h : a = b) : OutEq (.Q a) (.Q b) := .inl (by rw [h])
def pq (q : Rat) : Int × Int := (q.num, (q.den : Int))
@[go_sem] theorem pq_fst {a : Rat} : (pq a).1 = a.num := rfl
@[go_sem] theorem pq_snd {a : Rat} : (pq a).2 = (a.den : Int) := rfl
def pQ : Pat Rat where
 p
  | .Q q => some (True, q)
  | .agg [x, y] => (pI.p x).bind fun a => (pI.p y).map fun b => (a.1 ∧ b.1 ∧ (Rat.divInt a.2 b.2).num = a.2 ∧ ((Rat.divInt a.2 b.2).den : Int) = b.2, Rat.divInt a.2 b.2)
  | _ => none
 val := .Q
 ok x c a h hc := by
  split at h
  ·injection h with h; injection h with h1 h2; subst h2; exact .refl _
  ·rename_i x y
   rcases ha : pI.p x with _ | ⟨c1, a1⟩ <;> rw [ha] at h
   ·cases h
   ·rcases hb : pI.p y with _ | ⟨c2, a2⟩ <;> simp only [hb, bind_some] at h
    ·cases h
    ·injection h with h; injection h with h1 h2; subst h1 h2
     exact out_Q (pI.ok _ _ _ ha hc.1) (pI.ok _ _ _ hb hc.2.1) hc.2.2.1.symm hc.2.2.2.symm
  ·cases h
@[go_sem ↓, go_sem] theorem ev_pQ {q : Rat} : pQ.p (.Q q) = some (True, q) := rfl
@[go_sem ↓, go_sem] theorem ev_pQ_val {q : Rat} : pQ.val q = .Q q := rfl
/- Lowest terms. -/
theorem low_pos (n d : Int) (hd : 0 < d) : (Rat.divInt n d).num = n / (Nat.gcd n.natAbs d.natAbs : Nat) ∧ ((Rat.divInt n d).den : Int) = d / (Nat.gcd n.natAbs d.natAbs : Nat) := by
 have e : Int.gcd d n = Nat.gcd n.natAbs d.natAbs := Nat.gcd_comm _ _
 rw [Rat.num_divInt, Rat.den_divInt, if_neg (by omega), Int.sign_eq_one_of_pos hd, Int.one_mul, e]
 refine ⟨rfl, ?_⟩
 rw [Int.natCast_ediv]
 congr 1
 omega
theorem low_neg (n d : Int) : Rat.divInt (-n) (-d) = Rat.divInt n d := Rat.neg_divInt_neg n d
def qs (q : Rat) : Nat := max (dl q.num.natAbs) (dl q.den)
theorem qs_num (q : Rat) : dl q.num.natAbs ≤ qs q := Nat.le_max_left _ _
theorem qs_den (q : Rat) : dl q.den ≤ qs q := Nat.le_max_right _ _
theorem qs_pos (q : Rat) : 1 ≤ qs q := by
 have h1 := qs_den q
 have h2 := q.den_pos
 have h3 : dl q.den ≠ 0 := fun h => by rw [dl_eq_zero] at h; omega
 omega
theorem qs_divInt (n d : Int) : qs (Rat.divInt n d) ≤ max (max (dl n.natAbs) (dl d.natAbs)) 1 := by
 unfold qs
 by_cases h : d = 0
 ·subst h
  rw [Rat.divInt_zero]
  show max (dl 0) (dl 1) ≤ _
  have : dl 1 ≤ 1 := dl_le.2 (by decide)
  have := dl_zero
  omega
 ·rw [Rat.num_divInt, Rat.den_divInt, if_neg h]
  have h1 : dl (d.sign * n / (Int.gcd d n : Nat)).natAbs ≤ dl n.natAbs := dl_mono (by
   refine Nat.le_trans (Int.natAbs_ediv_le_natAbs _ _) ?_
   rw [Int.natAbs_mul]
   have : d.sign.natAbs ≤ 1 := by rw [Int.natAbs_sign]; split <;> omega
   exact Nat.le_trans (Nat.mul_le_mul_right _ this) (by omega))
  have h2 : dl (d.natAbs / Int.gcd d n) ≤ dl d.natAbs := dl_mono (Nat.div_le_self _ _)
  omega
theorem add_dI (a b : Rat) : Rat.divInt (a.num * b.den + b.num * a.den) ((a.den : Int) * b.den) = a + b := by
 rw [Rat.add_def', ← Int.natCast_mul, Rat.divInt_ofNat]
theorem sub_dI (a b : Rat) : Rat.divInt (a.num * b.den - b.num * a.den) ((a.den : Int) * b.den) = a - b := by
 rw [Rat.sub_def', ← Int.natCast_mul, Rat.divInt_ofNat]
theorem mul_dI (a b : Rat) : Rat.divInt (a.num * b.num) ((a.den : Int) * b.den) = a * b := by
 rw [Rat.mul_def', ← Int.natCast_mul, Rat.divInt_ofNat]
theorem div_dI (a b : Rat) : Rat.divInt (a.num * b.den) ((a.den : Int) * b.num) = a / b := by
 rw [Rat.div_def, Rat.inv_def]
 conv => rhs; rw [← Rat.num_divInt_den a, Rat.divInt_mul_divInt]
theorem qs_add (a b : Rat) : qs (a + b) ≤ qs a + qs b + 1 := by
 rw [← add_dI]
 refine Nat.le_trans (qs_divInt _ _) ?_
 have h1 : dl (a.num * b.den + b.num * a.den).natAbs ≤ qs a + qs b + 1 := by
  refine Nat.le_trans (dl_mono (Int.natAbs_add_le _ _)) (Nat.le_trans (dl_add _ _) ?_)
  have e1 := dl_mulI a.num b.den
  have e2 := dl_mulI b.num a.den
  rw [Int.natAbs_natCast] at e1 e2
  have := qs_num a; have := qs_num b; have := qs_den a; have := qs_den b
  omega
 have h2 := dl_mulI a.den b.den
 rw [Int.natAbs_natCast, Int.natAbs_natCast] at h2
 have := qs_den a; have := qs_den b
 omega
theorem qs_neg (a : Rat) : qs (-a) = qs a := by
 unfold qs
 rw [Rat.neg_num, Rat.neg_den, Int.natAbs_neg]
theorem qs_sub (a b : Rat) : qs (a - b) ≤ qs a + qs b + 1 := by
 rw [Rat.sub_eq_add_neg, ← qs_neg b]; exact qs_add _ _
theorem qs_mul (a b : Rat) : qs (a * b) ≤ qs a + qs b := by
 rw [← mul_dI]
 refine Nat.le_trans (qs_divInt _ _) ?_
 have h1 := dl_mulI a.num b.num
 have h2 := dl_mulI a.den b.den
 rw [Int.natAbs_natCast, Int.natAbs_natCast] at h2
 have := qs_num a; have := qs_num b; have := qs_den a; have := qs_den b; have := qs_pos a
 omega
theorem qs_div (a b : Rat) : qs (a / b) ≤ qs a + qs b := by
 rw [← div_dI]
 refine Nat.le_trans (qs_divInt _ _) ?_
 have h1 := dl_mulI a.num b.den
 have h2 := dl_mulI a.den b.num
 rw [Int.natAbs_natCast] at h1 h2
 have := qs_num a; have := qs_num b; have := qs_den a; have := qs_den b; have := qs_pos a
 omega
theorem qs_int (z : Int) : qs (z : Rat) ≤ max (dl z.natAbs) 1 := by
 unfold qs
 rw [Rat.num_intCast, Rat.den_intCast]
 have : dl 1 ≤ 1 := dl_le.2 (by decide)
 omega
end Go.Proofs.YtfbogelmgdojgaaGreat


/- Contracts: package rational, the arithmetic. -/
namespace Go.Proofs.YtfbogelmgdojgaaGreat
set_option linter.unusedSimpArgs false
set_option linter.unusedVariables false
open Go.RowKit

set_option maxRecDepth 4000 in
theorem lowest_V (n d : Int) (hd : d ≠ 0) (h1 : dl n.natAbs ≤ 12000000000000) (h2 : dl d.natAbs ≤ 12000000000000) : PCall Tryz.prog 99 [.I n, .I d] (.Q (Rat.divInt n d)) := by
 refine PCall.of_vc (tabs mixed (tbl_cons sign_C (tbl_cons neg_C (tbl_cons gcdA_C (tbl_cons of_C (tbl_cons cmpZ_C (tbl_cons divModA_C tbl_nil))))))) Tryz.func99 rfl Tryz.ntmps99 Tryz.results99 (by simp) ?_
 obtain ⟨G, hG⟩ : ∃ G, G = Nat.gcd n.natAbs d.natAbs := ⟨_, rfl⟩
 have hG0 : 0 < G := by rw [hG]; exact Nat.gcd_pos_of_pos_right _ (by omega)
 have hGd : dl G ≤ 12000000000000 := Nat.le_trans (dl_mono (by rw [hG]; exact Nat.gcd_le_right _ (by omega))) h2
 have hdm : ∀ x : Int, dmR x (G : Nat) = .tup [.I (x / (G : Nat)), .I (x % (G : Nat)), .raw (.int .i64 0)] := fun x => if_neg (by omega)
 have l1 : dl (Int.natAbs 1) ≤ 30000000000000 := Nat.le_trans ((dl_le (k := 1)).2 (by decide)) (by decide)
 by_cases hs : d < 0
 ·have c0 : sgI d < 0 := by rw [show sgI d = -1 from cmpI_lt hs]; decide
  obtain ⟨p1, p2⟩ := low_pos (-n) (-d) (by omega)
  rw [low_neg, Int.natAbs_neg, Int.natAbs_neg, ← hG] at p1 p2
  by_cases hg : G = 1
  ·have c1 : (cmpI ((G : Nat) : Int) 1 != 0) = false := by rw [hg]; rfl
   rw [hg] at p1 p2
   simp only [go_sem, c0, Int.natAbs_neg, ← hG, c1, Int.natAbs_natCast]
   exact ⟨by rfl, ⟨h1, h2⟩, ⟨by omega, l1⟩, by rfl, out_Q (.refl _) (.refl _) (by rw [p1]; exact (Int.ediv_one _).symm) (by rw [p2]; exact (Int.ediv_one _).symm)⟩
  ·have c1 : (cmpI ((G : Nat) : Int) 1 != 0) = true := by rw [show cmpI ((G : Nat) : Int) 1 = 1 from cmpI_gt (by omega)]; rfl
   simp only [go_sem, c0, Int.natAbs_neg, ← hG, c1, hdm, Int.natAbs_natCast]
   exact ⟨by rfl, ⟨h1, h2⟩, ⟨by omega, l1⟩, by rfl, ⟨h1, hGd⟩, ⟨h2, hGd⟩, out_Q (.refl _) (.refl _) p1.symm p2.symm⟩
 ·have c0 : ¬ sgI d < 0 := by rw [show sgI d = 1 from cmpI_gt (by omega)]; decide
  obtain ⟨p1, p2⟩ := low_pos n d (by omega)
  rw [← hG] at p1 p2
  by_cases hg : G = 1
  ·have c1 : (cmpI ((G : Nat) : Int) 1 != 0) = false := by rw [hg]; rfl
   rw [hg] at p1 p2
   simp only [go_sem, c0, ← hG, c1, Int.natAbs_natCast]
   exact ⟨⟨h1, h2⟩, ⟨by omega, l1⟩, by rfl, out_Q (.refl _) (.refl _) (by rw [p1]; exact (Int.ediv_one _).symm) (by rw [p2]; exact (Int.ediv_one _).symm)⟩
  ·have c1 : (cmpI ((G : Nat) : Int) 1 != 0) = true := by rw [show cmpI ((G : Nat) : Int) 1 = 1 from cmpI_gt (by omega)]; rfl
   simp only [go_sem, c0, ← hG, c1, hdm, Int.natAbs_natCast]
   exact ⟨⟨h1, h2⟩, ⟨by omega, l1⟩, by rfl, ⟨h1, hGd⟩, ⟨h2, hGd⟩, out_Q (.refl _) (.refl _) p1.symm p2.symm⟩
def kLowest : Con := con2 pI pI fun n d => (d ≠ 0 ∧ dl n.natAbs ≤ 12000000000000 ∧ dl d.natAbs ≤ 12000000000000, .Q (Rat.divInt n d))
attribute [go_sem ↓, go_sem] kLowest
theorem lowest_C : Ctr Tryz.prog 99 kLowest := Ctr.c2 (by kernel_rfl) fun n d h => lowest_V n d h.1 h.2.1 h.2.2
def qErr (c : Int) : V := .tup [.agg [.I 0, .I 0], .raw (.int .i64 c)]
def qOk (q : Rat) : V := .tup [.Q q, .raw (.int .i64 0)]
def ofR (n d : Int) : V := if d = 0 then qErr 3 else qOk (Rat.divInt n d)
theorem qOf_V (n d : Int) (h1 : dl n.natAbs ≤ 12000000000000) (h2 : dl d.natAbs ≤ 12000000000000) : PCall Tryz.prog 104 [.I n, .I d] (ofR n d) := by
 refine PCall.of_vc (tabs mixed (tbl_cons sign_C (tbl_cons lowest_C tbl_nil))) Tryz.func104 rfl Tryz.ntmps104 Tryz.results104 (by simp) ?_
 unfold ofR
 by_cases hd : d = 0
 ·have c0 : (sgI d == 0) = true := by rw [hd]; rfl
  rw [if_pos hd]
  unfold qErr
  simp only [go_sem, c0]
  exact out_P (out_In rfl) (out_In rfl)
 ·have c0 : (sgI d == 0) = false := beqF (fun h => hd (sgI_zero.1 h))
  rw [if_neg hd]
  unfold qOk
  simp only [go_sem, c0]
  exact ⟨hd, h1, h2⟩
def kQOf : Con := con2 pI pI fun n d => (dl n.natAbs ≤ 12000000000000 ∧ dl d.natAbs ≤ 12000000000000, ofR n d)
attribute [go_sem ↓, go_sem] kQOf
theorem qOf_C : Ctr Tryz.prog 104 kQOf := Ctr.c2 (by kernel_rfl) fun n d h => qOf_V n d h.1 h.2
def kWhole : Con := con1 (pN .i64) fun n => (-9223372036854775808 ≤ n ∧ n ≤ 9223372036854775807, .Q (n : Rat))
attribute [go_sem ↓, go_sem] kWhole
theorem whole_C : Ctr Tryz.prog 57 kWhole := Ctr.c1 (by kernel_rfl) fun n h => by
 refine PCall.of_vc (tabs mixed (tbl_cons of_C tbl_nil)) Tryz.func57 rfl Tryz.ntmps57 Tryz.results57 (by simp) ?_
 simp only [go_sem]
 exact ⟨h, out_Q (.refl _) (.refl _) rfl rfl⟩
def kQSign : Con := con1 pQ fun a => (True, .raw (.int .i64 (sgI a.num)))
attribute [go_sem ↓, go_sem] kQSign
theorem qSign_C : Ctr Tryz.prog 108 kQSign := Ctr.c1 (by kernel_rfl) fun a h => by
 refine PCall.of_vc (tabs mixed (tbl_cons sign_C tbl_nil)) Tryz.func108 rfl Tryz.ntmps108 Tryz.results108 (by simp) ?_
 simp only [go_sem]
def kQNeg : Con := con1 pQ fun a => (True, .Q (-a))
attribute [go_sem ↓, go_sem] kQNeg
theorem qNeg_C : Ctr Tryz.prog 67 kQNeg := Ctr.c1 (by kernel_rfl) fun a h => by
 refine PCall.of_vc (tabs mixed (tbl_cons neg_C tbl_nil)) Tryz.func67 rfl Tryz.ntmps67 Tryz.results67 (by simp) ?_
 simp only [go_sem]
 exact ⟨by rfl, out_Q (.refl _) (.refl _) rfl rfl⟩
/- A product of two integers, handed over as a list. -/
def pII : Pat (Int × Int) where
 p
  | .lst [x, y] => (pI.p x).bind fun a => (pI.p y).map fun b => (a.1 ∧ b.1 ∧ x = .I a.2 ∧ y = .I b.2, (a.2, b.2))
  | _ => none
 val a := .lst [.I a.1, .I a.2]
 ok x c a h hc := by
  split at h
  ·rename_i x y
   rcases ha : pI.p x with _ | ⟨c1, a1⟩ <;> rw [ha] at h
   ·cases h
   ·rcases hb : pI.p y with _ | ⟨c2, a2⟩ <;> simp only [hb, bind_some] at h
    ·cases h
    ·injection h with h; injection h with h1 h2; subst h1 h2
     obtain ⟨_, _, e1, e2⟩ := hc
     simp only at e1 e2
     rw [e1, e2]
     exact .refl _
  ·cases h
@[go_sem ↓, go_sem] theorem ev_pII {x y : Int} : pII.p (.lst [.I x, .I y]) = some (True, (x, y)) := by
  show some _ = _
  simp
@[go_sem ↓, go_sem] theorem ev_pII_val {a : Int × Int} : pII.val a = .lst [.I a.1, .I a.2] := rfl
def tm (x y : Int) : Nat → Int
 | 0 => 1
 | 1 => x
 | _ => x * y
theorem times_V (x y : Int) (hx : dl x.natAbs ≤ 12000000000000) (hy : dl y.natAbs ≤ 12000000000000) : PCall Tryz.prog 101 [.lst [.I x, .I y]] (.I (x * y)) := by
 refine PCall.of_vc (tabs mixed (tbl_cons of_C (tbl_cons mul_C tbl_nil))) Tryz.func101 rfl Tryz.ntmps101 Tryz.results101 (by simp) ?_
 have l1 : dl (Int.natAbs 1) ≤ 1 := (dl_le (k := 1)).2 (by decide)
 simp only [go_sem]
 refine AWp.loops (X := { k : Nat // k ≤ 2 })
  (fun a => mkSt [(2, .ptr 0 2 0 0), (3, .ptr 1 2 0 0), (7, .lst [.I x, .I y]), (8, .raw (.int .i64 2)), (9, .raw (.int .i64 (a.1 : Nat)))]
   [(0, true, ⟨43, 2, [.agg [.raw (.bool false), .raw (.slice none 0 0)]]⟩), (1, true, ⟨43, 2, [.I (tm x y a.1)]⟩)] 2 18)
  (fun a => 2 - a.1) ⟨0, by decide⟩ (Wk.of [0, 2] (by decide) ?_) ?_
 ·simp only [go_sem, tm]
 ·rintro ⟨k, hk⟩
  refine vc_at (tabs mixed (tbl_cons of_C (tbl_cons mul_C tbl_nil))) ?_
  match k, hk with
  | 0, _ =>
    simp only [go_sem, tm, Int.one_mul]
    refine ⟨⟨by omega, by omega⟩, ⟨1, by decide⟩, Wk.of [0, 1] (by decide) ?_, by decide⟩
    simp only [go_sem, tm]
  | 1, _ =>
    simp only [go_sem, tm]
    refine ⟨⟨by omega, by omega⟩, ⟨2, by decide⟩, Wk.of [0, 1] (by decide) ?_, by decide⟩
    simp only [go_sem, tm]
  | 2, _ => simp only [go_sem, tm]
def kTimes : Con := con1 pII fun a => (dl a.1.natAbs ≤ 12000000000000 ∧ dl a.2.natAbs ≤ 12000000000000, .I (a.1 * a.2))
attribute [go_sem ↓, go_sem] kTimes
theorem times_C : Ctr Tryz.prog 101 kTimes := Ctr.c1 (by kernel_rfl) fun a h => times_V a.1 a.2 h.1 h.2
/- Arithmetic. -/
theorem szs {a : Rat} {k : Nat} (h : qs a ≤ k) : dl a.num.natAbs ≤ k ∧ dl ((a.den : Int)).natAbs ≤ k ∧ (a.den : Int) ≠ 0 := by
 have h1 := qs_num a
 have h2 := qs_den a
 have h3 := a.den_pos
 rw [Int.natAbs_natCast]
 exact ⟨by omega, by omega, by omega⟩
def kQMul : Con := con2 pQ pQ fun a b => (qs a ≤ 5000000000000 ∧ qs b ≤ 5000000000000, .Q (a * b))
attribute [go_sem ↓, go_sem] kQMul
theorem qMul_C : Ctr Tryz.prog 59 kQMul := Ctr.c2 (by kernel_rfl) fun a b h => by
 refine PCall.of_vc (tabs mixed (tbl_cons lowest_C (tbl_cons times_C tbl_nil))) Tryz.func59 rfl Tryz.ntmps59 Tryz.results59 (by simp) ?_
 obtain ⟨a1, a2, a3⟩ := szs h.1
 obtain ⟨b1, b2, b3⟩ := szs h.2
 have e1 := dl_mulI a.num b.num
 have e2 := dl_mulI a.den b.den
 have z := Int.mul_ne_zero a3 b3
 simp only [go_sem, mul_dI]
 and_intros <;> first | rfl | assumption | omega
def kQAdd : Con := con2 pQ pQ fun a b => (qs a ≤ 5000000000000 ∧ qs b ≤ 5000000000000, .Q (a + b))
attribute [go_sem ↓, go_sem] kQAdd
theorem qAdd_C : Ctr Tryz.prog 58 kQAdd := Ctr.c2 (by kernel_rfl) fun a b h => by
 refine PCall.of_vc (tabs mixed (tbl_cons lowest_C (tbl_cons times_C (tbl_cons add_C tbl_nil)))) Tryz.func58 rfl Tryz.ntmps58 Tryz.results58 (by simp) ?_
 obtain ⟨a1, a2, a3⟩ := szs h.1
 obtain ⟨b1, b2, b3⟩ := szs h.2
 have e1 := dl_mulI a.num b.den
 have e2 := dl_mulI b.num a.den
 have e3 := dl_mulI a.den b.den
 have e4 := dl_addI (a.num * b.den) (b.num * a.den)
 have z := Int.mul_ne_zero a3 b3
 simp only [go_sem, add_dI]
 and_intros <;> first | rfl | assumption | omega
def kQSub : Con := con2 pQ pQ fun a b => (qs a ≤ 5000000000000 ∧ qs b ≤ 5000000000000, .Q (a - b))
attribute [go_sem ↓, go_sem] kQSub
theorem qSub_C : Ctr Tryz.prog 96 kQSub := Ctr.c2 (by kernel_rfl) fun a b h => by
 refine PCall.of_vc (tabs mixed (tbl_cons lowest_C (tbl_cons times_C (tbl_cons sub_C tbl_nil)))) Tryz.func96 rfl Tryz.ntmps96 Tryz.results96 (by simp) ?_
 obtain ⟨a1, a2, a3⟩ := szs h.1
 obtain ⟨b1, b2, b3⟩ := szs h.2
 have e1 := dl_mulI a.num b.den
 have e2 := dl_mulI b.num a.den
 have e3 := dl_mulI a.den b.den
 have e4 := dl_subI (a.num * b.den) (b.num * a.den)
 have z := Int.mul_ne_zero a3 b3
 simp only [go_sem, sub_dI]
 and_intros <;> first | rfl | assumption | omega
def cmpQ (a b : Rat) : Int := if a < b then -1 else if a = b then 0 else 1
def kQCmp : Con := con2 pQ pQ fun a b => (qs a ≤ 5000000000000 ∧ qs b ≤ 5000000000000, .raw (.int .i64 (cmpQ a b)))
attribute [go_sem ↓, go_sem] kQCmp
def divR (a b : Rat) : V := if b = 0 then qErr 3 else qOk (a / b)
def kQDiv : Con := con2 pQ pQ fun a b => (qs a ≤ 5000000000000 ∧ qs b ≤ 5000000000000, divR a b)
attribute [go_sem ↓, go_sem] kQDiv
theorem ofR_div (a b : Rat) : ofR (a.num * b.den) (a.den * b.num) = divR a b := by
 unfold ofR divR
 have h3 := a.den_pos
 by_cases h : b = 0
 ·rw [if_pos h, if_pos (by rw [h]; exact Int.mul_zero _)]
 ·have hb : b.num ≠ 0 := fun e => h (Rat.num_eq_zero.1 e)
  rw [if_neg h, if_neg (Int.mul_ne_zero (by omega) hb), div_dI]
theorem qDiv_C : Ctr Tryz.prog 66 kQDiv := Ctr.c2 (by kernel_rfl) fun a b h => by
 show PCall _ _ _ (divR a b)
 refine PCall.of_vc (tabs mixed (tbl_cons times_C (tbl_cons qOf_C tbl_nil))) Tryz.func66 rfl Tryz.ntmps66 Tryz.results66 (by simp) ?_
 obtain ⟨a1, a2, a3⟩ := szs h.1
 obtain ⟨b1, b2, b3⟩ := szs h.2
 have e1 := dl_mulI a.num b.den
 have e2 := dl_mulI a.den b.num
 have r := ofR_div a b
 by_cases hb : b = 0
 ·have d1 : divR a b = .tup [.agg [.I 0, .I 0], .raw (.int .i64 3)] := if_pos hb
  rw [d1] at r ⊢
  simp only [go_sem, r]
  and_intros <;> first | rfl | assumption | omega
 ·have d1 : divR a b = .tup [.Q (a / b), .raw (.int .i64 0)] := if_neg hb
  rw [d1] at r ⊢
  simp only [go_sem, r]
  and_intros <;> first | rfl | assumption | omega
end Go.Proofs.YtfbogelmgdojgaaGreat


/- Contracts: the reference of package rational; Valid. -/
namespace Go.Proofs.YtfbogelmgdojgaaGreat
set_option linter.unusedSimpArgs false
set_option linter.unusedVariables false
open Go.RowKit

set_option maxRecDepth 4000 in
theorem r2Of_V (n d : Int) (h1 : dl n.natAbs ≤ 12000000000000) (h2 : dl d.natAbs ≤ 12000000000000) : PCall Tryz.prog 117 [.I n, .I d] (ofR n d) := by
 refine PCall.of_vc (tabs mixed (tbl_cons rsign_C (tbl_cons (C := kRNeg) rneg_C (tbl_cons rgcd_C (tbl_cons rdm_C tbl_nil))))) Tryz.func117 rfl Tryz.ntmps117 Tryz.results117 (by simp) ?_
 unfold ofR
 by_cases hd : d = 0
 ·have c0 : (sgI d == 0) = true := by rw [hd]; rfl
  rw [if_pos hd]
  unfold qErr
  simp only [go_sem, c0]
  exact out_P (out_In rfl) (out_In rfl)
 ·have c0 : (sgI d == 0) = false := beqF (fun h => hd (sgI_zero.1 h))
  rw [if_neg hd]
  unfold qOk
  obtain ⟨G, hG⟩ : ∃ G, G = Nat.gcd n.natAbs d.natAbs := ⟨_, rfl⟩
  have hG0 : 0 < G := by rw [hG]; exact Nat.gcd_pos_of_pos_right _ (by omega)
  have hGd : dl G ≤ 12000000000000 := Nat.le_trans (dl_mono (by rw [hG]; exact Nat.gcd_le_right _ (by omega))) h2
  have hdm : ∀ x : Int, dmR x (G : Nat) = .tup [.I (x / (G : Nat)), .I (x % (G : Nat)), .raw (.int .i64 0)] := fun x => if_neg (by omega)
  by_cases hs : d < 0
  ·have c1 : sgI d < 0 := by rw [show sgI d = -1 from cmpI_lt hs]; decide
   obtain ⟨p1, p2⟩ := low_pos (-n) (-d) (by omega)
   rw [low_neg, Int.natAbs_neg, Int.natAbs_neg, ← hG] at p1 p2
   simp only [go_sem, c0, c1, Int.natAbs_neg, ← hG, hdm, Int.natAbs_natCast]
   and_intros <;> first | rfl | omega | exact out_Q (.refl _) (.refl _) p1.symm p2.symm
  ·have c1 : ¬ sgI d < 0 := by rw [show sgI d = 1 from cmpI_gt (by omega)]; decide
   obtain ⟨p1, p2⟩ := low_pos n d (by omega)
   rw [← hG] at p1 p2
   simp only [go_sem, c0, c1, ← hG, hdm, Int.natAbs_natCast]
   and_intros <;> first | rfl | omega | exact out_Q (.refl _) (.refl _) p1.symm p2.symm
theorem r2Of_C : Ctr Tryz.prog 117 kQOf := Ctr.c2 (by kernel_rfl) fun n d h => r2Of_V n d h.1 h.2
theorem r2of_C : Ctr Tryz.prog 81 kLowest := Ctr.c2 (by kernel_rfl) fun n d h => by
 refine PCall.of_vc (tabs mixed (tbl_cons r2Of_C tbl_nil)) Tryz.func81 rfl Tryz.ntmps81 Tryz.results81 (by simp) ?_
 obtain ⟨h0, h1, h2⟩ := h
 have r : ofR n d = .tup [.Q (Rat.divInt n d), .raw (.int .i64 0)] := if_neg h0
 simp only [go_sem, r]
 exact ⟨h1, h2⟩
def mdQ (n d : Int) : Rat := Rat.divInt n (if d = 0 then 1 else d)
def kR2Made : Con := con2 (pN .i64) (pN .i64) fun n d => ((-9223372036854775808 ≤ n ∧ n ≤ 9223372036854775807) ∧ -9223372036854775808 ≤ d ∧ d ≤ 9223372036854775807, .Q (mdQ n d))
attribute [go_sem ↓, go_sem] kR2Made
theorem dl_i64 {n : Int} (h : -9223372036854775808 ≤ n ∧ n ≤ 9223372036854775807) : dl n.natAbs ≤ 2 := dl_le.2 (by
 have : (4294967296 : Nat) ^ 2 = 18446744073709551616 := by decide
 omega)
theorem r2Made_C : Ctr Tryz.prog 37 kR2Made := Ctr.c2 (by kernel_rfl) fun n d h => by
 refine PCall.of_vc (tabs mixed (tbl_cons r2of_C (tbl_cons rof_C tbl_nil))) Tryz.func37 rfl Tryz.ntmps37 Tryz.results37 (by simp) ?_
 have e1 := dl_i64 h.1
 have e2 := dl_i64 h.2
 have h1 := h.1
 have h2 := h.2
 unfold mdQ
 by_cases hd : d = 0
 ·have c0 : (d == 0) = true := beqT hd
  rw [if_pos hd]
  have l1 : dl (Int.natAbs 1) ≤ 1 := (dl_le (k := 1)).2 (by decide)
  simp only [go_sem, c0]
  and_intros <;> first | omega | decide
 ·have c0 : (d == 0) = false := beqF hd
  rw [if_neg hd]
  simp only [go_sem, c0]
  and_intros <;> first | omega | decide
theorem r2Whole_C : Ctr Tryz.prog 36 kWhole := Ctr.c1 (by kernel_rfl) fun n h => by
 refine PCall.of_vc (tabs mixed (tbl_cons rof_C tbl_nil)) Tryz.func36 rfl Tryz.ntmps36 Tryz.results36 (by simp) ?_
 simp only [go_sem]
 exact ⟨h, out_Q (.refl _) (.refl _) rfl rfl⟩
theorem r2Sign_C : Ctr Tryz.prog 34 kQSign := Ctr.c1 (by kernel_rfl) fun a h => by
 refine PCall.of_vc (tabs mixed (tbl_cons rsign_C tbl_nil)) Tryz.func34 rfl Tryz.ntmps34 Tryz.results34 (by simp) ?_
 simp only [go_sem]
def kR2Neg : Con := con1 pQ fun a => (qs a ≤ 12000000000000, .Q (-a))
attribute [go_sem ↓, go_sem] kR2Neg
theorem r2Neg_C : Ctr Tryz.prog 44 kR2Neg := Ctr.c1 (by kernel_rfl) fun a h => by
 refine PCall.of_vc (tabs mixed (tbl_cons (C := kRNeg) rneg_C tbl_nil)) Tryz.func44 rfl Tryz.ntmps44 Tryz.results44 (by simp) ?_
 obtain ⟨a1, a2, a3⟩ := szs h
 simp only [go_sem]
 and_intros <;> first | rfl | omega | exact out_Q (.refl _) (.refl _) rfl rfl
theorem r2Mul_C : Ctr Tryz.prog 39 kQMul := Ctr.c2 (by kernel_rfl) fun a b h => by
 refine PCall.of_vc (tabs mixed (tbl_cons r2of_C (tbl_cons rmul_C tbl_nil))) Tryz.func39 rfl Tryz.ntmps39 Tryz.results39 (by simp) ?_
 obtain ⟨a1, a2, a3⟩ := szs h.1
 obtain ⟨b1, b2, b3⟩ := szs h.2
 have e1 := dl_mulI a.num b.num
 have e2 := dl_mulI a.den b.den
 have z := Int.mul_ne_zero a3 b3
 simp only [go_sem, mul_dI]
 and_intros <;> first | rfl | assumption | omega
theorem r2Add_C : Ctr Tryz.prog 38 kQAdd := Ctr.c2 (by kernel_rfl) fun a b h => by
 refine PCall.of_vc (tabs mixed (tbl_cons r2of_C (tbl_cons rmul_C (tbl_cons radd_C tbl_nil)))) Tryz.func38 rfl Tryz.ntmps38 Tryz.results38 (by simp) ?_
 obtain ⟨a1, a2, a3⟩ := szs h.1
 obtain ⟨b1, b2, b3⟩ := szs h.2
 have e1 := dl_mulI a.num b.den
 have e2 := dl_mulI b.num a.den
 have e3 := dl_mulI a.den b.den
 have e4 := dl_addI (a.num * b.den) (b.num * a.den)
 have z := Int.mul_ne_zero a3 b3
 simp only [go_sem, add_dI]
 and_intros <;> first | rfl | assumption | omega
theorem r2Sub_C : Ctr Tryz.prog 56 kQSub := Ctr.c2 (by kernel_rfl) fun a b h => by
 refine PCall.of_vc (tabs mixed (tbl_cons r2Add_C (tbl_cons r2Neg_C tbl_nil))) Tryz.func56 rfl Tryz.ntmps56 Tryz.results56 (by simp) ?_
 obtain ⟨h1, h2⟩ := h
 have e := Rat.sub_eq_add_neg a b
 simp only [go_sem, ← e, qs_neg]
 and_intros <;> first | rfl | assumption | omega
theorem r2Div_C : Ctr Tryz.prog 94 kQDiv := Ctr.c2 (by kernel_rfl) fun a b h => by
 show PCall _ _ _ (divR a b)
 refine PCall.of_vc (tabs mixed (tbl_cons rmul_C (tbl_cons r2Of_C tbl_nil))) Tryz.func94 rfl Tryz.ntmps94 Tryz.results94 (by simp) ?_
 obtain ⟨a1, a2, a3⟩ := szs h.1
 obtain ⟨b1, b2, b3⟩ := szs h.2
 have e1 := dl_mulI a.num b.den
 have e2 := dl_mulI a.den b.num
 have r := ofR_div a b
 by_cases hb : b = 0
 ·have d1 : divR a b = .tup [.agg [.I 0, .I 0], .raw (.int .i64 3)] := if_pos hb
  rw [d1] at r ⊢
  simp only [go_sem, r]
  and_intros <;> first | rfl | assumption | omega
 ·have d1 : divR a b = .tup [.Q (a / b), .raw (.int .i64 0)] := if_neg hb
  rw [d1] at r ⊢
  simp only [go_sem, r]
  and_intros <;> first | rfl | assumption | omega
theorem sg_sub (a b : Rat) : sgI (a - b).num = cmpQ a b := by
 unfold cmpQ
 rcases sg_cases (a - b).num with ⟨h, e⟩ | ⟨h, e⟩ | ⟨h, e⟩
 ·rw [e, if_pos]
  have h1 : ¬ 0 ≤ a - b := fun h2 => by have := Rat.num_nonneg.2 h2; omega
  exact Rat.not_le.1 fun h2 => h1 ((Rat.le_iff_sub_nonneg b a).1 h2)
 ·have h1 := Rat.num_eq_zero.1 h
  have h2 : a = b := by rw [← Rat.sub_add_cancel (a := a) (b := b), h1, Rat.zero_add]
  rw [e, h2, if_neg Rat.lt_irrefl, if_pos rfl]
 ·have h1 : 0 ≤ a - b := Rat.num_nonneg.1 (by omega)
  have h2 : b ≤ a := (Rat.le_iff_sub_nonneg b a).2 h1
  rw [e, if_neg (Rat.not_lt.2 h2), if_neg]
  intro h3
  rw [h3, Rat.sub_self] at h
  exact absurd h (by decide)
theorem r2Cmp_C : Ctr Tryz.prog 19 kQCmp := Ctr.c2 (by kernel_rfl) fun a b h => by
 refine PCall.of_vc (tabs mixed (tbl_cons r2Sub_C (tbl_cons r2Sign_C tbl_nil))) Tryz.func19 rfl Tryz.ntmps19 Tryz.results19 (by simp) ?_
 obtain ⟨h1, h2⟩ := h
 have e := sg_sub a b
 simp only [go_sem, e]
 exact ⟨h1, h2⟩
end Go.Proofs.YtfbogelmgdojgaaGreat


/- Contracts: powers and validity of rational numbers. -/
namespace Go.Proofs.YtfbogelmgdojgaaGreat
set_option linter.unusedSimpArgs false
set_option linter.unusedVariables false
open Go.RowKit

theorem qs_pow (a : Rat) (n : Nat) : qs (a ^ n) ≤ n * qs a + 1 := by
 unfold qs
 rw [Rat.num_pow, Rat.den_pow]
 have h1 := dl_pw1 a.num n
 have h2 := dl_pw1 (a.den : Int) n
 unfold pw at h1 h2
 rw [← Int.natCast_pow, Int.natAbs_natCast, Int.natAbs_natCast] at h2
 have h3 : n * dl a.num.natAbs ≤ n * max (dl a.num.natAbs) (dl a.den) := Nat.mul_le_mul_left _ (Nat.le_max_left _ _)
 have h4 : n * dl a.den ≤ n * max (dl a.num.natAbs) (dl a.den) := Nat.mul_le_mul_left _ (Nat.le_max_right _ _)
 omega
/- Validity. -/
def pRR : Pat ((Bool × List Nat) × (Bool × List Nat)) where
 p
  | .Q q => some (True, (decide (q.num < 0), dg q.num.natAbs), (decide ((q.den : Int) < 0), dg (q.den : Int).natAbs))
  | .agg [x, y] => (pRaw.p x).bind fun a => (pRaw.p y).map fun b => (a.1 ∧ b.1, (a.2, b.2))
  | _ => none
 val a := .agg [pRaw.val a.1, pRaw.val a.2]
 ok x c a h hc := by
  split at h
  ·injection h with h; injection h with h1 h2; subst h2
   exact .atoms rfl rfl (by simp [V.atoms, V.atomsL, V.atomsI, pRaw])
  ·rename_i x y
   rcases ha : pRaw.p x with _ | ⟨c1, a1⟩ <;> rw [ha] at h
   ·cases h
   ·rcases hb : pRaw.p y with _ | ⟨c2, a2⟩ <;> simp only [hb, bind_some] at h
    ·cases h
    ·injection h with h; injection h with h1 h2; subst h1 h2
     have g1 := pRaw.ok _ _ _ ha hc.1
     have g2 := pRaw.ok _ _ _ hb hc.2
     have at2 : ∀ {x : V} {s : Bool × List Nat}, OutEq x (pRaw.val s) → atsLe x.atoms (pRaw.val s).atoms := fun {x s} h => by
      rcases h with h | ⟨_, _, h⟩ | ⟨_, h, _⟩
      ·subst h; exact atsLe.refl _
      ·exact h
      ·cases h
     refine .inr (.inl ⟨rfl, rfl, ?_⟩)
     show atsLe (x.atoms ++ (y.atoms ++ [])) ((pRaw.val a1).atoms ++ ((pRaw.val a2).atoms ++ []))
     exact atsLe_append (at2 g1) (atsLe_append (at2 g2) trivial)
  ·cases h
@[go_sem ↓, go_sem] theorem ev_pRR {q : Rat} : pRR.p (.Q q) = some (True, (decide (q.num < 0), dg q.num.natAbs), (decide ((q.den : Int) < 0), dg (q.den : Int).natAbs)) := rfl
@[go_sem ↓, go_sem] theorem ev_pRR_agg {x y : V} : pRR.p (.agg [x, y]) = (pRaw.p x).bind fun a => (pRaw.p y).map fun b => (a.1 ∧ b.1, (a.2, b.2)) := rfl
@[go_sem ↓, go_sem] theorem ev_pRR_val {a : (Bool × List Nat) × (Bool × List Nat)} : pRR.val a = .agg [pRaw.val a.1, pRaw.val a.2] := rfl
def validQ (a : (Bool × List Nat) × (Bool × List Nat)) : Bool := validB a.1.1 a.1.2 && validB a.2.1 a.2.2 && decide (0 < sv a.2.1 a.2.2) && decide (Nat.gcd (lv a.1.2) (lv a.2.2) = 1)
theorem validQ_Q (q : Rat) : validQ ((decide (q.num < 0), dg q.num.natAbs), (decide ((q.den : Int) < 0), dg (q.den : Int).natAbs)) = true := by
 unfold validQ
 have h1 := validB_I q.num
 have h2 := validB_I q.den
 have h3 : sv (decide ((q.den : Int) < 0)) (dg (q.den : Int).natAbs) = q.den := by
  rw [show decide ((q.den : Int) < 0) = false from decide_eq_false (by omega), sv_false, lv_dg, Int.natAbs_natCast]
 have h4 := q.den_pos
 have h5 : Nat.gcd (lv (dg q.num.natAbs)) (lv (dg (q.den : Int).natAbs)) = 1 := by
  rw [lv_dg, lv_dg, Int.natAbs_natCast]; exact q.reduced
 simp only [h1, h2, h3, h5, Bool.true_and, decide_true, Bool.and_true]
 exact decide_eq_true (by omega)
theorem validB_canon {s : Bool} {l : List Nat} (hl : Lim l) (h : validB s l = true) : Canon l ∧ (s = true → l ≠ []) := by
 unfold validB at h
 split at h
 ·rename_i e
  subst e
  exact ⟨Canon.nil, fun hs => by subst hs; simp at h⟩
 ·rename_i e
  exact ⟨⟨hl, fun _ => by simpa using h⟩, fun _ => e⟩
theorem cmp_one (G : Nat) : (cmpI ((G : Nat) : Int) 1 == 0) = decide (G = 1) := by
 by_cases h : G = 1
 ·rw [h]; rfl
 ·rw [decide_eq_false h]
  exact beqF fun e => h (by have := cmpI_zero.1 e; omega)
theorem one_nat (G : Nat) : decide (((G : Nat) : Int) = 1) = decide (G = 1) := by
 by_cases h : G = 1
 ·rw [h]; rfl
 ·rw [decide_eq_false h]; exact decide_eq_false (by omega)
set_option maxRecDepth 2000 in
theorem qValid_V (s t : Bool) (l m : List Nat) (hl : Lim l) (hm : Lim m) (h1 : l.length ≤ 12000000000000) (h2 : m.length ≤ 12000000000000) : PCall Tryz.prog 111 [.agg [.agg [.raw (.bool s), .lst (V.limbs l)], .agg [.raw (.bool t), .lst (V.limbs m)]]] (.raw (.bool (validQ ((s, l), (t, m))))) := by
 refine PCall.of_vc (tabs mixed (tbl_cons valid_C (tbl_cons sign_C (tbl_cons gcdA_C (tbl_cons of_C (tbl_cons cmpZ_C tbl_nil)))))) Tryz.func111 rfl Tryz.ntmps111 Tryz.results111 (by simp) ?_
 unfold validQ
 have l1 : dl (Int.natAbs 1) ≤ 1 := (dl_le (k := 1)).2 (by decide)
 have g1 : l.length ≤ 9223372036854775807 := by omega
 have g2 : m.length ≤ 9223372036854775807 := by omega
 rcases c1 : validB s l with _ | _
 ·simp only [go_sem, c1]
  exact g1
 ·rcases c2 : validB t m with _ | _
  ·simp only [go_sem, c1, c2]
   exact ⟨g1, g2⟩
  ·obtain ⟨a1, a2⟩ := validB_canon hl c1
   obtain ⟨b1, b2⟩ := validB_canon hm c2
   have d1 : dl (lv l) ≤ 12000000000000 := Nat.le_trans (dl_le_of_lim hl) h1
   have d2 : dl (lv m) ≤ 12000000000000 := Nat.le_trans (dl_le_of_lim hm) h2
   by_cases hp : 0 < sv t m
   ·have c3 : ¬ sgI (sv t m) ≤ 0 := by rw [show sgI (sv t m) = 1 from cmpI_gt hp]; decide
    have c4 : decide (0 < sv t m) = true := decide_eq_true hp
    have hm0 : lv m ≠ 0 := by have := sv_natAbs t m; omega
    have d3 : dl (Nat.gcd (lv l) (lv m)) ≤ 12000000000000 := Nat.le_trans (dl_mono (Nat.gcd_le_right _ (by omega))) d2
    simp only [go_sem, c1, c2, c3, c4, sv_natAbs, cmp_one, Int.natAbs_natCast, Bool.true_and]
    and_intros <;> first | rfl | assumption | exact a1.2 | exact b1.2 | exact a2 | exact b2 | omega
   ·have c3 : sgI (sv t m) ≤ 0 := by rcases sg_cases (sv t m) with ⟨_, e⟩ | ⟨_, e⟩ | ⟨h, _⟩ <;> first | omega | (rw [e]; decide)
    have c4 : decide (0 < sv t m) = false := decide_eq_false hp
    simp only [go_sem, c1, c2, c3, c4, Bool.false_and, Bool.and_false]
    and_intros <;> first | rfl | assumption | exact a1.2 | exact b1.2 | exact a2 | exact b2 | omega
set_option maxRecDepth 2000 in
theorem r2Valid_V (s t : Bool) (l m : List Nat) (hl : Lim l) (hm : Lim m) (h1 : l.length ≤ 12000000000000) (h2 : m.length ≤ 12000000000000) : PCall Tryz.prog 115 [.agg [.agg [.raw (.bool s), .lst (V.limbs l)], .agg [.raw (.bool t), .lst (V.limbs m)]]] (.raw (.bool (validQ ((s, l), (t, m))))) := by
 refine PCall.of_vc (tabs mixed (tbl_cons rvalid_C (tbl_cons rsign_C (tbl_cons rgcd_C (tbl_cons rof_C (tbl_cons same_C tbl_nil)))))) Tryz.func115 rfl Tryz.ntmps115 Tryz.results115 (by simp) ?_
 unfold validQ
 have l1 : dl (Int.natAbs 1) ≤ 1 := (dl_le (k := 1)).2 (by decide)
 have g1 : l.length ≤ 9223372036854775807 := by omega
 have g2 : m.length ≤ 9223372036854775807 := by omega
 rcases c1 : validB s l with _ | _
 ·simp only [go_sem, c1]
  exact g1
 ·rcases c2 : validB t m with _ | _
  ·simp only [go_sem, c1, c2]
   exact ⟨g1, g2⟩
  ·obtain ⟨a1, a2⟩ := validB_canon hl c1
   obtain ⟨b1, b2⟩ := validB_canon hm c2
   have d1 : dl (lv l) ≤ 12000000000000 := Nat.le_trans (dl_le_of_lim hl) h1
   have d2 : dl (lv m) ≤ 12000000000000 := Nat.le_trans (dl_le_of_lim hm) h2
   by_cases hp : 0 < sv t m
   ·have c3 : ¬ sgI (sv t m) ≤ 0 := by rw [show sgI (sv t m) = 1 from cmpI_gt hp]; decide
    have c4 : decide (0 < sv t m) = true := decide_eq_true hp
    have hm0 : lv m ≠ 0 := by have := sv_natAbs t m; omega
    have d3 : dl (Nat.gcd (lv l) (lv m)) ≤ 12000000000000 := Nat.le_trans (dl_mono (Nat.gcd_le_right _ (by omega))) d2
    simp only [go_sem, c1, c2, c3, c4, sv_natAbs, one_nat, Int.natAbs_natCast, Bool.true_and]
    and_intros <;> first | rfl | assumption | exact a1.2 | exact b1.2 | exact a2 | exact b2 | omega
   ·have c3 : sgI (sv t m) ≤ 0 := by rcases sg_cases (sv t m) with ⟨_, e⟩ | ⟨_, e⟩ | ⟨h, _⟩ <;> first | omega | (rw [e]; decide)
    have c4 : decide (0 < sv t m) = false := decide_eq_false hp
    simp only [go_sem, c1, c2, c3, c4, Bool.false_and, Bool.and_false]
    and_intros <;> first | rfl | assumption | exact a1.2 | exact b1.2 | exact a2 | exact b2 | omega
def kQValid : Con := con1 pRR fun a => ((Lim a.1.2 ∧ Lim a.2.2) ∧ a.1.2.length ≤ 12000000000000 ∧ a.2.2.length ≤ 12000000000000, .raw (.bool (validQ a)))
attribute [go_sem ↓, go_sem] kQValid
theorem qValid_C : Ctr Tryz.prog 111 kQValid := Ctr.c1 (by kernel_rfl) fun a h => qValid_V a.1.1 a.2.1 a.1.2 a.2.2 h.1.1 h.1.2 h.2.1 h.2.2
theorem r2Valid_C : Ctr Tryz.prog 115 kQValid := Ctr.c1 (by kernel_rfl) fun a h => r2Valid_V a.1.1 a.2.1 a.1.2 a.2.2 h.1.1 h.1.2 h.2.1 h.2.2
end Go.Proofs.YtfbogelmgdojgaaGreat


/- Rational numbers: the rules of sizes. No program in sight. -/
namespace Go.Proofs.YtfbogelmgdojgaaGreat
set_option linter.unusedSimpArgs false
set_option linter.unusedVariables false
open Go.RowKit

theorem szLN {a : Rat} {j k : Nat} (h : qs a ≤ j) (e : j ≤ k) : (dg a.num.natAbs).length ≤ k := Nat.le_trans (szs h).1 e
theorem szLD {a : Rat} {j k : Nat} (h : qs a ≤ j) (e : j ≤ k) : (dg (a.den : Int).natAbs).length ≤ k := Nat.le_trans (szs h).2.1 e
theorem qsA {a b : Rat} {j k : Nat} (h : qs a ≤ j) (g : qs b ≤ k) : qs (a + b) ≤ j + k + 1 := Nat.le_trans (qs_add a b) (by omega)
theorem qsS {a b : Rat} {j k : Nat} (h : qs a ≤ j) (g : qs b ≤ k) : qs (a - b) ≤ j + k + 1 := Nat.le_trans (qs_sub a b) (by omega)
theorem qsM {a b : Rat} {j k : Nat} (h : qs a ≤ j) (g : qs b ≤ k) : qs (a * b) ≤ j + k := Nat.le_trans (qs_mul a b) (by omega)
theorem qsD {a b : Rat} {j k : Nat} (h : qs a ≤ j) (g : qs b ≤ k) : qs (a / b) ≤ j + k := Nat.le_trans (qs_div a b) (by omega)
theorem qsZ {z : Int} {j : Nat} (h : dl z.natAbs ≤ j) : qs (z : Rat) ≤ j + 1 := Nat.le_trans (qs_int z) (by omega)
end Go.Proofs.YtfbogelmgdojgaaGreat

