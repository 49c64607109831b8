/- Texts F1 F2 F3 PM7 PM8 PM9 PM11 PM12 G1 in one. -/
import Derived.Test.YtjjebokgckmnjaaR15
import Derived.Test.YtjjebokgckmnjaaR13
import Derived.Test.YtjjebokgckmnjaaR17
import Derived.Test.YtjjebokgckmnjaaR18
import Derived.Test.YtjjebokgckmnjaaR19
/- Rational numbers: patterns of values, plain laws of lowest terms and of sizes. -/
namespace Go.Proofs.Ytjjebokgckmnjaa
set_option linter.unusedSimpArgs false
set_option linter.unusedVariables false
open Go.RowKit

theorem beqF {a b : Int} (h : a ≠ b) : (a == b) = false := by simpa using h
theorem beqT {a b : Int} (h : a = b) : (a == b) = true := by simpa using h
theorem sg_cases (x : Int) : (x < 0 ∧ sgI x = -1) ∨ (x = 0 ∧ sgI x = 0) ∨ (0 < x ∧ sgI x = 1) := by
  rcases Int.lt_trichotomy x 0 with h | h | h
  · exact .inl ⟨h, cmpI_lt h⟩
  · exact .inr (.inl ⟨h, by rw [h]; rfl⟩)
  · exact .inr (.inr ⟨h, cmpI_gt h⟩)
theorem atsLe_append : ∀ {a b c d : List V}, atsLe a b → atsLe c d → atsLe (a ++ c) (b ++ d)
  | [], [], _, _, _, h => h
  | _ :: _, _ :: _, _, _, h1, h2 => ⟨h1.1, atsLe_append h1.2 h2⟩
  | [], _ :: _, _, _, h, _ => h.elim
  | _ :: _, [], _, _, h, _ => h.elim
theorem OutEq.ats {x : V} {z : Int} (h : OutEq x (.I z)) : atsLe x.atoms (V.atomsI z) := by
  rcases h with h | ⟨_, _, h⟩ | ⟨_, h, _⟩
  · subst h; exact atsLe.refl _
  · exact h
  · cases h
theorem out_P {x y : V} {n d : Int} (hx : OutEq x (.I n)) (hy : OutEq y (.I d)) : OutEq (.agg [x, y]) (.agg [.I n, .I d]) := by
  refine .inr (.inl ⟨rfl, rfl, ?_⟩)
  show atsLe (x.atoms ++ (y.atoms ++ [])) (V.atomsI n ++ (V.atomsI d ++ []))
  exact atsLe_append hx.ats (atsLe_append hy.ats trivial)
theorem out_PQ {x : V} {n d : Int} {q : Rat} (h : OutEq x (.agg [.I n, .I d])) (h1 : n = q.num) (h2 : d = q.den) : OutEq x (.Q q) := by
  have e : (V.agg [.I n, .I d]).atoms = (V.Q q).atoms := by
    show V.atomsI n ++ (V.atomsI d ++ []) = V.atomsI q.num ++ V.atomsI q.den
    rw [h1, h2, List.append_nil]
  rcases h with h | ⟨h3, _, h4⟩ | ⟨_, h, _⟩
  · subst h; exact .atoms rfl rfl e
  · exact .inr (.inl ⟨h3, rfl, e ▸ h4⟩)
  · cases h
theorem out_Q {x y : V} {n d : Int} {q : Rat} (hx : OutEq x (.I n)) (hy : OutEq y (.I d)) (h1 : n = q.num) (h2 : d = q.den) : OutEq (.agg [x, y]) (.Q q) := out_PQ (out_P hx hy) h1 h2
theorem out_QP {q : Rat} {n d : Int} (h1 : q.num = n) (h2 : (q.den : Int) = d) : OutEq (.Q q) (.agg [.I n, .I d]) := by
  refine .atoms rfl rfl ?_
  show V.atomsI q.num ++ V.atomsI q.den = V.atomsI n ++ (V.atomsI d ++ [])
  rw [h1, h2, List.append_nil]
/-- Numerator and denominator. -/
def pq (q : Rat) : Int × Int := (q.num, (q.den : Int))
@[go_sem] theorem pq_inj {a b : Rat} : (pq a = pq b) = (a = b) := by
  refine propext ⟨fun h => ?_, fun h => by rw [h]⟩
  injection h with h1 h2
  exact Rat.ext h1 (by omega)
@[go_sem] theorem pq_fst {a : Rat} : (pq a).1 = a.num := rfl
@[go_sem] theorem pq_snd {a : Rat} : (pq a).2 = (a.den : Int) := rfl
/-- A pair of integers. -/
def pP : Pat (Int × Int) where
  p
    | .Q q => some (True, pq q)
    | .agg [x, y] => (pI.p x).bind fun a => (pI.p y).map fun b => (a.1 ∧ b.1, (a.2, b.2))
    | _ => none
  val a := .agg [.I a.1, .I a.2]
  ok x c a h hc := by
    split at h
    · injection h with h; injection h with h1 h2; subst h2; exact out_QP rfl rfl
    · rename_i x y
      rcases ha : pI.p x with _ | ⟨c1, a1⟩ <;> rw [ha] at h
      · cases h
      · rcases hb : pI.p y with _ | ⟨c2, a2⟩ <;> simp only [hb, bind_some] at h
        · cases h
        · injection h with h; injection h with h1 h2; subst h1 h2
          exact out_P (pI.ok _ _ _ ha hc.1) (pI.ok _ _ _ hb hc.2)
    · cases h
@[go_sem ↓, go_sem] theorem ev_pP {q : Rat} : pP.p (.Q q) = some (True, pq q) := rfl
@[go_sem ↓, go_sem] theorem ev_pP_agg {x y : V} : pP.p (.agg [x, y]) = (pI.p x).bind fun a => (pI.p y).map fun b => (a.1 ∧ b.1, (a.2, b.2)) := rfl
@[go_sem ↓, go_sem] theorem ev_pP_val {a : Int × Int} : pP.val a = .agg [.I a.1, .I a.2] := rfl
/-- A rational number in lowest terms. -/
def pQ : Pat Rat where
  p
    | .Q q => some (True, q)
    | .agg [x, y] => (pI.p x).bind fun a => (pI.p y).map fun b => (a.1 ∧ b.1 ∧ (Rat.divInt a.2 b.2).num = a.2 ∧ ((Rat.divInt a.2 b.2).den : Int) = b.2, Rat.divInt a.2 b.2)
    | _ => none
  val := .Q
  ok x c a h hc := by
    split at h
    · injection h with h; injection h with h1 h2; subst h2; exact .refl _
    · rename_i x y
      rcases ha : pI.p x with _ | ⟨c1, a1⟩ <;> rw [ha] at h
      · cases h
      · rcases hb : pI.p y with _ | ⟨c2, a2⟩ <;> simp only [hb, bind_some] at h
        · cases h
        · injection h with h; injection h with h1 h2; subst h1 h2
          exact out_Q (pI.ok _ _ _ ha hc.1) (pI.ok _ _ _ hb hc.2.1) hc.2.2.1.symm hc.2.2.2.symm
    · cases h
@[go_sem ↓, go_sem] theorem ev_pQ {q : Rat} : pQ.p (.Q q) = some (True, q) := rfl
@[go_sem ↓, go_sem] theorem ev_pQ_val {q : Rat} : pQ.val q = .Q q := rfl
/- Lowest terms. -/
theorem low_pos (n d : Int) (hd : 0 < d) : (Rat.divInt n d).num = n / (Nat.gcd n.natAbs d.natAbs : Nat) ∧ ((Rat.divInt n d).den : Int) = d / (Nat.gcd n.natAbs d.natAbs : Nat) := by
  have e : Int.gcd d n = Nat.gcd n.natAbs d.natAbs := Nat.gcd_comm _ _
  rw [Rat.num_divInt, Rat.den_divInt, if_neg (by omega), Int.sign_eq_one_of_pos hd, Int.one_mul, e]
  refine ⟨rfl, ?_⟩
  rw [Int.natCast_ediv]
  congr 1
  omega
theorem low_neg (n d : Int) : Rat.divInt (-n) (-d) = Rat.divInt n d := Rat.neg_divInt_neg n d
/-- The size of a rational number. -/
def qs (q : Rat) : Nat := max (dl q.num.natAbs) (dl q.den)
theorem qs_num (q : Rat) : dl q.num.natAbs ≤ qs q := Nat.le_max_left _ _
theorem qs_den (q : Rat) : dl q.den ≤ qs q := Nat.le_max_right _ _
theorem qs_pos (q : Rat) : 1 ≤ qs q := by
  have h1 := qs_den q
  have h2 := q.den_pos
  have h3 : dl q.den ≠ 0 := fun h => by rw [dl_eq_zero] at h; omega
  omega
theorem qs_divInt (n d : Int) : qs (Rat.divInt n d) ≤ max (max (dl n.natAbs) (dl d.natAbs)) 1 := by
  unfold qs
  by_cases h : d = 0
  · subst h
    rw [Rat.divInt_zero]
    show max (dl 0) (dl 1) ≤ _
    have : dl 1 ≤ 1 := dl_le.2 (by decide)
    have := dl_zero
    omega
  · rw [Rat.num_divInt, Rat.den_divInt, if_neg h]
    have h1 : dl (d.sign * n / (Int.gcd d n : Nat)).natAbs ≤ dl n.natAbs := dl_mono (by
      refine Nat.le_trans (Int.natAbs_ediv_le_natAbs _ _) ?_
      rw [Int.natAbs_mul]
      have : d.sign.natAbs ≤ 1 := by rw [Int.natAbs_sign]; split <;> omega
      exact Nat.le_trans (Nat.mul_le_mul_right _ this) (by omega))
    have h2 : dl (d.natAbs / Int.gcd d n) ≤ dl d.natAbs := dl_mono (Nat.div_le_self _ _)
    omega
theorem add_dI (a b : Rat) : Rat.divInt (a.num * b.den + b.num * a.den) ((a.den : Int) * b.den) = a + b := by
  rw [Rat.add_def', ← Int.natCast_mul, Rat.divInt_ofNat]
theorem sub_dI (a b : Rat) : Rat.divInt (a.num * b.den - b.num * a.den) ((a.den : Int) * b.den) = a - b := by
  rw [Rat.sub_def', ← Int.natCast_mul, Rat.divInt_ofNat]
theorem mul_dI (a b : Rat) : Rat.divInt (a.num * b.num) ((a.den : Int) * b.den) = a * b := by
  rw [Rat.mul_def', ← Int.natCast_mul, Rat.divInt_ofNat]
theorem div_dI (a b : Rat) : Rat.divInt (a.num * b.den) ((a.den : Int) * b.num) = a / b := by
  rw [Rat.div_def, Rat.inv_def]
  conv => rhs; rw [← Rat.num_divInt_den a, Rat.divInt_mul_divInt]
theorem qs_add (a b : Rat) : qs (a + b) ≤ qs a + qs b + 1 := by
  rw [← add_dI]
  refine Nat.le_trans (qs_divInt _ _) ?_
  have h1 : dl (a.num * b.den + b.num * a.den).natAbs ≤ qs a + qs b + 1 := by
    refine Nat.le_trans (dl_mono (Int.natAbs_add_le _ _)) (Nat.le_trans (dl_add _ _) ?_)
    have e1 := dl_mulI a.num b.den
    have e2 := dl_mulI b.num a.den
    rw [Int.natAbs_natCast] at e1 e2
    have := qs_num a; have := qs_num b; have := qs_den a; have := qs_den b
    omega
  have h2 := dl_mulI a.den b.den
  rw [Int.natAbs_natCast, Int.natAbs_natCast] at h2
  have := qs_den a; have := qs_den b
  omega
theorem qs_neg (a : Rat) : qs (-a) = qs a := by
  unfold qs
  rw [Rat.neg_num, Rat.neg_den, Int.natAbs_neg]
theorem qs_sub (a b : Rat) : qs (a - b) ≤ qs a + qs b + 1 := by
  rw [Rat.sub_eq_add_neg, ← qs_neg b]; exact qs_add _ _
theorem qs_mul (a b : Rat) : qs (a * b) ≤ qs a + qs b := by
  rw [← mul_dI]
  refine Nat.le_trans (qs_divInt _ _) ?_
  have h1 := dl_mulI a.num b.num
  have h2 := dl_mulI a.den b.den
  rw [Int.natAbs_natCast, Int.natAbs_natCast] at h2
  have := qs_num a; have := qs_num b; have := qs_den a; have := qs_den b; have := qs_pos a
  omega
theorem qs_div (a b : Rat) : qs (a / b) ≤ qs a + qs b := by
  rw [← div_dI]
  refine Nat.le_trans (qs_divInt _ _) ?_
  have h1 := dl_mulI a.num b.den
  have h2 := dl_mulI a.den b.num
  rw [Int.natAbs_natCast] at h1 h2
  have := qs_num a; have := qs_num b; have := qs_den a; have := qs_den b; have := qs_pos a
  omega
theorem qs_int (z : Int) : qs (z : Rat) ≤ max (dl z.natAbs) 1 := by
  unfold qs
  rw [Rat.num_intCast, Rat.den_intCast]
  have : dl 1 ≤ 1 := dl_le.2 (by decide)
  omega
end Go.Proofs.Ytjjebokgckmnjaa


/- Contracts: package rational, the arithmetic. -/
namespace Go.Proofs.Ytjjebokgckmnjaa
set_option linter.unusedSimpArgs false
set_option linter.unusedVariables false
open Go.RowKit

set_option maxRecDepth 4000 in
theorem lowest_V (n d : Int) (hd : d ≠ 0) (h1 : dl n.natAbs ≤ 12000000000000) (h2 : dl d.natAbs ≤ 12000000000000) : PCall Try.prog 74 [.I n, .I d] (.Q (Rat.divInt n d)) := by
  refine PCall.of_vc (tabs mixed (tbl_cons sign_C (tbl_cons neg_C (tbl_cons gcdA_C (tbl_cons of_C (tbl_cons cmpZ_C (tbl_cons divModA_C tbl_nil))))))) Try.func74 rfl Try.ntmps74 Try.results74 (by simp) ?_
  obtain ⟨G, hG⟩ : ∃ G, G = Nat.gcd n.natAbs d.natAbs := ⟨_, rfl⟩
  have hG0 : 0 < G := by rw [hG]; exact Nat.gcd_pos_of_pos_right _ (by omega)
  have hGd : dl G ≤ 12000000000000 := Nat.le_trans (dl_mono (by rw [hG]; exact Nat.gcd_le_right _ (by omega))) h2
  have hdm : ∀ x : Int, dmR x (G : Nat) = .tup [.I (x / (G : Nat)), .I (x % (G : Nat)), .raw (.int .i64 0)] := fun x => if_neg (by omega)
  have l1 : dl (Int.natAbs 1) ≤ 30000000000000 := Nat.le_trans ((dl_le (k := 1)).2 (by decide)) (by decide)
  by_cases hs : d < 0
  · have c0 : sgI d < 0 := by rw [show sgI d = -1 from cmpI_lt hs]; decide
    obtain ⟨p1, p2⟩ := low_pos (-n) (-d) (by omega)
    rw [low_neg, Int.natAbs_neg, Int.natAbs_neg, ← hG] at p1 p2
    by_cases hg : G = 1
    · have c1 : (cmpI ((G : Nat) : Int) 1 != 0) = false := by rw [hg]; rfl
      rw [hg] at p1 p2
      simp only [go_sem, c0, Int.natAbs_neg, ← hG, c1, Int.natAbs_natCast]
      exact ⟨by rfl, ⟨h1, h2⟩, ⟨by omega, l1⟩, by rfl, out_Q (.refl _) (.refl _) (by rw [p1]; exact (Int.ediv_one _).symm) (by rw [p2]; exact (Int.ediv_one _).symm)⟩
    · have c1 : (cmpI ((G : Nat) : Int) 1 != 0) = true := by rw [show cmpI ((G : Nat) : Int) 1 = 1 from cmpI_gt (by omega)]; rfl
      simp only [go_sem, c0, Int.natAbs_neg, ← hG, c1, hdm, Int.natAbs_natCast]
      exact ⟨by rfl, ⟨h1, h2⟩, ⟨by omega, l1⟩, by rfl, ⟨h1, hGd⟩, ⟨h2, hGd⟩, out_Q (.refl _) (.refl _) p1.symm p2.symm⟩
  · have c0 : ¬ sgI d < 0 := by rw [show sgI d = 1 from cmpI_gt (by omega)]; decide
    obtain ⟨p1, p2⟩ := low_pos n d (by omega)
    rw [← hG] at p1 p2
    by_cases hg : G = 1
    · have c1 : (cmpI ((G : Nat) : Int) 1 != 0) = false := by rw [hg]; rfl
      rw [hg] at p1 p2
      simp only [go_sem, c0, ← hG, c1, Int.natAbs_natCast]
      exact ⟨⟨h1, h2⟩, ⟨by omega, l1⟩, by rfl, out_Q (.refl _) (.refl _) (by rw [p1]; exact (Int.ediv_one _).symm) (by rw [p2]; exact (Int.ediv_one _).symm)⟩
    · have c1 : (cmpI ((G : Nat) : Int) 1 != 0) = true := by rw [show cmpI ((G : Nat) : Int) 1 = 1 from cmpI_gt (by omega)]; rfl
      simp only [go_sem, c0, ← hG, c1, hdm, Int.natAbs_natCast]
      exact ⟨⟨h1, h2⟩, ⟨by omega, l1⟩, by rfl, ⟨h1, hGd⟩, ⟨h2, hGd⟩, out_Q (.refl _) (.refl _) p1.symm p2.symm⟩
def kLowest : Con := con2 pI pI fun n d => (d ≠ 0 ∧ dl n.natAbs ≤ 12000000000000 ∧ dl d.natAbs ≤ 12000000000000, .Q (Rat.divInt n d))
attribute [go_sem ↓, go_sem] kLowest
theorem lowest_C : Ctr Try.prog 74 kLowest := Ctr.c2 (by kernel_rfl) fun n d h => lowest_V n d h.1 h.2.1 h.2.2
/-- The code of an error. -/
def qErr (c : Int) : V := .tup [.agg [.I 0, .I 0], .raw (.int .i64 c)]
def qOk (q : Rat) : V := .tup [.Q q, .raw (.int .i64 0)]
def ofR (n d : Int) : V := if d = 0 then qErr 3 else qOk (Rat.divInt n d)
theorem qOf_V (n d : Int) (h1 : dl n.natAbs ≤ 12000000000000) (h2 : dl d.natAbs ≤ 12000000000000) : PCall Try.prog 63 [.I n, .I d] (ofR n d) := by
  refine PCall.of_vc (tabs mixed (tbl_cons sign_C (tbl_cons lowest_C tbl_nil))) Try.func63 rfl Try.ntmps63 Try.results63 (by simp) ?_
  unfold ofR
  by_cases hd : d = 0
  · have c0 : (sgI d == 0) = true := by rw [hd]; rfl
    rw [if_pos hd]
    unfold qErr
    simp only [go_sem, c0]
    exact out_P (out_In rfl) (out_In rfl)
  · have c0 : (sgI d == 0) = false := beqF (fun h => hd (sgI_zero.1 h))
    rw [if_neg hd]
    unfold qOk
    simp only [go_sem, c0]
    exact ⟨hd, h1, h2⟩
def kQOf : Con := con2 pI pI fun n d => (dl n.natAbs ≤ 12000000000000 ∧ dl d.natAbs ≤ 12000000000000, ofR n d)
attribute [go_sem ↓, go_sem] kQOf
theorem qOf_C : Ctr Try.prog 63 kQOf := Ctr.c2 (by kernel_rfl) fun n d h => qOf_V n d h.1 h.2
def kWhole : Con := con1 (pN .i64) fun n => (-9223372036854775808 ≤ n ∧ n ≤ 9223372036854775807, .Q (n : Rat))
attribute [go_sem ↓, go_sem] kWhole
theorem whole_C : Ctr Try.prog 40 kWhole := Ctr.c1 (by kernel_rfl) fun n h => by
  refine PCall.of_vc (tabs mixed (tbl_cons of_C tbl_nil)) Try.func40 rfl Try.ntmps40 Try.results40 (by simp) ?_
  simp only [go_sem]
  exact ⟨h, out_Q (.refl _) (.refl _) rfl rfl⟩
def kQSign : Con := con1 pQ fun a => (True, .raw (.int .i64 (sgI a.num)))
attribute [go_sem ↓, go_sem] kQSign
theorem qSign_C : Ctr Try.prog 45 kQSign := Ctr.c1 (by kernel_rfl) fun a h => by
  refine PCall.of_vc (tabs mixed (tbl_cons sign_C tbl_nil)) Try.func45 rfl Try.ntmps45 Try.results45 (by simp) ?_
  simp only [go_sem]
def kQNeg : Con := con1 pQ fun a => (True, .Q (-a))
attribute [go_sem ↓, go_sem] kQNeg
theorem qNeg_C : Ctr Try.prog 41 kQNeg := Ctr.c1 (by kernel_rfl) fun a h => by
  refine PCall.of_vc (tabs mixed (tbl_cons neg_C tbl_nil)) Try.func41 rfl Try.ntmps41 Try.results41 (by simp) ?_
  simp only [go_sem]
  exact ⟨by rfl, out_Q (.refl _) (.refl _) rfl rfl⟩
/- A product of two integers, handed over as a list. -/
def pII : Pat (Int × Int) where
  p
    | .lst [x, y] => (pI.p x).bind fun a => (pI.p y).map fun b => (a.1 ∧ b.1 ∧ x = .I a.2 ∧ y = .I b.2, (a.2, b.2))
    | _ => none
  val a := .lst [.I a.1, .I a.2]
  ok x c a h hc := by
    split at h
    · rename_i x y
      rcases ha : pI.p x with _ | ⟨c1, a1⟩ <;> rw [ha] at h
      · cases h
      · rcases hb : pI.p y with _ | ⟨c2, a2⟩ <;> simp only [hb, bind_some] at h
        · cases h
        · injection h with h; injection h with h1 h2; subst h1 h2
          obtain ⟨_, _, e1, e2⟩ := hc
          simp only at e1 e2
          rw [e1, e2]
          exact .refl _
    · cases h
@[go_sem ↓, go_sem] theorem ev_pII {x y : Int} : pII.p (.lst [.I x, .I y]) = some (True, (x, y)) := by
  show some _ = _
  simp
@[go_sem ↓, go_sem] theorem ev_pII_val {a : Int × Int} : pII.val a = .lst [.I a.1, .I a.2] := rfl
/-- The product of the first k of two. -/
def tm (x y : Int) : Nat → Int
  | 0 => 1
  | 1 => x
  | _ => x * y
theorem times_V (x y : Int) (hx : dl x.natAbs ≤ 12000000000000) (hy : dl y.natAbs ≤ 12000000000000) : PCall Try.prog 64 [.lst [.I x, .I y]] (.I (x * y)) := by
  refine PCall.of_vc (tabs mixed (tbl_cons of_C (tbl_cons mul_C tbl_nil))) Try.func64 rfl Try.ntmps64 Try.results64 (by simp) ?_
  have l1 : dl (Int.natAbs 1) ≤ 1 := (dl_le (k := 1)).2 (by decide)
  simp only [go_sem]
  refine AWp.loops (X := { k : Nat // k ≤ 2 })
    (fun a => mkSt [(2, .ptr 0 2 0 0), (3, .ptr 1 2 0 0), (7, .lst [.I x, .I y]), (8, .raw (.int .i64 2)), (9, .raw (.int .i64 (a.1 : Nat)))]
      [(0, true, ⟨39, 2, [.agg [.raw (.bool false), .raw (.slice none 0 0)]]⟩), (1, true, ⟨39, 2, [.I (tm x y a.1)]⟩)] 2 18)
    (fun a => 2 - a.1) ⟨0, by decide⟩ (Wk.of [0, 2] (by decide) ?_) ?_
  · simp only [go_sem, tm]
  · rintro ⟨k, hk⟩
    refine vc_at (tabs mixed (tbl_cons of_C (tbl_cons mul_C tbl_nil))) ?_
    match k, hk with
    | 0, _ =>
      simp only [go_sem, tm, Int.one_mul]
      refine ⟨⟨by omega, by omega⟩, ⟨1, by decide⟩, Wk.of [0, 1] (by decide) ?_, by decide⟩
      simp only [go_sem, tm]
    | 1, _ =>
      simp only [go_sem, tm]
      refine ⟨⟨by omega, by omega⟩, ⟨2, by decide⟩, Wk.of [0, 1] (by decide) ?_, by decide⟩
      simp only [go_sem, tm]
    | 2, _ => simp only [go_sem, tm]
def kTimes : Con := con1 pII fun a => (dl a.1.natAbs ≤ 12000000000000 ∧ dl a.2.natAbs ≤ 12000000000000, .I (a.1 * a.2))
attribute [go_sem ↓, go_sem] kTimes
theorem times_C : Ctr Try.prog 64 kTimes := Ctr.c1 (by kernel_rfl) fun a h => times_V a.1 a.2 h.1 h.2
/- Arithmetic. -/
theorem szs {a : Rat} {k : Nat} (h : qs a ≤ k) : dl a.num.natAbs ≤ k ∧ dl ((a.den : Int)).natAbs ≤ k ∧ (a.den : Int) ≠ 0 := by
  have h1 := qs_num a
  have h2 := qs_den a
  have h3 := a.den_pos
  rw [Int.natAbs_natCast]
  exact ⟨by omega, by omega, by omega⟩
def kQMul : Con := con2 pQ pQ fun a b => (qs a ≤ 5000000000000 ∧ qs b ≤ 5000000000000, .Q (a * b))
attribute [go_sem ↓, go_sem] kQMul
theorem qMul_C : Ctr Try.prog 67 kQMul := Ctr.c2 (by kernel_rfl) fun a b h => by
  refine PCall.of_vc (tabs mixed (tbl_cons lowest_C (tbl_cons times_C tbl_nil))) Try.func67 rfl Try.ntmps67 Try.results67 (by simp) ?_
  obtain ⟨a1, a2, a3⟩ := szs h.1
  obtain ⟨b1, b2, b3⟩ := szs h.2
  have e1 := dl_mulI a.num b.num
  have e2 := dl_mulI a.den b.den
  have z := Int.mul_ne_zero a3 b3
  simp only [go_sem, mul_dI]
  and_intros <;> first | rfl | assumption | omega
def kQAdd : Con := con2 pQ pQ fun a b => (qs a ≤ 5000000000000 ∧ qs b ≤ 5000000000000, .Q (a + b))
attribute [go_sem ↓, go_sem] kQAdd
def kQSub : Con := con2 pQ pQ fun a b => (qs a ≤ 5000000000000 ∧ qs b ≤ 5000000000000, .Q (a - b))
attribute [go_sem ↓, go_sem] kQSub
theorem qSub_C : Ctr Try.prog 71 kQSub := Ctr.c2 (by kernel_rfl) fun a b h => by
  refine PCall.of_vc (tabs mixed (tbl_cons lowest_C (tbl_cons times_C (tbl_cons sub_C tbl_nil)))) Try.func71 rfl Try.ntmps71 Try.results71 (by simp) ?_
  obtain ⟨a1, a2, a3⟩ := szs h.1
  obtain ⟨b1, b2, b3⟩ := szs h.2
  have e1 := dl_mulI a.num b.den
  have e2 := dl_mulI b.num a.den
  have e3 := dl_mulI a.den b.den
  have e4 := dl_subI (a.num * b.den) (b.num * a.den)
  have z := Int.mul_ne_zero a3 b3
  simp only [go_sem, sub_dI]
  and_intros <;> first | rfl | assumption | omega
/-- A quotient. -/
def divR (a b : Rat) : V := if b = 0 then qErr 3 else qOk (a / b)
def kQDiv : Con := con2 pQ pQ fun a b => (qs a ≤ 5000000000000 ∧ qs b ≤ 5000000000000, divR a b)
attribute [go_sem ↓, go_sem] kQDiv
theorem ofR_div (a b : Rat) : ofR (a.num * b.den) (a.den * b.num) = divR a b := by
  unfold ofR divR
  have h3 := a.den_pos
  by_cases h : b = 0
  · rw [if_pos h, if_pos (by rw [h]; exact Int.mul_zero _)]
  · have hb : b.num ≠ 0 := fun e => h (Rat.num_eq_zero.1 e)
    rw [if_neg h, if_neg (Int.mul_ne_zero (by omega) hb), div_dI]
theorem qDiv_C : Ctr Try.prog 47 kQDiv := Ctr.c2 (by kernel_rfl) fun a b h => by
  show PCall _ _ _ (divR a b)
  refine PCall.of_vc (tabs mixed (tbl_cons times_C (tbl_cons qOf_C tbl_nil))) Try.func47 rfl Try.ntmps47 Try.results47 (by simp) ?_
  obtain ⟨a1, a2, a3⟩ := szs h.1
  obtain ⟨b1, b2, b3⟩ := szs h.2
  have e1 := dl_mulI a.num b.den
  have e2 := dl_mulI a.den b.num
  have r := ofR_div a b
  by_cases hb : b = 0
  · have d1 : divR a b = .tup [.agg [.I 0, .I 0], .raw (.int .i64 3)] := if_pos hb
    rw [d1] at r ⊢
    simp only [go_sem, r]
    and_intros <;> first | rfl | assumption | omega
  · have d1 : divR a b = .tup [.Q (a / b), .raw (.int .i64 0)] := if_neg hb
    rw [d1] at r ⊢
    simp only [go_sem, r]
    and_intros <;> first | rfl | assumption | omega
end Go.Proofs.Ytjjebokgckmnjaa


/- Contracts: the reference of package rational; Valid. -/
namespace Go.Proofs.Ytjjebokgckmnjaa
set_option linter.unusedSimpArgs false
set_option linter.unusedVariables false
open Go.RowKit

set_option maxRecDepth 4000 in
theorem r2Of_V (n d : Int) (h1 : dl n.natAbs ≤ 12000000000000) (h2 : dl d.natAbs ≤ 12000000000000) : PCall Try.prog 66 [.I n, .I d] (ofR n d) := by
  refine PCall.of_vc (tabs mixed (tbl_cons rsign_C (tbl_cons (C := kRNeg) rneg_C (tbl_cons rgcd_C (tbl_cons rdm_C tbl_nil))))) Try.func66 rfl Try.ntmps66 Try.results66 (by simp) ?_
  unfold ofR
  by_cases hd : d = 0
  · have c0 : (sgI d == 0) = true := by rw [hd]; rfl
    rw [if_pos hd]
    unfold qErr
    simp only [go_sem, c0]
    exact out_P (out_In rfl) (out_In rfl)
  · have c0 : (sgI d == 0) = false := beqF (fun h => hd (sgI_zero.1 h))
    rw [if_neg hd]
    unfold qOk
    obtain ⟨G, hG⟩ : ∃ G, G = Nat.gcd n.natAbs d.natAbs := ⟨_, rfl⟩
    have hG0 : 0 < G := by rw [hG]; exact Nat.gcd_pos_of_pos_right _ (by omega)
    have hGd : dl G ≤ 12000000000000 := Nat.le_trans (dl_mono (by rw [hG]; exact Nat.gcd_le_right _ (by omega))) h2
    have hdm : ∀ x : Int, dmR x (G : Nat) = .tup [.I (x / (G : Nat)), .I (x % (G : Nat)), .raw (.int .i64 0)] := fun x => if_neg (by omega)
    by_cases hs : d < 0
    · have c1 : sgI d < 0 := by rw [show sgI d = -1 from cmpI_lt hs]; decide
      obtain ⟨p1, p2⟩ := low_pos (-n) (-d) (by omega)
      rw [low_neg, Int.natAbs_neg, Int.natAbs_neg, ← hG] at p1 p2
      simp only [go_sem, c0, c1, Int.natAbs_neg, ← hG, hdm, Int.natAbs_natCast]
      and_intros <;> first | rfl | omega | exact out_Q (.refl _) (.refl _) p1.symm p2.symm
    · have c1 : ¬ sgI d < 0 := by rw [show sgI d = 1 from cmpI_gt (by omega)]; decide
      obtain ⟨p1, p2⟩ := low_pos n d (by omega)
      rw [← hG] at p1 p2
      simp only [go_sem, c0, c1, ← hG, hdm, Int.natAbs_natCast]
      and_intros <;> first | rfl | omega | exact out_Q (.refl _) (.refl _) p1.symm p2.symm
theorem r2Of_C : Ctr Try.prog 66 kQOf := Ctr.c2 (by kernel_rfl) fun n d h => r2Of_V n d h.1 h.2
theorem r2of_C : Ctr Try.prog 51 kLowest := Ctr.c2 (by kernel_rfl) fun n d h => by
  refine PCall.of_vc (tabs mixed (tbl_cons r2Of_C tbl_nil)) Try.func51 rfl Try.ntmps51 Try.results51 (by simp) ?_
  obtain ⟨h0, h1, h2⟩ := h
  have r : ofR n d = .tup [.Q (Rat.divInt n d), .raw (.int .i64 0)] := if_neg h0
  simp only [go_sem, r]
  exact ⟨h1, h2⟩
/-- What Made makes. -/
def mdQ (n d : Int) : Rat := Rat.divInt n (if d = 0 then 1 else d)
def kR2Made : Con := con2 (pN .i64) (pN .i64) fun n d => ((-9223372036854775808 ≤ n ∧ n ≤ 9223372036854775807) ∧ -9223372036854775808 ≤ d ∧ d ≤ 9223372036854775807, .Q (mdQ n d))
attribute [go_sem ↓, go_sem] kR2Made
theorem dl_i64 {n : Int} (h : -9223372036854775808 ≤ n ∧ n ≤ 9223372036854775807) : dl n.natAbs ≤ 2 := dl_le.2 (by
  have : (4294967296 : Nat) ^ 2 = 18446744073709551616 := by decide
  omega)
theorem r2Made_C : Ctr Try.prog 35 kR2Made := Ctr.c2 (by kernel_rfl) fun n d h => by
  refine PCall.of_vc (tabs mixed (tbl_cons r2of_C (tbl_cons rof_C tbl_nil))) Try.func35 rfl Try.ntmps35 Try.results35 (by simp) ?_
  have e1 := dl_i64 h.1
  have e2 := dl_i64 h.2
  have h1 := h.1
  have h2 := h.2
  unfold mdQ
  by_cases hd : d = 0
  · have c0 : (d == 0) = true := beqT hd
    rw [if_pos hd]
    have l1 : dl (Int.natAbs 1) ≤ 1 := (dl_le (k := 1)).2 (by decide)
    simp only [go_sem, c0]
    and_intros <;> first | omega | decide
  · have c0 : (d == 0) = false := beqF hd
    rw [if_neg hd]
    simp only [go_sem, c0]
    and_intros <;> first | omega | decide
theorem r2Whole_C : Ctr Try.prog 16 kWhole := Ctr.c1 (by kernel_rfl) fun n h => by
  refine PCall.of_vc (tabs mixed (tbl_cons rof_C tbl_nil)) Try.func16 rfl Try.ntmps16 Try.results16 (by simp) ?_
  simp only [go_sem]
  exact ⟨h, out_Q (.refl _) (.refl _) rfl rfl⟩
theorem r2Sign_C : Ctr Try.prog 33 kQSign := Ctr.c1 (by kernel_rfl) fun a h => by
  refine PCall.of_vc (tabs mixed (tbl_cons rsign_C tbl_nil)) Try.func33 rfl Try.ntmps33 Try.results33 (by simp) ?_
  simp only [go_sem]
def kR2Neg : Con := con1 pQ fun a => (qs a ≤ 12000000000000, .Q (-a))
attribute [go_sem ↓, go_sem] kR2Neg
theorem r2Neg_C : Ctr Try.prog 31 kR2Neg := Ctr.c1 (by kernel_rfl) fun a h => by
  refine PCall.of_vc (tabs mixed (tbl_cons (C := kRNeg) rneg_C tbl_nil)) Try.func31 rfl Try.ntmps31 Try.results31 (by simp) ?_
  obtain ⟨a1, a2, a3⟩ := szs h
  simp only [go_sem]
  and_intros <;> first | rfl | omega | exact out_Q (.refl _) (.refl _) rfl rfl
theorem r2Mul_C : Ctr Try.prog 32 kQMul := Ctr.c2 (by kernel_rfl) fun a b h => by
  refine PCall.of_vc (tabs mixed (tbl_cons r2of_C (tbl_cons rmul_C tbl_nil))) Try.func32 rfl Try.ntmps32 Try.results32 (by simp) ?_
  obtain ⟨a1, a2, a3⟩ := szs h.1
  obtain ⟨b1, b2, b3⟩ := szs h.2
  have e1 := dl_mulI a.num b.num
  have e2 := dl_mulI a.den b.den
  have z := Int.mul_ne_zero a3 b3
  simp only [go_sem, mul_dI]
  and_intros <;> first | rfl | assumption | omega
theorem r2Add_C : Ctr Try.prog 48 kQAdd := Ctr.c2 (by kernel_rfl) fun a b h => by
  refine PCall.of_vc (tabs mixed (tbl_cons r2of_C (tbl_cons rmul_C (tbl_cons radd_C tbl_nil)))) Try.func48 rfl Try.ntmps48 Try.results48 (by simp) ?_
  obtain ⟨a1, a2, a3⟩ := szs h.1
  obtain ⟨b1, b2, b3⟩ := szs h.2
  have e1 := dl_mulI a.num b.den
  have e2 := dl_mulI b.num a.den
  have e3 := dl_mulI a.den b.den
  have e4 := dl_addI (a.num * b.den) (b.num * a.den)
  have z := Int.mul_ne_zero a3 b3
  simp only [go_sem, add_dI]
  and_intros <;> first | rfl | assumption | omega
theorem r2Sub_C : Ctr Try.prog 24 kQSub := Ctr.c2 (by kernel_rfl) fun a b h => by
  refine PCall.of_vc (tabs mixed (tbl_cons r2Add_C (tbl_cons r2Neg_C tbl_nil))) Try.func24 rfl Try.ntmps24 Try.results24 (by simp) ?_
  obtain ⟨h1, h2⟩ := h
  have e := Rat.sub_eq_add_neg a b
  simp only [go_sem, ← e, qs_neg]
  and_intros <;> first | rfl | assumption | omega
def kR2Same : Con := con2 pP pP fun a b => ((dl a.1.natAbs ≤ 30000000000000 ∧ dl a.2.natAbs ≤ 30000000000000) ∧ dl b.1.natAbs ≤ 30000000000000 ∧ dl b.2.natAbs ≤ 30000000000000, .raw (.bool (decide (a = b))))
attribute [go_sem ↓, go_sem] kR2Same
theorem r2Same_C : Ctr Try.prog 15 kR2Same := Ctr.c2 (by kernel_rfl) fun a b h => by
  obtain ⟨a1, a2⟩ := a
  obtain ⟨b1, b2⟩ := b
  obtain ⟨⟨h1, h2⟩, h3, h4⟩ := h
  refine PCall.of_vc (tabs mixed (tbl_cons same_C tbl_nil)) Try.func15 rfl Try.ntmps15 Try.results15 (by simp) ?_
  by_cases e1 : a1 = b1
  · have c1 : decide (a1 = b1) = true := decide_eq_true e1
    have c2 : decide ((a1, a2) = (b1, b2)) = decide (a2 = b2) := by rw [e1]; simp
    simp only [go_sem, c1, c2]
    exact ⟨⟨h1, h3⟩, h2, h4⟩
  · have c1 : decide (a1 = b1) = false := decide_eq_false e1
    have c2 : decide ((a1, a2) = (b1, b2)) = false := decide_eq_false fun h => e1 (by injection h)
    simp only [go_sem, c1, c2]
    exact ⟨h1, h3⟩
end Go.Proofs.Ytjjebokgckmnjaa


/- Polynomials over the rational numbers: values determine coefficients. No program in sight. -/
namespace Go.Proofs.Ytjjebokgckmnjaa
set_option linter.unusedSimpArgs false
set_option linter.unusedVariables false

/-- The value at a place. -/
def ev : List Rat → Rat → Rat
  | [], _ => 0
  | c :: l, x => c + x * ev l x
/-- A coefficient. -/
def cf (l : List Rat) (i : Nat) : Rat := l.getD i 0
/-- Without the zeros at the end. -/
def tr : List Rat → List Rat
  | [] => []
  | c :: l => if tr l = [] ∧ c = 0 then [] else c :: tr l
theorem cf_ge {l : List Rat} {i : Nat} (h : l.length ≤ i) : cf l i = 0 := by
  unfold cf
  rw [List.getD_eq_getElem?_getD, List.getElem?_eq_none h]; rfl
theorem cf_lt {l : List Rat} {i : Nat} (h : i < l.length) : cf l i = l[i] := by
  unfold cf
  rw [List.getD_eq_getElem?_getD, List.getElem?_eq_getElem h]; rfl
/- The operations. -/
/- Lengths. -/
end Go.Proofs.Ytjjebokgckmnjaa


/- Polynomials over the rational numbers: division, greatest common divisors. No program in sight. -/
namespace Go.Proofs.Ytjjebokgckmnjaa
set_option linter.unusedSimpArgs false
set_option linter.unusedVariables false

/-- The leading coefficient. -/
def lead (a : List Rat) : Rat := cf a (a.length - 1)
end Go.Proofs.Ytjjebokgckmnjaa


/- Polynomials over the rational numbers: derivatives, shifts, cofactors. No program in sight. -/
namespace Go.Proofs.Ytjjebokgckmnjaa
set_option linter.unusedSimpArgs false
set_option linter.unusedVariables false

/- Shifts. -/
def hd0 : List Rat → Rat
  | [] => 0
  | c :: _ => c
/- Cofactors. -/
end Go.Proofs.Ytjjebokgckmnjaa


/- Polynomials over the rational numbers: products step by step. No program in sight. -/
namespace Go.Proofs.Ytjjebokgckmnjaa
set_option linter.unusedSimpArgs false
set_option linter.unusedVariables false

end Go.Proofs.Ytjjebokgckmnjaa


/- Polynomials over the rational numbers: division step by step. No program in sight. -/
namespace Go.Proofs.Ytjjebokgckmnjaa
set_option linter.unusedSimpArgs false
set_option linter.unusedVariables false

def shl (i : Nat) (l : List Rat) : List Rat := List.replicate i 0 ++ l
end Go.Proofs.Ytjjebokgckmnjaa


/- Rows of rational numbers in the abstract run. -/
namespace Go.Proofs.Ytjjebokgckmnjaa
set_option linter.unusedSimpArgs false
set_option linter.unusedVariables false
open Go.RowKit

def V.rats (l : List Rat) : List V := l.map .Q
@[go_sem] theorem rats_len (l : List Rat) : (V.rats l).length = l.length := by simp [V.rats]
theorem rats_get {l : List Rat} {i : Nat} (h : i < l.length) : (V.rats l)[i]? = some (.Q (cf l i)) := by
  simp [V.rats, cf_lt h, List.getElem?_eq_getElem h]
@[go_sem ↓, go_sem] theorem ev_rats_get {l : List Rat} {i : Nat} {k : V → Prop} : optC (V.rats l)[i]? k = (i < l.length ∧ k (.Q (cf l i))) := by
  by_cases h : i < l.length
  · rw [rats_get h]; simp [optC, h]
  · have : (V.rats l)[i]? = none := by rw [List.getElem?_eq_none]; rw [rats_len]; omega
    rw [this]; simp [optC, h]
@[go_sem] theorem rats_take (l : List Rat) (n : Nat) : (V.rats l).take n = V.rats (l.take n) := by simp [V.rats]
@[go_sem] theorem rats_drop (l : List Rat) (n : Nat) : (V.rats l).drop n = V.rats (l.drop n) := by simp [V.rats]
@[go_sem] theorem rats_append (l m : List Rat) : V.rats l ++ V.rats m = V.rats (l ++ m) := by simp [V.rats]
@[go_sem] theorem rats_snoc (l : List Rat) (q : Rat) : V.rats l ++ [V.Q q] = V.rats (l ++ [q]) := by simp [V.rats]
@[go_sem] theorem rats_wid (l : List Rat) : allWid (V.rats l) 4 = True := by
  simp only [eq_iff_iff, iff_true]
  intro y hy
  obtain ⟨x, _, rfl⟩ := List.mem_map.1 hy
  rfl
@[go_sem] theorem rats_good (l : List Rat) : allGood (V.rats l) = True := by
  simp only [eq_iff_iff, iff_true]
  intro y hy
  obtain ⟨x, _, rfl⟩ := List.mem_map.1 hy
  rfl
@[go_sem] theorem rats_pure (l : List Rat) : allPure (V.rats l) = True := by
  simp only [eq_iff_iff, iff_true]
  intro y hy
  obtain ⟨x, _, rfl⟩ := List.mem_map.1 hy
  rfl
@[go_sem] theorem frzOk_rats (l : List Rat) : frzOk (V.rats l) = True := eq_true (frzOk_map (fun a => ⟨rfl, by simp, by simp⟩) l)
@[go_sem] theorem rats_set (l : List Rat) (i : Nat) (q : Rat) : (V.rats l).set i (.Q q) = V.rats (l.set i q) := by simp [V.rats, List.map_set]
@[go_sem] theorem rats_rep (n : Nat) (q : Rat) : List.replicate n (V.Q q) = V.rats (List.replicate n q) := by simp [V.rats]
/-- The numbers of a row. -/
def unrat : List V → Option (List Rat)
  | [] => some []
  | .Q q :: l => (unrat l).map (q :: ·)
  | _ => none
theorem unrat_ok : ∀ (l : List V) (m : List Rat), unrat l = some m → l = V.rats m
  | [], m, h => by injection h with h; subst h; rfl
  | .Q q :: l, m, h => by
    unfold unrat at h
    rcases hm : unrat l with _ | m' <;> rw [hm] at h
    · cases h
    · injection h with h
      subst h
      rw [unrat_ok l m' hm]
      rfl
@[go_sem ↓, go_sem] theorem unrat_rats (l : List Rat) : unrat (V.rats l) = some l := by
  induction l with
  | nil => rfl
  | cons x l ih =>
    show (unrat (V.rats l)).map (x :: ·) = _
    rw [ih]; rfl
@[go_sem ↓, go_sem] theorem unrat_nil : unrat [] = some [] := rfl
@[go_sem ↓, go_sem] theorem unrat_cons (q : Rat) (l : List V) : unrat (.Q q :: l) = (unrat l).map (q :: ·) := rfl
/-- A row of numbers. -/
def pR : Pat (List Rat) where
  p
    | .lst l => (unrat l).map fun m => (True, m)
    | .raw (.slice none 0 0) => some (True, [])
    | .emp => some (True, [])
    | _ => none
  val l := .lst (V.rats l)
  ok x c a h hc := by
    split at h
    · rename_i l
      rcases hm : unrat l with _ | m <;> rw [hm] at h
      · cases h
      · injection h with h; injection h with h1 h2; subst h2
        rw [unrat_ok l m hm]; exact .refl _
    · injection h with h; injection h with h1 h2; subst h2; exact .inr (.inr ⟨rfl, rfl, rfl, rfl⟩)
    · injection h with h; injection h with h1 h2; subst h2; exact .inr (.inr ⟨rfl, rfl, rfl⟩)
    · cases h
@[go_sem ↓, go_sem] theorem ev_pR {l : List V} : pR.p (.lst l) = (unrat l).map fun m => (True, m) := rfl
@[go_sem ↓, go_sem] theorem ev_pR_nil : pR.p (.raw (.slice none 0 0)) = some (True, []) := rfl
@[go_sem ↓, go_sem] theorem ev_pR_emp : pR.p .emp = some (True, []) := rfl
@[go_sem ↓, go_sem] theorem ev_pR_mk {l : List Rat} : pR.val l = .lst (V.rats l) := rfl
@[go_sem ↓ high, go_sem high] theorem args_same {H : Hp} {xs : List V} {k : List V → List Nat → Prop} (h : frzOk xs) : argsP H xs k = k xs [] := frzs_same h
/-- All coefficients are of a size. -/
def PB (l : List Rat) (k : Nat) : Prop := ∀ i, qs (cf l i) ≤ k
theorem PB.mono {l : List Rat} {j k : Nat} (h : PB l j) (e : j ≤ k) : PB l k := fun i => Nat.le_trans (h i) e
theorem qs_0 : qs 0 ≤ 1 := Nat.max_le.2 ⟨(dl_le (k := 1)).2 (by decide), (dl_le (k := 1)).2 (by decide)⟩
theorem qs_1 : qs 1 ≤ 1 := Nat.max_le.2 ⟨(dl_le (k := 1)).2 (by decide), (dl_le (k := 1)).2 (by decide)⟩
theorem PB.pos {l : List Rat} {k : Nat} (h : PB l k) : 1 ≤ k := Nat.le_trans (qs_pos _) (h 0)
end Go.Proofs.Ytjjebokgckmnjaa

