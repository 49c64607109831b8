/- Texts F2 in one. -/
import Derived.Test.YtfbogelmgdojgaaGreatP45
/- Contracts: package rational, the arithmetic. -/
namespace Go.Proofs.YtfbogelmgdojgaaGreat
set_option linter.unusedSimpArgs false
set_option linter.unusedVariables false
open Go.RowKit

set_option maxRecDepth 4000 in
theorem lowest_V (n d : Int) (hd : d ≠ 0) (h1 : dl n.natAbs ≤ 100000000000) (h2 : dl d.natAbs ≤ 100000000000) : PCall Tryz.prog 99 [.I n, .I d] (.Q (Rat.divInt n d)) := by
  refine PCall.of_vc (tabs mixed (tbl_cons sign_C (tbl_cons neg_C (tbl_cons gcdA_C (tbl_cons of_C (tbl_cons cmpZ_C (tbl_cons divModA_C tbl_nil))))))) Tryz.func99 rfl Tryz.ntmps99 Tryz.results99 (by simp) ?_
  obtain ⟨G, hG⟩ : ∃ G, G = Nat.gcd n.natAbs d.natAbs := ⟨_, rfl⟩
  have hG0 : 0 < G := by rw [hG]; exact Nat.gcd_pos_of_pos_right _ (by omega)
  have hGd : dl G ≤ 100000000000 := Nat.le_trans (dl_mono (by rw [hG]; exact Nat.gcd_le_right _ (by omega))) h2
  have hdm : ∀ x : Int, dmR x (G : Nat) = .tup [.I (x / (G : Nat)), .I (x % (G : Nat)), .raw (.int .i64 0)] := fun x => if_neg (by omega)
  have l1 : dl (Int.natAbs 1) ≤ 10000000000000 := Nat.le_trans ((dl_le (k := 1)).2 (by decide)) (by decide)
  by_cases hs : d < 0
  · have c0 : sgI d < 0 := by rw [show sgI d = -1 from cmpI_lt hs]; decide
    obtain ⟨p1, p2⟩ := low_pos (-n) (-d) (by omega)
    rw [low_neg, Int.natAbs_neg, Int.natAbs_neg, ← hG] at p1 p2
    by_cases hg : G = 1
    · have c1 : (cmpI ((G : Nat) : Int) 1 != 0) = false := by rw [hg]; rfl
      rw [hg] at p1 p2
      simp only [go_sem, c0, Int.natAbs_neg, ← hG, c1, Int.natAbs_natCast]
      exact ⟨by rfl, ⟨h1, h2⟩, ⟨by omega, l1⟩, by rfl, out_Q (.refl _) (.refl _) (by rw [p1]; exact (Int.ediv_one _).symm) (by rw [p2]; exact (Int.ediv_one _).symm)⟩
    · have c1 : (cmpI ((G : Nat) : Int) 1 != 0) = true := by rw [show cmpI ((G : Nat) : Int) 1 = 1 from cmpI_gt (by omega)]; rfl
      simp only [go_sem, c0, Int.natAbs_neg, ← hG, c1, hdm, Int.natAbs_natCast]
      exact ⟨by rfl, ⟨h1, h2⟩, ⟨by omega, l1⟩, by rfl, ⟨h1, hGd⟩, ⟨h2, hGd⟩, out_Q (.refl _) (.refl _) p1.symm p2.symm⟩
  · have c0 : ¬ sgI d < 0 := by rw [show sgI d = 1 from cmpI_gt (by omega)]; decide
    obtain ⟨p1, p2⟩ := low_pos n d (by omega)
    rw [← hG] at p1 p2
    by_cases hg : G = 1
    · have c1 : (cmpI ((G : Nat) : Int) 1 != 0) = false := by rw [hg]; rfl
      rw [hg] at p1 p2
      simp only [go_sem, c0, ← hG, c1, Int.natAbs_natCast]
      exact ⟨⟨h1, h2⟩, ⟨by omega, l1⟩, by rfl, out_Q (.refl _) (.refl _) (by rw [p1]; exact (Int.ediv_one _).symm) (by rw [p2]; exact (Int.ediv_one _).symm)⟩
    · have c1 : (cmpI ((G : Nat) : Int) 1 != 0) = true := by rw [show cmpI ((G : Nat) : Int) 1 = 1 from cmpI_gt (by omega)]; rfl
      simp only [go_sem, c0, ← hG, c1, hdm, Int.natAbs_natCast]
      exact ⟨⟨h1, h2⟩, ⟨by omega, l1⟩, by rfl, ⟨h1, hGd⟩, ⟨h2, hGd⟩, out_Q (.refl _) (.refl _) p1.symm p2.symm⟩
def kLowest : Con := con2 pI pI fun n d => (d ≠ 0 ∧ dl n.natAbs ≤ 100000000000 ∧ dl d.natAbs ≤ 100000000000, .Q (Rat.divInt n d))
attribute [go_sem ↓, go_sem] kLowest
theorem lowest_C : Ctr Tryz.prog 99 kLowest := Ctr.c2 (by kernel_rfl) fun n d h => lowest_V n d h.1 h.2.1 h.2.2
/-- The code of an error. -/
def qErr (c : Int) : V := .tup [.agg [.I 0, .I 0], .raw (.int .i64 c)]
def qOk (q : Rat) : V := .tup [.Q q, .raw (.int .i64 0)]
def ofR (n d : Int) : V := if d = 0 then qErr 3 else qOk (Rat.divInt n d)
theorem qOf_V (n d : Int) (h1 : dl n.natAbs ≤ 100000000000) (h2 : dl d.natAbs ≤ 100000000000) : PCall Tryz.prog 104 [.I n, .I d] (ofR n d) := by
  refine PCall.of_vc (tabs mixed (tbl_cons sign_C (tbl_cons lowest_C tbl_nil))) Tryz.func104 rfl Tryz.ntmps104 Tryz.results104 (by simp) ?_
  unfold ofR
  by_cases hd : d = 0
  · have c0 : (sgI d == 0) = true := by rw [hd]; rfl
    rw [if_pos hd]
    unfold qErr
    simp only [go_sem, c0]
    exact out_P (out_In rfl) (out_In rfl)
  · have c0 : (sgI d == 0) = false := beqF (fun h => hd (sgI_zero.1 h))
    rw [if_neg hd]
    unfold qOk
    simp only [go_sem, c0]
    exact ⟨hd, h1, h2⟩
def kQOf : Con := con2 pI pI fun n d => (dl n.natAbs ≤ 100000000000 ∧ dl d.natAbs ≤ 100000000000, ofR n d)
attribute [go_sem ↓, go_sem] kQOf
theorem qOf_C : Ctr Tryz.prog 104 kQOf := Ctr.c2 (by kernel_rfl) fun n d h => qOf_V n d h.1 h.2
def kWhole : Con := con1 (pN .i64) fun n => (-9223372036854775808 ≤ n ∧ n ≤ 9223372036854775807, .Q (n : Rat))
attribute [go_sem ↓, go_sem] kWhole
theorem whole_C : Ctr Tryz.prog 57 kWhole := Ctr.c1 (by kernel_rfl) fun n h => by
  refine PCall.of_vc (tabs mixed (tbl_cons of_C tbl_nil)) Tryz.func57 rfl Tryz.ntmps57 Tryz.results57 (by simp) ?_
  simp only [go_sem]
  exact ⟨h, out_Q (.refl _) (.refl _) rfl rfl⟩
def kQSign : Con := con1 pQ fun a => (True, .raw (.int .i64 (sgI a.num)))
attribute [go_sem ↓, go_sem] kQSign
theorem qSign_C : Ctr Tryz.prog 108 kQSign := Ctr.c1 (by kernel_rfl) fun a h => by
  refine PCall.of_vc (tabs mixed (tbl_cons sign_C tbl_nil)) Tryz.func108 rfl Tryz.ntmps108 Tryz.results108 (by simp) ?_
  simp only [go_sem]
def kQNeg : Con := con1 pQ fun a => (True, .Q (-a))
attribute [go_sem ↓, go_sem] kQNeg
theorem qNeg_C : Ctr Tryz.prog 67 kQNeg := Ctr.c1 (by kernel_rfl) fun a h => by
  refine PCall.of_vc (tabs mixed (tbl_cons neg_C tbl_nil)) Tryz.func67 rfl Tryz.ntmps67 Tryz.results67 (by simp) ?_
  simp only [go_sem]
  exact ⟨by rfl, out_Q (.refl _) (.refl _) rfl rfl⟩
def kFloor : Con := con1 pQ fun a => (qs a ≤ 100000000000, .I a.floor)
attribute [go_sem ↓, go_sem] kFloor
/- A product of two integers, handed over as a list. -/
def pII : Pat (Int × Int) where
  p
    | .lst [x, y] => (pI.p x).bind fun a => (pI.p y).map fun b => (a.1 ∧ b.1 ∧ x = .I a.2 ∧ y = .I b.2, (a.2, b.2))
    | _ => none
  val a := .lst [.I a.1, .I a.2]
  ok x c a h hc := by
    split at h
    · rename_i x y
      rcases ha : pI.p x with _ | ⟨c1, a1⟩ <;> rw [ha] at h
      · cases h
      · rcases hb : pI.p y with _ | ⟨c2, a2⟩ <;> simp only [hb, bind_some] at h
        · cases h
        · injection h with h; injection h with h1 h2; subst h1 h2
          obtain ⟨_, _, e1, e2⟩ := hc
          simp only at e1 e2
          rw [e1, e2]
          exact .refl _
    · cases h
@[go_sem ↓, go_sem] theorem ev_pII {x y : Int} : pII.p (.lst [.I x, .I y]) = some (True, (x, y)) := by
  show some _ = _
  simp
@[go_sem ↓, go_sem] theorem ev_pII_val {a : Int × Int} : pII.val a = .lst [.I a.1, .I a.2] := rfl
/-- The product of the first k of two. -/
def tm (x y : Int) : Nat → Int
  | 0 => 1
  | 1 => x
  | _ => x * y
theorem times_V (x y : Int) (hx : dl x.natAbs ≤ 100000000000) (hy : dl y.natAbs ≤ 100000000000) : PCall Tryz.prog 101 [.lst [.I x, .I y]] (.I (x * y)) := by
  refine PCall.of_vc (tabs mixed (tbl_cons of_C (tbl_cons mul_C tbl_nil))) Tryz.func101 rfl Tryz.ntmps101 Tryz.results101 (by simp) ?_
  have l1 : dl (Int.natAbs 1) ≤ 1 := (dl_le (k := 1)).2 (by decide)
  simp only [go_sem]
  refine AWp.loops (X := { k : Nat // k ≤ 2 })
    (fun a => mkSt [(2, .ptr 0 2 0 0), (3, .ptr 1 2 0 0), (7, .lst [.I x, .I y]), (8, .raw (.int .i64 2)), (9, .raw (.int .i64 (a.1 : Nat)))]
      [(0, true, ⟨43, 2, [.agg [.raw (.bool false), .raw (.slice none 0 0)]]⟩), (1, true, ⟨43, 2, [.I (tm x y a.1)]⟩)] 2 18)
    (fun a => 2 - a.1) ⟨0, by decide⟩ (Wk.of [0, 2] (by decide) ?_) ?_
  · simp only [go_sem, tm]
  · rintro ⟨k, hk⟩
    refine vc_at (tabs mixed (tbl_cons of_C (tbl_cons mul_C tbl_nil))) ?_
    match k, hk with
    | 0, _ =>
      simp only [go_sem, tm, Int.one_mul]
      refine ⟨⟨by omega, by omega⟩, ⟨1, by decide⟩, Wk.of [0, 1] (by decide) ?_, by decide⟩
      simp only [go_sem, tm]
    | 1, _ =>
      simp only [go_sem, tm]
      refine ⟨⟨by omega, by omega⟩, ⟨2, by decide⟩, Wk.of [0, 1] (by decide) ?_, by decide⟩
      simp only [go_sem, tm]
    | 2, _ => simp only [go_sem, tm]
def kTimes : Con := con1 pII fun a => (dl a.1.natAbs ≤ 100000000000 ∧ dl a.2.natAbs ≤ 100000000000, .I (a.1 * a.2))
attribute [go_sem ↓, go_sem] kTimes
theorem times_C : Ctr Tryz.prog 101 kTimes := Ctr.c1 (by kernel_rfl) fun a h => times_V a.1 a.2 h.1 h.2
/- Arithmetic. -/
theorem szs {a : Rat} {k : Nat} (h : qs a ≤ k) : dl a.num.natAbs ≤ k ∧ dl ((a.den : Int)).natAbs ≤ k ∧ (a.den : Int) ≠ 0 := by
  have h1 := qs_num a
  have h2 := qs_den a
  have h3 := a.den_pos
  rw [Int.natAbs_natCast]
  exact ⟨by omega, by omega, by omega⟩
def kQMul : Con := con2 pQ pQ fun a b => (qs a ≤ 10000000000 ∧ qs b ≤ 10000000000, .Q (a * b))
attribute [go_sem ↓, go_sem] kQMul
theorem qMul_C : Ctr Tryz.prog 59 kQMul := Ctr.c2 (by kernel_rfl) fun a b h => by
  refine PCall.of_vc (tabs mixed (tbl_cons lowest_C (tbl_cons times_C tbl_nil))) Tryz.func59 rfl Tryz.ntmps59 Tryz.results59 (by simp) ?_
  obtain ⟨a1, a2, a3⟩ := szs h.1
  obtain ⟨b1, b2, b3⟩ := szs h.2
  have e1 := dl_mulI a.num b.num
  have e2 := dl_mulI a.den b.den
  have z := Int.mul_ne_zero a3 b3
  simp only [go_sem, mul_dI]
  and_intros <;> first | rfl | assumption | omega
def kQAdd : Con := con2 pQ pQ fun a b => (qs a ≤ 10000000000 ∧ qs b ≤ 10000000000, .Q (a + b))
attribute [go_sem ↓, go_sem] kQAdd
theorem qAdd_C : Ctr Tryz.prog 58 kQAdd := Ctr.c2 (by kernel_rfl) fun a b h => by
  refine PCall.of_vc (tabs mixed (tbl_cons lowest_C (tbl_cons times_C (tbl_cons add_C tbl_nil)))) Tryz.func58 rfl Tryz.ntmps58 Tryz.results58 (by simp) ?_
  obtain ⟨a1, a2, a3⟩ := szs h.1
  obtain ⟨b1, b2, b3⟩ := szs h.2
  have e1 := dl_mulI a.num b.den
  have e2 := dl_mulI b.num a.den
  have e3 := dl_mulI a.den b.den
  have e4 := dl_addI (a.num * b.den) (b.num * a.den)
  have z := Int.mul_ne_zero a3 b3
  simp only [go_sem, add_dI]
  and_intros <;> first | rfl | assumption | omega
def kQSub : Con := con2 pQ pQ fun a b => (qs a ≤ 10000000000 ∧ qs b ≤ 10000000000, .Q (a - b))
attribute [go_sem ↓, go_sem] kQSub
theorem qSub_C : Ctr Tryz.prog 96 kQSub := Ctr.c2 (by kernel_rfl) fun a b h => by
  refine PCall.of_vc (tabs mixed (tbl_cons lowest_C (tbl_cons times_C (tbl_cons sub_C tbl_nil)))) Tryz.func96 rfl Tryz.ntmps96 Tryz.results96 (by simp) ?_
  obtain ⟨a1, a2, a3⟩ := szs h.1
  obtain ⟨b1, b2, b3⟩ := szs h.2
  have e1 := dl_mulI a.num b.den
  have e2 := dl_mulI b.num a.den
  have e3 := dl_mulI a.den b.den
  have e4 := dl_subI (a.num * b.den) (b.num * a.den)
  have z := Int.mul_ne_zero a3 b3
  simp only [go_sem, sub_dI]
  and_intros <;> first | rfl | assumption | omega
/-- The sign of a difference. -/
def cmpQ (a b : Rat) : Int := if a < b then -1 else if a = b then 0 else 1
theorem cmpQ_I (a b : Rat) : cmpI (a.num * b.den) (b.num * a.den) = cmpQ a b := by
  unfold cmpQ cmpI
  by_cases h1 : a < b
  · rw [if_pos h1, if_pos ((Rat.lt_iff a b).1 h1)]
  · rw [if_neg h1, if_neg fun h => h1 ((Rat.lt_iff a b).2 h)]
    by_cases h2 : a = b
    · rw [if_pos h2, if_pos (Rat.eq_iff_mul_eq_mul.1 h2)]
    · rw [if_neg h2, if_neg fun h => h2 (Rat.eq_iff_mul_eq_mul.2 h)]
def kQCmp : Con := con2 pQ pQ fun a b => (qs a ≤ 10000000000 ∧ qs b ≤ 10000000000, .raw (.int .i64 (cmpQ a b)))
attribute [go_sem ↓, go_sem] kQCmp
/-- A quotient. -/
def divR (a b : Rat) : V := if b = 0 then qErr 3 else qOk (a / b)
def kQDiv : Con := con2 pQ pQ fun a b => (qs a ≤ 10000000000 ∧ qs b ≤ 10000000000, divR a b)
attribute [go_sem ↓, go_sem] kQDiv
theorem ofR_div (a b : Rat) : ofR (a.num * b.den) (a.den * b.num) = divR a b := by
  unfold ofR divR
  have h3 := a.den_pos
  by_cases h : b = 0
  · rw [if_pos h, if_pos (by rw [h]; exact Int.mul_zero _)]
  · have hb : b.num ≠ 0 := fun e => h (Rat.num_eq_zero.1 e)
    rw [if_neg h, if_neg (Int.mul_ne_zero (by omega) hb), div_dI]
theorem qDiv_C : Ctr Tryz.prog 66 kQDiv := Ctr.c2 (by kernel_rfl) fun a b h => by
  show PCall _ _ _ (divR a b)
  refine PCall.of_vc (tabs mixed (tbl_cons times_C (tbl_cons qOf_C tbl_nil))) Tryz.func66 rfl Tryz.ntmps66 Tryz.results66 (by simp) ?_
  obtain ⟨a1, a2, a3⟩ := szs h.1
  obtain ⟨b1, b2, b3⟩ := szs h.2
  have e1 := dl_mulI a.num b.den
  have e2 := dl_mulI a.den b.num
  have r := ofR_div a b
  by_cases hb : b = 0
  · have d1 : divR a b = .tup [.agg [.I 0, .I 0], .raw (.int .i64 3)] := if_pos hb
    rw [d1] at r ⊢
    simp only [go_sem, r]
    and_intros <;> first | rfl | assumption | omega
  · have d1 : divR a b = .tup [.Q (a / b), .raw (.int .i64 0)] := if_neg hb
    rw [d1] at r ⊢
    simp only [go_sem, r]
    and_intros <;> first | rfl | assumption | omega
end Go.Proofs.YtfbogelmgdojgaaGreat
