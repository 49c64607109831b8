/- Texts F3 F4 F6 in one. -/
import Derived.Test.YtfbogelmgdojgaaGreatP46
import Derived.Test.YtfbogelmgdojgaaGreatP43
/- Contracts: the reference of package rational; Valid. -/
namespace Go.Proofs.YtfbogelmgdojgaaGreat
set_option linter.unusedSimpArgs false
set_option linter.unusedVariables false
open Go.RowKit

set_option maxRecDepth 4000 in
theorem r2Of_V (n d : Int) (h1 : dl n.natAbs ≤ 100000000000) (h2 : dl d.natAbs ≤ 100000000000) : PCall Tryz.prog 117 [.I n, .I d] (ofR n d) := by
  refine PCall.of_vc (tabs mixed (tbl_cons rsign_C (tbl_cons (C := kRNeg) rneg_C (tbl_cons rgcd_C (tbl_cons rdm_C tbl_nil))))) Tryz.func117 rfl Tryz.ntmps117 Tryz.results117 (by simp) ?_
  unfold ofR
  by_cases hd : d = 0
  · have c0 : (sgI d == 0) = true := by rw [hd]; rfl
    rw [if_pos hd]
    unfold qErr
    simp only [go_sem, c0]
    exact out_P (out_In rfl) (out_In rfl)
  · have c0 : (sgI d == 0) = false := beqF (fun h => hd (sgI_zero.1 h))
    rw [if_neg hd]
    unfold qOk
    obtain ⟨G, hG⟩ : ∃ G, G = Nat.gcd n.natAbs d.natAbs := ⟨_, rfl⟩
    have hG0 : 0 < G := by rw [hG]; exact Nat.gcd_pos_of_pos_right _ (by omega)
    have hGd : dl G ≤ 100000000000 := Nat.le_trans (dl_mono (by rw [hG]; exact Nat.gcd_le_right _ (by omega))) h2
    have hdm : ∀ x : Int, dmR x (G : Nat) = .tup [.I (x / (G : Nat)), .I (x % (G : Nat)), .raw (.int .i64 0)] := fun x => if_neg (by omega)
    by_cases hs : d < 0
    · have c1 : sgI d < 0 := by rw [show sgI d = -1 from cmpI_lt hs]; decide
      obtain ⟨p1, p2⟩ := low_pos (-n) (-d) (by omega)
      rw [low_neg, Int.natAbs_neg, Int.natAbs_neg, ← hG] at p1 p2
      simp only [go_sem, c0, c1, Int.natAbs_neg, ← hG, hdm, Int.natAbs_natCast]
      and_intros <;> first | rfl | omega | exact out_Q (.refl _) (.refl _) p1.symm p2.symm
    · have c1 : ¬ sgI d < 0 := by rw [show sgI d = 1 from cmpI_gt (by omega)]; decide
      obtain ⟨p1, p2⟩ := low_pos n d (by omega)
      rw [← hG] at p1 p2
      simp only [go_sem, c0, c1, ← hG, hdm, Int.natAbs_natCast]
      and_intros <;> first | rfl | omega | exact out_Q (.refl _) (.refl _) p1.symm p2.symm
theorem r2Of_C : Ctr Tryz.prog 117 kQOf := Ctr.c2 (by kernel_rfl) fun n d h => r2Of_V n d h.1 h.2
theorem r2of_C : Ctr Tryz.prog 81 kLowest := Ctr.c2 (by kernel_rfl) fun n d h => by
  refine PCall.of_vc (tabs mixed (tbl_cons r2Of_C tbl_nil)) Tryz.func81 rfl Tryz.ntmps81 Tryz.results81 (by simp) ?_
  obtain ⟨h0, h1, h2⟩ := h
  have r : ofR n d = .tup [.Q (Rat.divInt n d), .raw (.int .i64 0)] := if_neg h0
  simp only [go_sem, r]
  exact ⟨h1, h2⟩
/-- What Made makes. -/
def mdQ (n d : Int) : Rat := Rat.divInt n (if d = 0 then 1 else d)
def kR2Made : Con := con2 (pN .i64) (pN .i64) fun n d => ((-9223372036854775808 ≤ n ∧ n ≤ 9223372036854775807) ∧ -9223372036854775808 ≤ d ∧ d ≤ 9223372036854775807, .Q (mdQ n d))
attribute [go_sem ↓, go_sem] kR2Made
theorem dl_i64 {n : Int} (h : -9223372036854775808 ≤ n ∧ n ≤ 9223372036854775807) : dl n.natAbs ≤ 2 := dl_le.2 (by
  have : (4294967296 : Nat) ^ 2 = 18446744073709551616 := by decide
  omega)
theorem r2Made_C : Ctr Tryz.prog 37 kR2Made := Ctr.c2 (by kernel_rfl) fun n d h => by
  refine PCall.of_vc (tabs mixed (tbl_cons r2of_C (tbl_cons rof_C tbl_nil))) Tryz.func37 rfl Tryz.ntmps37 Tryz.results37 (by simp) ?_
  have e1 := dl_i64 h.1
  have e2 := dl_i64 h.2
  have h1 := h.1
  have h2 := h.2
  unfold mdQ
  by_cases hd : d = 0
  · have c0 : (d == 0) = true := beqT hd
    rw [if_pos hd]
    have l1 : dl (Int.natAbs 1) ≤ 1 := (dl_le (k := 1)).2 (by decide)
    simp only [go_sem, c0]
    and_intros <;> first | omega | decide
  · have c0 : (d == 0) = false := beqF hd
    rw [if_neg hd]
    simp only [go_sem, c0]
    and_intros <;> first | omega | decide
theorem r2Whole_C : Ctr Tryz.prog 36 kWhole := Ctr.c1 (by kernel_rfl) fun n h => by
  refine PCall.of_vc (tabs mixed (tbl_cons rof_C tbl_nil)) Tryz.func36 rfl Tryz.ntmps36 Tryz.results36 (by simp) ?_
  simp only [go_sem]
  exact ⟨h, out_Q (.refl _) (.refl _) rfl rfl⟩
theorem r2Sign_C : Ctr Tryz.prog 34 kQSign := Ctr.c1 (by kernel_rfl) fun a h => by
  refine PCall.of_vc (tabs mixed (tbl_cons rsign_C tbl_nil)) Tryz.func34 rfl Tryz.ntmps34 Tryz.results34 (by simp) ?_
  simp only [go_sem]
def kR2Neg : Con := con1 pQ fun a => (qs a ≤ 100000000000, .Q (-a))
attribute [go_sem ↓, go_sem] kR2Neg
theorem r2Neg_C : Ctr Tryz.prog 44 kR2Neg := Ctr.c1 (by kernel_rfl) fun a h => by
  refine PCall.of_vc (tabs mixed (tbl_cons (C := kRNeg) rneg_C tbl_nil)) Tryz.func44 rfl Tryz.ntmps44 Tryz.results44 (by simp) ?_
  obtain ⟨a1, a2, a3⟩ := szs h
  simp only [go_sem]
  and_intros <;> first | rfl | omega | exact out_Q (.refl _) (.refl _) rfl rfl
theorem r2Mul_C : Ctr Tryz.prog 39 kQMul := Ctr.c2 (by kernel_rfl) fun a b h => by
  refine PCall.of_vc (tabs mixed (tbl_cons r2of_C (tbl_cons rmul_C tbl_nil))) Tryz.func39 rfl Tryz.ntmps39 Tryz.results39 (by simp) ?_
  obtain ⟨a1, a2, a3⟩ := szs h.1
  obtain ⟨b1, b2, b3⟩ := szs h.2
  have e1 := dl_mulI a.num b.num
  have e2 := dl_mulI a.den b.den
  have z := Int.mul_ne_zero a3 b3
  simp only [go_sem, mul_dI]
  and_intros <;> first | rfl | assumption | omega
theorem r2Add_C : Ctr Tryz.prog 38 kQAdd := Ctr.c2 (by kernel_rfl) fun a b h => by
  refine PCall.of_vc (tabs mixed (tbl_cons r2of_C (tbl_cons rmul_C (tbl_cons radd_C tbl_nil)))) Tryz.func38 rfl Tryz.ntmps38 Tryz.results38 (by simp) ?_
  obtain ⟨a1, a2, a3⟩ := szs h.1
  obtain ⟨b1, b2, b3⟩ := szs h.2
  have e1 := dl_mulI a.num b.den
  have e2 := dl_mulI b.num a.den
  have e3 := dl_mulI a.den b.den
  have e4 := dl_addI (a.num * b.den) (b.num * a.den)
  have z := Int.mul_ne_zero a3 b3
  simp only [go_sem, add_dI]
  and_intros <;> first | rfl | assumption | omega
theorem r2Sub_C : Ctr Tryz.prog 56 kQSub := Ctr.c2 (by kernel_rfl) fun a b h => by
  refine PCall.of_vc (tabs mixed (tbl_cons r2Add_C (tbl_cons r2Neg_C tbl_nil))) Tryz.func56 rfl Tryz.ntmps56 Tryz.results56 (by simp) ?_
  obtain ⟨h1, h2⟩ := h
  have e := Rat.sub_eq_add_neg a b
  simp only [go_sem, ← e, qs_neg]
  and_intros <;> first | rfl | assumption | omega
theorem r2Div_C : Ctr Tryz.prog 94 kQDiv := Ctr.c2 (by kernel_rfl) fun a b h => by
  show PCall _ _ _ (divR a b)
  refine PCall.of_vc (tabs mixed (tbl_cons rmul_C (tbl_cons r2Of_C tbl_nil))) Tryz.func94 rfl Tryz.ntmps94 Tryz.results94 (by simp) ?_
  obtain ⟨a1, a2, a3⟩ := szs h.1
  obtain ⟨b1, b2, b3⟩ := szs h.2
  have e1 := dl_mulI a.num b.den
  have e2 := dl_mulI a.den b.num
  have r := ofR_div a b
  by_cases hb : b = 0
  · have d1 : divR a b = .tup [.agg [.I 0, .I 0], .raw (.int .i64 3)] := if_pos hb
    rw [d1] at r ⊢
    simp only [go_sem, r]
    and_intros <;> first | rfl | assumption | omega
  · have d1 : divR a b = .tup [.Q (a / b), .raw (.int .i64 0)] := if_neg hb
    rw [d1] at r ⊢
    simp only [go_sem, r]
    and_intros <;> first | rfl | assumption | omega
theorem sg_sub (a b : Rat) : sgI (a - b).num = cmpQ a b := by
  unfold cmpQ
  rcases sg_cases (a - b).num with ⟨h, e⟩ | ⟨h, e⟩ | ⟨h, e⟩
  · rw [e, if_pos]
    have h1 : ¬ 0 ≤ a - b := fun h2 => by have := Rat.num_nonneg.2 h2; omega
    exact Rat.not_le.1 fun h2 => h1 ((Rat.le_iff_sub_nonneg b a).1 h2)
  · have h1 := Rat.num_eq_zero.1 h
    have h2 : a = b := by rw [← Rat.sub_add_cancel (a := a) (b := b), h1, Rat.zero_add]
    rw [e, h2, if_neg Rat.lt_irrefl, if_pos rfl]
  · have h1 : 0 ≤ a - b := Rat.num_nonneg.1 (by omega)
    have h2 : b ≤ a := (Rat.le_iff_sub_nonneg b a).2 h1
    rw [e, if_neg (Rat.not_lt.2 h2), if_neg]
    intro h3
    rw [h3, Rat.sub_self] at h
    exact absurd h (by decide)
theorem r2Cmp_C : Ctr Tryz.prog 19 kQCmp := Ctr.c2 (by kernel_rfl) fun a b h => by
  refine PCall.of_vc (tabs mixed (tbl_cons r2Sub_C (tbl_cons r2Sign_C tbl_nil))) Tryz.func19 rfl Tryz.ntmps19 Tryz.results19 (by simp) ?_
  obtain ⟨h1, h2⟩ := h
  have e := sg_sub a b
  simp only [go_sem, e]
  exact ⟨h1, h2⟩
def kR2Same : Con := con2 pP pP fun a b => ((dl a.1.natAbs ≤ 10000000000000 ∧ dl a.2.natAbs ≤ 10000000000000) ∧ dl b.1.natAbs ≤ 10000000000000 ∧ dl b.2.natAbs ≤ 10000000000000, .raw (.bool (decide (a = b))))
attribute [go_sem ↓, go_sem] kR2Same
end Go.Proofs.YtfbogelmgdojgaaGreat

/- Contracts: powers and validity of rational numbers. -/
namespace Go.Proofs.YtfbogelmgdojgaaGreat
set_option linter.unusedSimpArgs false
set_option linter.unusedVariables false
open Go.RowKit

theorem dl_powI (x : Int) (n : Nat) : dl (x ^ n).natAbs ≤ n * dl x.natAbs + 1 := dl_pw1 x n
theorem qs_inv (a : Rat) : qs a⁻¹ ≤ qs a := by
  have h := qs_div 1 a
  rw [Rat.inv_def]
  refine Nat.le_trans (qs_divInt _ _) ?_
  rw [Int.natAbs_natCast]
  have := qs_num a; have := qs_den a; have := qs_pos a
  omega
theorem bits_and1 (m : Nat) (h : m ≤ 256) : bits BinOp.and IntKind.i64 (m : Int) 1 = ((m % 2 : Nat) : Int) := by
  have := and_one m 0 h
  rw [Nat.pow_zero, Nat.div_one, Int.pow_zero, Int.ediv_one] at this
  exact this
theorem qs_pow (a : Rat) (n : Nat) : qs (a ^ n) ≤ n * qs a + 1 := by
  unfold qs
  rw [Rat.num_pow, Rat.den_pow]
  have h1 := dl_pw1 a.num n
  have h2 := dl_pw1 (a.den : Int) n
  unfold pw at h1 h2
  rw [← Int.natCast_pow, Int.natAbs_natCast, Int.natAbs_natCast] at h2
  have h3 : n * dl a.num.natAbs ≤ n * max (dl a.num.natAbs) (dl a.den) := Nat.mul_le_mul_left _ (Nat.le_max_left _ _)
  have h4 : n * dl a.den ≤ n * max (dl a.num.natAbs) (dl a.den) := Nat.mul_le_mul_left _ (Nat.le_max_right _ _)
  omega
theorem pow_oneQ (a : Rat) : a ^ 1 = a := by rw [Rat.pow_succ, Rat.pow_zero, Rat.one_mul]
theorem one_castQ : ((1 : Int) : Rat) = 1 := rfl
theorem pow_addQ (a : Rat) (m : Nat) : ∀ n, a ^ (m + n) = a ^ m * a ^ n
  | 0 => by rw [Nat.add_zero, Rat.pow_zero, Rat.mul_one]
  | n + 1 => by rw [← Nat.add_assoc, Rat.pow_succ, Rat.pow_succ, pow_addQ a m n, Rat.mul_assoc]
/-- The square of what the caller holds. -/
def kSqF : List V → Prop × List V × V
  | [.Q a] => (qs a ≤ 10000000000, [.Q (a * a)], .tup [])
  | _ => (False, [], .any)
attribute [go_sem] kSqF.eq_1
/-- A power; a negative exponent inverts. -/
def powq (a : Rat) (n : Int) : Rat := if n < 0 then a⁻¹ ^ n.natAbs else a ^ n.natAbs
def powQ (a : Rat) (n : Int) : V := if n < -256 ∨ 256 < n then qErr 1 else if n < 0 ∧ a = 0 then qErr 3 else qOk (powq a n)
def kQPow : Con := con2 pQ (pN .i64) fun a n => (qs a ≤ 100000, powQ a n)
attribute [go_sem ↓, go_sem] kQPow
/- Validity. -/
/-- A pair of integers as they come. -/
def pRR : Pat ((Bool × List Nat) × (Bool × List Nat)) where
  p
    | .Q q => some (True, (decide (q.num < 0), dg q.num.natAbs), (decide ((q.den : Int) < 0), dg (q.den : Int).natAbs))
    | .agg [x, y] => (pRaw.p x).bind fun a => (pRaw.p y).map fun b => (a.1 ∧ b.1, (a.2, b.2))
    | _ => none
  val a := .agg [pRaw.val a.1, pRaw.val a.2]
  ok x c a h hc := by
    split at h
    · injection h with h; injection h with h1 h2; subst h2
      exact .atoms rfl rfl (by simp [V.atoms, V.atomsL, V.atomsI, pRaw])
    · rename_i x y
      rcases ha : pRaw.p x with _ | ⟨c1, a1⟩ <;> rw [ha] at h
      · cases h
      · rcases hb : pRaw.p y with _ | ⟨c2, a2⟩ <;> simp only [hb, bind_some] at h
        · cases h
        · injection h with h; injection h with h1 h2; subst h1 h2
          have g1 := pRaw.ok _ _ _ ha hc.1
          have g2 := pRaw.ok _ _ _ hb hc.2
          have at2 : ∀ {x : V} {s : Bool × List Nat}, OutEq x (pRaw.val s) → atsLe x.atoms (pRaw.val s).atoms := fun {x s} h => by
            rcases h with h | ⟨_, _, h⟩ | ⟨_, h, _⟩
            · subst h; exact atsLe.refl _
            · exact h
            · cases h
          refine .inr (.inl ⟨rfl, rfl, ?_⟩)
          show atsLe (x.atoms ++ (y.atoms ++ [])) ((pRaw.val a1).atoms ++ ((pRaw.val a2).atoms ++ []))
          exact atsLe_append (at2 g1) (atsLe_append (at2 g2) trivial)
    · cases h
@[go_sem ↓, go_sem] theorem ev_pRR {q : Rat} : pRR.p (.Q q) = some (True, (decide (q.num < 0), dg q.num.natAbs), (decide ((q.den : Int) < 0), dg (q.den : Int).natAbs)) := rfl
@[go_sem ↓, go_sem] theorem ev_pRR_agg {x y : V} : pRR.p (.agg [x, y]) = (pRaw.p x).bind fun a => (pRaw.p y).map fun b => (a.1 ∧ b.1, (a.2, b.2)) := rfl
@[go_sem ↓, go_sem] theorem ev_pRR_val {a : (Bool × List Nat) × (Bool × List Nat)} : pRR.val a = .agg [pRaw.val a.1, pRaw.val a.2] := rfl
/-- A fraction is in lowest terms, its denominator is positive. -/
def validQ (a : (Bool × List Nat) × (Bool × List Nat)) : Bool := validB a.1.1 a.1.2 && validB a.2.1 a.2.2 && decide (0 < sv a.2.1 a.2.2) && decide (Nat.gcd (lv a.1.2) (lv a.2.2) = 1)
theorem validQ_Q (q : Rat) : validQ ((decide (q.num < 0), dg q.num.natAbs), (decide ((q.den : Int) < 0), dg (q.den : Int).natAbs)) = true := by
  unfold validQ
  have h1 := validB_I q.num
  have h2 := validB_I q.den
  have h3 : sv (decide ((q.den : Int) < 0)) (dg (q.den : Int).natAbs) = q.den := by
    rw [show decide ((q.den : Int) < 0) = false from decide_eq_false (by omega), sv_false, lv_dg, Int.natAbs_natCast]
  have h4 := q.den_pos
  have h5 : Nat.gcd (lv (dg q.num.natAbs)) (lv (dg (q.den : Int).natAbs)) = 1 := by
    rw [lv_dg, lv_dg, Int.natAbs_natCast]; exact q.reduced
  simp only [h1, h2, h3, h5, Bool.true_and, decide_true, Bool.and_true]
  exact decide_eq_true (by omega)
theorem validB_canon {s : Bool} {l : List Nat} (hl : Lim l) (h : validB s l = true) : Canon l ∧ (s = true → l ≠ []) := by
  unfold validB at h
  split at h
  · rename_i e
    subst e
    exact ⟨Canon.nil, fun hs => by subst hs; simp at h⟩
  · rename_i e
    exact ⟨⟨hl, fun _ => by simpa using h⟩, fun _ => e⟩
theorem cmp_one (G : Nat) : (cmpI ((G : Nat) : Int) 1 == 0) = decide (G = 1) := by
  by_cases h : G = 1
  · rw [h]; rfl
  · rw [decide_eq_false h]
    exact beqF fun e => h (by have := cmpI_zero.1 e; omega)
theorem one_nat (G : Nat) : decide (((G : Nat) : Int) = 1) = decide (G = 1) := by
  by_cases h : G = 1
  · rw [h]; rfl
  · rw [decide_eq_false h]; exact decide_eq_false (by omega)
set_option maxRecDepth 2000 in
theorem qValid_V (s t : Bool) (l m : List Nat) (hl : Lim l) (hm : Lim m) (h1 : l.length ≤ 100000000000) (h2 : m.length ≤ 100000000000) : PCall Tryz.prog 111 [.agg [.agg [.raw (.bool s), .lst (V.limbs l)], .agg [.raw (.bool t), .lst (V.limbs m)]]] (.raw (.bool (validQ ((s, l), (t, m))))) := by
  refine PCall.of_vc (tabs mixed (tbl_cons valid_C (tbl_cons sign_C (tbl_cons gcdA_C (tbl_cons of_C (tbl_cons cmpZ_C tbl_nil)))))) Tryz.func111 rfl Tryz.ntmps111 Tryz.results111 (by simp) ?_
  unfold validQ
  have l1 : dl (Int.natAbs 1) ≤ 1 := (dl_le (k := 1)).2 (by decide)
  have g1 : l.length ≤ 9223372036854775807 := by omega
  have g2 : m.length ≤ 9223372036854775807 := by omega
  rcases c1 : validB s l with _ | _
  · simp only [go_sem, c1]
    exact g1
  · rcases c2 : validB t m with _ | _
    · simp only [go_sem, c1, c2]
      exact ⟨g1, g2⟩
    · obtain ⟨a1, a2⟩ := validB_canon hl c1
      obtain ⟨b1, b2⟩ := validB_canon hm c2
      have d1 : dl (lv l) ≤ 100000000000 := Nat.le_trans (dl_le_of_lim hl) h1
      have d2 : dl (lv m) ≤ 100000000000 := Nat.le_trans (dl_le_of_lim hm) h2
      by_cases hp : 0 < sv t m
      · have c3 : ¬ sgI (sv t m) ≤ 0 := by rw [show sgI (sv t m) = 1 from cmpI_gt hp]; decide
        have c4 : decide (0 < sv t m) = true := decide_eq_true hp
        have hm0 : lv m ≠ 0 := by have := sv_natAbs t m; omega
        have d3 : dl (Nat.gcd (lv l) (lv m)) ≤ 100000000000 := Nat.le_trans (dl_mono (Nat.gcd_le_right _ (by omega))) d2
        simp only [go_sem, c1, c2, c3, c4, sv_natAbs, cmp_one, Int.natAbs_natCast, Bool.true_and]
        and_intros <;> first | rfl | assumption | exact a1.2 | exact b1.2 | exact a2 | exact b2 | omega
      · have c3 : sgI (sv t m) ≤ 0 := by rcases sg_cases (sv t m) with ⟨_, e⟩ | ⟨_, e⟩ | ⟨h, _⟩ <;> first | omega | (rw [e]; decide)
        have c4 : decide (0 < sv t m) = false := decide_eq_false hp
        simp only [go_sem, c1, c2, c3, c4, Bool.false_and, Bool.and_false]
        and_intros <;> first | rfl | assumption | exact a1.2 | exact b1.2 | exact a2 | exact b2 | omega
set_option maxRecDepth 2000 in
theorem r2Valid_V (s t : Bool) (l m : List Nat) (hl : Lim l) (hm : Lim m) (h1 : l.length ≤ 100000000000) (h2 : m.length ≤ 100000000000) : PCall Tryz.prog 115 [.agg [.agg [.raw (.bool s), .lst (V.limbs l)], .agg [.raw (.bool t), .lst (V.limbs m)]]] (.raw (.bool (validQ ((s, l), (t, m))))) := by
  refine PCall.of_vc (tabs mixed (tbl_cons rvalid_C (tbl_cons rsign_C (tbl_cons rgcd_C (tbl_cons rof_C (tbl_cons same_C tbl_nil)))))) Tryz.func115 rfl Tryz.ntmps115 Tryz.results115 (by simp) ?_
  unfold validQ
  have l1 : dl (Int.natAbs 1) ≤ 1 := (dl_le (k := 1)).2 (by decide)
  have g1 : l.length ≤ 9223372036854775807 := by omega
  have g2 : m.length ≤ 9223372036854775807 := by omega
  rcases c1 : validB s l with _ | _
  · simp only [go_sem, c1]
    exact g1
  · rcases c2 : validB t m with _ | _
    · simp only [go_sem, c1, c2]
      exact ⟨g1, g2⟩
    · obtain ⟨a1, a2⟩ := validB_canon hl c1
      obtain ⟨b1, b2⟩ := validB_canon hm c2
      have d1 : dl (lv l) ≤ 100000000000 := Nat.le_trans (dl_le_of_lim hl) h1
      have d2 : dl (lv m) ≤ 100000000000 := Nat.le_trans (dl_le_of_lim hm) h2
      by_cases hp : 0 < sv t m
      · have c3 : ¬ sgI (sv t m) ≤ 0 := by rw [show sgI (sv t m) = 1 from cmpI_gt hp]; decide
        have c4 : decide (0 < sv t m) = true := decide_eq_true hp
        have hm0 : lv m ≠ 0 := by have := sv_natAbs t m; omega
        have d3 : dl (Nat.gcd (lv l) (lv m)) ≤ 100000000000 := Nat.le_trans (dl_mono (Nat.gcd_le_right _ (by omega))) d2
        simp only [go_sem, c1, c2, c3, c4, sv_natAbs, one_nat, Int.natAbs_natCast, Bool.true_and]
        and_intros <;> first | rfl | assumption | exact a1.2 | exact b1.2 | exact a2 | exact b2 | omega
      · have c3 : sgI (sv t m) ≤ 0 := by rcases sg_cases (sv t m) with ⟨_, e⟩ | ⟨_, e⟩ | ⟨h, _⟩ <;> first | omega | (rw [e]; decide)
        have c4 : decide (0 < sv t m) = false := decide_eq_false hp
        simp only [go_sem, c1, c2, c3, c4, Bool.false_and, Bool.and_false]
        and_intros <;> first | rfl | assumption | exact a1.2 | exact b1.2 | exact a2 | exact b2 | omega
def kQValid : Con := con1 pRR fun a => ((Lim a.1.2 ∧ Lim a.2.2) ∧ a.1.2.length ≤ 100000000000 ∧ a.2.2.length ≤ 100000000000, .raw (.bool (validQ a)))
attribute [go_sem ↓, go_sem] kQValid
theorem qValid_C : Ctr Tryz.prog 111 kQValid := Ctr.c1 (by kernel_rfl) fun a h => qValid_V a.1.1 a.2.1 a.1.2 a.2.2 h.1.1 h.1.2 h.2.1 h.2.2
theorem r2Valid_C : Ctr Tryz.prog 115 kQValid := Ctr.c1 (by kernel_rfl) fun a h => r2Valid_V a.1.1 a.2.1 a.1.2 a.2.2 h.1.1 h.1.2 h.2.1 h.2.2
end Go.Proofs.YtfbogelmgdojgaaGreat

/- Rational numbers: the rules of sizes. No program in sight. -/
namespace Go.Proofs.YtfbogelmgdojgaaGreat
set_option linter.unusedSimpArgs false
set_option linter.unusedVariables false
open Go.RowKit

theorem sizesQ {a : Rat} {k : Nat} (h : qs a ≤ k) : dl a.num.natAbs ≤ k ∧ dl ((a.den : Int)).natAbs ≤ k := ⟨(szs h).1, (szs h).2.1⟩
theorem szNum {a : Rat} {j k : Nat} (h : qs a ≤ j) (e : j ≤ k) : dl a.num.natAbs ≤ k := Nat.le_trans (szs h).1 e
theorem szDen {a : Rat} {j k : Nat} (h : qs a ≤ j) (e : j ≤ k) : dl (a.den : Int).natAbs ≤ k := Nat.le_trans (szs h).2.1 e
theorem szLN {a : Rat} {j k : Nat} (h : qs a ≤ j) (e : j ≤ k) : (dg a.num.natAbs).length ≤ k := Nat.le_trans (szs h).1 e
theorem szLD {a : Rat} {j k : Nat} (h : qs a ≤ j) (e : j ≤ k) : (dg (a.den : Int).natAbs).length ≤ k := Nat.le_trans (szs h).2.1 e
theorem szQ {a : Rat} {j k : Nat} (h : qs a ≤ j) (e : j ≤ k) : qs a ≤ k := Nat.le_trans h e
theorem qsA {a b : Rat} {j k : Nat} (h : qs a ≤ j) (g : qs b ≤ k) : qs (a + b) ≤ j + k + 1 := Nat.le_trans (qs_add a b) (by omega)
theorem qsS {a b : Rat} {j k : Nat} (h : qs a ≤ j) (g : qs b ≤ k) : qs (a - b) ≤ j + k + 1 := Nat.le_trans (qs_sub a b) (by omega)
theorem qsM {a b : Rat} {j k : Nat} (h : qs a ≤ j) (g : qs b ≤ k) : qs (a * b) ≤ j + k := Nat.le_trans (qs_mul a b) (by omega)
theorem qsD {a b : Rat} {j k : Nat} (h : qs a ≤ j) (g : qs b ≤ k) : qs (a / b) ≤ j + k := Nat.le_trans (qs_div a b) (by omega)
theorem qsN {a : Rat} {j : Nat} (h : qs a ≤ j) : qs (-a) ≤ j := by rw [qs_neg]; exact h
theorem qsNumDen {n d : Int} {j k : Nat} (h : dl n.natAbs ≤ j) (g : dl d.natAbs ≤ k) : qs (Rat.divInt n d) ≤ j + k + 1 := Nat.le_trans (qs_divInt n d) (by omega)
theorem dl_i64' {z : Int} (h : -9223372036854775808 ≤ z ∧ z ≤ 9223372036854775807) : dl z.natAbs ≤ 2 := dl_i64 h
theorem qsZ {z : Int} {j : Nat} (h : dl z.natAbs ≤ j) : qs (z : Rat) ≤ j + 1 := Nat.le_trans (qs_int z) (by omega)
theorem dlT {z : Int} {j k : Nat} (h : dl z.natAbs ≤ j) (e : j ≤ k) : dl z.natAbs ≤ k := Nat.le_trans h e
theorem dlM {a b : Int} {j k : Nat} (h : dl a.natAbs ≤ j) (g : dl b.natAbs ≤ k) : dl (a * b).natAbs ≤ j + k := Nat.le_trans (dl_mulI a b) (by omega)
theorem dlA {a b : Int} {j k : Nat} (h : dl a.natAbs ≤ j) (g : dl b.natAbs ≤ k) : dl (a + b).natAbs ≤ j + k + 1 := Nat.le_trans (dl_addI a b) (by omega)
theorem dlS {z : Int} (h : z.natAbs < 4294967296) : dl z.natAbs ≤ 1 := (dl_le (k := 1)).2 (by simpa using h)
theorem dlNum {a : Rat} {j : Nat} (h : qs a ≤ j) : dl a.num.natAbs ≤ j := (szs h).1
theorem dlDen {a : Rat} {j : Nat} (h : qs a ≤ j) : dl (a.den : Int).natAbs ≤ j := (szs h).2.1
theorem dlFl {a : Rat} {j : Nat} (h : qs a ≤ j) : dl a.floor.natAbs ≤ j := by
  rw [Rat.floor_def]
  exact Nat.le_trans (dl_mono (Int.natAbs_ediv_le_natAbs _ _)) (szs h).1
theorem int_self (x : Int) : (x == x) = true := by simp
end Go.Proofs.YtfbogelmgdojgaaGreat
