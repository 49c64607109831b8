/- Texts H1 H2 H3 H4 H5 in one. -/
import Derived.Test.YtfbogelmgdojgaaGreatP57
/- Contracts: the reference of package poly, first functions. -/
namespace Go.Proofs.YtfbogelmgdojgaaGreat
set_option linter.unusedSimpArgs false
set_option linter.unusedVariables false
open Go.RowKit

def kRZero : Con := con0 (True, .Q 0)
attribute [go_sem ↓, go_sem] kRZero
theorem rZero_C : Ctr Tryz.prog 77 kRZero := Ctr.c0 (by kernel_rfl) fun _ => by
  refine PCall.of_vc (tabs mixed (tbl_cons r2Whole_C tbl_nil)) Tryz.func77 rfl Tryz.ntmps77 Tryz.results77 (by simp) ?_
  simp only [go_sem]
  exact .inl rfl
theorem rOne_C : Ctr Tryz.prog 93 kOne := Ctr.c0 (by kernel_rfl) fun _ => by
  refine PCall.of_vc (tabs mixed (tbl_cons r2Whole_C tbl_nil)) Tryz.func93 rfl Tryz.ntmps93 Tryz.results93 (by simp) ?_
  simp only [go_sem]
  exact .inl rfl
def kRAt : Con := con2 pR (pN .i64) fun p i => (True, .Q (if i < 0 then 0 else cf p i.toNat))
attribute [go_sem ↓, go_sem] kRAt
theorem rAt_C : Ctr Tryz.prog 76 kRAt := Ctr.c2 (by kernel_rfl) fun p i _ => by
  show PCall _ _ _ (.Q (if i < 0 then 0 else cf p i.toNat))
  refine PCall.of_vc (tabs mixed (tbl_cons rZero_C tbl_nil)) Tryz.func76 rfl Tryz.ntmps76 Tryz.results76 (by simp) ?_
  by_cases h0 : i < 0
  · simp only [go_sem, h0]
  · rw [if_neg h0]
    by_cases h1 : (p.length : Int) ≤ i
    · have e : cf p i.toNat = 0 := cf_ge (by omega)
      simp only [go_sem, h0, h1, e]
    · simp only [go_sem, h0, h1]
      exact ⟨⟨by omega, by omega⟩, by omega⟩
end Go.Proofs.YtfbogelmgdojgaaGreat

/- Contracts: the reference of package poly, equality. -/
namespace Go.Proofs.YtfbogelmgdojgaaGreat
set_option linter.unusedSimpArgs false
set_option linter.unusedVariables false
open Go.RowKit

theorem rPEq_C : Ctr Tryz.prog 14 kPEq := Ctr.c2 (by kernel_rfl) fun a b h => by
  obtain ⟨⟨la, lb⟩, ha, hb⟩ := h
  refine PCall.of_vc (tabs mixed (tbl_cons r2Cmp_C tbl_nil)) Tryz.func14 rfl Tryz.ntmps14 Tryz.results14 (by simp) ?_
  by_cases hl : a.length = b.length
  · have c0 : (!((a.length : Int) == (b.length : Int))) = false := by rw [hl]; simp
    have c0' : ((a.length : Int) != (b.length : Int)) = false := c0
    simp only [go_sem, c0, c0']
    refine AWp.loops (X := { i : Nat // i ≤ a.length ∧ ∀ j, j < i → cf a j = cf b j })
      (fun i => mkSt [(0, .lst (V.rats a)), (1, .lst (V.rats b)), (4, .raw (.bool false)), (5, .raw (.int .i64 (i.1 : Nat)))] [] 0 27)
      (fun i => a.length - i.1) ⟨0, Nat.zero_le _, fun j h => by omega⟩ (Wk.of [] (by decide) ?_) ?_
    · simp only [go_sem]
    · rintro ⟨i, hi, he⟩
      refine vc_at (tabs mixed (tbl_cons r2Cmp_C tbl_nil)) ?_
      by_cases hin : i < a.length
      · have c1 : (i : Int) < (a.length : Nat) := by omega
        have c2 : (i : Int) + 1 = ((i + 1 : Nat) : Int) := by omega
        have q1 := ha i
        have q2 := hb i
        by_cases hq : cf a i = cf b i
        · have d0 : (cmpQ (cf a i) (cf b i) == 0) = true := by rw [cmpQ_eq0]; exact decide_eq_true hq
          have d1 : (cmpQ (cf a i) (cf b i) != 0) = false := by unfold bne; rw [d0]; rfl
          simp only [go_sem, c1, c2, d0, d1]
          refine ⟨by omega, hin, ⟨by omega, by omega⟩, by omega, ⟨q1, q2⟩, by rfl, ⟨by omega, by omega⟩, ⟨i + 1, hin, fun j hj => ?_⟩, Wk.of [] (by decide) ?_, by simp only; omega⟩
          · by_cases e : j = i
            · subst e; exact hq
            · exact he j (by omega)
          · simp only [go_sem]
        · have d0 : (cmpQ (cf a i) (cf b i) == 0) = false := by rw [cmpQ_eq0]; exact decide_eq_false hq
          have d1 : (cmpQ (cf a i) (cf b i) != 0) = true := by unfold bne; rw [d0]; rfl
          have d2 : decide (a = b) = false := decide_eq_false fun e => hq (by rw [e])
          simp only [go_sem, c1, c2, d0, d1, d2]
          exact ⟨by omega, hin, ⟨by omega, by omega⟩, by omega, ⟨q1, q2⟩, by rfl⟩
      · have c1 : ¬ (i : Int) < (a.length : Nat) := by omega
        have d2 : decide (a = b) = true := decide_eq_true (cf_ext hl fun j => by
          by_cases hj : j < i
          · exact he j hj
          · rw [cf_ge (by omega), cf_ge (by omega)])
        simp only [go_sem, c1, d2]
  · have c0 : (!((a.length : Int) == (b.length : Int))) = true := by simp; omega
    have c0' : ((a.length : Int) != (b.length : Int)) = true := c0
    have d2 : decide (a = b) = false := decide_eq_false fun e => hl (by rw [e])
    simp only [go_sem, c0, c0', d2]
end Go.Proofs.YtfbogelmgdojgaaGreat

/- Contracts: the reference of package poly, lists without zeros at the end. -/
namespace Go.Proofs.YtfbogelmgdojgaaGreat
set_option linter.unusedSimpArgs false
set_option linter.unusedVariables false
open Go.RowKit

/-- The first values of a function. -/
def rg (F : Nat → Rat) (n : Nat) : List Rat := (List.range n).map F
@[go_sem] theorem rg_len (F : Nat → Rat) (n : Nat) : (rg F n).length = n := by simp [rg]
theorem rg_0 (F : Nat → Rat) : rg F 0 = [] := rfl
theorem rg_snoc (F : Nat → Rat) (i : Nat) : rg F i ++ [F i] = rg F (i + 1) := by unfold rg; rw [List.range_succ, List.map_append]; rfl
@[go_sem] theorem rg_take (F : Nat → Rat) (i : Nat) : (rg F i).take i = rg F i := List.take_of_length_le (by rw [rg_len]; exact Nat.le_refl _)
theorem take_rg {l : List Rat} {n : Nat} (h : n ≤ l.length) : l.take n = rg (cf l) n := cf_ext (by rw [rg_len, List.length_take]; omega) fun i => by
  by_cases hi : i < n
  · unfold rg cf
    rw [List.getD_eq_getElem?_getD, List.getElem?_take, if_pos hi, List.getD_eq_getElem?_getD, List.getElem?_map, List.getElem?_range hi]
    rfl
  · rw [cf_ge (by rw [List.length_take]; omega), cf_ge (by rw [rg_len]; omega)]
theorem cf_rg (F : Nat → Rat) (n i : Nat) : cf (rg F n) i = if i < n then F i else 0 := by
  by_cases hi : i < n
  · rw [if_pos hi]
    unfold rg cf
    rw [List.getD_eq_getElem?_getD, List.getElem?_map, List.getElem?_range hi]
    rfl
  · rw [if_neg hi, cf_ge (by rw [rg_len]; omega)]
theorem rg_self (l : List Rat) : rg (cf l) l.length = l := by rw [← take_rg (Nat.le_refl _), List.take_length]
theorem rats_0 : V.rats [] = [] := rfl
theorem rTrim_V (l : List Rat) (h : l.length ≤ 1000000000) : PCall Tryz.prog 42 [.lst (V.rats l)] (.lst (V.rats (tr l))) := by
  refine PCall.of_vc (tabs mixed (tbl_cons r2Sign_C tbl_nil)) Tryz.func42 rfl Tryz.ntmps42 Tryz.results42 (by simp) ?_
  simp only [go_sem]
  refine AWp.cut (E := fun e τ => e = .exit 0 ∧ ∃ n : Nat, (n ≤ l.length ∧ (∀ i, n ≤ i → cf l i = 0) ∧ (n ≠ 0 → cf l (n - 1) ≠ 0)) ∧ τ = mkSt [(0, .lst (V.rats l)), (2, .raw (.slice none 0 0)), (3, .raw (.int .i64 (n : Nat)))] [] 0 35) ?_ ?_
  · refine AWp.loops (X := { n : Nat // n ≤ l.length ∧ ∀ i, n ≤ i → cf l i = 0 }) (fun n => mkSt [(0, .lst (V.rats l)), (2, .raw (.slice none 0 0)), (3, .raw (.int .i64 (n.1 : Nat)))] [] 0 35) (fun n => n.1) ⟨l.length, Nat.le_refl _, fun i h => cf_ge h⟩ (Wk.of [] (by decide) ?_) ?_
    · simp only [go_sem]
    · rintro ⟨n, hn, hz⟩
      refine vc_at (tabs mixed (tbl_cons r2Sign_C tbl_nil)) ?_
      rcases n with _ | n
      · simp only [go_sem]
        refine ⟨_, Wk.of [] (by decide) ?_, 0, ⟨hn, hz, fun e => absurd rfl e⟩, rfl⟩
        simp only [go_sem, Int.natCast_zero]
      · have e1 := pred_nat n
        have e2 : 0 < ((n + 1 : Nat) : Int) := by omega
        by_cases hc : cf l n = 0
        · have c1 : (sgI (cf l n).num == 0) = true := by rw [sgn_numQ]; exact decide_eq_true hc
          simp only [go_sem, e1, e2, c1]
          refine ⟨by omega, by omega, by omega, by omega, ⟨n, by omega, fun i hi => ?_⟩, Wk.of [] (by decide) ?_, by simp only; omega⟩
          · rcases Nat.eq_or_lt_of_le hi with h | h
            · rw [← h]; exact hc
            · exact hz i h
          · simp only [go_sem]
        · have c1 : (sgI (cf l n).num == 0) = false := by rw [sgn_numQ]; exact decide_eq_false hc
          simp only [go_sem, e1, e2, c1]
          refine ⟨by omega, by omega, by omega, _, Wk.of [] (by decide) ?_, n + 1, ⟨hn, hz, fun _ => hc⟩, rfl⟩
          simp only [go_sem]
  · rintro e τ ⟨rfl, n, ⟨hn, hz, hc⟩, rfl⟩
    rw [mkSt_eq]
    simp only [go_sem]
    rw [tr_at hn hz hc, take_rg hn]
    refine AWp.loops (X := { i : Nat // i ≤ n }) (fun i => mkSt [(0, .lst (V.rats l)), (2, .raw (.slice none 0 0)), (3, .raw (.int .i64 (n : Nat))), (4, .sl 0 4 0 i.1), (5, .raw (.int .i64 (i.1 : Nat)))] [(0, true, ⟨45, 4, V.rats (rg (cf l) i.1)⟩)] 1 35) (fun i => n - i.1) ⟨0, Nat.zero_le _⟩ (Wk.of [0] (by decide) ?_) ?_
    · simp only [go_sem, rg_0, rats_0, Int.natCast_zero]
    · rintro ⟨i, hi⟩
      refine vc_at (tabs mixed (tbl_cons r2Sign_C tbl_nil)) ?_
      by_cases hin : i < n
      · have c1 : (i : Int) < (n : Nat) := by omega
        have c2 : (i : Int) + 1 = ((i + 1 : Nat) : Int) := by omega
        have mx : maxLen = 9223372036854775807 := by decide
        simp only [go_sem, c1, c2, rg_snoc, mx]
        refine ⟨⟨by omega, by omega⟩, by omega, ⟨by omega, by omega⟩, ⟨by omega, by omega⟩, ⟨i + 1, hin⟩, Wk.of [10] (by decide) ?_, by simp only; omega⟩
        simp only [go_sem]
      · obtain rfl : i = n := by omega
        have c1 : ¬ (i : Int) < (i : Nat) := by omega
        simp only [go_sem, c1]
        trace_state
end Go.Proofs.YtfbogelmgdojgaaGreat

/- Contracts: the reference of package poly, polynomials out of small integers. -/
namespace Go.Proofs.YtfbogelmgdojgaaGreat
set_option linter.unusedSimpArgs false
set_option linter.unusedVariables false
open Go.RowKit

def kRTrim : Con := con1 pR fun l => (l.length ≤ 1000000000, .lst (V.rats (tr l)))
attribute [go_sem ↓, go_sem] kRTrim
theorem rTrim_C : Ctr Tryz.prog 42 kRTrim := Ctr.c1 (by kernel_rfl) fun l h => rTrim_V l h
/-- Small integers, and pairs of them. -/
def V.i8s (l : List Int) : List V := l.map fun z => .raw (.int .i8 z)
@[go_sem] theorem i8s_len (l : List Int) : (V.i8s l).length = l.length := by simp [V.i8s]
@[go_sem ↓, go_sem] theorem ev_i8s_get {l : List Int} {i : Nat} {k : V → Prop} : optC (V.i8s l)[i]? k = (i < l.length ∧ k (.raw (.int .i8 (l.getD i 0)))) := by
  unfold V.i8s
  rw [List.getElem?_map, List.getD_eq_getElem?_getD]
  by_cases h : i < l.length
  · simp [List.getElem?_eq_getElem h, optC, h]
  · simp [List.getElem?_eq_none (Nat.le_of_not_lt h), optC, h]
@[go_sem] theorem i8s_frz (l : List Int) : frzOk (V.i8s l) = True := eq_true (frzOk_map (fun a => ⟨rfl, by simp, by simp⟩) l)
def uni8 : List V → Option (List Int)
  | [] => some []
  | .raw (.int .i8 q) :: l => (uni8 l).map (q :: ·)
  | _ => none
theorem uni8_ok : ∀ (l : List V) (m : List Int), uni8 l = some m → l = V.i8s m
  | [], m, h => by injection h with h; subst h; rfl
  | x :: l, m, h => by
    unfold uni8 at h
    split at h
    · cases ‹_ = []›
    · rename_i q l' e
      injection e with e1 e2; subst e1 e2
      rcases hm : uni8 l with _ | m' <;> rw [hm] at h
      · cases h
      · injection h with h
        subst h
        rw [uni8_ok l m' hm]
        rfl
    · cases h
@[go_sem ↓, go_sem] theorem uni8_i8s (l : List Int) : uni8 (V.i8s l) = some l := by
  induction l with
  | nil => rfl
  | cons x l ih =>
    show (uni8 (V.i8s l)).map (x :: ·) = _
    rw [ih]; rfl
@[go_sem ↓, go_sem] theorem uni8_nil : uni8 [] = some [] := rfl
@[go_sem ↓, go_sem] theorem uni8_cons (q : Int) (l : List V) : uni8 (.raw (.int .i8 q) :: l) = (uni8 l).map (q :: ·) := rfl
def pI8 : Pat (List Int) where
  p
    | .lst l => (uni8 l).map fun m => (True, m)
    | _ => none
  val l := .lst (V.i8s l)
  ok x c a h hc := by
    split at h
    · rename_i l
      rcases hm : uni8 l with _ | m <;> rw [hm] at h
      · cases h
      · injection h with h; injection h with h1 h2; subst h2
        rw [uni8_ok l m hm]; exact .refl _
    · cases h
@[go_sem ↓, go_sem] theorem ev_pI8 {l : List V} : pI8.p (.lst l) = (uni8 l).map fun m => (True, m) := rfl
@[go_sem ↓, go_sem] theorem ev_pI8_mk {l : List Int} : pI8.val l = .lst (V.i8s l) := rfl
def V.prs (l : List (Int × Int)) : List V := l.map fun z => .agg [.raw (.int .i8 z.1), .raw (.int .i8 z.2)]
@[go_sem] theorem prs_len (l : List (Int × Int)) : (V.prs l).length = l.length := by simp [V.prs]
@[go_sem ↓, go_sem] theorem ev_prs_get {l : List (Int × Int)} {i : Nat} {k : V → Prop} : optC (V.prs l)[i]? k = (i < l.length ∧ k (.agg [.raw (.int .i8 (l.getD i (0, 0)).1), .raw (.int .i8 (l.getD i (0, 0)).2)])) := by
  unfold V.prs
  rw [List.getElem?_map, List.getD_eq_getElem?_getD]
  by_cases h : i < l.length
  · simp [List.getElem?_eq_getElem h, optC, h]
  · simp [List.getElem?_eq_none (Nat.le_of_not_lt h), optC, h]
@[go_sem] theorem prs_frz (l : List (Int × Int)) : frzOk (V.prs l) = True := eq_true (frzOk_map (fun a => ⟨rfl, by simp, by simp⟩) l)
def unprs : List V → Option (List (Int × Int))
  | [] => some []
  | .agg [.raw (.int .i8 x), .raw (.int .i8 y)] :: l => (unprs l).map ((x, y) :: ·)
  | _ => none
theorem unprs_ok : ∀ (l : List V) (m : List (Int × Int)), unprs l = some m → l = V.prs m
  | [], m, h => by injection h with h; subst h; rfl
  | x :: l, m, h => by
    unfold unprs at h
    split at h
    · cases ‹_ = []›
    · rename_i p q l' e
      injection e with e1 e2; subst e1 e2
      rcases hm : unprs l with _ | m' <;> rw [hm] at h
      · cases h
      · injection h with h
        subst h
        rw [unprs_ok l m' hm]
        rfl
    · cases h
@[go_sem ↓, go_sem] theorem unprs_prs (l : List (Int × Int)) : unprs (V.prs l) = some l := by
  induction l with
  | nil => rfl
  | cons x l ih =>
    show (unprs (V.prs l)).map ((x.1, x.2) :: ·) = _
    rw [ih]; rfl
def pPrs : Pat (List (Int × Int)) where
  p
    | .lst l => (unprs l).map fun m => (True, m)
    | _ => none
  val l := .lst (V.prs l)
  ok x c a h hc := by
    split at h
    · rename_i l
      rcases hm : unprs l with _ | m <;> rw [hm] at h
      · cases h
      · injection h with h; injection h with h1 h2; subst h2
        rw [unprs_ok l m hm]; exact .refl _
    · cases h
@[go_sem ↓, go_sem] theorem ev_pPrs {l : List V} : pPrs.p (.lst l) = (unprs l).map fun m => (True, m) := rfl
@[go_sem ↓, go_sem] theorem ev_pPrs_mk {l : List (Int × Int)} : pPrs.val l = .lst (V.prs l) := rfl
/-- In the range of an int8. -/
def B8 (z : Int) : Prop := -128 ≤ z ∧ z ≤ 127
theorem B8.get {l : List Int} (h : ∀ z ∈ l, B8 z) (i : Nat) : B8 (l.getD i 0) := by
  rw [List.getD_eq_getElem?_getD]
  rcases hi : l[i]? with _ | z
  · exact ⟨by decide, by decide⟩
  · exact h z (List.mem_of_getElem? hi)
theorem B8.get2 {l : List (Int × Int)} (h : ∀ z ∈ l, B8 z.1 ∧ B8 z.2) (i : Nat) : B8 (l.getD i (0, 0)).1 ∧ B8 (l.getD i (0, 0)).2 := by
  rw [List.getD_eq_getElem?_getD]
  rcases hi : l[i]? with _ | z
  · exact ⟨⟨by decide, by decide⟩, by decide, by decide⟩
  · exact h z (List.mem_of_getElem? hi)
def zsL (l : List Int) (n : Int) : List Rat := tr (rg (fun i => ((l.getD i 0 : Int) : Rat)) (min l.length n.toNat))
theorem rInts_V (l : List Int) (n : Int) (hl : l.length ≤ 9223372036854775807) (hn : n ≤ 1000) (h : ∀ z ∈ l, B8 z) : PCall Tryz.prog 13 [.lst (V.i8s l), .raw (.int .i64 n)] (.lst (V.rats (zsL l n))) := by
  refine PCall.of_vc (tabs mixed (tbl_cons rTrim_C (tbl_cons r2Whole_C tbl_nil))) Tryz.func13 rfl Tryz.ntmps13 Tryz.results13 (by simp) ?_
  obtain ⟨F, hF⟩ : ∃ F : Nat → Rat, F = fun i => ((l.getD i 0 : Int) : Rat) := ⟨_, rfl⟩
  unfold zsL
  rw [← hF]
  have mx : maxLen = 9223372036854775807 := by decide
  simp only [go_sem]
  refine AWp.loops (X := { i : Nat // i ≤ min l.length n.toNat }) (fun i => mkSt [(0, .lst (V.i8s l)), (1, .raw (.int .i64 n)), (4, .raw (.slice none 0 0)), (5, .sl 0 4 0 i.1), (6, .raw (.int .i64 (i.1 : Nat)))] [(0, true, ⟨45, 4, V.rats (rg F i.1)⟩)] 1 30) (fun i => min l.length n.toNat - i.1) ⟨0, Nat.zero_le _⟩ (Wk.of [1] (by decide) ?_) ?_
  · simp only [go_sem, rg_0, rats_0, Int.natCast_zero]
  · rintro ⟨i, hi⟩
    refine vc_at (tabs mixed (tbl_cons rTrim_C (tbl_cons r2Whole_C tbl_nil))) ?_
    by_cases hin : i < min l.length n.toNat
    · have c1 : (i : Int) < (l.length : Nat) := by omega
      have c2 : (i : Int) < n := by omega
      have c3 : (i : Int) + 1 = ((i + 1 : Nat) : Int) := by omega
      obtain ⟨b1, b2⟩ := B8.get h i
      have f0 : IntKind.i64.wrap (l.getD i 0) = l.getD i 0 := IntWalk.i64_in _ ⟨by omega, by omega⟩
      have f1 : ((l.getD i 0 : Int) : Rat) = F i := by rw [hF]
      simp only [go_sem, c1, c2, c3, f0, f1, rg_snoc, mx]
      refine ⟨by omega, by omega, ⟨by omega, by omega⟩, ⟨by omega, by omega⟩, ⟨by omega, by omega⟩, ⟨i + 1, by omega⟩, Wk.of [18] (by decide) ?_, by simp only; omega⟩
      simp only [go_sem]
    · obtain rfl : i = min l.length n.toNat := by omega
      by_cases hl' : l.length ≤ n.toNat
      · have c1 : ¬ ((min l.length n.toNat : Nat) : Int) < (l.length : Nat) := by omega
        simp only [go_sem, c1]
        omega
      · have c1 : ((min l.length n.toNat : Nat) : Int) < (l.length : Nat) := by omega
        have c2 : ¬ ((min l.length n.toNat : Nat) : Int) < n := by omega
        simp only [go_sem, c1, c2]
        omega
def kRInts : Con := con2 pI8 (pN .i64) fun l n => ((l.length ≤ 9223372036854775807 ∧ n ≤ 1000) ∧ ∀ z ∈ l, B8 z, .lst (V.rats (zsL l n)))
attribute [go_sem ↓, go_sem] kRInts
theorem rInts_C : Ctr Tryz.prog 13 kRInts := Ctr.c2 (by kernel_rfl) fun l n h => rInts_V l n h.1.1 h.1.2 h.2
def psL (l : List (Int × Int)) (n : Int) : List Rat := tr (rg (fun i => mdQ (l.getD i (0, 0)).1 (l.getD i (0, 0)).2) (min l.length n.toNat))
theorem rPolyMade_V (l : List (Int × Int)) (n : Int) (hl : l.length ≤ 9223372036854775807) (hn : n ≤ 1000) (h : ∀ z ∈ l, B8 z.1 ∧ B8 z.2) : PCall Tryz.prog 45 [.lst (V.prs l), .raw (.int .i64 n)] (.lst (V.rats (psL l n))) := by
  refine PCall.of_vc (tabs mixed (tbl_cons rTrim_C (tbl_cons r2Made_C tbl_nil))) Tryz.func45 rfl Tryz.ntmps45 Tryz.results45 (by simp) ?_
  obtain ⟨F, hF⟩ : ∃ F : Nat → Rat, F = fun i => mdQ (l.getD i (0, 0)).1 (l.getD i (0, 0)).2 := ⟨_, rfl⟩
  unfold psL
  rw [← hF]
  have mx : maxLen = 9223372036854775807 := by decide
  simp only [go_sem]
  refine AWp.loops (X := { i : Nat // i ≤ min l.length n.toNat }) (fun i => mkSt [(0, .lst (V.prs l)), (1, .raw (.int .i64 n)), (4, .raw (.slice none 0 0)), (5, .sl 0 4 0 i.1), (6, .raw (.int .i64 (i.1 : Nat)))] [(0, true, ⟨45, 4, V.rats (rg F i.1)⟩)] 1 37) (fun i => min l.length n.toNat - i.1) ⟨0, Nat.zero_le _⟩ (Wk.of [1] (by decide) ?_) ?_
  · simp only [go_sem, rg_0, rats_0, Int.natCast_zero]
  · rintro ⟨i, hi⟩
    refine vc_at (tabs mixed (tbl_cons rTrim_C (tbl_cons r2Made_C tbl_nil))) ?_
    by_cases hin : i < min l.length n.toNat
    · have c1 : (i : Int) < (l.length : Nat) := by omega
      have c2 : (i : Int) < n := by omega
      have c3 : (i : Int) + 1 = ((i + 1 : Nat) : Int) := by omega
      obtain ⟨⟨b1, b2⟩, b3, b4⟩ := B8.get2 h i
      have f0 : IntKind.i64.wrap (l.getD i (0, 0)).1 = (l.getD i (0, 0)).1 := IntWalk.i64_in _ ⟨by omega, by omega⟩
      have f2 : IntKind.i64.wrap (l.getD i (0, 0)).2 = (l.getD i (0, 0)).2 := IntWalk.i64_in _ ⟨by omega, by omega⟩
      have f1 : mdQ (l.getD i (0, 0)).1 (l.getD i (0, 0)).2 = F i := by rw [hF]
      simp only [go_sem, c1, c2, c3, f0, f2, f1, rg_snoc, mx]
      refine ⟨by omega, by omega, by omega, by omega, ⟨⟨by omega, by omega⟩, by omega, by omega⟩, ⟨by omega, by omega⟩, by rfl, ⟨by omega, by omega⟩, ⟨i + 1, by omega⟩, Wk.of [25] (by decide) ?_, by simp only; omega⟩
      simp only [go_sem]
    · obtain rfl : i = min l.length n.toNat := by omega
      by_cases hl' : l.length ≤ n.toNat
      · have c1 : ¬ ((min l.length n.toNat : Nat) : Int) < (l.length : Nat) := by omega
        simp only [go_sem, c1]
        omega
      · have c1 : ((min l.length n.toNat : Nat) : Int) < (l.length : Nat) := by omega
        have c2 : ¬ ((min l.length n.toNat : Nat) : Int) < n := by omega
        simp only [go_sem, c1, c2]
        omega
/-- Small pairs. -/
def P8 (l : List (Int × Int)) : Prop := l.length ≤ 9223372036854775807 ∧ ∀ z ∈ l, B8 z.1 ∧ B8 z.2
def kRPolyMade : Con := con2 pPrs (pN .i64) fun l n => (P8 l ∧ n ≤ 1000, .lst (V.rats (psL l n)))
attribute [go_sem ↓, go_sem] kRPolyMade
theorem rPolyMade_C : Ctr Tryz.prog 45 kRPolyMade := Ctr.c2 (by kernel_rfl) fun l n h => rPolyMade_V l n h.1.1 h.2 h.1.2
end Go.Proofs.YtfbogelmgdojgaaGreat

/- Contracts: the reference of package poly, equality of decompositions. -/
namespace Go.Proofs.YtfbogelmgdojgaaGreat
set_option linter.unusedSimpArgs false
set_option linter.unusedVariables false
open Go.RowKit

def V.fzs (l : List (List Rat × Int)) : List V := l.map fun p => .agg [.lst (V.rats p.1), .raw (.int .i64 p.2)]
def facZ (l : List (List Rat × Nat)) : List (List Rat × Int) := l.map fun p => (p.1, ((p.2 : Nat) : Int))
theorem facs_fzs (l : List (List Rat × Nat)) : V.facs l = V.fzs (facZ l) := by simp [V.facs, V.fzs, facZ]
@[go_sem] theorem fzs_len (l : List (List Rat × Int)) : (V.fzs l).length = l.length := by simp [V.fzs]
@[go_sem ↓, go_sem] theorem ev_fzs_get {l : List (List Rat × Int)} {i : Nat} {k : V → Prop} : optC (V.fzs l)[i]? k = (i < l.length ∧ k (.agg [.lst (V.rats (l.getD i ([], 0)).1), .raw (.int .i64 (l.getD i ([], 0)).2)])) := by
  unfold V.fzs
  rw [List.getElem?_map, List.getD_eq_getElem?_getD]
  by_cases h : i < l.length
  · simp [List.getElem?_eq_getElem h, optC, h]
  · simp [List.getElem?_eq_none (Nat.le_of_not_lt h), optC, h]
@[go_sem] theorem fzs_frz (l : List (List Rat × Int)) : frzOk (V.fzs l) = True := eq_true (frzOk_map (fun a => ⟨rfl, by simp, by simp⟩) l)
def unfac : List V → Option (List (List Rat × Int))
  | [] => some []
  | .agg [.lst p, .raw (.int .i64 n)] :: l => (unrat p).bind fun q => (unfac l).map ((q, n) :: ·)
  | _ => none
theorem unfac_ok : ∀ (l : List V) (m : List (List Rat × Int)), unfac l = some m → l = V.fzs m
  | [], m, h => by injection h with h; subst h; rfl
  | x :: l, m, h => by
    unfold unfac at h
    split at h
    · cases ‹_ = []›
    · rename_i p n l' e
      injection e with e1 e2; subst e1 e2
      rcases hp : unrat p with _ | q <;> rw [hp] at h
      · cases h
      · rcases hm : unfac l with _ | m' <;> simp only [Option.bind_some, hm] at h
        · cases h
        · injection h with h
          subst h
          rw [unfac_ok l m' hm, unrat_ok p q hp]
          rfl
    · cases h
@[go_sem ↓, go_sem] theorem unfac_fzs (l : List (List Rat × Int)) : unfac (V.fzs l) = some l := by
  induction l with
  | nil => rfl
  | cons x l ih =>
    show ((unrat (V.rats x.1)).bind fun q => (unfac (V.fzs l)).map ((q, x.2) :: ·)) = _
    rw [ih, unrat_rats]; rfl
@[go_sem ↓, go_sem] theorem unfac_facs (l : List (List Rat × Nat)) : unfac (V.facs l) = some (facZ l) := by rw [facs_fzs, unfac_fzs]
@[go_sem ↓, go_sem] theorem unfac_nil : unfac [] = some [] := rfl
@[go_sem ↓, go_sem] theorem unfac_cons (p : List V) (n : Int) (l : List V) : unfac (.agg [.lst p, .raw (.int .i64 n)] :: l) = (unrat p).bind fun q => (unfac l).map ((q, n) :: ·) := rfl
def pFac : Pat (List (List Rat × Int)) where
  p
    | .lst l => (unfac l).map fun m => (True, m)
    | _ => none
  val l := .lst (V.fzs l)
  ok x c a h hc := by
    split at h
    · rename_i l
      rcases hm : unfac l with _ | m <;> rw [hm] at h
      · cases h
      · injection h with h; injection h with h1 h2; subst h2
        rw [unfac_ok l m hm]; exact .refl _
    · cases h
@[go_sem ↓, go_sem] theorem ev_pFac {l : List V} : pFac.p (.lst l) = (unfac l).map fun m => (True, m) := rfl
@[go_sem ↓, go_sem] theorem ev_pFac_mk {l : List (List Rat × Int)} : pFac.val l = .lst (V.fzs l) := rfl
/-- Sizes of a decomposition. -/
def FB (l : List (List Rat × Int)) : Prop := l.length ≤ 1000000 ∧ ∀ i, (l.getD i ([], 0)).1.length ≤ 1000000 ∧ PB (l.getD i ([], 0)).1 10000000000
theorem fac_ext {a b : List (List Rat × Int)} (h : a.length = b.length) (hc : ∀ i, i < a.length → a.getD i ([], 0) = b.getD i ([], 0)) : a = b :=
  List.ext_getElem h fun i h1 h2 => by
    have := hc i h1
    rwa [List.getD_eq_getElem?_getD, List.getD_eq_getElem?_getD, List.getElem?_eq_getElem h1, List.getElem?_eq_getElem h2] at this
def kRSame : Con := con2 pFac pFac fun a b => (FB a ∧ FB b, .raw (.bool (decide (a = b))))
attribute [go_sem ↓, go_sem] kRSame
end Go.Proofs.YtfbogelmgdojgaaGreat
