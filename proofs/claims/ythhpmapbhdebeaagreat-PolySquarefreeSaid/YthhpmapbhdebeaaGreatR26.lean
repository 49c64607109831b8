/- Texts H3 H4 H5 CK SZ in one. -/
import Derived.Test.YthhpmapbhdebeaaGreatR25
/- Contracts: the reference of package poly, lists without zeros at the end. -/
namespace Go.Proofs.YthhpmapbhdebeaaGreat
set_option linter.unusedSimpArgs false
set_option linter.unusedVariables false
open Go.RowKit

/-- The first values of a function. -/
def rg (F : Nat → Rat) (n : Nat) : List Rat := (List.range n).map F
@[go_sem] theorem rg_len (F : Nat → Rat) (n : Nat) : (rg F n).length = n := by simp [rg]
theorem rg_0 (F : Nat → Rat) : rg F 0 = [] := rfl
theorem rg_snoc (F : Nat → Rat) (i : Nat) : rg F i ++ [F i] = rg F (i + 1) := by unfold rg; rw [List.range_succ, List.map_append]; rfl
@[go_sem] theorem rg_take (F : Nat → Rat) (i : Nat) : (rg F i).take i = rg F i := List.take_of_length_le (by rw [rg_len]; exact Nat.le_refl _)
theorem take_rg {l : List Rat} {n : Nat} (h : n ≤ l.length) : l.take n = rg (cf l) n := cf_ext (by rw [rg_len, List.length_take]; omega) fun i => by
  by_cases hi : i < n
  · unfold rg cf
    rw [List.getD_eq_getElem?_getD, List.getElem?_take, if_pos hi, List.getD_eq_getElem?_getD, List.getElem?_map, List.getElem?_range hi]
    rfl
  · rw [cf_ge (by rw [List.length_take]; omega), cf_ge (by rw [rg_len]; omega)]
theorem cf_rg (F : Nat → Rat) (n i : Nat) : cf (rg F n) i = if i < n then F i else 0 := by
  by_cases hi : i < n
  · rw [if_pos hi]
    unfold rg cf
    rw [List.getD_eq_getElem?_getD, List.getElem?_map, List.getElem?_range hi]
    rfl
  · rw [if_neg hi, cf_ge (by rw [rg_len]; omega)]
theorem rats_0 : V.rats [] = [] := rfl
theorem rTrim_V (l : List Rat) (h : l.length ≤ 1000000000) : PCall Tryz.prog 56 [.lst (V.rats l)] (.lst (V.rats (tr l))) := by
  refine PCall.of_vc (tabs mixed (tbl_cons r2Sign_C tbl_nil)) Tryz.func56 rfl Tryz.ntmps56 Tryz.results56 (by simp) ?_
  simp only [go_sem]
  refine AWp.cut (E := fun e τ => e = .exit 0 ∧ ∃ n : Nat, (n ≤ l.length ∧ (∀ i, n ≤ i → cf l i = 0) ∧ (n ≠ 0 → cf l (n - 1) ≠ 0)) ∧ τ = mkSt [(0, .lst (V.rats l)), (2, .raw (.slice none 0 0)), (3, .raw (.int .i64 (n : Nat)))] [] 0 35) ?_ ?_
  · refine AWp.loops (X := { n : Nat // n ≤ l.length ∧ ∀ i, n ≤ i → cf l i = 0 }) (fun n => mkSt [(0, .lst (V.rats l)), (2, .raw (.slice none 0 0)), (3, .raw (.int .i64 (n.1 : Nat)))] [] 0 35) (fun n => n.1) ⟨l.length, Nat.le_refl _, fun i h => cf_ge h⟩ (Wk.of [] (by decide) ?_) ?_
    · simp only [go_sem]
    · rintro ⟨n, hn, hz⟩
      refine vc_at (tabs mixed (tbl_cons r2Sign_C tbl_nil)) ?_
      rcases n with _ | n
      · simp only [go_sem]
        refine ⟨_, Wk.of [] (by decide) ?_, 0, ⟨hn, hz, fun e => absurd rfl e⟩, rfl⟩
        simp only [go_sem, Int.natCast_zero]
      · have e1 := pred_nat n
        have e2 : 0 < ((n + 1 : Nat) : Int) := by omega
        by_cases hc : cf l n = 0
        · have c1 : (sgI (cf l n).num == 0) = true := by rw [sgn_numQ]; exact decide_eq_true hc
          simp only [go_sem, e1, e2, c1]
          refine ⟨by omega, by omega, by omega, by omega, ⟨n, by omega, fun i hi => ?_⟩, Wk.of [] (by decide) ?_, by simp only; omega⟩
          · rcases Nat.eq_or_lt_of_le hi with h | h
            · rw [← h]; exact hc
            · exact hz i h
          · simp only [go_sem]
        · have c1 : (sgI (cf l n).num == 0) = false := by rw [sgn_numQ]; exact decide_eq_false hc
          simp only [go_sem, e1, e2, c1]
          refine ⟨by omega, by omega, by omega, _, Wk.of [] (by decide) ?_, n + 1, ⟨hn, hz, fun _ => hc⟩, rfl⟩
          simp only [go_sem]
  · rintro e τ ⟨rfl, n, ⟨hn, hz, hc⟩, rfl⟩
    rw [mkSt_eq]
    simp only [go_sem]
    rw [tr_at hn hz hc, take_rg hn]
    refine AWp.loops (X := { i : Nat // i ≤ n }) (fun i => mkSt [(0, .lst (V.rats l)), (2, .raw (.slice none 0 0)), (3, .raw (.int .i64 (n : Nat))), (4, .sl 0 4 0 i.1), (5, .raw (.int .i64 (i.1 : Nat)))] [(0, true, ⟨51, 4, V.rats (rg (cf l) i.1)⟩)] 1 35) (fun i => n - i.1) ⟨0, Nat.zero_le _⟩ (Wk.of [0] (by decide) ?_) ?_
    · simp only [go_sem, rg_0, rats_0, Int.natCast_zero]
    · rintro ⟨i, hi⟩
      refine vc_at (tabs mixed (tbl_cons r2Sign_C tbl_nil)) ?_
      by_cases hin : i < n
      · have c1 : (i : Int) < (n : Nat) := by omega
        have c2 : (i : Int) + 1 = ((i + 1 : Nat) : Int) := by omega
        have mx : maxLen = 9223372036854775807 := by decide
        simp only [go_sem, c1, c2, rg_snoc, mx]
        refine ⟨⟨by omega, by omega⟩, by omega, ⟨by omega, by omega⟩, ⟨by omega, by omega⟩, ⟨i + 1, hin⟩, Wk.of [10] (by decide) ?_, by simp only; omega⟩
        simp only [go_sem]
      · obtain rfl : i = n := by omega
        have c1 : ¬ (i : Int) < (i : Nat) := by omega
        simp only [go_sem, c1]
        trace_state
end Go.Proofs.YthhpmapbhdebeaaGreat


/- Contracts: the reference of package poly, polynomials out of small integers. -/
namespace Go.Proofs.YthhpmapbhdebeaaGreat
set_option linter.unusedSimpArgs false
set_option linter.unusedVariables false
open Go.RowKit

def kRTrim : Con := con1 pR fun l => (l.length ≤ 1000000000, .lst (V.rats (tr l)))
attribute [go_sem ↓, go_sem] kRTrim
theorem rTrim_C : Ctr Tryz.prog 56 kRTrim := Ctr.c1 (by kernel_rfl) fun l h => rTrim_V l h
/-- Small integers, and pairs of them. -/
def V.i8s (l : List Int) : List V := l.map fun z => .raw (.int .i8 z)
@[go_sem] theorem i8s_len (l : List Int) : (V.i8s l).length = l.length := by simp [V.i8s]
@[go_sem ↓, go_sem] theorem ev_i8s_get {l : List Int} {i : Nat} {k : V → Prop} : optC (V.i8s l)[i]? k = (i < l.length ∧ k (.raw (.int .i8 (l.getD i 0)))) := by
  unfold V.i8s
  rw [List.getElem?_map, List.getD_eq_getElem?_getD]
  by_cases h : i < l.length
  · simp [List.getElem?_eq_getElem h, optC, h]
  · simp [List.getElem?_eq_none (Nat.le_of_not_lt h), optC, h]
@[go_sem] theorem i8s_frz (l : List Int) : frzOk (V.i8s l) = True := eq_true (frzOk_map (fun a => ⟨rfl, by simp, by simp⟩) l)
def uni8 : List V → Option (List Int)
  | [] => some []
  | .raw (.int .i8 q) :: l => (uni8 l).map (q :: ·)
  | _ => none
theorem uni8_ok : ∀ (l : List V) (m : List Int), uni8 l = some m → l = V.i8s m
  | [], m, h => by injection h with h; subst h; rfl
  | x :: l, m, h => by
    unfold uni8 at h
    split at h
    · cases ‹_ = []›
    · rename_i q l' e
      injection e with e1 e2; subst e1 e2
      rcases hm : uni8 l with _ | m' <;> rw [hm] at h
      · cases h
      · injection h with h
        subst h
        rw [uni8_ok l m' hm]
        rfl
    · cases h
@[go_sem ↓, go_sem] theorem uni8_i8s (l : List Int) : uni8 (V.i8s l) = some l := by
  induction l with
  | nil => rfl
  | cons x l ih =>
    show (uni8 (V.i8s l)).map (x :: ·) = _
    rw [ih]; rfl
@[go_sem ↓, go_sem] theorem uni8_nil : uni8 [] = some [] := rfl
@[go_sem ↓, go_sem] theorem uni8_cons (q : Int) (l : List V) : uni8 (.raw (.int .i8 q) :: l) = (uni8 l).map (q :: ·) := rfl
def pI8 : Pat (List Int) where
  p
    | .lst l => (uni8 l).map fun m => (True, m)
    | _ => none
  val l := .lst (V.i8s l)
  ok x c a h hc := by
    split at h
    · rename_i l
      rcases hm : uni8 l with _ | m <;> rw [hm] at h
      · cases h
      · injection h with h; injection h with h1 h2; subst h2
        rw [uni8_ok l m hm]; exact .refl _
    · cases h
@[go_sem ↓, go_sem] theorem ev_pI8 {l : List V} : pI8.p (.lst l) = (uni8 l).map fun m => (True, m) := rfl
@[go_sem ↓, go_sem] theorem ev_pI8_mk {l : List Int} : pI8.val l = .lst (V.i8s l) := rfl
def V.prs (l : List (Int × Int)) : List V := l.map fun z => .agg [.raw (.int .i8 z.1), .raw (.int .i8 z.2)]
@[go_sem] theorem prs_len (l : List (Int × Int)) : (V.prs l).length = l.length := by simp [V.prs]
@[go_sem ↓, go_sem] theorem ev_prs_get {l : List (Int × Int)} {i : Nat} {k : V → Prop} : optC (V.prs l)[i]? k = (i < l.length ∧ k (.agg [.raw (.int .i8 (l.getD i (0, 0)).1), .raw (.int .i8 (l.getD i (0, 0)).2)])) := by
  unfold V.prs
  rw [List.getElem?_map, List.getD_eq_getElem?_getD]
  by_cases h : i < l.length
  · simp [List.getElem?_eq_getElem h, optC, h]
  · simp [List.getElem?_eq_none (Nat.le_of_not_lt h), optC, h]
@[go_sem] theorem prs_frz (l : List (Int × Int)) : frzOk (V.prs l) = True := eq_true (frzOk_map (fun a => ⟨rfl, by simp, by simp⟩) l)
def unprs : List V → Option (List (Int × Int))
  | [] => some []
  | .agg [.raw (.int .i8 x), .raw (.int .i8 y)] :: l => (unprs l).map ((x, y) :: ·)
  | _ => none
theorem unprs_ok : ∀ (l : List V) (m : List (Int × Int)), unprs l = some m → l = V.prs m
  | [], m, h => by injection h with h; subst h; rfl
  | x :: l, m, h => by
    unfold unprs at h
    split at h
    · cases ‹_ = []›
    · rename_i p q l' e
      injection e with e1 e2; subst e1 e2
      rcases hm : unprs l with _ | m' <;> rw [hm] at h
      · cases h
      · injection h with h
        subst h
        rw [unprs_ok l m' hm]
        rfl
    · cases h
@[go_sem ↓, go_sem] theorem unprs_prs (l : List (Int × Int)) : unprs (V.prs l) = some l := by
  induction l with
  | nil => rfl
  | cons x l ih =>
    show (unprs (V.prs l)).map ((x.1, x.2) :: ·) = _
    rw [ih]; rfl
def pPrs : Pat (List (Int × Int)) where
  p
    | .lst l => (unprs l).map fun m => (True, m)
    | _ => none
  val l := .lst (V.prs l)
  ok x c a h hc := by
    split at h
    · rename_i l
      rcases hm : unprs l with _ | m <;> rw [hm] at h
      · cases h
      · injection h with h; injection h with h1 h2; subst h2
        rw [unprs_ok l m hm]; exact .refl _
    · cases h
@[go_sem ↓, go_sem] theorem ev_pPrs {l : List V} : pPrs.p (.lst l) = (unprs l).map fun m => (True, m) := rfl
@[go_sem ↓, go_sem] theorem ev_pPrs_mk {l : List (Int × Int)} : pPrs.val l = .lst (V.prs l) := rfl
/-- In the range of an int8. -/
def B8 (z : Int) : Prop := -128 ≤ z ∧ z ≤ 127
theorem B8.get {l : List Int} (h : ∀ z ∈ l, B8 z) (i : Nat) : B8 (l.getD i 0) := by
  rw [List.getD_eq_getElem?_getD]
  rcases hi : l[i]? with _ | z
  · exact ⟨by decide, by decide⟩
  · exact h z (List.mem_of_getElem? hi)
theorem B8.get2 {l : List (Int × Int)} (h : ∀ z ∈ l, B8 z.1 ∧ B8 z.2) (i : Nat) : B8 (l.getD i (0, 0)).1 ∧ B8 (l.getD i (0, 0)).2 := by
  rw [List.getD_eq_getElem?_getD]
  rcases hi : l[i]? with _ | z
  · exact ⟨⟨by decide, by decide⟩, by decide, by decide⟩
  · exact h z (List.mem_of_getElem? hi)
def zsL (l : List Int) (n : Int) : List Rat := tr (rg (fun i => ((l.getD i 0 : Int) : Rat)) (min l.length n.toNat))
theorem rInts_V (l : List Int) (n : Int) (hl : l.length ≤ 9223372036854775807) (hn : n ≤ 1000) (h : ∀ z ∈ l, B8 z) : PCall Tryz.prog 49 [.lst (V.i8s l), .raw (.int .i64 n)] (.lst (V.rats (zsL l n))) := by
  refine PCall.of_vc (tabs mixed (tbl_cons rTrim_C (tbl_cons r2Whole_C tbl_nil))) Tryz.func49 rfl Tryz.ntmps49 Tryz.results49 (by simp) ?_
  obtain ⟨F, hF⟩ : ∃ F : Nat → Rat, F = fun i => ((l.getD i 0 : Int) : Rat) := ⟨_, rfl⟩
  unfold zsL
  rw [← hF]
  have mx : maxLen = 9223372036854775807 := by decide
  simp only [go_sem]
  refine AWp.loops (X := { i : Nat // i ≤ min l.length n.toNat }) (fun i => mkSt [(0, .lst (V.i8s l)), (1, .raw (.int .i64 n)), (4, .raw (.slice none 0 0)), (5, .sl 0 4 0 i.1), (6, .raw (.int .i64 (i.1 : Nat)))] [(0, true, ⟨51, 4, V.rats (rg F i.1)⟩)] 1 30) (fun i => min l.length n.toNat - i.1) ⟨0, Nat.zero_le _⟩ (Wk.of [1] (by decide) ?_) ?_
  · simp only [go_sem, rg_0, rats_0, Int.natCast_zero]
  · rintro ⟨i, hi⟩
    refine vc_at (tabs mixed (tbl_cons rTrim_C (tbl_cons r2Whole_C tbl_nil))) ?_
    by_cases hin : i < min l.length n.toNat
    · have c1 : (i : Int) < (l.length : Nat) := by omega
      have c2 : (i : Int) < n := by omega
      have c3 : (i : Int) + 1 = ((i + 1 : Nat) : Int) := by omega
      obtain ⟨b1, b2⟩ := B8.get h i
      have f0 : IntKind.i64.wrap (l.getD i 0) = l.getD i 0 := IntWalk.i64_in _ ⟨by omega, by omega⟩
      have f1 : ((l.getD i 0 : Int) : Rat) = F i := by rw [hF]
      simp only [go_sem, c1, c2, c3, f0, f1, rg_snoc, mx]
      refine ⟨by omega, by omega, ⟨by omega, by omega⟩, ⟨by omega, by omega⟩, ⟨by omega, by omega⟩, ⟨i + 1, by omega⟩, Wk.of [18] (by decide) ?_, by simp only; omega⟩
      simp only [go_sem]
    · obtain rfl : i = min l.length n.toNat := by omega
      by_cases hl' : l.length ≤ n.toNat
      · have c1 : ¬ ((min l.length n.toNat : Nat) : Int) < (l.length : Nat) := by omega
        simp only [go_sem, c1]
        omega
      · have c1 : ((min l.length n.toNat : Nat) : Int) < (l.length : Nat) := by omega
        have c2 : ¬ ((min l.length n.toNat : Nat) : Int) < n := by omega
        simp only [go_sem, c1, c2]
        omega
def kRInts : Con := con2 pI8 (pN .i64) fun l n => ((l.length ≤ 9223372036854775807 ∧ n ≤ 1000) ∧ ∀ z ∈ l, B8 z, .lst (V.rats (zsL l n)))
attribute [go_sem ↓, go_sem] kRInts
theorem rInts_C : Ctr Tryz.prog 49 kRInts := Ctr.c2 (by kernel_rfl) fun l n h => rInts_V l n h.1.1 h.1.2 h.2
def psL (l : List (Int × Int)) (n : Int) : List Rat := tr (rg (fun i => mdQ (l.getD i (0, 0)).1 (l.getD i (0, 0)).2) (min l.length n.toNat))
theorem rPolyMade_V (l : List (Int × Int)) (n : Int) (hl : l.length ≤ 9223372036854775807) (hn : n ≤ 1000) (h : ∀ z ∈ l, B8 z.1 ∧ B8 z.2) : PCall Tryz.prog 53 [.lst (V.prs l), .raw (.int .i64 n)] (.lst (V.rats (psL l n))) := by
  refine PCall.of_vc (tabs mixed (tbl_cons rTrim_C (tbl_cons r2Made_C tbl_nil))) Tryz.func53 rfl Tryz.ntmps53 Tryz.results53 (by simp) ?_
  obtain ⟨F, hF⟩ : ∃ F : Nat → Rat, F = fun i => mdQ (l.getD i (0, 0)).1 (l.getD i (0, 0)).2 := ⟨_, rfl⟩
  unfold psL
  rw [← hF]
  have mx : maxLen = 9223372036854775807 := by decide
  simp only [go_sem]
  refine AWp.loops (X := { i : Nat // i ≤ min l.length n.toNat }) (fun i => mkSt [(0, .lst (V.prs l)), (1, .raw (.int .i64 n)), (4, .raw (.slice none 0 0)), (5, .sl 0 4 0 i.1), (6, .raw (.int .i64 (i.1 : Nat)))] [(0, true, ⟨51, 4, V.rats (rg F i.1)⟩)] 1 37) (fun i => min l.length n.toNat - i.1) ⟨0, Nat.zero_le _⟩ (Wk.of [1] (by decide) ?_) ?_
  · simp only [go_sem, rg_0, rats_0, Int.natCast_zero]
  · rintro ⟨i, hi⟩
    refine vc_at (tabs mixed (tbl_cons rTrim_C (tbl_cons r2Made_C tbl_nil))) ?_
    by_cases hin : i < min l.length n.toNat
    · have c1 : (i : Int) < (l.length : Nat) := by omega
      have c2 : (i : Int) < n := by omega
      have c3 : (i : Int) + 1 = ((i + 1 : Nat) : Int) := by omega
      obtain ⟨⟨b1, b2⟩, b3, b4⟩ := B8.get2 h i
      have f0 : IntKind.i64.wrap (l.getD i (0, 0)).1 = (l.getD i (0, 0)).1 := IntWalk.i64_in _ ⟨by omega, by omega⟩
      have f2 : IntKind.i64.wrap (l.getD i (0, 0)).2 = (l.getD i (0, 0)).2 := IntWalk.i64_in _ ⟨by omega, by omega⟩
      have f1 : mdQ (l.getD i (0, 0)).1 (l.getD i (0, 0)).2 = F i := by rw [hF]
      simp only [go_sem, c1, c2, c3, f0, f2, f1, rg_snoc, mx]
      refine ⟨by omega, by omega, by omega, by omega, ⟨⟨by omega, by omega⟩, by omega, by omega⟩, ⟨by omega, by omega⟩, by rfl, ⟨by omega, by omega⟩, ⟨i + 1, by omega⟩, Wk.of [25] (by decide) ?_, by simp only; omega⟩
      simp only [go_sem]
    · obtain rfl : i = min l.length n.toNat := by omega
      by_cases hl' : l.length ≤ n.toNat
      · have c1 : ¬ ((min l.length n.toNat : Nat) : Int) < (l.length : Nat) := by omega
        simp only [go_sem, c1]
        omega
      · have c1 : ((min l.length n.toNat : Nat) : Int) < (l.length : Nat) := by omega
        have c2 : ¬ ((min l.length n.toNat : Nat) : Int) < n := by omega
        simp only [go_sem, c1, c2]
        omega
/-- Small pairs. -/
def P8 (l : List (Int × Int)) : Prop := l.length ≤ 9223372036854775807 ∧ ∀ z ∈ l, B8 z.1 ∧ B8 z.2
def kRPolyMade : Con := con2 pPrs (pN .i64) fun l n => (P8 l ∧ n ≤ 1000, .lst (V.rats (psL l n)))
attribute [go_sem ↓, go_sem] kRPolyMade
theorem rPolyMade_C : Ctr Tryz.prog 53 kRPolyMade := Ctr.c2 (by kernel_rfl) fun l n h => rPolyMade_V l n h.1.1 h.2 h.1.2
end Go.Proofs.YthhpmapbhdebeaaGreat


/- Contracts: the reference of package poly, equality of decompositions. -/
namespace Go.Proofs.YthhpmapbhdebeaaGreat
set_option linter.unusedSimpArgs false
set_option linter.unusedVariables false
open Go.RowKit

def V.fzs (l : List (List Rat × Int)) : List V := l.map fun p => .agg [.lst (V.rats p.1), .raw (.int .i64 p.2)]
def facZ (l : List (List Rat × Nat)) : List (List Rat × Int) := l.map fun p => (p.1, ((p.2 : Nat) : Int))
theorem facs_fzs (l : List (List Rat × Nat)) : V.facs l = V.fzs (facZ l) := by simp [V.facs, V.fzs, facZ]
@[go_sem] theorem fzs_len (l : List (List Rat × Int)) : (V.fzs l).length = l.length := by simp [V.fzs]
@[go_sem ↓, go_sem] theorem ev_fzs_get {l : List (List Rat × Int)} {i : Nat} {k : V → Prop} : optC (V.fzs l)[i]? k = (i < l.length ∧ k (.agg [.lst (V.rats (l.getD i ([], 0)).1), .raw (.int .i64 (l.getD i ([], 0)).2)])) := by
  unfold V.fzs
  rw [List.getElem?_map, List.getD_eq_getElem?_getD]
  by_cases h : i < l.length
  · simp [List.getElem?_eq_getElem h, optC, h]
  · simp [List.getElem?_eq_none (Nat.le_of_not_lt h), optC, h]
@[go_sem] theorem fzs_frz (l : List (List Rat × Int)) : frzOk (V.fzs l) = True := eq_true (frzOk_map (fun a => ⟨rfl, by simp, by simp⟩) l)
def unfac : List V → Option (List (List Rat × Int))
  | [] => some []
  | .agg [.lst p, .raw (.int .i64 n)] :: l => (unrat p).bind fun q => (unfac l).map ((q, n) :: ·)
  | _ => none
theorem unfac_ok : ∀ (l : List V) (m : List (List Rat × Int)), unfac l = some m → l = V.fzs m
  | [], m, h => by injection h with h; subst h; rfl
  | x :: l, m, h => by
    unfold unfac at h
    split at h
    · cases ‹_ = []›
    · rename_i p n l' e
      injection e with e1 e2; subst e1 e2
      rcases hp : unrat p with _ | q <;> rw [hp] at h
      · cases h
      · rcases hm : unfac l with _ | m' <;> simp only [Option.bind_some, hm] at h
        · cases h
        · injection h with h
          subst h
          rw [unfac_ok l m' hm, unrat_ok p q hp]
          rfl
    · cases h
@[go_sem ↓, go_sem] theorem unfac_fzs (l : List (List Rat × Int)) : unfac (V.fzs l) = some l := by
  induction l with
  | nil => rfl
  | cons x l ih =>
    show ((unrat (V.rats x.1)).bind fun q => (unfac (V.fzs l)).map ((q, x.2) :: ·)) = _
    rw [ih, unrat_rats]; rfl
@[go_sem ↓, go_sem] theorem unfac_facs (l : List (List Rat × Nat)) : unfac (V.facs l) = some (facZ l) := by rw [facs_fzs, unfac_fzs]
@[go_sem ↓, go_sem] theorem unfac_nil : unfac [] = some [] := rfl
@[go_sem ↓, go_sem] theorem unfac_cons (p : List V) (n : Int) (l : List V) : unfac (.agg [.lst p, .raw (.int .i64 n)] :: l) = (unrat p).bind fun q => (unfac l).map ((q, n) :: ·) := rfl
def pFac : Pat (List (List Rat × Int)) where
  p
    | .lst l => (unfac l).map fun m => (True, m)
    | _ => none
  val l := .lst (V.fzs l)
  ok x c a h hc := by
    split at h
    · rename_i l
      rcases hm : unfac l with _ | m <;> rw [hm] at h
      · cases h
      · injection h with h; injection h with h1 h2; subst h2
        rw [unfac_ok l m hm]; exact .refl _
    · cases h
@[go_sem ↓, go_sem] theorem ev_pFac {l : List V} : pFac.p (.lst l) = (unfac l).map fun m => (True, m) := rfl
@[go_sem ↓, go_sem] theorem ev_pFac_mk {l : List (List Rat × Int)} : pFac.val l = .lst (V.fzs l) := rfl
/-- Sizes of a decomposition. -/
def FB (l : List (List Rat × Int)) : Prop := l.length ≤ 1000000 ∧ ∀ i, (l.getD i ([], 0)).1.length ≤ 1000000 ∧ PB (l.getD i ([], 0)).1 5000000000000
theorem fac_ext {a b : List (List Rat × Int)} (h : a.length = b.length) (hc : ∀ i, i < a.length → a.getD i ([], 0) = b.getD i ([], 0)) : a = b :=
  List.ext_getElem h fun i h1 h2 => by
    have := hc i h1
    rwa [List.getD_eq_getElem?_getD, List.getD_eq_getElem?_getD, List.getElem?_eq_getElem h1, List.getElem?_eq_getElem h2] at this
set_option maxRecDepth 4000 in
theorem rSame_V (a b : List (List Rat × Int)) (ha : FB a) (hb : FB b) : PCall Tryz.prog 51 [.lst (V.fzs a), .lst (V.fzs b)] (.raw (.bool (decide (a = b)))) := by
  obtain ⟨la, ha⟩ := ha
  obtain ⟨lb, hb⟩ := hb
  refine PCall.of_vc (tabs mixed (tbl_cons rPEq_C tbl_nil)) Tryz.func51 rfl Tryz.ntmps51 Tryz.results51 (by simp) ?_
  by_cases hl : a.length = b.length
  · have c0' : ((a.length : Int) != (b.length : Int)) = false := by rw [hl]; simp
    simp only [go_sem, c0']
    refine AWp.loops (X := { i : Nat // i ≤ a.length ∧ ∀ j, j < i → a.getD j ([], 0) = b.getD j ([], 0) })
      (fun i => mkSt [(0, .lst (V.fzs a)), (1, .lst (V.fzs b)), (4, .raw (.bool false)), (5, .raw (.int .i64 (i.1 : Nat)))] [] 0 42)
      (fun i => a.length - i.1) ⟨0, Nat.zero_le _, fun j h => by omega⟩ (Wk.of [] (by decide) ?_) ?_
    · simp only [go_sem]
    · rintro ⟨i, hi, he⟩
      refine vc_at (tabs mixed (tbl_cons rPEq_C tbl_nil)) ?_
      by_cases hin : i < a.length
      · have c1 : (i : Int) < (a.length : Nat) := by omega
        have c2 : (i : Int) + 1 = ((i + 1 : Nat) : Int) := by omega
        obtain ⟨q1, q2⟩ := ha i
        obtain ⟨q3, q4⟩ := hb i
        by_cases hq : a.getD i ([], 0) = b.getD i ([], 0)
        · have d0 : ((a.getD i ([], 0)).2 != (b.getD i ([], 0)).2) = false := by rw [hq]; simp
          have d1 : decide ((a.getD i ([], 0)).1 = (b.getD i ([], 0)).1) = true := by rw [hq]; simp
          simp only [go_sem, c1, c2, d0, d1]
          refine ⟨by omega, hin, ⟨by omega, by omega⟩, by omega, by omega, hin, ⟨by omega, by omega⟩, by omega, ⟨⟨q1, q3⟩, q2, q4⟩, by rfl, ⟨by omega, by omega⟩, ⟨i + 1, hin, fun j hj => ?_⟩, Wk.of [] (by decide) ?_, by simp only; omega⟩
          · by_cases e : j = i
            · subst e; exact hq
            · exact he j (by omega)
          · simp only [go_sem]
        · have d2 : decide (a = b) = false := decide_eq_false fun e => hq (by rw [e])
          by_cases hn : (a.getD i ([], 0)).2 = (b.getD i ([], 0)).2
          · have d0 : ((a.getD i ([], 0)).2 != (b.getD i ([], 0)).2) = false := by rw [hn]; simp
            have d1 : decide ((a.getD i ([], 0)).1 = (b.getD i ([], 0)).1) = false := decide_eq_false fun e => hq (Prod.ext e hn)
            simp only [go_sem, c1, c2, d0, d1, d2]
            exact ⟨by omega, hin, ⟨by omega, by omega⟩, by omega, by omega, hin, ⟨by omega, by omega⟩, by omega, ⟨⟨q1, q3⟩, q2, q4⟩, by rfl⟩
          · have d0 : ((a.getD i ([], 0)).2 != (b.getD i ([], 0)).2) = true := by simpa using hn
            simp only [go_sem, c1, c2, d0, d2]
            exact ⟨by omega, hin, ⟨by omega, by omega⟩, by omega, by rfl⟩
      · have c1 : ¬ (i : Int) < (a.length : Nat) := by omega
        have d2 : decide (a = b) = true := decide_eq_true (fac_ext hl fun j hj => he j (by omega))
        simp only [go_sem, c1, d2]
  · have c0' : ((a.length : Int) != (b.length : Int)) = true := by simp; omega
    have d2 : decide (a = b) = false := decide_eq_false fun e => hl (by rw [e])
    simp only [go_sem, c0', d2]
def kRSame : Con := con2 pFac pFac fun a b => (FB a ∧ FB b, .raw (.bool (decide (a = b))))
attribute [go_sem ↓, go_sem] kRSame
theorem rSame_C : Ctr Tryz.prog 51 kRSame := Ctr.c2 (by kernel_rfl) fun a b h => rSame_V a b h.1 h.2
end Go.Proofs.YthhpmapbhdebeaaGreat


/- Sizes of known polynomials, by computation. No program in sight. -/
namespace Go.Proofs.YthhpmapbhdebeaaGreat
set_option linter.unusedSimpArgs false
set_option linter.unusedVariables false
open Go.RowKit

def smq (q : Rat) : Bool := decide (q.num.natAbs < 4294967296) && decide (q.den < 4294967296)
theorem smq_ok {q : Rat} (h : smq q = true) {k : Nat} (hk : 1 ≤ k) : qs q ≤ k := by
  simp only [smq, Bool.and_eq_true, decide_eq_true_eq] at h
  exact Nat.le_trans (Nat.max_le.2 ⟨(dl_le (k := 1)).2 (by simpa using h.1), (dl_le (k := 1)).2 (by simpa using h.2)⟩) hk
def smL (l : List Rat) : Bool := l.all smq && decide (l.length ≤ 100)
theorem smL_len {l : List Rat} (h : smL l = true) : l.length ≤ 100 := by
  simp only [smL, Bool.and_eq_true, decide_eq_true_eq] at h
  exact h.2
theorem smL_PB {l : List Rat} (h : smL l = true) {k : Nat} (hk : 1 ≤ k) : PB l k := fun i => by
  simp only [smL, Bool.and_eq_true, List.all_eq_true] at h
  by_cases hi : i < l.length
  · rw [cf_lt hi]
    exact smq_ok (h.1 _ (List.getElem_mem hi)) hk
  · rw [cf_ge (by omega)]
    exact Nat.le_trans qs_0 hk
def cnB (l : List Rat) : Bool := decide (l = []) || !decide (cf l (l.length - 1) = 0)
theorem cnB_ok {l : List Rat} (h : cnB l = true) : Can l := fun h0 => by
  simp only [cnB, Bool.or_eq_true, decide_eq_true_eq, Bool.not_eq_true', decide_eq_false_iff_not] at h
  rcases h with h | h
  · exact absurd h h0
  · exact h
def dvB (a b : List Rat) : Bool := (cnB a && cnB b) && (smL a && smL b) && decide (a.length - b.length ≤ 20)
theorem dvB_ok {a b : List Rat} (h : dvB a b = true) : DvOk a b := by
  simp only [dvB, Bool.and_eq_true, decide_eq_true_eq] at h
  obtain ⟨⟨⟨h1, h2⟩, h3, h4⟩, h5⟩ := h
  have l1 := smL_len h3
  have l2 := smL_len h4
  refine ⟨⟨cnB_ok h1, cnB_ok h2⟩, by omega, 1, 1, ⟨smL_PB h3 (Nat.le_refl _), smL_PB h4 (Nat.le_refl _)⟩, ?_⟩
  exact Nat.le_trans (Nat.mul_le_mul_right _ (Nat.pow_le_pow_right (by decide) (show a.length - b.length + 1 ≤ 21 by omega))) (by decide)
def gcB : Nat → List Rat → List Rat → Bool
  | 0, _, _ => false
  | n + 1, a, b => dvB a b && (if b = [] then true else gcB n b (pMod a b))
theorem dvB_sm {a b : List Rat} (h : dvB a b = true) : (smL a = true ∧ smL b = true) ∧ Can a ∧ Can b := by
  simp only [dvB, Bool.and_eq_true, decide_eq_true_eq] at h
  exact ⟨⟨h.1.2.1, h.1.2.2⟩, cnB_ok h.1.1.1, cnB_ok h.1.1.2⟩
theorem gcB_ok : ∀ {n : Nat} {a b : List Rat}, gcB n a b = true → GcOk n a b
  | 0, a, b, h => by cases h
  | n + 1, a, b, h => by
    simp only [gcB, Bool.and_eq_true] at h
    obtain ⟨h1, h2⟩ := h
    refine ⟨dvB_ok h1, ?_⟩
    split
    · exact ⟨1, smL_PB (dvB_sm h1).1.1 (Nat.le_refl _), by decide⟩
    · rename_i hb
      rw [if_neg hb] at h2
      exact gcB_ok h2
def lsB (q x y : List Rat) : Bool := smL q && smL x && smL y
theorem lsB_ok {q x y : List Rat} (h : lsB q x y = true) : LsOk q x y := by
  simp only [lsB, Bool.and_eq_true] at h
  obtain ⟨⟨h1, h2⟩, h3⟩ := h
  have l1 := smL_len h1
  have l2 := smL_len h2
  have l3 := smL_len h3
  exact ⟨⟨⟨by omega, by omega⟩, 1, 1, ⟨smL_PB h1 (Nat.le_refl _), smL_PB h3 (Nat.le_refl _)⟩, by omega⟩, smL_PB h2 (by decide)⟩
def exB : Nat → List Rat → List Rat → List Rat → List Rat → List Rat → List Rat → Bool
  | 0, _, _, _, _, _, _ => false
  | n + 1, a, b, s, u, t, v => (dvB a b && smL s && smL t) && (if b = [] then true else
      (lsB (pDiv a b) a b && lsB (pDiv a b) s u && lsB (pDiv a b) t v) && exB n b (pMod a b) u (pSub s (pMul (pDiv a b) u)) v (pSub t (pMul (pDiv a b) v)))
theorem exB_ok : ∀ {n : Nat} {a b s u t v : List Rat}, exB n a b s u t v = true → ExOk n a b s u t v
  | 0, a, b, s, u, t, v, h => by cases h
  | n + 1, a, b, s, u, t, v, h => by
    simp only [exB, Bool.and_eq_true] at h
    obtain ⟨⟨⟨h1, hs⟩, ht⟩, h2⟩ := h
    obtain ⟨⟨g1, g2⟩, g3, g4⟩ := dvB_sm h1
    have l1 := smL_len g1
    have l2 := smL_len g2
    have l3 := smL_len hs
    have l4 := smL_len ht
    refine ⟨⟨g3, g4⟩, ⟨by omega, by omega⟩, ?_⟩
    split
    · exact ⟨1, ⟨smL_PB g1 (Nat.le_refl _), by decide⟩, ⟨by omega, smL_PB hs (by decide)⟩, by omega, smL_PB ht (by decide)⟩
    · rename_i hb
      rw [if_neg hb] at h2
      simp only [Bool.and_eq_true] at h2
      exact ⟨dvB_ok h1, ⟨lsB_ok h2.1.1.1, lsB_ok h2.1.1.2, lsB_ok h2.1.2⟩, exB_ok h2.2⟩
def pwB (c : Rat) (n : Nat) : Bool := smq c && decide (n ≤ 1000)
theorem pwB_ok {c : Rat} {n : Nat} (h : pwB c n = true) : PwOk c n := by
  simp only [pwB, Bool.and_eq_true, decide_eq_true_eq] at h
  have := smq_ok h.1 (Nat.le_refl 1)
  refine ⟨by omega, ?_, by omega⟩
  have h2 := Nat.mul_le_mul h.2 this
  omega
def reB : Nat → Rat → List Rat → List Rat → Bool
  | 0, _, _, _ => false
  | n + 1, o, a, b => (cnB a && cnB b && smL a && smL b && smq o) &&
    (if a = [] ∨ b = [] then true else if b.length = 1 then pwB (cf b 0) (a.length - 1) else if a.length = 1 then pwB (cf a 0) (b.length - 1) else
      if a.length < b.length then reB n (sgm (a.length - 1) (b.length - 1) o) b a else
      dvB a b && (decide (pMod a b = []) || (pwB (lead b) (a.length - (pMod a b).length) && smq (o * lead b ^ (a.length - (pMod a b).length)) && reB n (sgm (a.length - 1) (b.length - 1) (o * lead b ^ (a.length - (pMod a b).length))) b (pMod a b))))
theorem reB_ok : ∀ {n : Nat} {o : Rat} {a b : List Rat}, reB n o a b = true → ReOk n o a b
  | 0, o, a, b, h => by cases h
  | n + 1, o, a, b, h => by
    unfold reB at h
    rw [Bool.and_eq_true] at h
    obtain ⟨h, h2⟩ := h
    simp only [Bool.and_eq_true] at h
    obtain ⟨⟨⟨⟨h3, h4⟩, h5⟩, h6⟩, h7⟩ := h
    have l1 := smL_len h5
    have l2 := smL_len h6
    refine ⟨⟨cnB_ok h3, cnB_ok h4⟩, ⟨by omega, by omega⟩, smq_ok h7 (by decide), ?_⟩
    by_cases c1 : a = [] ∨ b = []
    · rw [if_pos c1]; trivial
    · rw [if_neg c1] at h2 ⊢
      by_cases c2 : b.length = 1
      · rw [if_pos c2] at h2 ⊢; exact pwB_ok h2
      · rw [if_neg c2] at h2 ⊢
        by_cases c3 : a.length = 1
        · rw [if_pos c3] at h2 ⊢; exact pwB_ok h2
        · rw [if_neg c3] at h2 ⊢
          by_cases c4 : a.length < b.length
          · rw [if_pos c4] at h2 ⊢; exact reB_ok h2
          · rw [if_neg c4] at h2 ⊢
            simp only [Bool.and_eq_true, Bool.or_eq_true, decide_eq_true_eq] at h2
            refine ⟨dvB_ok h2.1, ?_⟩
            rcases h2.2 with h | h
            · exact .inl h
            · exact .inr ⟨pwB_ok h.1.1, smq_ok h.1.2 (by decide), reB_ok h.2⟩
def shB : Nat → Rat → List Rat → Bool
  | 0, _, _ => true
  | n + 1, c, l => (smL l && smL (syn c l)) && shB n c (tl0 (syn c l))
theorem shB_ok : ∀ {n : Nat} {c : Rat} {l : List Rat}, shB n c l = true → ShOk n c l
  | 0, _, _, _ => trivial
  | n + 1, c, l, h => by
    simp only [shB, Bool.and_eq_true] at h
    exact ⟨⟨1, ⟨smL_PB h.1.1 (Nat.le_refl _), smL_PB h.1.2 (Nat.le_refl _)⟩, by decide⟩, shB_ok h.2⟩
def evB (a : List Rat) (x : Rat) : Bool := (List.range a.length).all fun n => smq (ev (a.drop n) x) && smq (ev (a.drop n) x * x)
theorem evB_ok {a : List Rat} {x : Rat} (h : evB a x = true) : EvOk a x := fun n => by
  by_cases hn : n < a.length
  · have := List.all_eq_true.1 h n (List.mem_range.2 hn)
    rw [Bool.and_eq_true] at this
    exact ⟨smq_ok this.1 (by decide), smq_ok this.2 (by decide)⟩
  · rw [List.drop_eq_nil_of_le (by omega), show ev [] x = 0 from rfl, Rat.zero_mul]
    exact ⟨Nat.le_trans qs_0 (by decide), Nat.le_trans qs_0 (by decide)⟩
def sqB : Nat → List Rat → List Rat → Bool
  | 0, _, _ => false
  | k + 1, b, c => if b.length ≤ 1 then true else
    ((smL b && smL c && smL (pDiff b)) && gcB 20 b (pSub c (pDiff b)) && (dvB b (pGcd b (pSub c (pDiff b))) && dvB (pSub c (pDiff b)) (pGcd b (pSub c (pDiff b)))) && !decide (pGcd b (pSub c (pDiff b)) = [])) &&
    sqB k (pDiv b (pGcd b (pSub c (pDiff b)))) (pDiv (pSub c (pDiff b)) (pGcd b (pSub c (pDiff b))))
theorem sqB_ok : ∀ {k : Nat} {b c : List Rat}, sqB k b c = true → SqOk k b c
  | 0, _, _, h => by cases h
  | k + 1, b, c, h => by
    unfold sqB at h
    unfold SqOk
    split
    · trivial
    · rename_i hb
      rw [if_neg hb] at h
      simp only [Bool.and_eq_true, Bool.not_eq_true', decide_eq_false_iff_not] at h
      obtain ⟨⟨⟨⟨⟨⟨h1, h2⟩, h3⟩, h4⟩, h5, h6⟩, h7⟩, h8⟩ := h
      have l1 := smL_len h1
      have l2 := smL_len h2
      exact ⟨⟨⟨by omega, by omega⟩, smL_PB h1 (by decide), smL_PB h2 (by decide), smL_PB h3 (by decide)⟩, ⟨20, gcB_ok h4⟩, ⟨dvB_ok h5, dvB_ok h6⟩, h7, sqB_ok h8⟩
def sfB (k : Nat) (a : List Rat) : Bool := decide (k ≤ 1000) && smL a && (decide (a.length < 2) || (gcB 20 a (pDiff a) && (dvB a (pGcd a (pDiff a)) && dvB (pDiff a) (pGcd a (pDiff a))) && !decide (pGcd a (pDiff a) = []) && sqB k (pDiv a (pGcd a (pDiff a))) (pDiv (pDiff a) (pGcd a (pDiff a)))))
theorem sfB_ok {k : Nat} {a : List Rat} (h : sfB k a = true) : SfOk k a := by
  simp only [sfB, Bool.and_eq_true, Bool.or_eq_true, Bool.not_eq_true', decide_eq_false_iff_not, decide_eq_true_eq] at h
  obtain ⟨⟨h1, h2⟩, h3⟩ := h
  have l1 := smL_len h2
  refine ⟨by omega, by omega, fun h4 => ?_⟩
  rcases h3 with h3 | ⟨⟨⟨h5, h6, h7⟩, h8⟩, h9⟩
  · omega
  · exact ⟨smL_PB h2 (by decide), ⟨20, gcB_ok h5⟩, ⟨dvB_ok h6, dvB_ok h7⟩, h8, sqB_ok h9⟩
end Go.Proofs.YthhpmapbhdebeaaGreat


/- Sizes of polynomials that are computed from small ones. No program in sight. -/
namespace Go.Proofs.YthhpmapbhdebeaaGreat
set_option linter.unusedSimpArgs false
set_option linter.unusedVariables false
open Go.RowKit

structure Sz (l : List Rat) (n k : Nat) : Prop where
  len : l.length ≤ n
  pb : PB l k
  can : Can l
theorem Sz.mono {l : List Rat} {n k n' k' : Nat} (h : Sz l n k) (hn : n ≤ n') (hk : k ≤ k') : Sz l n' k' := ⟨Nat.le_trans h.len hn, h.pb.mono hk, h.can⟩
theorem Sz.nil {n k : Nat} (hk : 1 ≤ k) : Sz [] n k := ⟨Nat.zero_le _, PB_nil hk, fun h => absurd rfl h⟩
section
variable {a b : List Rat} {n m j k : Nat}
theorem Sz.add (ha : Sz a n j) (hb : Sz b m k) : Sz (pAdd a b) (max n m) (j + k + 1) := ⟨Nat.le_trans (len_pAdd a b) (by have := ha.len; have := hb.len; omega), fun i => by
  rw [cf_pAdd]
  have := qs_add (cf a i) (cf b i)
  have := ha.pb i
  have := hb.pb i
  omega, can_pAdd a b⟩
theorem Sz.sub (ha : Sz a n j) (hb : Sz b m k) : Sz (pSub a b) (max n m) (j + k + 1) := ⟨Nat.le_trans (len_pSub a b) (by have := ha.len; have := hb.len; omega), fun i => by
  rw [cf_pSub]
  have := qs_sub (cf a i) (cf b i)
  have := ha.pb i
  have := hb.pb i
  omega, can_pSub a b⟩
theorem Sz.sc {c : Rat} (ha : Sz a n j) (hc : qs c ≤ k) : Sz (pSc c a) n (j + k) := ⟨Nat.le_trans (len_pSc c a) ha.len, fun i => by
  rw [cf_pSc]
  have := qs_mul c (cf a i)
  have := ha.pb i
  omega, can_pSc c a⟩
theorem Sz.mul (ha : Sz a n j) (hb : Sz b m k) : Sz (pMul a b) (n + m - 1) (n * (j + k + 1) + 1) := ⟨by
  by_cases a0 : a = []
  · subst a0; exact Nat.zero_le _
  · by_cases b0 : b = []
    · subst b0
      have e : pMul a [] = [] := ev_inj (can_pMul _ _) Can_nil fun x => by rw [ev_pMul]; show ev a x * 0 = 0; grind
      rw [e]; exact Nat.zero_le _
    · rw [len_pMul ha.can hb.can a0 b0]
      have := ha.len; have := hb.len; omega, fun i => by
  unfold pMul
  rw [cf_tr]
  have h1 := mulL_PB hb.pb ha.pb i
  have h2 := Nat.mul_le_mul_right (j + k + 1) ha.len
  omega, can_pMul a b⟩
theorem qs_nat {z : Nat} (h : z < 4294967296) : qs (z : Rat) ≤ 1 := by
  have h1 := qs_int (z : Int)
  have h2 : dl z ≤ 1 := dl_le.2 (by simpa using h)
  have e : ((z : Int) : Rat) = (z : Rat) := rfl
  rw [e] at h1
  simp only [Int.natAbs_natCast] at h1
  omega
theorem Sz.diff (ha : Sz a n j) (hn : n ≤ 1000) : Sz (pDiff a) n (j + 1) := ⟨by
  unfold pDiff
  refine Nat.le_trans (tr_len _) ?_
  have := ha.len
  rcases len_dL a with h | h <;> omega, fun i => by
  rw [cf_pDiff]
  by_cases hi : i + 1 < a.length
  · have := qs_mul ((i + 1 : Nat) : Rat) (cf a (i + 1))
    have h1 := qs_nat (z := i + 1) (by have := ha.len; omega)
    have := ha.pb (i + 1)
    omega
  · rw [cf_ge (l := a) (by omega), Rat.mul_zero]
    exact Nat.le_trans qs_0 (by omega), can_pDiff a⟩
/-- What the calls ask. -/
theorem Sz.c2 (ha : Sz a n j) (hb : Sz b m k) (h : n ≤ 1000000 ∧ m ≤ 1000000 ∧ j ≤ 5000000000000 ∧ k ≤ 5000000000000 := by decide) : (a.length ≤ 1000000 ∧ b.length ≤ 1000000) ∧ PB a 5000000000000 ∧ PB b 5000000000000 :=
  ⟨⟨Nat.le_trans ha.len h.1, Nat.le_trans hb.len h.2.1⟩, ha.pb.mono h.2.2.1, hb.pb.mono h.2.2.2⟩
theorem Sz.c1 (ha : Sz a n j) (h : n ≤ 1000000 ∧ j ≤ 5000000000000 := by decide) : a.length ≤ 1000000 ∧ PB a 5000000000000 := ⟨Nat.le_trans ha.len h.1, ha.pb.mono h.2⟩
theorem Sz.cm (ha : Sz a n j) (hb : Sz b m k) (h : n + m ≤ 1000000 ∧ n * (j + k + 1) + 1 ≤ 5000000000000 := by decide) : a.length + b.length ≤ 1000000 ∧ ∃ j k, (PB a j ∧ PB b k) ∧ a.length * (j + k + 1) ≤ 4999999999999 :=
  ⟨Nat.le_trans (Nat.add_le_add ha.len hb.len) h.1, j, k, ⟨ha.pb, hb.pb⟩, by have := Nat.mul_le_mul_right (j + k + 1) ha.len; omega⟩
end
theorem syn_PB {c : Rat} {C k : Nat} (hc : qs c ≤ C) : ∀ {l : List Rat}, PB l k → PB (syn c l) (l.length * (k + C + 1) + 1)
  | [], _ => PB_nil (by omega)
  | r :: l, h => by
    have ih := syn_PB hc (l := l) (k := k) fun i => h (i + 1)
    have hr : qs r ≤ k := h 0
    show PB ((r + c * hd0 (syn c l)) :: syn c l) _
    have e : (r :: l).length * (k + C + 1) + 1 = l.length * (k + C + 1) + 1 + (k + C + 1) := by
      rw [List.length_cons, Nat.add_mul]; omega
    rw [e]
    refine PB_cons ?_ (ih.mono (by omega))
    have h1 := qs_add r (c * hd0 (syn c l))
    have h2 := qs_mul c (hd0 (syn c l))
    have h3 := ih 0
    rw [← hd0_cf] at h3
    omega
/-- Sizes within the shift. -/
def shBd : Nat → Nat → Nat → Nat
  | 0, k, _ => k
  | n + 1, k, C => shBd n ((n + 1) * (k + C + 1) + 1) C
theorem shBd_ge : ∀ (n k C : Nat), k ≤ shBd n k C
  | 0, _, _ => Nat.le_refl _
  | n + 1, k, C => by
    refine Nat.le_trans ?_ (shBd_ge n _ C)
    rw [Nat.add_mul]; omega
theorem tl0_PB {l : List Rat} {k : Nat} (h : PB l k) : PB (tl0 l) k := by
  cases l with
  | nil => exact h
  | cons x l => exact fun i => h (i + 1)
theorem sh_sz {c : Rat} {C : Nat} (hc : qs c ≤ C) : ∀ (n : Nat) {l : List Rat} {k : Nat}, l.length = n → PB l k → shBd n k C ≤ 2000000000000 → ShOk n c l ∧ PB (shF n c l) (shBd n k C)
  | 0, l, k, _, h, _ => ⟨trivial, PB_nil (by have := h.pos; simpa [shBd] using this)⟩
  | n + 1, l, k, hl, h, hb => by
    have h1 := syn_PB hc h
    rw [hl] at h1
    have hlen : (tl0 (syn c l)).length = n := by rw [tl0_len, syn_len, hl]; rfl
    obtain ⟨i1, i2⟩ := sh_sz hc n hlen (tl0_PB h1) hb
    have hge := shBd_ge n ((n + 1) * (k + C + 1) + 1) C
    have hk : k ≤ (n + 1) * (k + C + 1) + 1 := by rw [Nat.add_mul]; omega
    have hb' : shBd n ((n + 1) * (k + C + 1) + 1) C ≤ 2000000000000 := hb
    refine ⟨⟨⟨_, ⟨h.mono hk, h1⟩, by omega⟩, i1⟩, PB_cons ?_ i2⟩
    rw [hd0_cf]
    exact Nat.le_trans (h1 0) hge
theorem shBd_mono : ∀ {n m : Nat} (k C : Nat), n ≤ m → shBd n k C ≤ shBd m k C
  | n, 0, k, C, h => by
    obtain rfl : n = 0 := by omega
    exact Nat.le_refl _
  | 0, m + 1, k, C, _ => shBd_ge (m + 1) k C
  | n + 1, m + 1, k, C, h => by
    have key : ∀ (q k k' : Nat), k ≤ k' → shBd q k C ≤ shBd q k' C := by
      intro q
      induction q with
      | zero => exact fun _ _ h => h
      | succ q ih => exact fun k k' h => ih _ _ (by have := Nat.mul_le_mul_left (q + 1) (show k + C + 1 ≤ k' + C + 1 by omega); omega)
    refine Nat.le_trans (shBd_mono (n := n) (m := m) ((n + 1) * (k + C + 1) + 1) C (by omega)) (key m _ _ ?_)
    have := Nat.mul_le_mul_right (k + C + 1) h
    omega
theorem Sz.cs {a : List Rat} {c : Rat} {n k C : Nat} (ha : Sz a n k) (hc : qs c ≤ C) (h : shBd n k C ≤ 2000000000000 ∧ n ≤ 1000000 ∧ C ≤ 2000000000000 := by decide) : Can a ∧ a.length ≤ 1000000 ∧ qs c ≤ 2000000000000 ∧ ShOk a.length c a :=
  ⟨ha.can, Nat.le_trans ha.len h.2.1, Nat.le_trans hc h.2.2, (sh_sz hc a.length rfl ha.pb (by have := shBd_mono k C ha.len; omega)).1⟩
theorem ev_sz {x : Rat} {C k : Nat} (hx : qs x ≤ C) : ∀ {l : List Rat}, PB l k → qs (ev l x) ≤ l.length * (k + C + 1) + 1
  | [], _ => Nat.le_trans qs_0 (by omega)
  | r :: l, h => by
    have ih := ev_sz hx (l := l) (k := k) fun i => h (i + 1)
    have hr : qs r ≤ k := h 0
    show qs (r + x * ev l x) ≤ _
    have h1 := qs_add r (x * ev l x)
    have h2 := qs_mul x (ev l x)
    rw [List.length_cons, Nat.add_mul]
    omega
theorem Sz.ev {a : List Rat} {x : Rat} {n k C : Nat} (ha : Sz a n k) (hx : qs x ≤ C) : qs (ev a x) ≤ n * (k + C + 1) + 1 := by
  have h1 := ev_sz hx ha.pb
  have h2 := Nat.mul_le_mul_right (k + C + 1) ha.len
  omega
end Go.Proofs.YthhpmapbhdebeaaGreat

