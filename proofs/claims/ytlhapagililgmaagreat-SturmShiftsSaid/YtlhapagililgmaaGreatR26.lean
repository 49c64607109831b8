/- Texts H1 H2 H3 H4 H5 CK SZ SZ2 LC1 LC2 LC3 LC5 LC6 H6 H7 H8 H9 in one. -/
import Derived.Test.YtlhapagililgmaaGreatR25
import Derived.Test.YtlhapagililgmaaGreatR20
import Derived.Test.YtlhapagililgmaaGreatR23
/- Contracts: the reference of package poly, first functions. -/
namespace Go.Proofs.YtlhapagililgmaaGreat
set_option linter.unusedSimpArgs false
set_option linter.unusedVariables false
open Go.RowKit

def kRZero : Con := con0 (True, .Q 0)
attribute [go_sem ↓, go_sem] kRZero
theorem rZero_C : Ctr Tryz.prog 79 kRZero := Ctr.c0 (by kernel_rfl) fun _ => by
 refine PCall.of_vc (tabs mixed (tbl_cons r2Whole_C tbl_nil)) Tryz.func79 rfl Tryz.ntmps79 Tryz.results79 (by simp) ?_
 simp only [go_sem]
 exact .inl rfl
theorem rOne_C : Ctr Tryz.prog 99 kOne := Ctr.c0 (by kernel_rfl) fun _ => by
 refine PCall.of_vc (tabs mixed (tbl_cons r2Whole_C tbl_nil)) Tryz.func99 rfl Tryz.ntmps99 Tryz.results99 (by simp) ?_
 simp only [go_sem]
 exact .inl rfl
def kRAt : Con := con2 pR (pN .i64) fun p i => (True, .Q (if i < 0 then 0 else cf p i.toNat))
attribute [go_sem ↓, go_sem] kRAt
theorem rAt_C : Ctr Tryz.prog 58 kRAt := Ctr.c2 (by kernel_rfl) fun p i _ => by
 show PCall _ _ _ (.Q (if i < 0 then 0 else cf p i.toNat))
 refine PCall.of_vc (tabs mixed (tbl_cons rZero_C tbl_nil)) Tryz.func58 rfl Tryz.ntmps58 Tryz.results58 (by simp) ?_
 by_cases h0 : i < 0
 ·simp only [go_sem, h0]
 ·rw [if_neg h0]
  by_cases h1 : (p.length : Int) ≤ i
  ·have e : cf p i.toNat = 0 := cf_ge (by omega)
   simp only [go_sem, h0, h1, e]
  ·simp only [go_sem, h0, h1]
   exact ⟨⟨by omega, by omega⟩, by omega⟩
end Go.Proofs.YtlhapagililgmaaGreat


/- Contracts: the reference of package poly, equality. -/
namespace Go.Proofs.YtlhapagililgmaaGreat
set_option linter.unusedSimpArgs false
set_option linter.unusedVariables false
open Go.RowKit

theorem rPEq_C : Ctr Tryz.prog 15 kPEq := Ctr.c2 (by kernel_rfl) fun a b h => by
 obtain ⟨⟨la, lb⟩, ha, hb⟩ := h
 refine PCall.of_vc (tabs mixed (tbl_cons r2Cmp_C tbl_nil)) Tryz.func15 rfl Tryz.ntmps15 Tryz.results15 (by simp) ?_
 by_cases hl : a.length = b.length
 ·have c0 : (!((a.length : Int) == (b.length : Int))) = false := by rw [hl]; simp
  have c0' : ((a.length : Int) != (b.length : Int)) = false := c0
  simp only [go_sem, c0, c0']
  refine AWp.loops (X := { i : Nat // i ≤ a.length ∧ ∀ j, j < i → cf a j = cf b j })
   (fun i => mkSt [(0, .lst (V.rats a)), (1, .lst (V.rats b)), (4, .raw (.bool false)), (5, .raw (.int .i64 (i.1 : Nat)))] [] 0 27)
   (fun i => a.length - i.1) ⟨0, Nat.zero_le _, fun j h => by omega⟩ (Wk.of [] (by decide) ?_) ?_
  ·simp only [go_sem]
  ·rintro ⟨i, hi, he⟩
   refine vc_at (tabs mixed (tbl_cons r2Cmp_C tbl_nil)) ?_
   by_cases hin : i < a.length
   ·have c1 : (i : Int) < (a.length : Nat) := by omega
    have c2 : (i : Int) + 1 = ((i + 1 : Nat) : Int) := by omega
    have q1 := ha i
    have q2 := hb i
    by_cases hq : cf a i = cf b i
    ·have d0 : (cmpQ (cf a i) (cf b i) == 0) = true := by rw [cmpQ_eq0]; exact decide_eq_true hq
     have d1 : (cmpQ (cf a i) (cf b i) != 0) = false := by unfold bne; rw [d0]; rfl
     simp only [go_sem, c1, c2, d0, d1]
     refine ⟨by omega, hin, ⟨by omega, by omega⟩, by omega, ⟨q1, q2⟩, by rfl, ⟨by omega, by omega⟩, ⟨i + 1, hin, fun j hj => ?_⟩, Wk.of [] (by decide) ?_, by simp only; omega⟩
     ·by_cases e : j = i
      ·subst e; exact hq
      ·exact he j (by omega)
     ·simp only [go_sem]
    ·have d0 : (cmpQ (cf a i) (cf b i) == 0) = false := by rw [cmpQ_eq0]; exact decide_eq_false hq
     have d1 : (cmpQ (cf a i) (cf b i) != 0) = true := by unfold bne; rw [d0]; rfl
     have d2 : decide (a = b) = false := decide_eq_false fun e => hq (by rw [e])
     simp only [go_sem, c1, c2, d0, d1, d2]
     exact ⟨by omega, hin, ⟨by omega, by omega⟩, by omega, ⟨q1, q2⟩, by rfl⟩
   ·have c1 : ¬ (i : Int) < (a.length : Nat) := by omega
    have d2 : decide (a = b) = true := decide_eq_true (cf_ext hl fun j => by
     by_cases hj : j < i
     ·exact he j hj
     ·rw [cf_ge (by omega), cf_ge (by omega)])
    simp only [go_sem, c1, d2]
 ·have c0 : (!((a.length : Int) == (b.length : Int))) = true := by simp; omega
  have c0' : ((a.length : Int) != (b.length : Int)) = true := c0
  have d2 : decide (a = b) = false := decide_eq_false fun e => hl (by rw [e])
  simp only [go_sem, c0, c0', d2]
end Go.Proofs.YtlhapagililgmaaGreat


/- Contracts: the reference of package poly, lists without zeros at the end. -/
namespace Go.Proofs.YtlhapagililgmaaGreat
set_option linter.unusedSimpArgs false
set_option linter.unusedVariables false
open Go.RowKit

def rg (F : Nat → Rat) (n : Nat) : List Rat := (List.range n).map F
@[go_sem] theorem rg_len (F : Nat → Rat) (n : Nat) : (rg F n).length = n := by simp [rg]
theorem rg_0 (F : Nat → Rat) : rg F 0 = [] := rfl
theorem rg_snoc (F : Nat → Rat) (i : Nat) : rg F i ++ [F i] = rg F (i + 1) := by unfold rg; rw [List.range_succ, List.map_append]; rfl
@[go_sem] theorem rg_take (F : Nat → Rat) (i : Nat) : (rg F i).take i = rg F i := List.take_of_length_le (by rw [rg_len]; exact Nat.le_refl _)
theorem take_rg {l : List Rat} {n : Nat} (h : n ≤ l.length) : l.take n = rg (cf l) n := cf_ext (by rw [rg_len, List.length_take]; omega) fun i => by
 by_cases hi : i < n
 ·unfold rg cf
  rw [List.getD_eq_getElem?_getD, List.getElem?_take, if_pos hi, List.getD_eq_getElem?_getD, List.getElem?_map, List.getElem?_range hi]
  rfl
 ·rw [cf_ge (by rw [List.length_take]; omega), cf_ge (by rw [rg_len]; omega)]
theorem cf_rg (F : Nat → Rat) (n i : Nat) : cf (rg F n) i = if i < n then F i else 0 := by
 by_cases hi : i < n
 ·rw [if_pos hi]
  unfold rg cf
  rw [List.getD_eq_getElem?_getD, List.getElem?_map, List.getElem?_range hi]
  rfl
 ·rw [if_neg hi, cf_ge (by rw [rg_len]; omega)]
theorem rats_0 : V.rats [] = [] := rfl
theorem rTrim_V (l : List Rat) (h : l.length ≤ 1000000000) : PCall Tryz.prog 59 [.lst (V.rats l)] (.lst (V.rats (tr l))) := by
 refine PCall.of_vc (tabs mixed (tbl_cons r2Sign_C tbl_nil)) Tryz.func59 rfl Tryz.ntmps59 Tryz.results59 (by simp) ?_
 simp only [go_sem]
 refine AWp.cut (E := fun e τ => e = .exit 0 ∧ ∃ n : Nat, (n ≤ l.length ∧ (∀ i, n ≤ i → cf l i = 0) ∧ (n ≠ 0 → cf l (n - 1) ≠ 0)) ∧ τ = mkSt [(0, .lst (V.rats l)), (2, .raw (.slice none 0 0)), (3, .raw (.int .i64 (n : Nat)))] [] 0 35) ?_ ?_
 ·refine AWp.loops (X := { n : Nat // n ≤ l.length ∧ ∀ i, n ≤ i → cf l i = 0 }) (fun n => mkSt [(0, .lst (V.rats l)), (2, .raw (.slice none 0 0)), (3, .raw (.int .i64 (n.1 : Nat)))] [] 0 35) (fun n => n.1) ⟨l.length, Nat.le_refl _, fun i h => cf_ge h⟩ (Wk.of [] (by decide) ?_) ?_
  ·simp only [go_sem]
  ·rintro ⟨n, hn, hz⟩
   refine vc_at (tabs mixed (tbl_cons r2Sign_C tbl_nil)) ?_
   rcases n with _ | n
   ·simp only [go_sem]
    refine ⟨_, Wk.of [] (by decide) ?_, 0, ⟨hn, hz, fun e => absurd rfl e⟩, rfl⟩
    simp only [go_sem, Int.natCast_zero]
   ·have e1 := pred_nat n
    have e2 : 0 < ((n + 1 : Nat) : Int) := by omega
    by_cases hc : cf l n = 0
    ·have c1 : (sgI (cf l n).num == 0) = true := by rw [sgn_numQ]; exact decide_eq_true hc
     simp only [go_sem, e1, e2, c1]
     refine ⟨by omega, by omega, by omega, by omega, ⟨n, by omega, fun i hi => ?_⟩, Wk.of [] (by decide) ?_, by simp only; omega⟩
     ·rcases Nat.eq_or_lt_of_le hi with h | h
      ·rw [← h]; exact hc
      ·exact hz i h
     ·simp only [go_sem]
    ·have c1 : (sgI (cf l n).num == 0) = false := by rw [sgn_numQ]; exact decide_eq_false hc
     simp only [go_sem, e1, e2, c1]
     refine ⟨by omega, by omega, by omega, _, Wk.of [] (by decide) ?_, n + 1, ⟨hn, hz, fun _ => hc⟩, rfl⟩
     simp only [go_sem]
 ·rintro e τ ⟨rfl, n, ⟨hn, hz, hc⟩, rfl⟩
  rw [mkSt_eq]
  simp only [go_sem]
  rw [tr_at hn hz hc, take_rg hn]
  refine AWp.loops (X := { i : Nat // i ≤ n }) (fun i => mkSt [(0, .lst (V.rats l)), (2, .raw (.slice none 0 0)), (3, .raw (.int .i64 (n : Nat))), (4, .sl 0 4 0 i.1), (5, .raw (.int .i64 (i.1 : Nat)))] [(0, true, ⟨46, 4, V.rats (rg (cf l) i.1)⟩)] 1 35) (fun i => n - i.1) ⟨0, Nat.zero_le _⟩ (Wk.of [0] (by decide) ?_) ?_
  ·simp only [go_sem, rg_0, rats_0, Int.natCast_zero]
  ·rintro ⟨i, hi⟩
   refine vc_at (tabs mixed (tbl_cons r2Sign_C tbl_nil)) ?_
   by_cases hin : i < n
   ·have c1 : (i : Int) < (n : Nat) := by omega
    have c2 : (i : Int) + 1 = ((i + 1 : Nat) : Int) := by omega
    have mx : maxLen = 9223372036854775807 := by decide
    simp only [go_sem, c1, c2, rg_snoc, mx]
    refine ⟨⟨by omega, by omega⟩, by omega, ⟨by omega, by omega⟩, ⟨by omega, by omega⟩, ⟨i + 1, hin⟩, Wk.of [10] (by decide) ?_, by simp only; omega⟩
    simp only [go_sem]
   ·obtain rfl : i = n := by omega
    have c1 : ¬ (i : Int) < (i : Nat) := by omega
    simp only [go_sem, c1]
    trace_state
end Go.Proofs.YtlhapagililgmaaGreat


/- Contracts: the reference of package poly, polynomials out of small integers. -/
namespace Go.Proofs.YtlhapagililgmaaGreat
set_option linter.unusedSimpArgs false
set_option linter.unusedVariables false
open Go.RowKit

def kRTrim : Con := con1 pR fun l => (l.length ≤ 1000000000, .lst (V.rats (tr l)))
attribute [go_sem ↓, go_sem] kRTrim
theorem rTrim_C : Ctr Tryz.prog 59 kRTrim := Ctr.c1 (by kernel_rfl) fun l h => rTrim_V l h
def V.i8s (l : List Int) : List V := l.map fun z => .raw (.int .i8 z)
@[go_sem] theorem i8s_len (l : List Int) : (V.i8s l).length = l.length := by simp [V.i8s]
@[go_sem ↓, go_sem] theorem ev_i8s_get {l : List Int} {i : Nat} {k : V → Prop} : optC (V.i8s l)[i]? k = (i < l.length ∧ k (.raw (.int .i8 (l.getD i 0)))) := by
 unfold V.i8s
 rw [List.getElem?_map, List.getD_eq_getElem?_getD]
 by_cases h : i < l.length
 ·simp [List.getElem?_eq_getElem h, optC, h]
 ·simp [List.getElem?_eq_none (Nat.le_of_not_lt h), optC, h]
@[go_sem] theorem i8s_frz (l : List Int) : frzOk (V.i8s l) = True := eq_true (frzOk_map (fun a => ⟨rfl, by simp, by simp⟩) l)
def uni8 : List V → Option (List Int)
 | [] => some []
 | .raw (.int .i8 q) :: l => (uni8 l).map (q :: ·)
 | _ => none
theorem uni8_ok : ∀ (l : List V) (m : List Int), uni8 l = some m → l = V.i8s m
 | [], m, h => by injection h with h; subst h; rfl
 | x :: l, m, h => by
   unfold uni8 at h
   split at h
   ·cases ‹_ = []›
   ·rename_i q l' e
    injection e with e1 e2; subst e1 e2
    rcases hm : uni8 l with _ | m' <;> rw [hm] at h
    ·cases h
    ·injection h with h
     subst h
     rw [uni8_ok l m' hm]
     rfl
   ·cases h
@[go_sem ↓, go_sem] theorem uni8_i8s (l : List Int) : uni8 (V.i8s l) = some l := by
 induction l with
 | nil => rfl
 | cons x l ih =>
   show (uni8 (V.i8s l)).map (x :: ·) = _
   rw [ih]; rfl
@[go_sem ↓, go_sem] theorem uni8_nil : uni8 [] = some [] := rfl
@[go_sem ↓, go_sem] theorem uni8_cons (q : Int) (l : List V) : uni8 (.raw (.int .i8 q) :: l) = (uni8 l).map (q :: ·) := rfl
def pI8 : Pat (List Int) where
 p
  | .lst l => (uni8 l).map fun m => (True, m)
  | _ => none
 val l := .lst (V.i8s l)
 ok x c a h hc := by
  split at h
  ·rename_i l
   rcases hm : uni8 l with _ | m <;> rw [hm] at h
   ·cases h
   ·injection h with h; injection h with h1 h2; subst h2
    rw [uni8_ok l m hm]; exact .refl _
  ·cases h
@[go_sem ↓, go_sem] theorem ev_pI8 {l : List V} : pI8.p (.lst l) = (uni8 l).map fun m => (True, m) := rfl
@[go_sem ↓, go_sem] theorem ev_pI8_mk {l : List Int} : pI8.val l = .lst (V.i8s l) := rfl
def V.prs (l : List (Int × Int)) : List V := l.map fun z => .agg [.raw (.int .i8 z.1), .raw (.int .i8 z.2)]
@[go_sem] theorem prs_len (l : List (Int × Int)) : (V.prs l).length = l.length := by simp [V.prs]
@[go_sem ↓, go_sem] theorem ev_prs_get {l : List (Int × Int)} {i : Nat} {k : V → Prop} : optC (V.prs l)[i]? k = (i < l.length ∧ k (.agg [.raw (.int .i8 (l.getD i (0, 0)).1), .raw (.int .i8 (l.getD i (0, 0)).2)])) := by
 unfold V.prs
 rw [List.getElem?_map, List.getD_eq_getElem?_getD]
 by_cases h : i < l.length
 ·simp [List.getElem?_eq_getElem h, optC, h]
 ·simp [List.getElem?_eq_none (Nat.le_of_not_lt h), optC, h]
@[go_sem] theorem prs_frz (l : List (Int × Int)) : frzOk (V.prs l) = True := eq_true (frzOk_map (fun a => ⟨rfl, by simp, by simp⟩) l)
def B8 (z : Int) : Prop := -128 ≤ z ∧ z ≤ 127
theorem B8.get {l : List Int} (h : ∀ z ∈ l, B8 z) (i : Nat) : B8 (l.getD i 0) := by
 rw [List.getD_eq_getElem?_getD]
 rcases hi : l[i]? with _ | z
 ·exact ⟨by decide, by decide⟩
 ·exact h z (List.mem_of_getElem? hi)
end Go.Proofs.YtlhapagililgmaaGreat


/- Contracts: the reference of package poly, equality of decompositions. -/
namespace Go.Proofs.YtlhapagililgmaaGreat
set_option linter.unusedSimpArgs false
set_option linter.unusedVariables false
open Go.RowKit

end Go.Proofs.YtlhapagililgmaaGreat


/- Sizes of known polynomials, by computation. No program in sight. -/
namespace Go.Proofs.YtlhapagililgmaaGreat
set_option linter.unusedSimpArgs false
set_option linter.unusedVariables false
open Go.RowKit

def smq (q : Rat) : Bool := decide (q.num.natAbs < 4294967296) && decide (q.den < 4294967296)
theorem smq_ok {q : Rat} (h : smq q = true) {k : Nat} (hk : 1 ≤ k) : qs q ≤ k := by
 simp only [smq, Bool.and_eq_true, decide_eq_true_eq] at h
 exact Nat.le_trans (Nat.max_le.2 ⟨(dl_le (k := 1)).2 (by simpa using h.1), (dl_le (k := 1)).2 (by simpa using h.2)⟩) hk
def smL (l : List Rat) : Bool := l.all smq && decide (l.length ≤ 100)
theorem smL_PB {l : List Rat} (h : smL l = true) {k : Nat} (hk : 1 ≤ k) : PB l k := fun i => by
 simp only [smL, Bool.and_eq_true, List.all_eq_true] at h
 by_cases hi : i < l.length
 ·rw [cf_lt hi]
  exact smq_ok (h.1 _ (List.getElem_mem hi)) hk
 ·rw [cf_ge (by omega)]
  exact Nat.le_trans qs_0 hk
def cnB (l : List Rat) : Bool := decide (l = []) || !decide (cf l (l.length - 1) = 0)
theorem cnB_ok {l : List Rat} (h : cnB l = true) : Can l := fun h0 => by
 simp only [cnB, Bool.or_eq_true, decide_eq_true_eq, Bool.not_eq_true', decide_eq_false_iff_not] at h
 rcases h with h | h
 ·exact absurd h h0
 ·exact h
end Go.Proofs.YtlhapagililgmaaGreat


/- Sizes of polynomials that are computed from small ones. No program in sight. -/
namespace Go.Proofs.YtlhapagililgmaaGreat
set_option linter.unusedSimpArgs false
set_option linter.unusedVariables false
open Go.RowKit

structure Sz (l : List Rat) (n k : Nat) : Prop where
 len : l.length ≤ n
 pb : PB l k
 can : Can l
theorem Sz.mono {l : List Rat} {n k n' k' : Nat} (h : Sz l n k) (hn : n ≤ n') (hk : k ≤ k') : Sz l n' k' := ⟨Nat.le_trans h.len hn, h.pb.mono hk, h.can⟩
theorem Sz.nil {n k : Nat} (hk : 1 ≤ k) : Sz [] n k := ⟨Nat.zero_le _, PB_nil hk, fun h => absurd rfl h⟩
section
variable {a b : List Rat} {n m j k : Nat}
theorem Sz.add (ha : Sz a n j) (hb : Sz b m k) : Sz (pAdd a b) (max n m) (j + k + 1) := ⟨Nat.le_trans (len_pAdd a b) (by have := ha.len; have := hb.len; omega), fun i => by
 rw [cf_pAdd]
 have := qs_add (cf a i) (cf b i)
 have := ha.pb i
 have := hb.pb i
 omega, can_pAdd a b⟩
theorem Sz.sub (ha : Sz a n j) (hb : Sz b m k) : Sz (pSub a b) (max n m) (j + k + 1) := ⟨Nat.le_trans (len_pSub a b) (by have := ha.len; have := hb.len; omega), fun i => by
 rw [cf_pSub]
 have := qs_sub (cf a i) (cf b i)
 have := ha.pb i
 have := hb.pb i
 omega, can_pSub a b⟩
theorem Sz.sc {c : Rat} (ha : Sz a n j) (hc : qs c ≤ k) : Sz (pSc c a) n (j + k) := ⟨Nat.le_trans (len_pSc c a) ha.len, fun i => by
 rw [cf_pSc]
 have := qs_mul c (cf a i)
 have := ha.pb i
 omega, can_pSc c a⟩
theorem Sz.mul (ha : Sz a n j) (hb : Sz b m k) : Sz (pMul a b) (n + m - 1) (n * (j + k + 1) + 1) := ⟨by
 by_cases a0 : a = []
 ·subst a0; exact Nat.zero_le _
 ·by_cases b0 : b = []
  ·subst b0
   have e : pMul a [] = [] := ev_inj (can_pMul _ _) Can_nil fun x => by rw [ev_pMul]; show ev a x * 0 = 0; grind
   rw [e]; exact Nat.zero_le _
  ·rw [len_pMul ha.can hb.can a0 b0]
   have := ha.len; have := hb.len; omega, fun i => by
 unfold pMul
 rw [cf_tr]
 have h1 := mulL_PB hb.pb ha.pb i
 have h2 := Nat.mul_le_mul_right (j + k + 1) ha.len
 omega, can_pMul a b⟩
theorem Sz.c2 (ha : Sz a n j) (hb : Sz b m k) (h : n ≤ 1000000 ∧ m ≤ 1000000 ∧ j ≤ 5000000000000 ∧ k ≤ 5000000000000 := by decide) : (a.length ≤ 1000000 ∧ b.length ≤ 1000000) ∧ PB a 5000000000000 ∧ PB b 5000000000000 :=
 ⟨⟨Nat.le_trans ha.len h.1, Nat.le_trans hb.len h.2.1⟩, ha.pb.mono h.2.2.1, hb.pb.mono h.2.2.2⟩
theorem Sz.c1 (ha : Sz a n j) (h : n ≤ 1000000 ∧ j ≤ 5000000000000 := by decide) : a.length ≤ 1000000 ∧ PB a 5000000000000 := ⟨Nat.le_trans ha.len h.1, ha.pb.mono h.2⟩
theorem Sz.cm (ha : Sz a n j) (hb : Sz b m k) (h : n + m ≤ 1000000 ∧ n * (j + k + 1) + 1 ≤ 5000000000000 := by decide) : a.length + b.length ≤ 1000000 ∧ ∃ j k, (PB a j ∧ PB b k) ∧ a.length * (j + k + 1) ≤ 4999999999999 :=
 ⟨Nat.le_trans (Nat.add_le_add ha.len hb.len) h.1, j, k, ⟨ha.pb, hb.pb⟩, by have := Nat.mul_le_mul_right (j + k + 1) ha.len; omega⟩
end
theorem syn_PB {c : Rat} {C k : Nat} (hc : qs c ≤ C) : ∀ {l : List Rat}, PB l k → PB (syn c l) (l.length * (k + C + 1) + 1)
 | [], _ => PB_nil (by omega)
 | r :: l, h => by
   have ih := syn_PB hc (l := l) (k := k) fun i => h (i + 1)
   have hr : qs r ≤ k := h 0
   show PB ((r + c * hd0 (syn c l)) :: syn c l) _
   have e : (r :: l).length * (k + C + 1) + 1 = l.length * (k + C + 1) + 1 + (k + C + 1) := by
    rw [List.length_cons, Nat.add_mul]; omega
   rw [e]
   refine PB_cons ?_ (ih.mono (by omega))
   have h1 := qs_add r (c * hd0 (syn c l))
   have h2 := qs_mul c (hd0 (syn c l))
   have h3 := ih 0
   rw [← hd0_cf] at h3
   omega
def shBd : Nat → Nat → Nat → Nat
 | 0, k, _ => k
 | n + 1, k, C => shBd n ((n + 1) * (k + C + 1) + 1) C
theorem shBd_ge : ∀ (n k C : Nat), k ≤ shBd n k C
 | 0, _, _ => Nat.le_refl _
 | n + 1, k, C => by
   refine Nat.le_trans ?_ (shBd_ge n _ C)
   rw [Nat.add_mul]; omega
theorem tl0_PB {l : List Rat} {k : Nat} (h : PB l k) : PB (tl0 l) k := by
 cases l with
 | nil => exact h
 | cons x l => exact fun i => h (i + 1)
theorem sh_sz {c : Rat} {C : Nat} (hc : qs c ≤ C) : ∀ (n : Nat) {l : List Rat} {k : Nat}, l.length = n → PB l k → shBd n k C ≤ 2000000000000 → ShOk n c l ∧ PB (shF n c l) (shBd n k C)
 | 0, l, k, _, h, _ => ⟨trivial, PB_nil (by have := h.pos; simpa [shBd] using this)⟩
 | n + 1, l, k, hl, h, hb => by
   have h1 := syn_PB hc h
   rw [hl] at h1
   have hlen : (tl0 (syn c l)).length = n := by rw [tl0_len, syn_len, hl]; rfl
   obtain ⟨i1, i2⟩ := sh_sz hc n hlen (tl0_PB h1) hb
   have hge := shBd_ge n ((n + 1) * (k + C + 1) + 1) C
   have hk : k ≤ (n + 1) * (k + C + 1) + 1 := by rw [Nat.add_mul]; omega
   have hb' : shBd n ((n + 1) * (k + C + 1) + 1) C ≤ 2000000000000 := hb
   refine ⟨⟨⟨_, ⟨h.mono hk, h1⟩, by omega⟩, i1⟩, PB_cons ?_ i2⟩
   rw [hd0_cf]
   exact Nat.le_trans (h1 0) hge
theorem shBd_mono : ∀ {n m : Nat} (k C : Nat), n ≤ m → shBd n k C ≤ shBd m k C
 | n, 0, k, C, h => by
   obtain rfl : n = 0 := by omega
   exact Nat.le_refl _
 | 0, m + 1, k, C, _ => shBd_ge (m + 1) k C
 | n + 1, m + 1, k, C, h => by
   have key : ∀ (q k k' : Nat), k ≤ k' → shBd q k C ≤ shBd q k' C := by
    intro q
    induction q with
    | zero => exact fun _ _ h => h
    | succ q ih => exact fun k k' h => ih _ _ (by have := Nat.mul_le_mul_left (q + 1) (show k + C + 1 ≤ k' + C + 1 by omega); omega)
   refine Nat.le_trans (shBd_mono (n := n) (m := m) ((n + 1) * (k + C + 1) + 1) C (by omega)) (key m _ _ ?_)
   have := Nat.mul_le_mul_right (k + C + 1) h
   omega
theorem Sz.cs {a : List Rat} {c : Rat} {n k C : Nat} (ha : Sz a n k) (hc : qs c ≤ C) (h : shBd n k C ≤ 2000000000000 ∧ n ≤ 1000000 ∧ C ≤ 2000000000000 := by decide) : Can a ∧ a.length ≤ 1000000 ∧ qs c ≤ 2000000000000 ∧ ShOk a.length c a :=
 ⟨ha.can, Nat.le_trans ha.len h.2.1, Nat.le_trans hc h.2.2, (sh_sz hc a.length rfl ha.pb (by have := shBd_mono k C ha.len; omega)).1⟩
theorem ev_sz {x : Rat} {C k : Nat} (hx : qs x ≤ C) : ∀ {l : List Rat}, PB l k → qs (ev l x) ≤ l.length * (k + C + 1) + 1
 | [], _ => Nat.le_trans qs_0 (by omega)
 | r :: l, h => by
   have ih := ev_sz hx (l := l) (k := k) fun i => h (i + 1)
   have hr : qs r ≤ k := h 0
   show qs (r + x * ev l x) ≤ _
   have h1 := qs_add r (x * ev l x)
   have h2 := qs_mul x (ev l x)
   rw [List.length_cons, Nat.add_mul]
   omega
theorem drop_PB {l : List Rat} {k : Nat} (h : PB l k) (n : Nat) : PB (l.drop n) k := fun i => by
 have e : cf (l.drop n) i = cf l (n + i) := by
  unfold cf
  rw [List.getD_eq_getElem?_getD, List.getD_eq_getElem?_getD, List.getElem?_drop]
 rw [e]; exact h _
theorem Sz.ev {a : List Rat} {x : Rat} {n k C : Nat} (ha : Sz a n k) (hx : qs x ≤ C) : qs (ev a x) ≤ n * (k + C + 1) + 1 := by
 have h1 := ev_sz hx ha.pb
 have h2 := Nat.mul_le_mul_right (k + C + 1) ha.len
 omega
end Go.Proofs.YtlhapagililgmaaGreat


/- Sizes along Euclid's algorithm. No program in sight. -/
namespace Go.Proofs.YtlhapagililgmaaGreat
set_option linter.unusedSimpArgs false
set_option linter.unusedVariables false
open Go.RowKit

theorem cf_mulL_cons (x : Rat) (l b : List Rat) (i : Nat) : cf (mulL (x :: l) b) i = x * cf b i + (if i = 0 then 0 else cf (mulL l b) (i - 1)) := by
 show cf (addL (scL x b) (0 :: mulL l b)) i = _
 rw [cf_addL, cf_scL]
 cases i with
 | zero => rfl
 | succ i => rfl
theorem cf_mon_mul (c : Rat) (b : List Rat) : ∀ (k i : Nat), cf (mulL (mon c k) b) i = if k ≤ i then c * cf b (i - k) else 0
 | 0, i => by
   show cf (mulL [c] b) i = _
   rw [cf_mulL_cons, if_pos (Nat.zero_le _), Nat.sub_zero]
   have e : (if i = 0 then (0 : Rat) else cf (mulL [] b) (i - 1)) = 0 := by split <;> rfl
   rw [e, Rat.add_zero]
 | k + 1, i => by
   have e : mon c (k + 1) = 0 :: mon c k := by simp [mon, List.replicate_succ]
   rw [e, cf_mulL_cons, Rat.zero_mul, Rat.zero_add]
   cases i with
   | zero => rfl
   | succ i =>
     rw [if_neg (by omega), Nat.add_sub_cancel, cf_mon_mul c b k i]
     by_cases h : k ≤ i
     ·rw [if_pos h, if_pos (by omega), show i + 1 - (k + 1) = i - k from by omega]
     ·rw [if_neg h, if_neg (by omega)]
theorem dmF_PB {b : List Rat} {t : Nat} (hb : Can b) (h0 : b ≠ []) (hbt : PB b t) : ∀ (n : Nat) (q r : List Rat) (s Z K : Nat), Can r → PB r s → s + 2 * t + 1 ≤ Z → PB q K → (∀ i, i + b.length ≤ r.length → cf q i = 0) → 2 ^ (r.length + 1 - b.length) * Z ≤ K →
 PB (dmF n q r b).1 K ∧ PB (dmF n q r b).2 (K - (2 * t + 1))
 | 0, q, r, s, Z, K, hr, hs, hz, hq, _, hk => by
   have hZK : Z ≤ K := Nat.le_trans (Nat.le_mul_of_pos_left Z (Nat.two_pow_pos _)) hk
   exact ⟨hq, hs.mono (by omega)⟩
 | n + 1, q, r, s, Z, K, hr, hs, hz, hq, hqz, hk => by
   have hZK : Z ≤ K := Nat.le_trans (Nat.le_mul_of_pos_left Z (Nat.two_pow_pos _)) hk
   unfold dmF
   split
   ·exact ⟨hq, hs.mono (by omega)⟩
   ·rename_i h
    have hbl := List.length_pos_iff.2 h0
    have hst := dm_step hr hb h0 (by omega)
    obtain ⟨c, hc⟩ : ∃ c, lead r / lead b = c := ⟨_, rfl⟩
    obtain ⟨k, hkk⟩ : ∃ k, r.length - b.length = k := ⟨_, rfl⟩
    rw [hc, hkk] at hst ⊢
    have qc : qs c ≤ s + t := by rw [← hc]; exact Nat.le_trans (qs_div _ _) (Nat.add_le_add (hs _) (hbt _))
    have pr : PB (pSub r (pMul (mon c k) b)) (2 * s + 2 * t + 1) := fun i => by
     rw [cf_pSub]
     unfold pMul
     rw [cf_tr, cf_mon_mul]
     have h1 := qs_sub (cf r i) (if k ≤ i then c * cf b (i - k) else 0)
     have h2 : qs (if k ≤ i then c * cf b (i - k) else 0) ≤ s + 2 * t := by
      split
      ·have := qs_mul c (cf b (i - k)); have := hbt (i - k); omega
      ·have := qs_0; have := hs.pos; omega
     have := hs i
     omega
    refine dmF_PB hb h0 hbt n _ _ (2 * s + 2 * t + 1) (2 * Z) K (can_pSub _ _) pr (by omega) (fun i => ?_) (fun i hi => ?_) ?_
    ·rw [cf_pAdd]
     by_cases e : i = k
     ·subst e
      rw [mon_top, hqz i (by omega), Rat.zero_add]
      omega
     ·rw [mon_low c k i e, Rat.add_zero]
      exact hq i
    ·rw [cf_pAdd, mon_low c k i (by omega), hqz i (by omega), Rat.add_zero]
    ·generalize (pSub r (pMul (mon c k) b)).length = m at hst
     have e : 2 ^ (m + 1 - b.length) * (2 * Z) = 2 ^ (m + 1 - b.length + 1) * Z := by rw [Nat.pow_succ, Nat.mul_assoc]
     rw [e]
     exact Nat.le_trans (Nat.mul_le_mul_right Z (Nat.pow_le_pow_right (by decide) (by omega))) hk
theorem mod_PB {a b : List Rat} {s t S : Nat} (ha : Can a) (hb : Can b) (h0 : b ≠ []) (hs : PB a s) (ht : PB b t) (hS : s + 2 * t + 1 ≤ S) : PB (pMod a b) (2 ^ (a.length - b.length + 1) * S - (2 * t + 1)) := by
 have hp : 1 ≤ 2 ^ (a.length - b.length + 1) * S := Nat.le_trans (show 1 ≤ S by omega) (Nat.le_mul_of_pos_left S (Nat.two_pow_pos _))
 exact (dmF_PB hb h0 ht a.length [] a s S _ ha hs hS (PB_nil hp) (fun i _ => rfl) (Nat.mul_le_mul_right S (Nat.pow_le_pow_right (by decide) (by omega)))).2
end Go.Proofs.YtlhapagililgmaaGreat


/- The helpers of the laws of polynomials: sanity, made, number. -/
namespace Go.Proofs.YtlhapagililgmaaGreat
set_option linter.unusedSimpArgs false
set_option linter.unusedVariables false
open Go.RowKit

theorem b8 (l : List Int) (h : (l.all fun z => decide (-128 ≤ z) && decide (z ≤ 127)) = true) : ∀ z ∈ l, B8 z := fun z hz => by
 have := List.all_eq_true.1 h z hz
 simp only [Bool.and_eq_true, decide_eq_true_eq] at this
 exact this
end Go.Proofs.YtlhapagililgmaaGreat


/- The helpers of the laws of polynomials: made, number; the arguments. -/
namespace Go.Proofs.YtlhapagililgmaaGreat
set_option linter.unusedSimpArgs false
set_option linter.unusedVariables false
open Go.RowKit

structure Th where
 A : List (Int × Int)
 B : List (Int × Int)
 C : List (Int × Int)
 X : Int × Int
def Th.v (x : Th) : V := .agg [.lst (V.prs x.A), .lst (V.prs x.B), .lst (V.prs x.C), .agg [.raw (.int .i8 x.X.1), .raw (.int .i8 x.X.2)]]
theorem list_prs {P : Program} {n : Nat} {e b : TypeId} (he : P.underlying e = some (.array 2 b)) (hb : P.underlying b = some (.int .i8)) : ∀ (l : List V), (∀ y ∈ l, Fits P (n + 2) e y) → ∃ A : List (Int × Int), l = V.prs A ∧ ∀ z ∈ A, B8 z.1 ∧ B8 z.2
 | [], _ => ⟨[], rfl, fun z hz => by simp at hz⟩
 | y :: l, h => by
   obtain ⟨A, rfl, hA⟩ := list_prs he hb l fun y hy => h y (by simp [hy])
   obtain ⟨m, rfl, hm⟩ := fits_arr he (h y (by simp))
   obtain ⟨x1, m1, rfl, g1, hm⟩ := fitL_cons hm
   obtain ⟨x2, m2, rfl, g2, hm⟩ := fitL_cons hm
   have := fitL_nil hm
   subst this
   obtain ⟨z1, w1, rfl⟩ := fits_int hb g1
   obtain ⟨z2, w2, rfl⟩ := fits_int hb g2
   exact ⟨(z1, z2) :: A, rfl, fun z hz => by
    rcases List.mem_cons.1 hz with rfl | hz
    ·exact ⟨wf_i8 w1, wf_i8 w2⟩
    ·exact hA z hz⟩
theorem fits_pr {P : Program} {n : Nat} {e b : TypeId} {X : V} (he : P.underlying e = some (.array 2 b)) (hb : P.underlying b = some (.int .i8)) (h : Fits P (n + 2) e X) : ∃ z : Int × Int, X = .agg [.raw (.int .i8 z.1), .raw (.int .i8 z.2)] ∧ B8 z.1 ∧ B8 z.2 := by
 obtain ⟨A, e1, hA⟩ := list_prs he hb [X] fun y hy => by
  rw [List.mem_singleton.1 hy]; exact h
 match A, e1 with
 | [z], e1 =>
   injection e1 with e1 _
   exact ⟨z, e1, hA z (by simp)⟩
end Go.Proofs.YtlhapagililgmaaGreat


/- The law of rings: sums and products of polynomials. -/
namespace Go.Proofs.YtlhapagililgmaaGreat
set_option linter.unusedSimpArgs false
set_option linter.unusedVariables false
open Go.RowKit

theorem pMul_comm (a b : List Rat) : pMul a b = pMul b a := ev_inj (can_pMul _ _) (can_pMul _ _) fun x => by rw [ev_pMul, ev_pMul]; grind
end Go.Proofs.YtlhapagililgmaaGreat


/- The law of division: quotients, remainders and common divisors of polynomials. -/
namespace Go.Proofs.YtlhapagililgmaaGreat
set_option linter.unusedSimpArgs false
set_option linter.unusedVariables false
open Go.RowKit

theorem Sz.dv {a b : List Rat} {n m j k : Nat} (ha : Sz a n j) (hb : Sz b m k) (h : (n ≤ 100 ∧ m ≤ 100) ∧ 2 ^ (n + 1) * (j + 2 * k + 1) ≤ 2500000000000 := by decide) : DvOk a b :=
 ⟨⟨ha.can, hb.can⟩, by have := ha.len; have := hb.len; omega, j, k, ⟨ha.pb, hb.pb⟩, Nat.le_trans (Nat.mul_le_mul_right _ (Nat.pow_le_pow_right (by decide) (by have := ha.len; omega))) h.2⟩
end Go.Proofs.YtlhapagililgmaaGreat


/- The law of division of polynomials. -/
namespace Go.Proofs.YtlhapagililgmaaGreat
set_option linter.unusedSimpArgs false
set_option linter.unusedVariables false
open Go.RowKit

end Go.Proofs.YtlhapagililgmaaGreat


/- Contracts: the reference of package poly, lists that are computed value by value. -/
namespace Go.Proofs.YtlhapagililgmaaGreat
set_option linter.unusedSimpArgs false
set_option linter.unusedVariables false
open Go.RowKit

theorem lt0 (n : Nat) : ¬ ((n : Nat) : Int) < 0 := by omega
theorem rAdd_C : Ctr Tryz.prog 17 kPAdd := Ctr.c2 (by kernel_rfl) fun a b h => by
 obtain ⟨⟨la, lb⟩, ha, hb⟩ := h
 show PCall _ _ _ (.lst (V.rats (pAdd a b)))
 rw [← add_list]
 show PCall _ _ _ (.lst (V.rats (tr (rg (fun i => cf a i + cf b i) (max a.length b.length)))))
 obtain ⟨F, hF⟩ : ∃ F : Nat → Rat, F = fun i => cf a i + cf b i := ⟨_, rfl⟩
 rw [← hF]
 have mx : maxLen = 9223372036854775807 := by decide
 refine PCall.of_vc (tabs mixed (tbl_cons rTrim_C (tbl_cons rAt_C (tbl_cons r2Add_C tbl_nil)))) Tryz.func17 rfl Tryz.ntmps17 Tryz.results17 (by simp) ?_
 simp only [go_sem]
 refine AWp.loops (X := { i : Nat // i ≤ max a.length b.length }) (fun i => mkSt [(0, .lst (V.rats a)), (1, .lst (V.rats b)), (4, .raw (.slice none 0 0)), (5, .sl 0 4 0 i.1), (6, .raw (.int .i64 (i.1 : Nat)))] [(0, true, ⟨46, 4, V.rats (rg F i.1)⟩)] 1 29) (fun i => max a.length b.length - i.1) ⟨0, Nat.zero_le _⟩ (Wk.of [1] (by decide) ?_) ?_
 ·simp only [go_sem, rg_0, rats_0, Int.natCast_zero]
 ·rintro ⟨i, hi⟩
  refine vc_at (tabs mixed (tbl_cons rTrim_C (tbl_cons rAt_C (tbl_cons r2Add_C tbl_nil)))) ?_
  have c3 : (i : Int) + 1 = ((i + 1 : Nat) : Int) := by omega
  have c4 := lt0 i
  have m1 : (if (a.length : Int) < (b.length : Int) then (b.length : Int) else (a.length : Int)) = ((max a.length b.length : Nat) : Int) := by split <;> omega
  have f1 : cf a i + cf b i = F i := by rw [hF]
  have q1 := ha i
  have q2 := hb i
  by_cases hin : i < max a.length b.length
  ·have c1 : (i : Int) < ((max a.length b.length : Nat) : Int) := by omega
   simp only [go_sem, m1, c1, c3, c4, f1, rg_snoc, mx, Int.toNat_natCast, q1, q2]
   refine ⟨⟨by omega, by omega⟩, ⟨by omega, by omega⟩, ⟨i + 1, hin⟩, Wk.of [17] (by decide) ?_, by simp only; omega⟩
   simp only [go_sem]
  ·obtain rfl : i = max a.length b.length := by omega
   have c1 : ¬ ((max a.length b.length : Nat) : Int) < ((max a.length b.length : Nat) : Int) := by omega
   simp only [go_sem, m1, c1]
   omega
end Go.Proofs.YtlhapagililgmaaGreat


/- Contracts: the reference of package poly, single values and small functions. -/
namespace Go.Proofs.YtlhapagililgmaaGreat
set_option linter.unusedSimpArgs false
set_option linter.unusedVariables false
open Go.RowKit

theorem PB_neg {a : List Rat} {k : Nat} (h : PB a k) : PB (pSc ((-1 : Int) : Rat) a) k := fun i => by
 rw [cf_pSc]
 have e : ((-1 : Int) : Rat) * cf a i = -cf a i := by
  have : ((-1 : Int) : Rat) = -1 := by decide +kernel
  rw [this]; grind
 rw [e, qs_neg]
 exact h i
end Go.Proofs.YtlhapagililgmaaGreat


/- Contracts: the reference of package poly, products and values. -/
namespace Go.Proofs.YtlhapagililgmaaGreat
set_option linter.unusedSimpArgs false
set_option linter.unusedVariables false
open Go.RowKit

def cvS (a b : List Rat) (k : Nat) : Nat → Rat
 | 0 => 0
 | j + 1 => cvS a b k j + cf a j * cf b (k - j)
theorem cvS_nil (b : List Rat) (k : Nat) : ∀ j, cvS [] b k j = 0
 | 0 => rfl
 | j + 1 => by
   show cvS [] b k j + 0 * cf b (k - j) = 0
   rw [cvS_nil b k j]; grind
theorem cvS_cons (x : Rat) (a b : List Rat) (k : Nat) : ∀ j, cvS (x :: a) b (k + 1) (j + 1) = x * cf b (k + 1) + cvS a b k j
 | 0 => by
   show 0 + x * cf b (k + 1) = x * cf b (k + 1) + 0
   grind
 | j + 1 => by
   have ih := cvS_cons x a b k j
   show cvS (x :: a) b (k + 1) (j + 1) + cf a j * cf b (k + 1 - (j + 1)) = x * cf b (k + 1) + (cvS a b k j + cf a j * cf b (k - j))
   rw [ih, show k + 1 - (j + 1) = k - j from by omega]; grind
theorem cvS_mul : ∀ (a b : List Rat) (k : Nat), cvS a b k (k + 1) = cf (mulL a b) k
 | [], b, k => by rw [cvS_nil]; rfl
 | x :: a, b, 0 => by
   rw [cf_mulL_cons]
   show 0 + x * cf b 0 = x * cf b 0 + 0
   grind
 | x :: a, b, k + 1 => by
   rw [cvS_cons, cf_mulL_cons, cvS_mul a b k, if_neg (by omega), Nat.add_sub_cancel]
theorem cvS_qs {a b : List Rat} {j k : Nat} (ha : PB a j) (hb : PB b k) (m : Nat) : ∀ i, qs (cvS a b m i) ≤ min i a.length * (j + k + 1) + 1
 | 0 => Nat.le_trans qs_0 (by omega)
 | i + 1 => by
   have ih := cvS_qs ha hb m i
   show qs (cvS a b m i + cf a i * cf b (m - i)) ≤ _
   by_cases hi : i < a.length
   ·have h1 := qs_add (cvS a b m i) (cf a i * cf b (m - i))
    have h2 := qs_mul (cf a i) (cf b (m - i))
    have h3 := ha i
    have h4 := hb (m - i)
    rw [show min (i + 1) a.length = i + 1 from by omega, Nat.add_mul]
    rw [show min i a.length = i from by omega] at ih
    omega
   ·rw [cf_ge (l := a) (by omega), Rat.zero_mul, Rat.add_zero, show min (i + 1) a.length = min i a.length from by omega]
    exact ih
theorem mul_list (a b : List Rat) : tr (rg (fun k => cvS a b k (k + 1)) (a.length + b.length - 1)) = pMul a b := tr_of_cf fun i => by
 rw [cf_rg]
 split
 ·exact cvS_mul a b i
 ·rename_i h
  by_cases b0 : b = []
  ·subst b0
   have e : cf (pMul a []) i = cf (mulL a []) i := by unfold pMul; rw [cf_tr]
   have e2 : pMul a [] = [] := ev_inj (can_pMul _ _) Can_nil fun x => by rw [ev_pMul]; show ev a x * 0 = 0; grind
   rw [← e, e2]; rfl
  ·have := len_mulL a b b0
   by_cases a0 : a = []
   ·subst a0; rfl
   ·rw [if_neg a0] at this
    rw [cf_ge (by omega)]
def kPRMul : Con := con2 pR pR fun a b => ((a.length + b.length ≤ 1000000 ∧ PB a 5000000000000 ∧ PB b 5000000000000) ∧ ∃ j k, (PB a j ∧ PB b k) ∧ a.length * (j + k + 1) ≤ 4999999999999, .lst (V.rats (pMul a b)))
attribute [go_sem ↓, go_sem] kPRMul
set_option maxRecDepth 4000 in
theorem rPMul_C : Ctr Tryz.prog 27 kPRMul := Ctr.c2 (by kernel_rfl) fun a b h => by
 obtain ⟨⟨hl, pa, pb⟩, j, k', ⟨ha, hb⟩, hs⟩ := h
 show PCall _ _ _ (.lst (V.rats (pMul a b)))
 rw [← mul_list]
 obtain ⟨F, hF⟩ : ∃ F : Nat → Rat, F = fun k => cvS a b k (k + 1) := ⟨_, rfl⟩
 rw [← hF]
 have mx : maxLen = 9223372036854775807 := by decide
 refine PCall.of_vc (tabs mixed (tbl_cons rTrim_C (tbl_cons rZero_C (tbl_cons rAt_C (tbl_cons r2Mul_C (tbl_cons r2Add_C tbl_nil)))))) Tryz.func27 rfl Tryz.ntmps27 Tryz.results27 (by simp) ?_
 simp only [go_sem]
 refine AWp.loops (X := { k : Nat // k ≤ a.length + b.length - 1 }) (fun k => mkSt [(0, .lst (V.rats a)), (1, .lst (V.rats b)), (4, .raw (.slice none 0 0)), (5, .sl 0 4 0 k.1), (6, .raw (.int .i64 (k.1 : Nat)))] [(0, true, ⟨46, 4, V.rats (rg F k.1)⟩)] 1 43) (fun k => a.length + b.length - k.1) ⟨0, Nat.zero_le _⟩ (Wk.of [1] (by decide) ?_) ?_
 ·simp only [go_sem, rg_0, rats_0, Int.natCast_zero]
 ·rintro ⟨k, hk⟩
  refine vc_at (tabs mixed (tbl_cons rTrim_C (tbl_cons rZero_C (tbl_cons rAt_C (tbl_cons r2Mul_C (tbl_cons r2Add_C tbl_nil)))))) ?_
  have c3 : (k : Int) + 1 = ((k + 1 : Nat) : Int) := by omega
  have c5 : (a.length : Int) + (b.length : Int) = ((a.length + b.length : Nat) : Int) := by omega
  have r1 : -9223372036854775808 ≤ ((k + 1 : Nat) : Int) ∧ ((k + 1 : Nat) : Int) ≤ 9223372036854775807 := by omega
  have r2 : -9223372036854775808 ≤ ((a.length + b.length : Nat) : Int) ∧ ((a.length + b.length : Nat) : Int) ≤ 9223372036854775807 := by omega
  by_cases hin : k + 1 < a.length + b.length
  ·have c1 : ((k + 1 : Nat) : Int) < ((a.length + b.length : Nat) : Int) := by omega
   simp only [go_sem, c1, c3, c5, r1, r2]
   refine AWp.loops (X := { i : Nat // i ≤ k + 1 }) (fun i => mkSt [(0, .lst (V.rats a)), (1, .lst (V.rats b)), (4, .raw (.slice none 0 0)), (5, .sl 0 4 0 k), (6, .raw (.int .i64 (k : Nat))), (7, .ptr 1 4 0 0), (8, .raw (.int .i64 (i.1 : Nat)))] [(0, true, ⟨46, 4, V.rats (rg F k)⟩), (1, false, ⟨46, 4, [.Q (cvS a b k i.1)]⟩)] 2 43) (fun i => k + 1 - i.1) ⟨0, Nat.zero_le _⟩ (Wk.of [0, 10] (by decide) ?_) ?_
   ·simp only [go_sem, Int.natCast_zero]
    exact renV_pure rfl
   ·rintro ⟨i, hi⟩
    refine vc_at (tabs mixed (tbl_cons rTrim_C (tbl_cons rZero_C (tbl_cons rAt_C (tbl_cons r2Mul_C (tbl_cons r2Add_C tbl_nil)))))) ?_
    by_cases hik : i ≤ k
    ·have d1 : (i : Int) ≤ (k : Int) := by omega
     have d2 : (k : Int) - (i : Int) = ((k - i : Nat) : Int) := by omega
     have d3 : (i : Int) + 1 = ((i + 1 : Nat) : Int) := by omega
     have l0 := lt0 i
     have l1 := lt0 (k - i)
     have q1 := pa i
     have q2 := pb (k - i)
     have q3 : qs (cvS a b k i) ≤ 5000000000000 := by
      have h1 := cvS_qs ha hb k i
      have h2 := Nat.mul_le_mul_right (j + k' + 1) (show min i a.length ≤ a.length by omega)
      omega
     have q4 : qs (cf a i * cf b (k - i)) ≤ 5000000000000 := by
      by_cases hia : i < a.length
      ·have h1 := qs_mul (cf a i) (cf b (k - i))
       have h2 := ha i
       have h3 := hb (k - i)
       have h4 := Nat.mul_le_mul_right (j + k' + 1) (show 1 ≤ a.length by omega)
       omega
      ·rw [cf_ge (l := a) (by omega), Rat.zero_mul]
       exact Nat.le_trans qs_0 (by decide)
     simp only [go_sem, d1, d2, d3, l0, l1, q1, q2, q3, q4, Int.toNat_natCast]
     refine ⟨⟨by omega, by omega⟩, by rfl, ⟨by omega, by omega⟩, ⟨i + 1, by omega⟩, Wk.of [0, 1] (by decide) ?_, by simp only; omega⟩
     have f2 : cvS a b k (i + 1) = cvS a b k i + cf a i * cf b (k - i) := rfl
     simp only [go_sem, f2]
     exact renV_pure rfl
    ·obtain rfl : i = k + 1 := by omega
     have d1 : ¬ ((k + 1 : Nat) : Int) ≤ (k : Int) := by omega
     have f1 : cvS a b k (k + 1) = F k := by rw [hF]
     simp only [go_sem, d1, c3, f1, rg_snoc, mx]
     refine ⟨⟨by omega, by omega⟩, ⟨by omega, by omega⟩, ⟨k + 1, by omega⟩, Wk.of [8] (by decide) ?_, by simp only; omega⟩
     simp only [go_sem]
  ·obtain rfl : k = a.length + b.length - 1 := by omega
   have c1 : ¬ ((a.length + b.length - 1 + 1 : Nat) : Int) < ((a.length + b.length : Nat) : Int) := by omega
   have c6 : ((a.length + b.length - 1 : Nat) : Int) + 1 = ((a.length + b.length - 1 + 1 : Nat) : Int) := by omega
   simp only [go_sem, c1, c5, c6, r1, r2]
   omega
end Go.Proofs.YtlhapagililgmaaGreat


/- Contracts: the reference of package poly, division. -/
namespace Go.Proofs.YtlhapagililgmaaGreat
set_option linter.unusedSimpArgs false
set_option linter.unusedVariables false
open Go.RowKit

end Go.Proofs.YtlhapagililgmaaGreat

