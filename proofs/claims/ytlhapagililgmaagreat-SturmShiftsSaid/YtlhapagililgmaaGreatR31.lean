/- Texts S18 S19 S20 S21 S22 S23 S24 ST9 ST10 ST11 ST12 SZ11 ST15 in one. -/
import Derived.Test.YtlhapagililgmaaGreatR30
import Derived.Test.YtlhapagililgmaaGreatR26
import Derived.Test.YtlhapagililgmaaGreatR15
import Derived.Test.YtlhapagililgmaaGreatR27
import Derived.Test.YtlhapagililgmaaGreatR28
import Derived.Test.YtlhapagililgmaaGreatR25
/- Contracts: the polynomials of the laws about package sturm. -/
namespace Go.Proofs.YtlhapagililgmaaGreat
set_option linter.unusedSimpArgs false
set_option linter.unusedVariables false
open Go.RowKit

def pBs : Pat (List Nat) where
 p
  | .lst l => (unB l).map fun m => (l = V.bytes m, m)
  | .raw (.slice none 0 0) => some (True, [])
  | .emp => some (True, [])
  | _ => none
 val l := .lst (V.bytes l)
 ok x c a h hc := by
  split at h
  ·rename_i l
   rcases hm : unB l with _ | m <;> rw [hm] at h
   ·cases h
   ·injection h with h; injection h with h1 h2; subst h1 h2
    rw [hc]; exact .refl _
  ·injection h with h; injection h with h1 h2; subst h2; exact .inr (.inr ⟨rfl, rfl, rfl, rfl⟩)
  ·injection h with h; injection h with h1 h2; subst h2; exact .inr (.inr ⟨rfl, rfl, rfl⟩)
  ·cases h
@[go_sem ↓, go_sem] theorem ev_pBs {l : List V} : pBs.p (.lst l) = (unB l).map fun m => (l = V.bytes m, m) := rfl
@[go_sem ↓, go_sem] theorem ev_pBs_nil : pBs.p (.raw (.slice none 0 0)) = some (True, []) := rfl
@[go_sem ↓, go_sem] theorem ev_pBs_emp : pBs.p .emp = some (True, []) := rfl
@[go_sem ↓, go_sem] theorem ev_pBs_mk {l : List Nat} : pBs.val l = .lst (V.bytes l) := rfl
def pyC (a : List Int) (b : List Nat) (i : Nat) : Rat := mdQ ((a.getD i 0).tmod 10) (if i < b.length then 1 + ((at0 b i % 9 : Nat) : Int) else 1)
def pyL (a : List Int) (b : List Nat) (n : Int) : List Rat := tr (rg (pyC a b) (min a.length n.toNat))
def PyOk (a : List Int) (b : List Nat) (n : Int) : Prop := ((a.length ≤ 9223372036854775807 ∧ b.length ≤ 9223372036854775807) ∧ n ≤ 1000) ∧ (∀ z ∈ a, B8 z) ∧ ∀ z ∈ b, z < 256
def kPyL : Con := con3 pI8 pBs (pN .i64) fun a b n => (PyOk a b n, .lst (V.rats (pyL a b n)))
attribute [go_sem ↓, go_sem] kPyL
set_option maxRecDepth 4000 in
theorem rPoly_C : Ctr Tryz.prog 49 kPyL := Ctr.c3 (by kernel_rfl) fun l b n h => by
 obtain ⟨⟨⟨hl, hbl⟩, hn⟩, h8, h256⟩ := h
 show PCall _ _ _ (.lst (V.rats (pyL l b n)))
 have T := (tabs mixed (tbl_cons rTrim_C (tbl_cons r2Made_C tbl_nil)))
 refine PCall.of_vc T Tryz.func49 rfl Tryz.ntmps49 Tryz.results49 (by simp) ?_
 obtain ⟨F, hF⟩ : ∃ F : Nat → Rat, F = pyC l b := ⟨_, rfl⟩
 unfold pyL
 rw [← hF]
 have mx : maxLen = 9223372036854775807 := by decide
 simp only [go_sem]
 refine AWp.loops (X := { i : Nat // i ≤ min l.length n.toNat }) (fun i => mkSt [(0, .lst (V.i8s l)), (1, .lst (V.bytes b)), (2, .raw (.int .i64 n)), (7, .sl 0 4 0 i.1), (8, .raw (.int .i64 (i.1 : Nat)))] [(0, true, ⟨46, 4, V.rats (rg F i.1)⟩)] 1 46) (fun i => min l.length n.toNat - i.1) ⟨0, Nat.zero_le _⟩ (Wk.of [1] (by decide) ?_) ?_
 ·simp only [go_sem, rg_0, rats_0, Int.natCast_zero]
 ·rintro ⟨i, hi⟩
  refine vc_at T ?_
  by_cases hin : i < min l.length n.toNat
  ·have c1 : (i : Int) < (l.length : Nat) := by omega
   have c2 : (i : Int) < n := by omega
   have c3 : (i : Int) + 1 = ((i + 1 : Nat) : Int) := by omega
   have c5 : i < l.length := by omega
   have c6 : 0 ≤ (i : Int) := by omega
   have b8 := B8.get h8 i
   have f0 : IntKind.i64.wrap (l.getD i 0) = l.getD i 0 := IntWalk.i64_in _ ⟨by have := b8.1; omega, by have := b8.2; omega⟩
   have t1 : (l.getD i 0).tmod 10 < 10 := Int.tmod_lt_of_pos _ (by decide)
   have t2 : -10 < (l.getD i 0).tmod 10 := Int.lt_tmod_of_pos _ (by decide)
   by_cases hb : i < b.length
   ·have c4 : (i : Int) < (b.length : Nat) := by omega
    have f1 : mdQ ((l.getD i 0).tmod 10) (1 + ((at0 b i % 9 : Nat) : Int)) = F i := by rw [hF]; unfold pyC; rw [if_pos hb]
    have f2 : IntKind.i64.wrap (((at0 b i : Nat) : Int) % 9) = ((at0 b i % 9 : Nat) : Int) := by
     rw [IntWalk.i64_in _ ⟨by omega, by omega⟩]; omega
    simp only [go_sem, c1, c2, c3, c4, c5, c6, hb, f0, f2, f1, rg_snoc, mx]
    refine ⟨by omega, ⟨by omega, by omega⟩, ⟨⟨by omega, by omega⟩, by omega, by omega⟩, ⟨by omega, by omega⟩, ⟨by omega, by omega⟩, ⟨i + 1, by omega⟩, ?_, by simp only; omega⟩
    refine Wk.of [33] (by decide) ?_
    simp only [go_sem]
   ·have c4 : ¬ (i : Int) < (b.length : Nat) := by omega
    have f1 : mdQ ((l.getD i 0).tmod 10) 1 = F i := by rw [hF]; unfold pyC; rw [if_neg hb]
    simp only [go_sem, c1, c2, c3, c4, c5, c6, hb, f0, f1, rg_snoc, mx]
    refine ⟨⟨by omega, by omega⟩, ⟨by omega, by omega⟩, ⟨by omega, by omega⟩, ⟨i + 1, by omega⟩, ?_, by simp only; omega⟩
    refine Wk.of [25] (by decide) ?_
    simp only [go_sem]
  ·obtain rfl : i = min l.length n.toNat := by omega
   by_cases hl' : l.length ≤ n.toNat
   ·have c1 : ¬ ((min l.length n.toNat : Nat) : Int) < (l.length : Nat) := by omega
    simp only [go_sem, c1]
    omega
   ·have c1 : ((min l.length n.toNat : Nat) : Int) < (l.length : Nat) := by omega
    have c2 : ¬ ((min l.length n.toNat : Nat) : Int) < n := by omega
    simp only [go_sem, c1, c2]
    omega
def kPolyI : Con := con1 pI8 fun a => (a.length ≤ 1000 ∧ (∀ z ∈ a, B8 z), .lst (V.rats (pyL a [] (a.length : Nat))))
attribute [go_sem ↓, go_sem] kPolyI
theorem lPoly_C : Ctr Tryz.prog 48 kPolyI := Ctr.c1 (by kernel_rfl) fun a h => by
 obtain ⟨hl, h8⟩ := h
 have u0 : (Option.map (fun m => (([] : List V) = V.bytes m, m)) (unB [])) = some (True, []) := by
  have h : (([] : List V) = V.bytes []) = True := eq_true rfl
  show some ((([] : List V) = V.bytes []), ([] : List Nat)) = some (True, [])
  rw [h]
 refine PCall.of_vc (tabs mixed (tbl_cons rPoly_C tbl_nil)) Tryz.func48 rfl Tryz.ntmps48 Tryz.results48 (by simp) ?_
 simp only [go_sem, u0]
 exact ⟨⟨⟨by omega, Nat.zero_le _⟩, by omega⟩, h8, fun z hz => by cases hz⟩
def pRaw4 : Pat (List Int × List Nat) where
 p
  | .agg [.lst a, .lst b] => (uni8 a).bind fun l => (unB b).map fun m => (b = V.bytes m, (l, m))
  | _ => none
 val x := .agg [.lst (V.i8s x.1), .lst (V.bytes x.2)]
 ok x c a h hc := by
  split at h
  ·rename_i x y
   rcases h1 : uni8 x with _ | l <;> rw [h1] at h
   ·cases h
   ·rcases h2 : unB y with _ | m <;> simp only [h2, bind_some] at h
    ·cases h
    ·injection h with h; injection h with h3 h4; subst h3 h4
     rw [uni8_ok x l h1, hc]
     exact .refl _
  ·cases h
@[go_sem ↓, go_sem] theorem ev_pRaw4_mk {x : List Int × List Nat} : pRaw4.val x = .agg [.lst (V.i8s x.1), .lst (V.bytes x.2)] := rfl
def kMade4 : Con := con1 pRaw4 fun x => (PyOk x.1 x.2 5, .lst (V.rats (pyL x.1 x.2 5)))
attribute [go_sem ↓, go_sem] kMade4
theorem made4_C : Ctr Tryz.prog 12 kMade4 := Ctr.c1 (by kernel_rfl) fun x h => by
 obtain ⟨a, b⟩ := x
 refine PCall.of_vc (tabs mixed (tbl_cons rPoly_C tbl_nil)) Tryz.func12 rfl Tryz.ntmps12 Tryz.results12 (by simp) ?_
 simp only [go_sem]
 exact h
end Go.Proofs.YtlhapagililgmaaGreat


/- Contracts: intervals of the laws about package sturm. -/
namespace Go.Proofs.YtlhapagililgmaaGreat
set_option linter.unusedSimpArgs false
set_option linter.unusedVariables false
open Go.RowKit

def wQ (a b : Int) : Rat := mdQ a (1 + b % 256 % 9)
def pIv : Pat ((Int × Int) × Int × Int) where
 p
  | .agg [.agg [.raw (.int .i8 a), .raw (.int .i8 b)], .agg [.raw (.int .i8 c), .raw (.int .i8 d)]] => some (True, ((a, b), (c, d)))
  | _ => none
 val x := .agg [.agg [.raw (.int .i8 x.1.1), .raw (.int .i8 x.1.2)], .agg [.raw (.int .i8 x.2.1), .raw (.int .i8 x.2.2)]]
 ok x c a h hc := by
  split at h
  ·injection h with h; injection h with h1 h2; subst h2; exact .refl _
  ·cases h
@[go_sem ↓, go_sem] theorem ev_pIv {a b c d : Int} : pIv.p (.agg [.agg [.raw (.int .i8 a), .raw (.int .i8 b)], .agg [.raw (.int .i8 c), .raw (.int .i8 d)]]) = some (True, ((a, b), (c, d))) := rfl
def kBnds : Con := con1 pIv fun x => ((B8 x.1.1 ∧ B8 x.1.2) ∧ B8 x.2.1 ∧ B8 x.2.2, .tup [.Q (wQ x.1.1 x.1.2), .Q (wQ x.2.1 x.2.2)])
attribute [go_sem ↓, go_sem] kBnds
set_option maxRecDepth 4000 in
theorem bounds_C : Ctr Tryz.prog 18 kBnds := Ctr.c1 (by kernel_rfl) fun x h => by
 obtain ⟨⟨a, b⟩, c, d⟩ := x
 obtain ⟨⟨⟨a1, a2⟩, b1, b2⟩, ⟨c1, c2⟩, d1, d2⟩ := h
 simp only at a1 a2 b1 b2 c1 c2 d1 d2
 have T := (tabs mixed (tbl_cons r2Made_C tbl_nil))
 have f0 : IntKind.i64.wrap a = a := IntWalk.i64_in _ ⟨by omega, by omega⟩
 have f1 : IntKind.i64.wrap c = c := IntWalk.i64_in _ ⟨by omega, by omega⟩
 show PCall _ _ [.agg [.agg [.raw (.int .i8 a), .raw (.int .i8 b)], .agg [.raw (.int .i8 c), .raw (.int .i8 d)]]] (.tup [.Q (wQ a b), .Q (wQ c d)])
 refine PCall.of_vc T Tryz.func18 rfl Tryz.ntmps18 Tryz.results18 (by simp) ?_
 have f2 : IntKind.i64.wrap (b % 256 % 9) = b % 256 % 9 := IntWalk.i64_in _ ⟨by omega, by omega⟩
 have f3 : IntKind.i64.wrap (d % 256 % 9) = d % 256 % 9 := IntWalk.i64_in _ ⟨by omega, by omega⟩
 have e1 : mdQ a (1 + b % 256 % 9) = wQ a b := rfl
 have e2 : mdQ c (1 + d % 256 % 9) = wQ c d := rfl
 simp only [go_sem, f0, f1, f2, f3, e1, e2]
 refine ⟨by omega, ⟨by omega, by omega⟩, ⟨⟨by omega, by omega⟩, by omega, by omega⟩, by omega, ⟨by omega, by omega⟩, ⟨⟨by omega, by omega⟩, by omega, by omega⟩, by rfl⟩
end Go.Proofs.YtlhapagililgmaaGreat


/- Sizes within chains and signs. -/
namespace Go.Proofs.YtlhapagililgmaaGreat
set_option linter.unusedSimpArgs false
set_option linter.unusedVariables false
open Go.RowKit

theorem ig_sz {a : List Rat} {s : Nat} (hs : PB a s) (i : Nat) : dl (zz (igL a) i).natAbs ≤ s + (a.length * s + 1) := by
 by_cases h : i < a.length
 ·rw [igL_get h]
  exact Nat.le_trans (dl_ediv _ _) (ogI_sz hs i)
 ·have : zz (igL a) i = 0 := by
   unfold zz
   rw [List.getD_eq_getElem?_getD, List.getElem?_eq_none (by rw [igL_len]; omega)]; rfl
  rw [this]
  exact Nat.le_trans ((dl_le (n := 0) (k := 0)).2 (by decide)) (Nat.zero_le _)
theorem SgOk_ig {a : List Rat} {s t : Nat} {x : Rat} (hl : a.length ≤ 1000) (hs : PB a s) (hx : qs x ≤ t) (hb : (a.length + 2) * (s + (a.length * s + 1) + t + 3) ≤ 1000000000000) : SgOk (igL a) x :=
 ⟨by rw [igL_len]; omega, _, t, ⟨fun i => ig_sz hs i, hx⟩, by rw [igL_len]; exact hb⟩
theorem nxt_PB {a b : List Rat} {sa sb : Nat} (ha : Can a) (hb : Can b) (b0 : b ≠ []) (pa : PB a sa) (pb : PB b sb) : PB (nxt a b) (rmB a.length sa b.length sb) := by
 unfold nxt
 rw [if_neg b0]
 exact PB_neg (rm_PB ha hb b0 pa pb)
def stC (S : Nat) : Nat → Nat → Nat → Nat → Nat → Bool
 | 0, _, _, _, _ => false
 | n + 1, la, sa, lb, sb => (decide (sa ≤ S) && (decide (la ≤ 9) && decide (lb ≤ 9))) && (decide (lb = 0) || ((dvC la sa lb sb && decide (rmB la sa lb sb ≤ 5000000000000)) && allB lb fun lr => stC S n lb sb lr (rmB la sa lb sb)))
theorem stJ_nil : ∀ i, stJ [] [] i = ([], [])
 | 0 => rfl
 | i + 1 => by rw [stJ_shift]; exact stJ_nil i
theorem stC_ok {S : Nat} : ∀ (n : Nat) {la sa lb sb : Nat} {a b : List Rat}, stC S n la sa lb sb = true → Can a → Can b → a.length = la → b.length = lb → PB a sa → PB b sb → ∀ i, (stJ a b i).1 ≠ [] → StOk (stJ a b i).1 (stJ a b i).2 ∧ (Can (stJ a b i).1 ∧ PB (stJ a b i).1 S) ∧ (stJ a b i).1.length ≤ 9
 | 0, _, _, _, _, _, _, h, _, _, _, _, _, _, _, _ => by cases h
 | n + 1, la, sa, lb, sb, a, b, h, ca, cb, e1, e2, pa, pb, i, hi => by
   subst e1 e2
   simp only [stC, Bool.and_eq_true, Bool.or_eq_true, decide_eq_true_eq] at h
   obtain ⟨⟨h1, h2, h3⟩, h4⟩ := h
   by_cases b0 : b = []
   ·subst b0
    cases i with
    | zero => exact ⟨⟨⟨by show a.length ≤ _; omega, Nat.zero_le _⟩, fun h => absurd rfl h⟩, ⟨ca, pa.mono h1⟩, h2⟩
    | succ i =>
      rw [stJ_shift] at hi
      exact absurd (by show (stJ [] [] i).1 = []; rw [stJ_nil]) hi
   ·have hbl := List.length_pos_iff.2 b0
    obtain ⟨⟨d1, d2⟩, d3⟩ := h4.resolve_left (by omega)
    have dv := dvC_ok d1 ca cb (Nat.le_refl _) rfl pa pb
    obtain ⟨⟨_, cr⟩, hr, _⟩ := dm_ok ca cb b0
    cases i with
    | zero => exact ⟨⟨⟨by show a.length ≤ _; omega, by show b.length ≤ _; omega⟩, fun _ => ⟨dv, by show (pMod a b).length ≤ _; omega, (rm_PB ca cb b0 pa pb).mono d2⟩⟩, ⟨ca, pa.mono h1⟩, h2⟩
    | succ i =>
      rw [stJ_shift] at hi ⊢
      exact stC_ok n (allB_ok d3 _ (nxt_len ca cb b0)) cb (can_nxt a b) rfl rfl pb (nxt_PB ca cb b0 pa pb) i hi
theorem ChOk_of {p : List Rat} {S n la sa sb : Nat} (h : stC S n la sa (la - 1) sb = true) (hp : Can p) (e : p.length = la) (pa : PB p sa) (pb : PB (pDiff p) sb) (hs : sa ≤ 5000000000000) (hl : la ≤ 1000) : ChOk p ∧ ∀ i, (stI p i).1 ≠ [] → (Can (stI p i).1 ∧ PB (stI p i).1 S) ∧ (stI p i).1.length ≤ 9 := by
 have key := stC_ok n h hp (can_pDiff p) e (by rw [len_pDiff hp, e]) pa pb
 refine ⟨⟨⟨by omega, pa.mono hs⟩, fun i hi => ?_⟩, fun i hi => ?_⟩
 ·rw [stI_J] at hi ⊢
  exact (key i hi).1
 ·rw [stI_J] at hi ⊢
  exact (key i hi).2
theorem IgOk_of {a : List Rat} {s : Nat} (ha : Can a) (a0 : a ≠ []) (hl : a.length ≤ 9) (hs : PB a s) (hb : 11 * (s + 1) ≤ 10000000000) : IgOk a :=
 ⟨⟨ha, a0, by omega⟩, s, hs, Nat.le_trans (Nat.mul_le_mul_right _ (by omega)) hb⟩
theorem chS_get {p : List Rat} (hp : Can p) (p0 : p ≠ []) {i : Nat} (hi : i < (chS p).length) : (chS p).getD i [] = (stI (sqp p) i).1 ∧ (stI (sqp p) i).1 ≠ [] := by
 obtain ⟨N, ⟨h1, _⟩, h3, h4⟩ := stL_I (sqp_can hp p0).1
 have hl : (chS p).length = N := by unfold chS; rw [h1, jL_len]
 rw [hl] at hi
 refine ⟨?_, h4 i hi⟩
 unfold chS
 rw [h1, List.getD_eq_getElem?_getD]
 unfold jL
 rw [List.getElem?_map, List.getElem?_range hi, stI_J]
 rfl
theorem VrOk_of {p : List Rat} {S t : Nat} {x : Rat} (hp : Can p) (p0 : p ≠ []) (hl : p.length ≤ 1000) (h : ∀ i, (stI (sqp p) i).1 ≠ [] → (Can (stI (sqp p) i).1 ∧ PB (stI (sqp p) i).1 S) ∧ (stI (sqp p) i).1.length ≤ 9) (hx : qs x ≤ t) (hb : 11 * (S + (9 * S + 1) + t + 3) ≤ 1000000000000) : VrOk (chZ p) x := by
 have hlen := chS_len hp p0
 refine ⟨by unfold chZ; rw [List.length_map]; omega, fun i hi => ?_⟩
 unfold chZ at hi ⊢
 rw [List.length_map] at hi
 obtain ⟨e1, e2⟩ := chS_get hp p0 hi
 have e : ((chS p).map igL).getD i [] = igL ((chS p).getD i []) := by
  rw [List.getD_eq_getElem?_getD, List.getElem?_map, List.getD_eq_getElem?_getD, List.getElem?_eq_getElem hi]; rfl
 obtain ⟨⟨k1, k2⟩, k3⟩ := h i e2
 rw [e, e1]
 refine SgOk_ig (by omega) k2 hx (Nat.le_trans (Nat.mul_le_mul (show _ + 2 ≤ 11 by omega) ?_) hb)
 have := Nat.mul_le_mul_right S k3
 omega
end Go.Proofs.YtlhapagililgmaaGreat


/- Sizes: the squarefree part and its chain. -/
namespace Go.Proofs.YtlhapagililgmaaGreat
set_option linter.unusedSimpArgs false
set_option linter.unusedVariables false
open Go.RowKit

theorem diff_PB {q : List Rat} {s : Nat} (h : PB q s) (hl : q.length ≤ 1000) : PB (pDiff q) (s + 1) := fun i => by
 rw [cf_pDiff]
 by_cases hi : i + 1 < q.length
 ·have e : ((i + 1 : Nat) : Rat) = (((i + 1 : Nat) : Int) : Rat) := rfl
  have h1 : qs ((i + 1 : Nat) : Rat) ≤ 1 := by
   rw [e]
   exact Nat.le_trans (qs_int _) (Nat.max_le.2 ⟨(dl_le (k := 1)).2 (by rw [Int.natAbs_natCast]; omega), Nat.le_refl 1⟩)
  have := qsM h1 (h (i + 1))
  omega
 ·rw [cf_ge (l := q) (by omega), Rat.mul_zero]
  exact Nat.le_trans qs_0 (by omega)
theorem FrOk_of {p : List Rat} {n la sa sb : Nat} (h : (gcC n la sa (la - 1) sb && allB (la + 1) fun lb => dvC la sa lb (2 * gcM n la sa (la - 1) sb + 1)) = true) (hp : Can p) (p0 : p ≠ []) (e : p.length = la) (pa : PB p sa) (pb : PB (pDiff p) sb) (hs : sa ≤ 5000000000000) (hl : la ≤ 1000) : FrOk p := by
 simp only [Bool.and_eq_true] at h
 obtain ⟨h1, h2⟩ := h
 obtain ⟨g1, g2⟩ := gcC_ok n h1 hp (can_pDiff p) e (by rw [len_pDiff hp, e]) pa pb
 have cG := can_pG hp (can_pDiff p)
 have hlen : (pGcd p (pDiff p)).length ≤ la := by
  have := len_pGcd hp (can_pDiff p)
  rw [this]
  have h3 := dvd_len hp cG (pG_dvd hp (can_pDiff p)).1 p0
  omega
 have gp : PB (pGcd p (pDiff p)) (2 * gcM n la sa (la - 1) sb + 1) := monic_PB g2
 have gc : Can (pGcd p (pDiff p)) := can_pMonic _
 refine ⟨⟨by omega, pa.mono hs⟩, ⟨n, g1⟩, dvC_ok (allB_ok h2 _ (by omega)) hp gc (by omega) rfl pa gp, fun hg => ?_⟩
 have h3 := (dvd_len hp cG (pG_dvd hp (can_pDiff p)).1 p0).2
 have h4 := len_pGcd hp (can_pDiff p)
 rw [hg] at h4
 exact h3 (List.eq_nil_of_length_eq_zero h4.symm)
theorem CkOk_of {p : List Rat} {S n s1 K : Nat} (hK : (sqp p).length < K) (hp : Can p) (p0 : p ≠ []) (hf : FrOk p) (hl : p.length ≤ 9) (hq : PB (sqp p) s1) (h : (allB K fun lq => stC S n lq s1 (lq - 1) (s1 + 1)) = true) (hs : s1 ≤ 5000000000000) (hS : 11 * (S + 1) ≤ 10000000000) : CkOk p ∧ ∀ i, (stI (sqp p) i).1 ≠ [] → (Can (stI (sqp p) i).1 ∧ PB (stI (sqp p) i).1 S) ∧ (stI (sqp p) i).1.length ≤ 9 := by
 obtain ⟨cq, q0⟩ := sqp_can hp p0
 have lq := sqp_le hp p0
 obtain ⟨h1, h2⟩ := ChOk_of (allB_ok h _ hK) cq rfl hq (diff_PB hq (by omega)) hs (by omega)
 exact ⟨⟨⟨hp, p0, hf⟩, h1, fun i hi => IgOk_of (h2 i hi).1.1 hi (h2 i hi).2 (h2 i hi).1.2 hS⟩, h2⟩
end Go.Proofs.YtlhapagililgmaaGreat


/- Sizes: the polynomials of the laws about package sturm. -/
namespace Go.Proofs.YtlhapagililgmaaGreat
set_option linter.unusedSimpArgs false
set_option linter.unusedVariables false
open Go.RowKit

theorem md_nd {z d : Int} (hd : 1 ≤ d) : (mdQ z d).num.natAbs ≤ z.natAbs ∧ (mdQ z d).den ≤ d.toNat := by
 unfold mdQ
 rw [if_neg (by omega)]
 obtain ⟨h1, h2⟩ := low_pos z d (by omega)
 refine ⟨by rw [h1]; exact Int.natAbs_ediv_le_natAbs _ _, ?_⟩
 have h3 : (((Rat.divInt z d).den : Int)).natAbs ≤ d.natAbs := by rw [h2]; exact Int.natAbs_ediv_le_natAbs _ _
 rw [Int.natAbs_natCast] at h3
 omega
theorem pyC_nd (a : List Int) (b : List Nat) (i : Nat) : (pyC a b i).num.natAbs ≤ 9 ∧ (pyC a b i).den ≤ 9 := by
 have t1 : (a.getD i 0).tmod 10 < 10 := Int.tmod_lt_of_pos _ (by decide)
 have t2 : -10 < (a.getD i 0).tmod 10 := Int.lt_tmod_of_pos _ (by decide)
 unfold pyC
 generalize (a.getD i 0).tmod 10 = z at t1 t2 ⊢
 split
 ·obtain ⟨h1, h2⟩ := md_nd (z := z) (d := 1 + ((at0 b i % 9 : Nat) : Int)) (by omega)
  exact ⟨by omega, by omega⟩
 ·obtain ⟨h1, h2⟩ := md_nd (z := z) (d := 1) (by omega)
  exact ⟨by omega, by omega⟩
theorem py_cf (a : List Int) (b : List Nat) (n : Int) (i : Nat) : (cf (pyL a b n) i).num.natAbs ≤ 9 ∧ (cf (pyL a b n) i).den ≤ 9 := by
 unfold pyL rg
 rw [cf_tr, cf_map_range]
 split
 ·exact pyC_nd a b i
 ·exact ⟨by decide, by decide⟩
theorem py_can (a : List Int) (b : List Nat) (n : Int) : Can (pyL a b n) := tr_can _
theorem py_len (a : List Int) (b : List Nat) (n : Int) : (pyL a b n).length ≤ n.toNat := by
 refine Nat.le_trans (tr_len _) ?_
 unfold rg
 simp
 omega
theorem qs_sm {q : Rat} (h1 : q.num.natAbs < 4294967296) (h2 : q.den < 4294967296) : qs q ≤ 1 := Nat.max_le.2 ⟨(dl_le (k := 1)).2 (by simpa using h1), (dl_le (k := 1)).2 (by simpa using h2)⟩
end Go.Proofs.YtlhapagililgmaaGreat


/- The conditions of counting, at the polynomials of the laws. -/
namespace Go.Proofs.YtlhapagililgmaaGreat
set_option linter.unusedSimpArgs false
set_option linter.unusedVariables false
open Go.RowKit

section
variable {p : List Rat}
end
end Go.Proofs.YtlhapagililgmaaGreat


/- The conditions of the reference, at the polynomials of the laws. -/
namespace Go.Proofs.YtlhapagililgmaaGreat
set_option linter.unusedSimpArgs false
set_option linter.unusedVariables false
open Go.RowKit

section
variable {p : List Rat}
end
end Go.Proofs.YtlhapagililgmaaGreat


/- A linear substitution into polynomials. No program in sight. -/
namespace Go.Proofs.YtlhapagililgmaaGreat
set_option linter.unusedSimpArgs false
set_option linter.unusedVariables false

def suL (al be : Rat) : List Rat → List Rat
 | [] => []
 | c :: p => addL [c] (addL (scL be (suL al be p)) (0 :: scL al (suL al be p)))
theorem ev_suL (al be x : Rat) : ∀ p, ev (suL al be p) x = ev p (al * x + be)
 | [] => rfl
 | c :: p => by
   rw [suL, ev_addL, ev_addL, ev_scL]
   show (c + x * 0) + (be * ev (suL al be p) x + (0 + x * ev (scL al (suL al be p)) x)) = c + (al * x + be) * _
   rw [ev_scL, ev_suL al be x p]
   grind
def suP (al be : Rat) (p : List Rat) : List Rat := tr (suL al be p)
theorem can_suP (al be : Rat) (p : List Rat) : Can (suP al be p) := tr_can _
theorem ev_suP (al be x : Rat) (p : List Rat) : ev (suP al be p) x = ev p (al * x + be) := by rw [suP, ev_tr, ev_suL]
theorem su_inv {al : Rat} (h : al ≠ 0) (be : Rat) {p : List Rat} (hp : Can p) : suP al⁻¹ (-(be * al⁻¹)) (suP al be p) = p := ev_inj (can_suP _ _ _) hp fun x => by
 rw [ev_suP, ev_suP]
 congr 1
 have h1 : al * al⁻¹ = 1 := Rat.mul_inv_cancel _ h
 generalize al⁻¹ = y at h1 ⊢
 grind
theorem su_nil (al be : Rat) : suP al be [] = [] := rfl
theorem su_ne {al : Rat} (h : al ≠ 0) (be : Rat) {p : List Rat} (hp : Can p) (p0 : p ≠ []) : suP al be p ≠ [] := fun e => by
 have := su_inv h be hp
 rw [e] at this
 exact p0 this.symm
theorem suL_len (al be : Rat) : ∀ p : List Rat, (suL al be p).length ≤ p.length
 | [] => Nat.le_refl _
 | c :: p => by
   have h1 := suL_len al be p
   rw [suL, List.length_cons, len_addL, len_addL, List.length_cons]
   simp only [List.length_cons, List.length_nil, scL, List.length_map]
   omega
theorem su_le (al be : Rat) (p : List Rat) : (suP al be p).length ≤ p.length := Nat.le_trans (tr_len _) (suL_len al be p)
theorem su_len {al : Rat} (h : al ≠ 0) (be : Rat) {p : List Rat} (hp : Can p) : (suP al be p).length = p.length := by
 have h1 := su_le al be p
 have h2 := su_le al⁻¹ (-(be * al⁻¹)) (suP al be p)
 rw [su_inv h be hp] at h2
 omega
theorem su_dm {al : Rat} (h : al ≠ 0) (be : Rat) {a b : List Rat} (ha : Can a) (hb : Can b) (b0 : b ≠ []) : pDiv (suP al be a) (suP al be b) = suP al be (pDiv a b) ∧ pMod (suP al be a) (suP al be b) = suP al be (pMod a b) := by
 obtain ⟨⟨d1, d2⟩, d3, d4⟩ := dm_ok ha hb b0
 exact dm_eq (can_suP _ _ _) (can_suP _ _ _) (can_suP _ _ _) (can_suP _ _ _) (by rw [su_len h be d2, su_len h be hb]; exact d3) fun x => by rw [ev_suP, ev_suP, ev_suP, ev_suP]; exact d4 _
theorem su_sc {al : Rat} (be c : Rat) (p : List Rat) : suP al be (pSc c p) = pSc c (suP al be p) := ev_inj (can_suP _ _ _) (can_pSc _ _) fun x => by rw [ev_suP, ev_pSc, ev_pSc, ev_suP]
theorem su_nxt {al : Rat} (h : al ≠ 0) (be : Rat) {a b : List Rat} (ha : Can a) (hb : Can b) : nxt (suP al be a) (suP al be b) = suP al be (nxt a b) := by
 by_cases b0 : b = []
 ·subst b0; rfl
 ·have := su_ne h be hb b0
  unfold nxt
  rw [if_neg b0, if_neg this, (su_dm h be ha hb b0).2, su_sc]
theorem su_stL {al : Rat} (h : al ≠ 0) (be : Rat) : ∀ (n : Nat) (a b : List Rat), Can a → Can b → b.length < n → stL (suP al be a) (suP al be b) = (stL a b).map (suP al be)
 | 0, _, _, _, _, hn => absurd hn (Nat.not_lt_zero _)
 | n + 1, a, b, ha, hb, hn => by
   by_cases a0 : a = []
   ·subst a0; rfl
   ·rw [stL_cons ha hb a0, stL_cons (can_suP _ _ _) (can_suP _ _ _) (su_ne h be ha a0), List.map_cons, su_nxt h be ha hb]
    congr 1
    by_cases b0 : b = []
    ·subst b0; rfl
    ·have := nxt_len ha hb b0
     exact su_stL h be n b (nxt a b) hb (can_nxt a b) (by omega)
theorem vrL_su (al be : Rat) (l : List (List Rat)) (x : Rat) : vrL (l.map (suP al be)) x = vrL l (al * x + be) := by
 unfold vrL
 rw [List.map_map]
 congr 1
 refine List.map_congr_left fun q _ => ?_
 exact ev_suP al be x q
end Go.Proofs.YtlhapagililgmaaGreat


/- The squarefree part under a linear substitution. No program in sight. -/
namespace Go.Proofs.YtlhapagililgmaaGreat
set_option linter.unusedSimpArgs false
set_option linter.unusedVariables false

theorem su_pG {al : Rat} (h : al ≠ 0) (be : Rat) : ∀ (n : Nat) (a b : List Rat), Can a → Can b → b.length < n → pG (suP al be a) (suP al be b) = suP al be (pG a b)
 | 0, _, _, _, _, hn => absurd hn (Nat.not_lt_zero _)
 | n + 1, a, b, ha, hb, hn => by
   by_cases b0 : b = []
   ·subst b0
    show pG (suP al be a) [] = _
    rw [pG_nil, pG_nil]
   ·have hr := (dm_ok ha hb b0).2.1
    rw [pG_step ha hb b0, pG_step (can_suP _ _ _) (can_suP _ _ _) (su_ne h be hb b0), (su_dm h be ha hb b0).2]
    exact su_pG h be n b (pMod a b) hb (dm_ok ha hb b0).1.2 (by omega)
theorem ev_dL_su (al be x : Rat) : ∀ q : List Rat, ev (dL (suL al be q)) x = al * ev (dL q) (al * x + be)
 | [] => by show (0 : Rat) = al * 0; grind
 | c :: q => by
   have ih := ev_dL_su al be x q
   have e1 : ev (dL [c]) x = 0 := by rw [ev_dL_cons]; show (0 : Rat) + x * 0 = 0; grind
   rw [suL, ev_dL_add, e1, ev_dL_add, ev_dL_sc, ev_dL_cons 0, ev_dL_sc, ev_scL, ev_suL, ih, ev_dL_cons c]
   grind
theorem su_diff {al : Rat} (be : Rat) (p : List Rat) : pDiff (suP al be p) = pSc al (suP al be (pDiff p)) := ev_inj (can_pDiff _) (can_pSc _ _) fun x => by
 rw [ev_pSc, ev_suP, ev_pDiff, ev_pDiff, suP, ev_dL_tr, ev_dL_su]
theorem su_diff1 (be : Rat) (p : List Rat) : pDiff (suP 1 be p) = suP 1 be (pDiff p) := by
 rw [su_diff]
 exact ev_inj (can_pSc _ _) (can_suP _ _ _) fun x => by rw [ev_pSc]; grind
theorem lead_su1 (be : Rat) {g : List Rat} (hg : Can g) (g0 : g ≠ []) : ∃ c, c ≠ 0 ∧ pMonic (suP 1 be g) = pSc c (suP 1 be (pMonic g)) := by
 have h1 : (1 : Rat) ≠ 0 := by decide
 have n0 := su_ne h1 be hg g0
 have l1 := lead_ne hg g0
 have l2 := lead_ne (can_suP 1 be g) n0
 refine ⟨lead g / lead (suP 1 be g), fun e => ?_, ev_inj (can_pMonic _) (can_pSc _ _) fun x => ?_⟩
 ·rw [Rat.div_def] at e
  rcases Rat.mul_eq_zero.1 e with e | e
  ·exact l1 e
  ·exact l2 (by have := Rat.mul_inv_cancel _ l2; rw [e] at this; grind)
 ·rw [ev_pMonic n0, ev_suP, ev_pSc, ev_suP, ev_pMonic g0]
  have e1 := Rat.mul_inv_cancel _ l1
  rw [Rat.div_def, Rat.div_def, Rat.div_def]
  generalize (lead g)⁻¹ = y at e1 ⊢
  generalize (lead (suP 1 be g))⁻¹ = z
  generalize lead g = L at e1 ⊢
  grind
theorem su_sqp (be : Rat) {p : List Rat} (hp : Can p) (p0 : p ≠ []) : ∃ k, k ≠ 0 ∧ sqp (suP 1 be p) = pSc k (suP 1 be (sqp p)) := by
 have h1 : (1 : Rat) ≠ 0 := by decide
 have cd := can_pDiff p
 have cG := can_pG hp cd
 have G0 := (dvd_len hp cG (pG_dvd hp cd).1 p0).2
 obtain ⟨c, c0, e⟩ := lead_su1 be cG G0
 have eg : pGcd (suP 1 be p) (pDiff (suP 1 be p)) = pSc c (suP 1 be (pGcd p (pDiff p))) := by
  unfold pGcd
  rw [su_diff1, su_pG h1 be _ _ _ hp cd (Nat.lt_succ_self _), e]
 have gc : Can (pGcd p (pDiff p)) := can_pMonic _
 have g0 : pGcd p (pDiff p) ≠ [] := fun e => by
  have h4 := len_pGcd hp cd
  rw [e] at h4
  exact G0 (List.eq_nil_of_length_eq_zero h4.symm)
 obtain ⟨⟨d1, d2⟩, d3, d4⟩ := dm_ok hp gc g0
 have hi : c * c⁻¹ = 1 := Rat.mul_inv_cancel _ c0
 refine ⟨c⁻¹, fun e => by rw [e] at hi; grind, ?_⟩
 unfold sqp
 rw [eg]
 refine (dm_eq (can_suP _ _ _) (can_pSc _ _) (can_pSc _ _) (can_suP 1 be (pMod p (pGcd p (pDiff p)))) ?_ fun x => ?_).1
 ·rw [len_pSc' c0 (can_suP _ _ _), su_len h1 be d2, su_len h1 be gc]; exact d3
 ·have h5 := d4 (1 * x + be)
  rw [ev_pSc, ev_pSc, ev_suP, ev_suP, ev_suP, ev_suP]
  generalize c⁻¹ = y at hi ⊢
  generalize ev (pDiv p (pGcd p (pDiff p))) (1 * x + be) = Q at h5 ⊢
  generalize ev (pGcd p (pDiff p)) (1 * x + be) = G at h5 ⊢
  have : y * Q * (c * G) = (c * y) * (Q * G) := by grind
  grind
theorem vrS_su (be : Rat) {p : List Rat} (hp : Can p) (p0 : p ≠ []) (x : Rat) : vrS (suP 1 be p) x = vrS p (x + be) := by
 obtain ⟨k, k0, e⟩ := su_sqp be hp p0
 obtain ⟨cq, q0⟩ := sqp_can hp p0
 unfold vrS chS
 rw [e, pDiff_sc, su_diff1, stL_sc k0 _ _ _ (can_suP _ _ _) (can_suP _ _ _) (Nat.lt_succ_self _), vrL_sc k0, su_stL (by decide) be _ _ _ cq (can_pDiff _) (Nat.lt_succ_self _), vrL_su]
 rw [show (1 : Rat) * x + be = x + be by grind]
end Go.Proofs.YtlhapagililgmaaGreat


/- Cauchy's bound of the roots. No program in sight. -/
namespace Go.Proofs.YtlhapagililgmaaGreat
set_option linter.unusedSimpArgs false
set_option linter.unusedVariables false

theorem lead_cons2 {c : Rat} {q : List Rat} (h : q ≠ []) : lead (c :: q) = lead q := by
 have := List.length_pos_iff.2 h
 unfold lead cf
 rw [List.length_cons, show q.length + 1 - 1 = q.length - 1 + 1 from by omega]
 simp
theorem cauchy {M x : Rat} (hM : 0 ≤ M) (hx : M + 1 ≤ ab x) : ∀ p : List Rat, p ≠ [] → (∀ i, i + 1 < p.length → ab (cf p i) ≤ M * ab (lead p)) → ab (lead p) ≤ ab (ev p x)
 | [], h, _ => absurd rfl h
 | [c], _, _ => by
   rw [show ev [c] x = c + x * 0 from rfl, show lead [c] = c from rfl, show c + x * 0 = c by grind]
   exact Std.le_refl _
 | c :: d :: q, _, hc => by
   have h2 : d :: q ≠ [] := by simp
   rw [lead_cons2 h2] at hc ⊢
   have ih := cauchy hM hx (d :: q) h2 fun i hi => hc (i + 1) (by simp at hi ⊢; omega)
   have h0 := hc 0 (by simp)
   have h0 : ab c ≤ M * ab (lead (d :: q)) := h0
   show _ ≤ ab (c + x * ev (d :: q) x)
   generalize ev (d :: q) x = E at ih ⊢
   generalize ab (lead (d :: q)) = L at ih h0 ⊢
   have k1 := ab_sub (c + x * E) c
   rw [show c + x * E - c = x * E by grind, ab_mul] at k1
   have k2 : (M + 1) * ab E ≤ ab x * ab E := Rat.mul_le_mul_of_nonneg_right hx (ab_nn E)
   have k3 : M * L ≤ M * ab E := Rat.mul_le_mul_of_nonneg_left ih hM
   grind
end Go.Proofs.YtlhapagililgmaaGreat


/- No changes of sign where the polynomial keeps away from 0. No program in sight. -/
namespace Go.Proofs.YtlhapagililgmaaGreat
set_option linter.unusedSimpArgs false
set_option linter.unusedVariables false

end Go.Proofs.YtlhapagililgmaaGreat


/- Sizes of monic factors, by integers. No program in sight. -/
namespace Go.Proofs.YtlhapagililgmaaGreat
set_option linter.unusedSimpArgs false
set_option linter.unusedVariables false
open Go.RowKit

def Ht (H : Nat) (a : List Rat) : Prop := ∃ t : Rat, t ≠ 0 ∧ IB H (pSc t a)
theorem Bd.mulI {M N : Nat} {x y : Rat} (hx : IsI x) (hy : IsI y) (h : Bd M x) (g : Bd N y) : Bd (M * N) (x * y) := by
 obtain ⟨a, rfl⟩ := hx
 obtain ⟨b, rfl⟩ := hy
 rw [← Rat.intCast_mul]
 rw [Bd_int] at *
 rw [Int.natAbs_mul]
 exact Nat.mul_le_mul h g
theorem IB.mono {H K : Nat} {A : List Rat} (h : IB H A) (hk : H ≤ K) : IB K A := fun i => ⟨(h i).1, (h i).2.mono hk⟩
theorem IB_mulL {H K : Nat} {b : List Rat} (hb : IB K b) : ∀ a : List Rat, IB H a → IB (a.length * (H * K)) (mulL a b)
 | [], _ => fun i => ⟨⟨0, rfl⟩, by
   rw [show cf (mulL [] b) i = 0 from rfl, List.length_nil, Nat.zero_mul]
   unfold Bd; decide⟩
 | c :: a, ha => fun i => by
   have ih := IB_mulL hb a fun i => ha (i + 1)
   have hc := ha 0
   rw [cf_zero] at hc
   rw [List.length_cons, Nat.add_mul, Nat.one_mul]
   have one : ∀ j, Bd (H * K) (c * cf b j) := fun j => Bd.mulI hc.1 (hb j).1 hc.2 (hb j).2
   cases i with
   | zero =>
     rw [cf_mulL_z]
     exact ⟨hc.1.mul (hb 0).1, (one 0).mono (by omega)⟩
   | succ i =>
     rw [cf_mulL_s]
     exact ⟨(hc.1.mul (hb (i + 1)).1).add (ih i).1, ((one (i + 1)).add (ih i).2).mono (by omega)⟩
theorem IB_mul {H K n : Nat} {a b : List Rat} (ha : IB H a) (hb : IB K b) (hn : a.length ≤ n) : IB (n * (H * K)) (pMul a b) := fun i => by
 unfold pMul
 rw [cf_tr]
 exact ⟨(IB_mulL hb a ha i).1, (IB_mulL hb a ha i).2.mono (Nat.mul_le_mul_right _ hn)⟩
theorem Ht.mul {H K n : Nat} {a b : List Rat} (ha : Ht H a) (hb : Ht K b) (hn : a.length ≤ n) : Ht (n * (H * K)) (pMul a b) := by
 obtain ⟨t, t0, h1⟩ := ha
 obtain ⟨s, s0, h2⟩ := hb
 refine ⟨t * s, fun h => (Rat.mul_eq_zero.1 h).elim t0 s0, ?_⟩
 have e : pSc (t * s) (pMul a b) = pMul (pSc t a) (pSc s b) := ev_inj (can_pSc _ _) (can_pMul _ _) fun x => by
  rw [ev_pSc, ev_pMul, ev_pMul, ev_pSc, ev_pSc]; grind
 rw [e]
 exact IB_mul h1 h2 (Nat.le_trans (len_pSc _ _) hn)
theorem Ht.mono {H K : Nat} {a : List Rat} (h : Ht H a) (hk : H ≤ K) : Ht K a := by
 obtain ⟨t, t0, h1⟩ := h
 exact ⟨t, t0, h1.mono hk⟩
theorem dvd_sz {H S : Nat} {a p : List Rat} (hH : H < 4294967296 ^ S ∧ ipB 9 (vlB H 9) < 4294967296 ^ S ∧ 1 ≤ S) (ha : Can a) (a0 : a ≠ []) (h : Ht H a) (la : a.length ≤ 9) (hp : Can p) (p1 : lead p = 1) (hd : pDvd p a) : Sz p 9 S := by
 obtain ⟨t, t0, hI⟩ := h
 obtain ⟨k, hk, e⟩ := hd
 have k0 : k ≠ [] := fun h => a0 (ev_inj ha Can_nil fun x => by rw [e x, h]; show (0 : Rat) * _ = 0; rw [Rat.zero_mul])
 have lA : (pSc t a).length ≤ 9 := by rw [len_pSc' t0 ha]; exact la
 have lk := lead_ne hk k0
 have A0 : pSc t a ≠ [] := fun h => by
  have := len_pSc' t0 ha
  rw [h] at this
  exact a0 (List.eq_nil_of_length_eq_zero this.symm)
 have p0 : p ≠ [] := fun h => by rw [h] at p1; exact absurd p1 (by decide)
 have eL : lead (pSc t a) = t * lead k := by
  rw [lead_pSc t0 ha]
  have e1 : a = pMul k p := ev_inj ha (can_pMul _ _) fun x => by rw [e x, ev_pMul]
  rw [e1, lead_pMul hk hp k0 p0, p1, Rat.mul_one]
 obtain ⟨L, hL⟩ := (hI ((pSc t a).length - 1)).1
 have hL : lead (pSc t a) = (L : Rat) := hL
 have hL0 : L ≠ 0 := fun h0 => by
  have := lead_ne (can_pSc t a) A0
  rw [hL, h0] at this
  exact this rfl
 obtain ⟨d, d1, d2, hdd⟩ := fac_bd (q := pMonic k) (L := L) (can_pSc t a) hI lA hL0 hp p1 (can_pMonic k) (lead_pMonic hk k0) fun x => by
  rw [ev_pSc, e x, ev_pMonic k0, ← hL, eL]
  have : lead k * (1 / lead k) = 1 := by rw [Rat.div_def, Rat.one_mul]; exact Rat.mul_inv_cancel _ lk
  rw [show t * lead k * (ev p x * (1 / lead k * ev k x)) = t * (ev p x * (lead k * (1 / lead k) * ev k x)) from by grind, this]; grind
 refine ⟨Nat.le_trans (dvd_len ha hp ⟨k, hk, e⟩ a0).1 la, fun i => ?_, hp⟩
 obtain ⟨z, hz, hzb⟩ := hdd i
 have hd0 := natR_ne d1
 have ez : cf p i = Rat.divInt z (d : Int) := by
  rw [Rat.divInt_eq_div]
  have := congrArg (fun y => (d : Rat)⁻¹ * y) hz
  simp only [← Rat.mul_assoc, Rat.inv_mul_cancel _ hd0, Rat.one_mul] at this
  rw [this, Rat.div_def, Rat.mul_comm]; rfl
 rw [ez]
 refine Nat.le_trans (qs_divInt _ _) ?_
 have h1 : dl z.natAbs ≤ S := dl_le.2 (by omega)
 have h2 : dl (d : Int).natAbs ≤ S := dl_le.2 (by rw [Int.natAbs_natCast]; omega)
 omega
end Go.Proofs.YtlhapagililgmaaGreat


/- Products of linear factors with known roots: the squarefree part. No program in sight. -/
namespace Go.Proofs.YtlhapagililgmaaGreat
set_option linter.unusedSimpArgs false
set_option linter.unusedVariables false
open Go.RowKit

def atR : List Rat → Rat → Nat
 | [], _ => 0
 | s :: l, r => if s < r then atR l r + 1 else 0
def insR (l : List Rat) (r : Rat) : List Rat := if r ∈ l then l else l.take (atR l r) ++ r :: l.drop (atR l r)
theorem insR_mem (l : List Rat) (r x : Rat) : x ∈ insR l r ↔ x = r ∨ x ∈ l := by
 unfold insR
 split
 ·rename_i h
  exact ⟨.inr, fun h2 => h2.elim (fun e => e ▸ h) id⟩
 ·have e : x ∈ l ↔ x ∈ l.take (atR l r) ∨ x ∈ l.drop (atR l r) := by rw [← List.mem_append, List.take_append_drop]
  rw [List.mem_append, List.mem_cons, e]
  constructor
  ·rintro (h | h | h)
   ·exact .inr (.inl h)
   ·exact .inl h
   ·exact .inr (.inr h)
  ·rintro (h | h | h)
   ·exact .inr (.inl h)
   ·exact .inl h
   ·exact .inr (.inr h)
theorem insR_inc {l : List Rat} (hl : l.Pairwise (· < ·)) (r : Rat) : (insR l r).Pairwise (· < ·) := by
 unfold insR
 split
 ·exact hl
 ·rename_i hr
  induction l with
  | nil => simp [atR]
  | cons s l ih =>
    obtain ⟨h1, h2⟩ := List.pairwise_cons.1 hl
    have hr2 : r ∉ l := fun h => hr (by simp [h])
    unfold atR
    by_cases hs : s < r
    ·rw [if_pos hs, List.take_succ_cons, List.drop_succ_cons, List.cons_append, List.pairwise_cons]
     refine ⟨fun y hy => ?_, ih h2 hr2⟩
     have := (insR_mem l r y).1 (by unfold insR; rw [if_neg hr2]; exact hy)
     rcases this with e | h
     ·rw [e]; exact hs
     ·exact h1 y h
    ·rw [if_neg hs, List.take_zero, List.drop_zero, List.nil_append, List.pairwise_cons]
     have hlt : r < s := by
      have : r ≠ s := fun e => hr (by simp [e])
      grind
     refine ⟨fun y hy => ?_, hl⟩
     rcases List.mem_cons.1 hy with e | h
     ·rw [e]; exact hlt
     ·have := h1 y h
      grind
def prodM (m : Rat → Nat) : List Rat → Rat → Rat
 | [], _ => 1
 | r :: l, x => (x - r) ^ m r * prodM m l x
theorem prodM_app (m : Rat → Nat) (x : Rat) : ∀ a b : List Rat, prodM m (a ++ b) x = prodM m a x * prodM m b x
 | [], b => by show _ = 1 * _; rw [Rat.one_mul]; rfl
 | r :: a, b => by
   rw [List.cons_append, prodM, prodM, prodM_app m x a b, Rat.mul_assoc]
theorem prodM_congr {m m' : Rat → Nat} (x : Rat) : ∀ l : List Rat, (∀ r ∈ l, m r = m' r) → prodM m l x = prodM m' l x
 | [], _ => rfl
 | r :: l, h => by rw [prodM, prodM, h r (by simp), prodM_congr x l fun s hs => h s (by simp [hs])]
theorem prodM_ins (m : Rat → Nat) {l : List Rat} {r : Rat} (h : r ∉ l) (x : Rat) : prodM m (insR l r) x = (x - r) ^ m r * prodM m l x := by
 unfold insR
 rw [if_neg h, prodM_app, prodM]
 have e : prodM m l x = prodM m (l.take (atR l r)) x * prodM m (l.drop (atR l r)) x := by rw [← prodM_app, List.take_append_drop]
 rw [e]; grind
theorem rpow_add (x : Rat) (a : Nat) : ∀ b : Nat, x ^ (a + b) = x ^ a * x ^ b
 | 0 => by rw [Nat.add_zero, Rat.pow_zero, Rat.mul_one]
 | b + 1 => by rw [← Nat.add_assoc, Rat.pow_succ, rpow_add x a b, Rat.pow_succ]; grind
theorem prodM_up {m m' : Rat → Nat} {r : Rat} {k : Nat} (x : Rat) (hr : m' r = m r + k) (hm : ∀ s, s ≠ r → m' s = m s) : ∀ {l : List Rat}, l.Pairwise (· < ·) → r ∈ l → prodM m' l x = (x - r) ^ k * prodM m l x
 | [], _, h => by cases h
 | s :: l, hl, h => by
   obtain ⟨h1, h2⟩ := List.pairwise_cons.1 hl
   rw [prodM, prodM]
   by_cases e : s = r
   ·subst e
    have hn : ∀ t ∈ l, m' t = m t := fun t ht => hm t fun e => by
     have := h1 t ht
     rw [e] at this
     exact Rat.lt_irrefl this
    rw [prodM_congr x l hn, hr, rpow_add]; grind
   ·have hl2 : r ∈ l := (List.mem_cons.1 h).resolve_left fun e2 => e e2.symm
    rw [hm s e, prodM_up x hr hm h2 hl2]; grind
def Kn (p : List Rat) (rs : List Rat) : Prop := rs.Pairwise (· < ·) ∧ ∃ (c : Rat) (m : Rat → Nat), c ≠ 0 ∧ (∀ r ∈ rs, 1 ≤ m r) ∧ ∀ x, ev p x = c * prodM m rs x
theorem Kn.one : Kn [1] [] := ⟨by simp, 1, fun _ => 1, by decide, fun r h => (by cases h), fun x => by rw [ev1]; show (1 : Rat) = 1 * 1; grind⟩
theorem rpow_mul (d y : Rat) : ∀ k : Nat, (d * y) ^ k = d ^ k * y ^ k
 | 0 => by rw [Rat.pow_zero, Rat.pow_zero, Rat.pow_zero, Rat.mul_one]
 | k + 1 => by rw [Rat.pow_succ, Rat.pow_succ, Rat.pow_succ, rpow_mul d y k]; grind
theorem rpow_ne {d : Rat} (h : d ≠ 0) : ∀ k : Nat, d ^ k ≠ 0
 | 0 => by rw [Rat.pow_zero]; decide
 | k + 1 => by
   rw [Rat.pow_succ]
   exact fun e => (Rat.mul_eq_zero.1 e).elim (rpow_ne h k) h
theorem Kn.step {p rs : List Rat} (h : Kn p rs) {d r : Rat} (d0 : d ≠ 0) {k : Nat} (hk : 1 ≤ k) {p' : List Rat} (e : ∀ x, ev p' x = ev p x * (d * (x - r)) ^ k) : Kn p' (insR rs r) := by
 obtain ⟨hi, c, m, c0, hm, hp⟩ := h
 have c1 : c * d ^ k ≠ 0 := fun e2 => (Rat.mul_eq_zero.1 e2).elim c0 (rpow_ne d0 k)
 by_cases hr : r ∈ rs
 ·have e1 : insR rs r = rs := if_pos hr
  obtain ⟨M, hM⟩ : ∃ M : Rat → Nat, M = fun s => if s = r then m r + k else m s := ⟨_, rfl⟩
  have m1 : M r = m r + k := by rw [hM]; exact if_pos rfl
  have m2 : ∀ s, s ≠ r → M s = m s := fun s hs => by rw [hM]; exact if_neg hs
  refine ⟨insR_inc hi r, c * d ^ k, M, c1, fun s hs => ?_, fun x => ?_⟩
  ·rw [e1] at hs
   by_cases hsr : s = r
   ·rw [hsr, m1]; omega
   ·rw [m2 s hsr]; exact hm s hs
  ·rw [e x, hp x, rpow_mul, e1, prodM_up (m := m) (r := r) (k := k) x m1 m2 hi hr]
   generalize prodM m rs x = P
   generalize (x - r) ^ k = Y
   grind
 ·obtain ⟨M, hM⟩ : ∃ M : Rat → Nat, M = fun s => if s = r then k else m s := ⟨_, rfl⟩
  have m1 : M r = k := by rw [hM]; exact if_pos rfl
  have m2 : ∀ s, s ≠ r → M s = m s := fun s hs => by rw [hM]; exact if_neg hs
  refine ⟨insR_inc hi r, c * d ^ k, M, c1, fun s hs => ?_, fun x => ?_⟩
  ·by_cases hsr : s = r
   ·rw [hsr, m1]; omega
   ·rw [m2 s hsr]; exact hm s (((insR_mem rs r s).1 hs).resolve_left hsr)
  ·have e2 : prodM M rs x = prodM m rs x := prodM_congr x rs fun s hs => m2 s fun e => hr (e ▸ hs)
   rw [e x, hp x, rpow_mul, prodM_ins _ hr, e2, m1]
   generalize prodM m rs x = P
   generalize (x - r) ^ k = Y
   grind
end Go.Proofs.YtlhapagililgmaaGreat

