/- Texts S29 LS5a LS5 LS9a in one. -/
import Derived.Test.YtlhapagililgmaaGreatR35
import Derived.Test.YtlhapagililgmaaGreatR31
/- Contracts: products of linear factors of the laws about package sturm. -/
namespace Go.Proofs.YtlhapagililgmaaGreat
set_option linter.unusedSimpArgs false
set_option linter.unusedVariables false
open Go.RowKit

abbrev Tri := Int × Int × Int
def V.trs (l : List Tri) : List V := l.map fun z => .agg [.raw (.int .i8 z.1), .raw (.int .i8 z.2.1), .raw (.int .i8 z.2.2)]
@[go_sem] theorem trs_len (l : List Tri) : (V.trs l).length = l.length := by simp [V.trs]
@[go_sem ↓, go_sem] theorem ev_trs_get {l : List Tri} {i : Nat} {k : V → Prop} : optC (V.trs l)[i]? k = (i < l.length ∧ k (.agg [.raw (.int .i8 (l.getD i (0, 0, 0)).1), .raw (.int .i8 (l.getD i (0, 0, 0)).2.1), .raw (.int .i8 (l.getD i (0, 0, 0)).2.2)])) := by
 unfold V.trs
 rw [List.getElem?_map, List.getD_eq_getElem?_getD]
 by_cases h : i < l.length
 ·simp [List.getElem?_eq_getElem h, optC, h]
 ·simp [List.getElem?_eq_none (Nat.le_of_not_lt h), optC, h]
@[go_sem] theorem trs_frz (l : List Tri) : frzOk (V.trs l) = True := eq_true (frzOk_map (fun a => ⟨rfl, by simp, by simp⟩) l)
def untrs : List V → Option (List Tri)
 | [] => some []
 | .agg [.raw (.int .i8 x), .raw (.int .i8 y), .raw (.int .i8 z)] :: l => (untrs l).map ((x, y, z) :: ·)
 | _ => none
theorem untrs_ok : ∀ (l : List V) (m : List Tri), untrs l = some m → l = V.trs m
 | [], m, h => by injection h with h; subst h; rfl
 | x :: l, m, h => by
   unfold untrs at h
   split at h
   ·cases ‹_ = []›
   ·rename_i q1 q2 q3 l' e
    injection e with e1 e2; subst e1 e2
    rcases hm : untrs l with _ | m' <;> rw [hm] at h
    ·cases h
    ·injection h with h
     subst h
     rw [untrs_ok l m' hm]
     rfl
   ·cases h
@[go_sem ↓, go_sem] theorem untrs_trs (l : List Tri) : untrs (V.trs l) = some l := by
 induction l with
 | nil => rfl
 | cons x l ih =>
   show (untrs (V.trs l)).map ((x.1, x.2.1, x.2.2) :: ·) = _
   rw [ih]; rfl
def lnR (r : Rat) : List Rat := tr [-((r.num : Int) : Rat), ((r.den : Int) : Rat)]
theorem rWhole4_C : Ctr Tryz.prog 115 kSWhole := Ctr.c1 (by kernel_rfl) fun z h => by
 refine PCall.of_vc (tabs mixed (tbl_cons rof_C tbl_nil)) Tryz.func115 rfl Tryz.ntmps115 Tryz.results115 (by simp) ?_
 simp only [go_sem]
 exact ⟨by rfl, out_Q (.refl _) (.refl _) rfl rfl⟩
def kLin : Con := con1 pQ fun r => (qs r ≤ 1000, .lst (V.rats (lnR r)))
attribute [go_sem ↓, go_sem] kLin
theorem lin_C : Ctr Tryz.prog 77 kLin := Ctr.c1 (by kernel_rfl) fun r h => by
 show PCall _ _ _ (.lst (V.rats (tr [-((r.num : Int) : Rat), ((r.den : Int) : Rat)])))
 have h1 : qs ((r.num : Int) : Rat) ≤ 12000000000000 := Nat.le_trans (qs_int _) (Nat.max_le.2 ⟨Nat.le_trans (qs_num r) (by omega), by decide⟩)
 refine PCall.of_vc (tabs mixed (tbl_cons rWhole4_C (tbl_cons r2Neg_C (tbl_cons rTrim_C tbl_nil)))) Tryz.func77 rfl Tryz.ntmps77 Tryz.results77 (by simp) ?_
 simp only [go_sem, h1]
 exact by rfl
def rtQ (z : Tri) : Rat := mdQ (z.1.tmod 10) (1 + z.2.1 % 256 % 5)
def rtN (z : Tri) : Nat := (z.2.2 % 256 % 2).toNat
def mulK (o f : List Rat) : Nat → List Rat
 | 0 => o
 | k + 1 => pMul (mulK o f k) f
def pdP (L : List Tri) : Nat → List Rat
 | 0 => pyL [1] [] 1
 | i + 1 => mulK (pdP L i) (lnR (rtQ (L.getD i (0, 0, 0)))) (rtN (L.getD i (0, 0, 0)) + 1)
def pdR (L : List Tri) : Nat → List Rat
 | 0 => []
 | i + 1 => insR (pdR L i) (rtQ (L.getD i (0, 0, 0)))
def qdP (C : List Nat) : List Rat := pyL [1 + ((at0 C 0 % 9 : Nat) : Int), 0, 1] [] 3
def prP (L : List Tri) (C : List Nat) : List Rat := if C = [] then pdP L (min L.length 3) else pMul (pdP L (min L.length 3)) (qdP C)
def prR (L : List Tri) : List Rat := pdR L (min L.length 3)
theorem lnR_eq (r : Rat) : lnR r = [-((r.num : Int) : Rat), ((r.den : Int) : Rat)] := by
 have h := r.den_pos
 refine tr_of_can ?_
 rw [Can_cons, if_neg (by simp), Can_cons, if_pos rfl]
 intro e
 have : (r.den : Int) = 0 := intCast_inj4 e
 omega
theorem lnR_ev (r x : Rat) : ev (lnR r) x = (r.den : Rat) * (x - r) := by
 rw [lnR_eq]
 have := rat_md r
 show -((r.num : Int) : Rat) + x * (((r.den : Int) : Rat) + x * 0) = _
 have e : (((r.den : Nat) : Int) : Rat) = (r.den : Rat) := rfl
 rw [e, ← this]
 grind
theorem lnR_can (r : Rat) : Can (lnR r) := tr_can _
theorem rtQ_nd {z : Tri} : (rtQ z).num.natAbs ≤ 9 ∧ (rtQ z).den ≤ 5 := by
 have t1 : z.1.tmod 10 < 10 := Int.tmod_lt_of_pos _ (by decide)
 have t2 : -10 < z.1.tmod 10 := Int.lt_tmod_of_pos _ (by decide)
 obtain ⟨h1, h2⟩ := md_nd (z := z.1.tmod 10) (d := 1 + z.2.1 % 256 % 5) (by omega)
 unfold rtQ
 exact ⟨by omega, by omega⟩
theorem rtQ_sz {z : Tri} : qs (rtQ z) ≤ 1 := by
 obtain ⟨h1, h2⟩ := rtQ_nd (z := z)
 exact qs_sm (by omega) (by omega)
structure PdI (o : List Rat) (j : Nat) : Prop where
 can : Can o
 len : o.length = j + 1
 ib : IB (18 ^ j) o
theorem PdI.one : PdI (pyL [1] [] 1) 0 := by
 have e : pyL [1] [] 1 = [1] := by decide +kernel
 rw [e]
 refine ⟨by rw [Can_cons, if_pos rfl]; decide, rfl, fun i => ?_⟩
 cases i with
 | zero => exact ⟨⟨1, rfl⟩, by rw [cf_zero]; unfold Bd; decide⟩
 | succ i => exact ⟨⟨0, rfl⟩, by rw [cf_succ, cf_nil]; unfold Bd; decide⟩
theorem lnR_ib {r : Rat} (h1 : r.num.natAbs ≤ 9) (h2 : r.den ≤ 5) : IB 9 (lnR r) := by
 rw [lnR_eq]
 intro i
 rcases i with _ | _ | i
 ·rw [cf_zero, ← Rat.intCast_neg]
  exact ⟨⟨_, rfl⟩, Bd_int.2 (by omega)⟩
 ·rw [cf_succ, cf_zero]
  exact ⟨⟨_, rfl⟩, Bd_int.2 (by omega)⟩
 ·rw [cf_succ, cf_succ, cf_nil]
  exact ⟨⟨0, rfl⟩, by unfold Bd; decide⟩
theorem PdI.step {o : List Rat} {j : Nat} (h : PdI o j) {r : Rat} (h1 : r.num.natAbs ≤ 9) (h2 : r.den ≤ 5) : PdI (pMul o (lnR r)) (j + 1) := by
 have l2 : (lnR r).length = 2 := by rw [lnR_eq]; rfl
 have n2 : lnR r ≠ [] := by rw [lnR_eq]; simp
 have n1 : o ≠ [] := fun e => by have := h.len; rw [e] at this; simp at this
 refine ⟨can_pMul _ _, by rw [len_pMul h.can (lnR_can r) n1 n2, h.len, l2]; omega, ?_⟩
 rw [pMul_comm]
 have := IB_mul (lnR_ib h1 h2) h.ib (n := 2) (by omega)
 rw [Nat.pow_succ]
 refine this.mono (by omega)
theorem IB.pb {H : Nat} {o : List Rat} (h : IB H o) (hH : H < 4294967296) : PB o 1 := fun i => by
 obtain ⟨⟨z, hz⟩, hb⟩ := h i
 rw [hz] at hb ⊢
 have := Bd_int.1 hb
 exact Nat.le_trans (qs_int z) (Nat.max_le.2 ⟨(dl_le (k := 1)).2 (by simp; omega), Nat.le_refl _⟩)
theorem PdI.sz {o : List Rat} {j : Nat} (h : PdI o j) (hj : j ≤ 6) : Sz o 7 1 :=
 ⟨by rw [h.len]; omega, h.ib.pb (Nat.lt_of_le_of_lt (Nat.pow_le_pow_right (by decide) hj) (by decide)), h.can⟩
theorem lnR_sz {r : Rat} (h1 : r.num.natAbs ≤ 9) (h2 : r.den ≤ 5) : Sz (lnR r) 2 1 := ⟨by rw [lnR_eq]; simp, (lnR_ib h1 h2).pb (by decide), lnR_can r⟩
theorem PdI.mulK {o : List Rat} {j : Nat} (h : PdI o j) {r : Rat} (h1 : r.num.natAbs ≤ 9) (h2 : r.den ≤ 5) : ∀ k, PdI (mulK o (lnR r) k) (j + k)
 | 0 => h
 | k + 1 => (PdI.mulK h h1 h2 k).step h1 h2
theorem PdI.all (L : List Tri) : ∀ i, ∃ j, j ≤ 2 * i ∧ PdI (pdP L i) j
 | 0 => ⟨0, Nat.le_refl _, PdI.one⟩
 | i + 1 => by
   obtain ⟨j, h1, h2⟩ := PdI.all L i
   obtain ⟨k1, k2⟩ := rtQ_nd (z := L.getD i (0, 0, 0))
   have hn : rtN (L.getD i (0, 0, 0)) ≤ 1 := by unfold rtN; omega
   exact ⟨_, by omega, PdI.mulK h2 k1 k2 (rtN (L.getD i (0, 0, 0)) + 1)⟩
theorem pdR_len (L : List Tri) : ∀ i, (pdR L i).length ≤ i
 | 0 => Nat.le_refl _
 | i + 1 => by
   have := pdR_len L i
   have := insR_len (pdR L i) (rtQ (L.getD i (0, 0, 0)))
   rw [pdR]; omega
theorem pdR_inc (L : List Tri) : ∀ i, (pdR L i).Pairwise (· < ·)
 | 0 => List.Pairwise.nil
 | i + 1 => insR_inc (pdR_inc L i) _
theorem pdR_mem (L : List Tri) : ∀ i, ∀ r ∈ pdR L i, r.num.natAbs ≤ 9 ∧ r.den ≤ 5
 | 0, r, h => by cases h
 | i + 1, r, h => by
   rcases (insR_mem _ _ _).1 h with e | e
   ·rw [e]; exact rtQ_nd
   ·exact pdR_mem L i r e
theorem pdR_qs (L : List Tri) (i k : Nat) : qs (cf (pdR L i) k) ≤ 1 := by
 by_cases hk : k < (pdR L i).length
 ·obtain ⟨h1, h2⟩ := pdR_mem L i _ (mem_cf.2 ⟨k, hk, rfl⟩)
  exact qs_sm (by omega) (by omega)
 ·rw [cf_ge (by omega)]; exact qs_0
def TrOk (L : List Tri) (C : List Nat) : Prop := (L.length ≤ 9223372036854775807 ∧ C.length ≤ 9223372036854775807) ∧ (∀ z ∈ L, B8 z.1 ∧ B8 z.2.1 ∧ B8 z.2.2) ∧ ∀ c ∈ C, c < 256
def pRt : Pat (List Tri × List Nat) where
 p
  | .agg [.lst a, .lst b] => (untrs a).bind fun l => (unB b).map fun m => (b = V.bytes m, (l, m))
  | _ => none
 val x := .agg [.lst (V.trs x.1), .lst (V.bytes x.2)]
 ok x c a h hc := by
  split at h
  ·rename_i x y
   rcases h1 : untrs x with _ | l <;> rw [h1] at h
   ·cases h
   ·rcases h2 : unB y with _ | m <;> simp only [h2, bind_some] at h
    ·cases h
    ·injection h with h; injection h with h3 h4; subst h3 h4
     rw [untrs_ok x l h1, hc]
     exact .refl _
  ·cases h
@[go_sem ↓, go_sem] theorem ev_pRt {a b : List V} : pRt.p (.agg [.lst a, .lst b]) = (untrs a).bind fun l => (unB b).map fun m => (b = V.bytes m, (l, m)) := rfl
@[go_sem ↓, go_sem] theorem ev_pRt_mk {x : List Tri × List Nat} : pRt.val x = .agg [.lst (V.trs x.1), .lst (V.bytes x.2)] := rfl
def kProd4 : Con := con1 pRt fun x => (TrOk x.1 x.2, .tup [.lst (V.rats (prP x.1 x.2)), .lst (V.rats (prR x.1))])
attribute [go_sem ↓, go_sem] kProd4
set_option maxRecDepth 8000 in
set_option maxHeartbeats 1000000 in
theorem prod4_C : Ctr Tryz.prog 24 kProd4 := Ctr.c1 (by kernel_rfl) fun x h => by
 obtain ⟨L, C⟩ := x
 obtain ⟨⟨lL, lC⟩, h8, hC⟩ := h
 simp only at lL lC h8 hC
 show PCall _ _ [.agg [.lst (V.trs L), .lst (V.bytes C)]] (.tup [.lst (V.rats (prP L C)), .lst (V.rats (prR L))])
 have T := (tabs mixed (tbl_cons lPoly_C (tbl_cons r2Made_C (tbl_cons lin_C (tbl_cons rPMul_C (tbl_cons r2Cmp_C (tbl_cons r2Same_C (tbl_cons rPoly_C tbl_nil))))))))
 have w1 := z4b [1] (by decide)
 have mx : maxLen = 9223372036854775807 := by decide
 refine PCall.of_vc T Tryz.func24 rfl Tryz.ntmps24 Tryz.results24 (by simp) ?_
 simp only [go_sem, w1]
 refine AWp.loops (X := { i : Nat // i ≤ min L.length 3 }) (fun i => mkSt [(1, .ptr 0 2 0 0), (4, .lst (V.rats (pdP L i.1))), (5, .sl 1 4 0 (pdR L i.1).length), (6, .raw (.int .i64 (i.1 : Nat)))]
  [(0, true, ⟨55, 2, [.agg [.lst (V.trs L), .lst (V.bytes C)]]⟩), (1, true, ⟨46, 4, V.rats (pdR L i.1)⟩)] 2 119) (fun i => min L.length 3 - i.1) ⟨0, Nat.zero_le _⟩ (Wk.of [0, 5] (by decide) ?_) ?_
 ·have e0 : pdP L 0 = pyL [1] [] 1 := rfl
  have e1 : pdR L 0 = [] := rfl
  have e2 : V.rats [] = [] := rfl
  simp only [go_sem, Int.natCast_zero, e0, e1, e2, List.length_nil]
 rintro ⟨i, hi⟩
 refine vc_at T ?_
 obtain ⟨z, ez⟩ : ∃ z, L.getD i (0, 0, 0) = z := ⟨_, rfl⟩
 by_cases hin : i < min L.length 3
 ·have hz : B8 z.1 ∧ B8 z.2.1 ∧ B8 z.2.2 := by
   rw [← ez, List.getD_eq_getElem?_getD, List.getElem?_eq_getElem (show i < L.length by omega)]
   exact h8 _ (List.getElem_mem _)
  obtain ⟨⟨a1, a2⟩, ⟨a3, a4⟩, a5, a6⟩ := hz
  have c1 : (i : Int) < (L.length : Int) := by omega
  have c2 : (i : Int) < 3 := by omega
  have c3 : (i : Int) + 1 = ((i + 1 : Nat) : Int) := by omega
  have c4 : 0 ≤ (i : Int) := by omega
  have c5 : i < L.length := by omega
  have t1 : z.1.tmod 10 < 10 := Int.tmod_lt_of_pos _ (by decide)
  have t2 : -10 < z.1.tmod 10 := Int.lt_tmod_of_pos _ (by decide)
  have f0 : IntKind.i64.wrap z.1 = z.1 := IntWalk.i64_in _ ⟨by omega, by omega⟩
  have f1 : IntKind.i64.wrap (z.2.1 % 256 % 5) = z.2.1 % 256 % 5 := IntWalk.i64_in _ ⟨by omega, by omega⟩
  have f2 : mdQ (z.1.tmod 10) (1 + z.2.1 % 256 % 5) = rtQ z := rfl
  obtain ⟨r, er⟩ : ∃ r, rtQ z = r := ⟨_, rfl⟩
  obtain ⟨n1, n2⟩ := rtQ_nd (z := z)
  have qr := rtQ_sz (z := z)
  rw [er] at n1 n2 qr f2
  obtain ⟨P, eP⟩ : ∃ P, pdP L i = P := ⟨_, rfl⟩
  obtain ⟨R, eR⟩ : ∃ P, pdR L i = P := ⟨_, rfl⟩
  obtain ⟨j, hj, hP⟩ := PdI.all L i
  have iR := pdR_inc L i
  have lR := pdR_len L i
  have qR := pdR_qs L i
  have xP : pdP L (i + 1) = mulK P (lnR r) (rtN z + 1) := by rw [pdP, ez, eP, er]
  have xR : pdR L (i + 1) = insR R r := by rw [pdR, ez, eR, er]
  rw [eP] at hP
  rw [eR] at iR lR qR
  simp only [go_sem, c1, c2, c4, c5, ez, f0, f1, f2, eP, eR]
  refine ⟨by omega, ⟨by omega, by omega⟩, ⟨⟨by omega, by omega⟩, by omega, by omega⟩, by rfl, ?_⟩
  refine AWp.loops (X := { n : Nat // n ≤ rtN z + 1 }) (fun n => mkSt [(1, .ptr 0 2 0 0), (4, .lst (V.rats (mulK P (lnR r) n.1))), (5, .sl 1 4 0 R.length), (6, .raw (.int .i64 (i : Nat))), (7, .ptr 2 4 0 0), (8, .raw (.int .i64 (n.1 : Nat)))]
   [(0, true, ⟨55, 2, [.agg [.lst (V.trs L), .lst (V.bytes C)]]⟩), (1, true, ⟨46, 4, V.rats R⟩), (2, true, ⟨46, 4, [.Q r]⟩)] 3 119) (fun n => rtN z + 1 - n.1) ⟨0, Nat.zero_le _⟩ (Wk.of [0, 1, 30] (by decide) ?_) ?_
  ·have e0 : mulK P (lnR r) 0 = P := rfl
   simp only [go_sem, Int.natCast_zero, e0]
  rintro ⟨n, hn⟩
  refine vc_at T ?_
  have hN : rtN z ≤ 1 := by unfold rtN; omega
  have hPn := PdI.mulK hP n1 n2 n
  have sP := hPn.sz (by omega)
  have g1 := mr_of sP (lnR_sz n1 n2) (by decide)
  have eN : ((rtN z : Nat) : Int) = z.2.2 % 256 % 2 := by unfold rtN; omega
  have f4 : z.2.2 % 256 % 2 = ((rtN z : Nat) : Int) := eN.symm
  have f5 : IntKind.i64.wrap ((rtN z : Nat) : Int) = ((rtN z : Nat) : Int) := IntWalk.i64_in _ ⟨by omega, by omega⟩
  obtain ⟨Q, eQ⟩ : ∃ Q, mulK P (lnR r) n = Q := ⟨_, rfl⟩
  have eQ' : mulK P (lnR r) (n + 1) = pMul Q (lnR r) := by rw [mulK, eQ]
  rw [eQ] at g1
  have qr1 : qs r ≤ 1000 := by omega
  by_cases hnn : n ≤ rtN z
  ·have d1 : (n : Int) ≤ ((rtN z : Nat) : Int) := by omega
   have d2 : (n : Int) + 1 = ((n + 1 : Nat) : Int) := by omega
   have d3 := eq_true g1
   simp only [go_sem, c4, c5, ez, f4, f5, d1, d2, d3, eQ, qr1]
   refine ⟨by omega, by omega, ⟨by omega, by omega⟩, ⟨n + 1, by omega⟩, Wk.of [0, 1, 2] (by decide) ?_, by simp only; omega⟩
   simp only [go_sem, eQ']
  ·obtain rfl : n = rtN z + 1 := by omega
   have d1 : ¬ (((rtN z + 1 : Nat)) : Int) ≤ ((rtN z : Nat) : Int) := by omega
   rw [eQ] at xP
   simp only [go_sem, c4, c5, ez, f4, f5, d1, eQ]
   refine ⟨by omega, by omega, ?_⟩
   obtain ⟨A, aL, aLt, aAt, aM, aI⟩ : ∃ A, A ≤ R.length ∧ (∀ k, k < A → cf R k < r) ∧ (A < R.length → ¬ cf R A < r) ∧ (r ∈ R ↔ A < R.length ∧ cf R A = r) ∧ insR R r = if r ∈ R then R else R.take A ++ r :: R.drop A := ⟨atR R r, atR_le R r, atR_lt R r, atR_at R r, atR_mem iR r, rfl⟩
   refine AWp.loops (X := { a : Nat // a ≤ A }) (fun a => mkSt [(1, .ptr 0 2 0 0), (4, .lst (V.rats Q)), (5, .sl 1 4 0 R.length), (6, .raw (.int .i64 (i : Nat))), (7, .ptr 2 4 0 0), (9, .raw (.int .i64 (a.1 : Nat)))]
    [(0, true, ⟨55, 2, [.agg [.lst (V.trs L), .lst (V.bytes C)]]⟩), (1, true, ⟨46, 4, V.rats R⟩), (2, true, ⟨46, 4, [.Q r]⟩)] 3 119) (fun a => A - a.1) ⟨0, Nat.zero_le _⟩ (Wk.of [0, 1, 2] (by decide) ?_) ?_
   ·simp only [go_sem, Int.natCast_zero]
   rintro ⟨a, ha⟩
   refine vc_at T ?_
   have qa : qs (cf R a) ≤ 5000000000000 := Nat.le_trans (qR a) (by decide)
   have qr2 : qs r ≤ 5000000000000 := by omega
   have d3 : 0 ≤ (a : Int) := by omega
   have s1 := eq_true (show dl (cf R a).num.natAbs ≤ 30000000000000 from Nat.le_trans (sz_num (qR a)) (by decide))
   have s2 := eq_true (show dl ((cf R a).den : Int).natAbs ≤ 30000000000000 from Nat.le_trans (sz_den (qR a)) (by decide))
   have s3 := eq_true (show dl r.num.natAbs ≤ 30000000000000 from Nat.le_trans (sz_num qr) (by decide))
   have s4 := eq_true (show dl (r.den : Int).natAbs ≤ 30000000000000 from Nat.le_trans (sz_den qr) (by decide))
   by_cases haa : a < A
   ·have hal : a < R.length := by omega
    have d1' : (a : Int) < (R.length : Int) := by omega
    have d2 : (a : Int) + 1 = ((a + 1 : Nat) : Int) := by omega
    have d4 : cmpQ (cf R a) r < 0 := by
     unfold cmpQ
     rw [if_pos (aLt a haa)]; decide
    simp only [go_sem, hal, d1', d2, d3, d4, qa, qr2]
    refine ⟨by rfl, ⟨by omega, by omega⟩, ⟨a + 1, haa⟩, Wk.of [0, 1, 2] (by decide) ?_, by simp only; omega⟩
    simp only [go_sem]
   ·obtain rfl : a = A := by omega
    have l1 : a + (R.length - a) ≤ R.length := by omega
    have l2 : List.take (R.length - a) (List.drop a R) = List.drop a R := List.take_of_length_le (by rw [List.length_drop]; exact Nat.le_refl _)
    have l3 : (List.drop a R).length = R.length - a := List.length_drop
    have l4 : (List.take a R).length = a := by rw [List.length_take]; omega
    have l5 : a ≤ R.length := aL
    have l6 : (a : Int) ≤ (R.length : Int) := by omega
    by_cases hal : a < R.length
    ·have d1' : (a : Int) < (R.length : Int) := by omega
     have d4 : ¬ cmpQ (cf R a) r < 0 := by
      have := aAt hal
      unfold cmpQ
      rw [if_neg this]
      split <;> decide
     by_cases hs : cf R a = r
     ·have d5 : decide (cf R a = r) = true := decide_eq_true hs
      have xI : insR R r = R := by rw [aI, if_pos (aM.2 ⟨hal, hs⟩)]
      simp only [go_sem, hal, d1', d3, d4, d5, qa, qr2, s1, s2, s3, s4, qpair]
      refine ⟨by rfl, by rfl, ⟨by omega, by omega⟩, ⟨i + 1, hin⟩, Wk.of [0, 1] (by decide) ?_, by simp only; omega⟩
      simp only [go_sem, xP, xR, xI, c3]
     ·have d5 : decide (cf R a = r) = false := decide_eq_false hs
      have xI : insR R r = R.take a ++ r :: R.drop a := by rw [aI, if_neg fun h => hs (aM.1 h).2]
      simp only [go_sem, hal, d1', d3, d4, d5, qa, qr2, s1, s2, s3, s4, qpair, mx, l1, l2, l3, l4, l5, l6]
      have xJ : List.take (a + 1) (List.take a R ++ [r]) ++ List.drop a R = pdR L (i + 1) := by
       rw [List.take_of_length_le (by rw [List.length_append, l4]; exact Nat.le_refl _), xR, xI, List.append_assoc]; rfl
      have lW : (pdR L (i + 1)).length = a + 1 + (R.length - a) := by
       rw [xR, xI, List.length_append, List.length_cons, l4, l3]; omega
      refine ⟨by rfl, by rfl, by omega, ⟨by omega, by omega⟩, ⟨by omega, by omega⟩, by rfl, ⟨by omega, by omega⟩, ⟨by omega, by omega⟩, ⟨i + 1, hin⟩, Wk.of [0, 43] (by decide) ?_, by simp only; omega⟩
      simp only [go_sem, xJ, lW, xP, c3]
    ·have xI : insR R r = R.take a ++ r :: R.drop a := by rw [aI, if_neg fun h => hal (aM.1 h).1]
     have d1' : ¬ (a : Int) < (R.length : Int) := by omega
     by_cases a0 : a = 0
     ·have R0 : R = [] := List.eq_nil_of_length_eq_zero (by omega)
      subst R0 a0
      have m1 : V.rats [] = [] := rfl
      have xI2 : insR [] r = [r] := xI
      simp only [go_sem, m1, mx, List.length_nil, Int.natCast_zero]
      have xV : V.rats (pdR L (i + 1)) = [.Q r] := by rw [xR, xI2]; rfl
      have lW : (pdR L (i + 1)).length = 1 := by rw [xR, xI2]; rfl
      refine ⟨by rfl, by rfl, by rfl, ⟨by omega, by omega⟩, ⟨i + 1, hin⟩, Wk.of [0, 43] (by decide) ?_, by simp only; omega⟩
      simp only [go_sem, xV, lW, xP, c3]
     ·simp only [go_sem, hal, a0, d1', d3, mx, l1, l2, l3, l4, l5, l6]
      have aR : a = R.length := by omega
      have xJ : List.take (a + 1) (List.take a R ++ [r]) = pdR L (i + 1) := by
       rw [List.take_of_length_le (by rw [List.length_append, l4]; exact Nat.le_refl _), xR, xI, List.drop_of_length_le (by omega)]
      have lW : (pdR L (i + 1)).length = a + 1 := by
       rw [xR, xI, List.length_append, List.length_cons, l4, l3]; omega
      refine ⟨by rfl, by rfl, by omega, ⟨by omega, by omega⟩, by rfl, ⟨by omega, by omega⟩, ⟨by omega, by omega⟩, ⟨i + 1, hin⟩, Wk.of [0, 43] (by decide) ?_, by simp only; omega⟩
      simp only [go_sem, xJ, lW, xP, c3]
 ·obtain rfl : i = min L.length 3 := by omega
  obtain ⟨P, eP⟩ : ∃ P, pdP L (min L.length 3) = P := ⟨_, rfl⟩
  obtain ⟨R, eR⟩ : ∃ P, prR L = P := ⟨_, rfl⟩
  have eR' : pdR L (min L.length 3) = R := eR
  obtain ⟨j, hj, hP⟩ := PdI.all L (min L.length 3)
  rw [eP] at hP
  have tk : List.take R.length R = R := List.take_length
  have key : ∃ B : Prop, (((min L.length 3 : Nat) : Int) < (L.length : Int)) = B ∧ (B = False ∨ (B = True ∧ ((((min L.length 3 : Nat) : Int) < 3) = False))) := by
   by_cases h : L.length ≤ 3
   ·exact ⟨False, eq_false (by omega), .inl rfl⟩
   ·exact ⟨True, eq_true (by omega), .inr ⟨rfl, eq_false (by omega)⟩⟩
  obtain ⟨B, b1, b2⟩ := key
  by_cases hC0 : C = []
  ·subst hC0
   have e1 : prP L [] = P := by unfold prP; rw [if_pos rfl, eP]
   have e2 : ¬ (0 : Int) < ((([] : List Nat).length : Nat) : Int) := by decide
   rw [e1, eR]
   rcases b2 with rfl | ⟨rfl, b3⟩
   ·simp only [go_sem, b1, e2, eP, eR', tk]
   ·simp only [go_sem, b1, b3, e2, eP, eR', tk]
  ·have cl := List.length_pos_iff.2 hC0
   have e2 : (0 : Int) < (C.length : Int) := by omega
   have e3 : (0 : Nat) < C.length := cl
   have hc0 : at0 C 0 < 256 := by
    match C, hC0 with
    | c :: C', _ => exact hC c (by simp)
   have f0 : cvI IntKind.i8 (((at0 C 0 : Nat) : Int) % 9) = ((at0 C 0 % 9 : Nat) : Int) := by
    show IntKind.i8.wrap (((at0 C 0 : Nat) : Int) % 9) = _
    rw [IntWalk.i8_in _ ⟨by omega, by omega⟩]; omega
   have u0 : (Option.map (fun m => (([] : List V) = V.bytes m, m)) (unB [])) = some (True, []) := by
    have h : (([] : List V) = V.bytes []) = True := eq_true rfl
    show some ((([] : List V) = V.bytes []), ([] : List Nat)) = some (True, [])
    rw [h]
   have e1 : prP L C = pMul P (qdP C) := by unfold prP; rw [if_neg hC0, eP]
   have e4 : pyL [1 + ((at0 C 0 % 9 : Nat) : Int), 0, 1] [] 3 = qdP C := rfl
   have e5 : PyOk [1 + ((at0 C 0 % 9 : Nat) : Int), 0, 1] [] 3 = True := eq_true ⟨⟨⟨by simp, by simp⟩, by decide⟩, fun z hz => by
    simp only [List.mem_cons, List.not_mem_nil, or_false] at hz
    rcases hz with rfl | rfl | rfl
    ·exact ⟨by omega, by omega⟩
    ·exact ⟨by decide, by decide⟩
    ·exact ⟨by decide, by decide⟩, fun z hz => by cases hz⟩
   have sQ : Sz (qdP C) 3 1 := by
    refine ⟨py_len _ _ 3, fun i => ?_, py_can _ _ _⟩
    exact py_PB _ _ 3 i
   have g1 := eq_true (mr_of (hP.sz (by omega)) sQ (by decide))
   rw [e1, eR]
   rcases b2 with rfl | ⟨rfl, b3⟩
   ·simp only [go_sem, b1, e2, e3, e4, e5, f0, u0, g1, eP, eR', tk]
    exact ⟨by omega, by omega, by omega⟩
   ·simp only [go_sem, b1, b3, e2, e3, e4, e5, f0, u0, g1, eP, eR', tk]
    exact ⟨by omega, by omega, by omega⟩
end Go.Proofs.YtlhapagililgmaaGreat


/- The products of the laws: roots, counts, sizes. -/
namespace Go.Proofs.YtlhapagililgmaaGreat
set_option linter.unusedSimpArgs false
set_option linter.unusedVariables false
open Go.RowKit

theorem ev_mulK (o f : List Rat) (x : Rat) : ∀ k, ev (mulK o f k) x = ev o x * ev f x ^ k
 | 0 => by rw [Rat.pow_zero, Rat.mul_one]; rfl
 | k + 1 => by rw [mulK, ev_pMul, ev_mulK o f x k, Rat.pow_succ, Rat.mul_assoc]
theorem pd_Kn (L : List Tri) : ∀ i, Kn (pdP L i) (pdR L i)
 | 0 => by
   have e : pdP L 0 = [1] := by show pyL [1] [] 1 = [1]; decide +kernel
   rw [e]; exact Kn.one
 | i + 1 => by
   have hd : ((rtQ (L.getD i (0, 0, 0))).den : Rat) ≠ 0 := natR_ne (rtQ _).den_pos
   exact (pd_Kn L i).step hd (k := rtN (L.getD i (0, 0, 0)) + 1) (by omega) fun x => by
    rw [pdP, ev_mulK, lnR_ev]
theorem qd_eq (C : List Nat) : ∃ m : Nat, (m ≤ 8 ∧ 0 < (((1 + (m : Int) : Int)) : Rat)) ∧ qdP C = [(((1 + (m : Int) : Int)) : Rat), 0, 1] := by
 have key : ∀ m : Fin 9, pyL [1 + (m.1 : Int), 0, 1] [] 3 = [(((1 + (m.1 : Int) : Int)) : Rat), 0, 1] := by decide +kernel
 refine ⟨at0 C 0 % 9, ⟨by omega, ?_⟩, key ⟨at0 C 0 % 9, by omega⟩⟩
 have : ((0 : Int) : Rat) < (((1 + ((at0 C 0 % 9 : Nat) : Int) : Int)) : Rat) := cast_lt (by omega)
 exact this
theorem ev_quad (c x : Rat) : ev [c, 0, 1] x = x * x + c := by simp only [ev]; grind
structure PrF (p : List Rat) (rs : List Rat) : Prop where
 pn : Pn p
 lq : Pn (lqP p)
 inc : rs.Pairwise (· < ·)
 root : ∀ x, ev p x = 0 ↔ x ∈ rs
 sq : ∃ (k : Rat) (g : Rat → Rat), k ≠ 0 ∧ (∀ x, 0 < g x) ∧ ∀ x, ev (sqp p) x = k * prodR rs x * g x
theorem Tb.ofIB {p : List Rat} {H : Nat} (h : IB H p) : Tb p 1 H := ⟨1, ⟨Nat.le_refl _, Nat.le_refl _⟩, fun i => by
 obtain ⟨⟨z, hz⟩, hb⟩ := h i
 rw [hz] at hb
 exact ⟨z, by rw [hz]; show (1 : Rat) * _ = _; rw [Rat.one_mul], Bd_int.1 hb⟩⟩
theorem quad_ib {m : Nat} (hm : m ≤ 8) : IB 9 [(((1 + (m : Int) : Int)) : Rat), 0, 1] := by
 intro i
 rcases i with _ | _ | _ | i
 ·rw [cf_zero]; exact ⟨⟨_, rfl⟩, Bd_int.2 (by omega)⟩
 ·rw [cf_succ, cf_zero]; exact ⟨⟨0, rfl⟩, by unfold Bd; decide⟩
 ·rw [cf_succ, cf_succ, cf_zero]; exact ⟨⟨1, rfl⟩, by unfold Bd; decide⟩
 ·rw [cf_succ, cf_succ, cf_succ, cf_nil]; exact ⟨⟨0, rfl⟩, by unfold Bd; decide⟩
theorem pr_pn {p : List Rat} (hp : Can p) (p0 : p ≠ []) (hl : p.length ≤ 9) (h : IB 918330048 p) : Pn p ∧ Pn (lqP p) := by
 have ht := Tb.ofIB h
 have hpn : Pn p := ⟨hp, p0, hl, ht.mono (by decide +kernel) (by decide +kernel)⟩
 exact ⟨hpn, hpn.lq ht (N := 8) (by omega) (by decide +kernel) (by decide +kernel)⟩
theorem prF (L : List Tri) (C : List Nat) : PrF (prP L C) (prR L) := by
 obtain ⟨j, hj, hP⟩ := PdI.all L (min L.length 3)
 have hK := pd_Kn L (min L.length 3)
 have hj6 : j ≤ 6 := by omega
 have n1 : pdP L (min L.length 3) ≠ [] := fun e => by have := hP.len; rw [e] at this; simp at this
 have h18 : IB (18 ^ 6) (pdP L (min L.length 3)) := hP.ib.mono (Nat.pow_le_pow_right (by decide) hj6)
 unfold prP prR
 by_cases hC : C = []
 ·rw [if_pos hC]
  obtain ⟨a, b⟩ := pr_pn hP.can n1 (by rw [hP.len]; omega) (h18.mono (by decide))
  obtain ⟨k, k0, hk⟩ := Kn_sqp hK hP.can
  exact ⟨a, b, hK.1, fun x => by
   rw [← sqp_root hP.can n1 x, hk x]
   rw [Rat.mul_one, Rat.mul_eq_zero, prodR_zero]
   exact ⟨fun h => h.resolve_left k0, .inr⟩, k, fun _ => 1, k0, fun _ => (show (0 : Rat) < 1 by decide), hk⟩
 ·rw [if_neg hC]
  obtain ⟨m, ⟨hm, c0⟩, e⟩ := qd_eq C
  rw [e]
  obtain ⟨c, ec⟩ : ∃ c : Rat, (((1 + (m : Int) : Int)) : Rat) = c := ⟨_, rfl⟩
  have hq := quad_ib hm
  rw [ec] at c0 hq ⊢
  have cq : Can [c, 0, 1] := by rw [Can_cons, if_neg (by simp), Can_cons, if_neg (by simp), Can_cons, if_pos rfl]; decide
  have l0 := len_pMul hP.can cq n1 (by simp)
  have l3 : ([c, 0, 1] : List Rat).length = 3 := rfl
  rw [l3, hP.len] at l0
  have n2 : pMul (pdP L (min L.length 3)) [c, 0, 1] ≠ [] := fun e => by rw [e] at l0; simp at l0
  have hib : IB 918330048 (pMul (pdP L (min L.length 3)) [c, 0, 1]) := by
   rw [pMul_comm]
   exact (IB_mul hq h18 (n := 3) (Nat.le_refl _)).mono (by decide)
  obtain ⟨a, b⟩ := pr_pn (can_pMul _ _) n2 (by omega) hib
  obtain ⟨k, k0, hk⟩ := Kn_sqpQ hK c0 (can_pMul (pdP L (min L.length 3)) [c, 0, 1]) (fun x => by rw [ev_pMul, ev_quad])
  have gp : ∀ x : Rat, 0 < x * x + c := fun x => by have := sq_nn x; grind
  exact ⟨a, b, hK.1, fun x => by
   rw [← sqp_root (can_pMul _ _) n2 x, hk x, Rat.mul_eq_zero, Rat.mul_eq_zero, prodR_zero]
   have := gp x
   exact ⟨fun h => h.elim (fun h => h.resolve_left k0) (fun h => by grind), fun h => .inl (.inr h)⟩, k, fun x => x * x + c, k0, gp, hk⟩
section
variable {p rs : List Rat}
theorem cntR_none {lo hi : Rat} (h : hi ≤ lo) : ∀ l : List Rat, cntR l lo hi = 0
 | [] => rfl
 | r :: l => by rw [cntR, cntR_none h l, if_neg (by grind)]
theorem PrF.cnt (h : PrF p rs) (lo hi : Rat) : cntP p lo hi = (cntR rs lo hi : Nat) := by
 unfold cntP
 by_cases hle : hi ≤ lo
 ·rw [if_pos (.inr hle), cntR_none hle]; rfl
 ·rw [if_neg fun e => e.elim h.pn.ne hle]
  obtain ⟨k, g, k0, hg, he⟩ := h.sq
  have := vrS_roots h.pn.can h.pn.ne (lo := lo) (hi := hi) (by grind) k0 hg (inc_dist h.inc) he
  omega
def intsOf (l : List Rat) : List Int := (l.filter fun r => decide ((r.den : Int) = 1)).map Rat.num
theorem den_one {r : Rat} (h : (r.den : Int) = 1) : r = (r.num : Rat) := by
 have h1 : r.den = 1 := by omega
 exact Rat.ext rfl h1
theorem intsOf_mem {l : List Rat} {z : Int} : z ∈ intsOf l ↔ (z : Rat) ∈ l := by
 unfold intsOf
 rw [List.mem_map]
 constructor
 ·rintro ⟨r, hr, rfl⟩
  obtain ⟨h1, h2⟩ := List.mem_filter.1 hr
  rw [← den_one (of_decide_eq_true h2)]; exact h1
 ·intro h
  exact ⟨(z : Rat), List.mem_filter.2 ⟨h, decide_eq_true rfl⟩, rfl⟩
theorem intsOf_inc : ∀ {l : List Rat}, l.Pairwise (· < ·) → (intsOf l).Pairwise (· < ·)
 | [], _ => List.Pairwise.nil
 | r :: l, h => by
   obtain ⟨h1, h2⟩ := List.pairwise_cons.1 h
   have ih := intsOf_inc h2
   by_cases hr : (r.den : Int) = 1
   ·have e : intsOf (r :: l) = r.num :: intsOf l := by
     unfold intsOf
     rw [List.filter_cons_of_pos (by simpa using hr)]; rfl
    rw [e, List.pairwise_cons]
    refine ⟨fun z hz => ?_, ih⟩
    have h3 := h1 _ (intsOf_mem.1 hz)
    rw [den_one hr] at h3
    exact Rat.intCast_lt_intCast.1 h3
   ·have e : intsOf (r :: l) = intsOf l := by
     unfold intsOf
     rw [List.filter_cons_of_neg (by simpa using hr)]
    rw [e]; exact ih
theorem PrF.rat (h : PrF p rs) : ratL p = rs := by
 by_cases h2 : 2 ≤ p.length
 ·obtain ⟨h3, h4⟩ := ratL_ok h.pn.can h2
  exact inc_uniqQ h4 h.inc fun r => by rw [h3, h.root]
 ·have e : ratL p = [] := if_pos (by omega)
  rw [e]
  match rs, h.root with
  | [], _ => rfl
  | r :: rs, hr => exact absurd (root_bnd h.pn.can h.pn.ne ((hr r).2 (by simp))).1 h2
theorem PrF.int (h : PrF p rs) : intL p = intsOf rs := by
 obtain ⟨h3, h4⟩ := intL_ok h.pn.can h.pn.ne
 exact inc_uniqZ h4 (intsOf_inc h.inc) fun z => by rw [h3, intsOf_mem, h.root]
end
theorem prR_qs (L : List Tri) (k : Nat) : qs (cf (prR L) k) ≤ 1 := pdR_qs L _ k
theorem prR_len (L : List Tri) : (prR L).length ≤ 3 := Nat.le_trans (pdR_len L _) (by omega)
end Go.Proofs.YtlhapagililgmaaGreat


/- The law of counts of a product. -/
namespace Go.Proofs.YtlhapagililgmaaGreat
set_option linter.unusedSimpArgs false
set_option linter.unusedVariables false
open Go.RowKit

theorem cmp_lt (a b : Rat) : cmpQ a b < 0 ↔ a < b := by
 unfold cmpQ
 by_cases h : a < b
 ·rw [if_pos h]; exact ⟨fun _ => h, fun _ => by decide⟩
 ·rw [if_neg h]
  refine ⟨fun h2 => ?_, fun h2 => absurd h2 h⟩
  split at h2 <;> exact absurd h2 (by decide)
set_option maxRecDepth 20000 in
theorem fits_rt4 {X : V} {n : Nat} (h : Fits Tryz.prog (n + 4) 55 X) : ∃ L C, X = .agg [.lst (V.trs L), .lst (V.bytes C)] ∧ TrOk L C := by
 have u1 : Tryz.prog.underlying 53 = some (.slice 100) := by kernel_rfl
 have u2 : Tryz.prog.underlying 100 = some (.array 3 38) := by kernel_rfl
 have u3 : Tryz.prog.underlying 38 = some (.int .i8) := by kernel_rfl
 have u5 : Tryz.prog.underlying 23 = some (.slice 5) := by kernel_rfl
 have u6 : Tryz.prog.underlying 5 = some (.int .u8) := by kernel_rfl
 obtain ⟨l, rfl, hl⟩ := fits_struct Tryz.underlying55 h
 obtain ⟨x1, m, rfl, g1, hl⟩ := fitL_cons hl
 obtain ⟨x2, m, rfl, g2, hl⟩ := fitL_cons hl
 have := fitL_nil hl
 subst this
 obtain ⟨l, rfl, hll, hy⟩ := fits_sl u1 g1
 obtain ⟨N, rfl, hN, lN⟩ := fits_bytes u5 u6 g2
 have key : ∀ (l : List V), (∀ y ∈ l, Fits Tryz.prog (n + 2) 100 y) → ∃ L : List Tri, l = V.trs L ∧ ∀ z ∈ L, B8 z.1 ∧ B8 z.2.1 ∧ B8 z.2.2 := by
  intro l
  induction l with
  | nil => intro _; exact ⟨[], rfl, fun z hz => by cases hz⟩
  | cons y l ih =>
    intro h
    obtain ⟨L, rfl, hL⟩ := ih fun y hy => h y (by simp [hy])
    obtain ⟨m, rfl, hm⟩ := fits_arr u2 (h y (by simp))
    obtain ⟨x1, m1, rfl, g1, hm⟩ := fitL_cons hm
    obtain ⟨x2, m2, rfl, g2, hm⟩ := fitL_cons hm
    obtain ⟨x3, m3, rfl, g3, hm⟩ := fitL_cons hm
    have := fitL_nil hm
    subst this
    obtain ⟨z1, w1, rfl⟩ := fits_int u3 g1
    obtain ⟨z2, w2, rfl⟩ := fits_int u3 g2
    obtain ⟨z3, w3, rfl⟩ := fits_int u3 g3
    exact ⟨(z1, z2, z3) :: L, rfl, fun z hz => by
     rcases List.mem_cons.1 hz with rfl | hz
     ·exact ⟨wf_i8 w1, wf_i8 w2, wf_i8 w3⟩
     ·exact hL z hz⟩
 obtain ⟨L, rfl, hL⟩ := key l hy
 rw [trs_len] at hll
 exact ⟨L, N, rfl, ⟨hll, lN⟩, hL, hN⟩
theorem cntR_take (lo hi : Rat) {rs : List Rat} {i : Nat} (h : i < rs.length) : cntR (rs.take (i + 1)) lo hi = cntR (rs.take i) lo hi + if lo < cf rs i ∧ cf rs i ≤ hi then 1 else 0 := by
 rw [List.take_add_one, List.getElem?_eq_getElem h, ← cf_lt h]
 exact cntR_snoc lo hi (cf rs i) (rs.take i)
theorem cntR_le (lo hi : Rat) : ∀ l : List Rat, cntR l lo hi ≤ l.length
 | [] => Nat.le_refl _
 | r :: l => by
   have := cntR_le lo hi l
   rw [cntR, List.length_cons]
   split <;> omega
set_option maxRecDepth 8000 in
set_option maxHeartbeats 1000000 in
theorem counts_V (L : List Tri) (C : List Nat) (hx : TrOk L C) (a b e d : Int) (ha : (B8 a ∧ B8 b) ∧ B8 e ∧ B8 d) : PCall Tryz.prog 5 [.agg [.lst (V.trs L), .lst (V.bytes C)], .agg [.agg [.raw (.int .i8 a), .raw (.int .i8 b)], .agg [.raw (.int .i8 e), .raw (.int .i8 d)]]] (.raw (.bool true)) := by
 have T := (tabs mixed (tbl_cons sanity4_C (tbl_cons prod4_C (tbl_cons bounds_C (tbl_cons r2Cmp_C (tbl_cons count_C tbl_nil))))))
 have hs := prF L C
 have hx' := eq_true hx
 have b1 := eq_true ha.1.1
 have b2 := eq_true ha.1.2
 have b3 := eq_true ha.2.1
 have b4 := eq_true ha.2.2
 have q1 := wq_sz (b := b) ha.1.1
 have q2 := wq_sz (b := d) ha.2.1
 have qR := prR_qs L
 have lR := prR_len L
 obtain ⟨p, ep⟩ : ∃ p, prP L C = p := ⟨_, rfl⟩
 obtain ⟨rs, er⟩ : ∃ p, prR L = p := ⟨_, rfl⟩
 obtain ⟨lo, el⟩ : ∃ p, wQ a b = p := ⟨_, rfl⟩
 obtain ⟨hi, eh⟩ : ∃ p, wQ e d = p := ⟨_, rfl⟩
 rw [ep, er] at hs
 rw [er] at qR lR
 rw [el] at q1
 rw [eh] at q2
 have t1 := eq_true (hs.pn.Ct (lo := lo) (hi := hi) (by omega) (by omega))
 have t2 := hs.cnt lo hi
 have f2 : qs lo ≤ 5000000000000 := by omega
 have f3 : qs hi ≤ 5000000000000 := by omega
 refine PCall.of_vc T Tryz.func5 rfl Tryz.ntmps5 Tryz.results5 (by simp) ?_
 simp only [go_sem, hx', b1, b2, b3, b4, ep, er, el, eh]
 refine AWp.loops (X := { i : Nat // i ≤ rs.length }) (fun i => mkSt [(5, .raw (.bool true)), (6, .lst (V.rats p)), (7, .lst (V.rats rs)), (8, .ptr 0 4 0 0), (9, .ptr 1 4 0 0), (10, .raw (.int .i64 (cntR (rs.take i.1) lo hi : Nat))), (11, .raw (.int .i64 (i.1 : Nat)))]
  [(0, true, ⟨46, 4, [.Q lo]⟩), (1, true, ⟨46, 4, [.Q hi]⟩)] 2 56) (fun i => rs.length - i.1) ⟨0, Nat.zero_le _⟩ (Wk.of [17, 18] (by decide) ?_) ?_
 ·have e0 : cntR [] lo hi = 0 := rfl
  simp only [go_sem, Int.natCast_zero, List.take_zero, e0]
 rintro ⟨i, hin⟩
 refine vc_at T ?_
 have hc := cntR_le lo hi (rs.take i)
 rw [List.length_take] at hc
 obtain ⟨n, en⟩ : ∃ n, cntR (rs.take i) lo hi = n := ⟨_, rfl⟩
 rw [en] at hc
 by_cases hlt : i < rs.length
 ·have d1 : (i : Int) < (rs.length : Int) := by omega
  have d2 : (i : Int) + 1 = ((i + 1 : Nat) : Int) := by omega
  have d3 : 0 ≤ (i : Int) := by omega
  have d4 : (n : Int) + 1 = ((n + 1 : Nat) : Int) := by omega
  have ck := cntR_take lo hi hlt
  rw [en] at ck
  have qi : qs (cf rs i) ≤ 5000000000000 := Nat.le_trans (qR i) (by decide)
  have r1 := cmp_lt lo (cf rs i)
  have r2 := cmp_le (cf rs i) hi
  by_cases h1 : lo < cf rs i
  ·have g1 := r1.2 h1
   by_cases h2 : cf rs i ≤ hi
   ·have g2 := r2.2 h2
    rw [if_pos ⟨h1, h2⟩] at ck
    simp only [go_sem, d1, d2, d3, d4, hlt, en, qi, f2, f3, g1, g2]
    refine ⟨by rfl, ⟨by omega, by omega⟩, ⟨by omega, by omega⟩, ⟨i + 1, hlt⟩, Wk.of [0, 1] (by decide) ?_, by simp only; omega⟩
    simp only [go_sem, ck]
   ·have g2 : ¬ cmpQ (cf rs i) hi ≤ 0 := fun h => h2 (r2.1 h)
    rw [if_neg fun h => h2 h.2] at ck
    simp only [go_sem, d1, d2, d3, hlt, en, qi, f2, f3, g1, g2]
    refine ⟨by rfl, ⟨by omega, by omega⟩, ⟨i + 1, hlt⟩, Wk.of [0, 1] (by decide) ?_, by simp only; omega⟩
    simp only [go_sem, ck, Nat.add_zero]
  ·have g1 : ¬ cmpQ lo (cf rs i) < 0 := fun h => h1 (r1.1 h)
   rw [if_neg fun h => h1 h.1] at ck
   simp only [go_sem, d1, d2, d3, hlt, en, qi, f2, f3, g1]
   refine ⟨by rfl, ⟨by omega, by omega⟩, ⟨i + 1, hlt⟩, Wk.of [0, 1] (by decide) ?_, by simp only; omega⟩
   simp only [go_sem, ck, Nat.add_zero]
 ·obtain rfl : i = rs.length := by omega
  have d1 : ¬ (rs.length : Int) < (rs.length : Int) := by omega
  rw [List.take_length] at en
  rw [en] at t2
  have z1 : ((n : Int) == (n : Int)) = true := by simp
  simp only [go_sem, d1, t1, t2, List.take_length, en, z1]
set_option maxRecDepth 20000 in
theorem lawCounts_F (X Y : V) (h : Fits Tryz.prog 6 55 X) (h2 : Fits Tryz.prog 6 41 Y) : PCall Tryz.prog 5 [X, Y] (.raw (.bool true)) := by
 obtain ⟨L, C, rfl, hx⟩ := fits_rt4 h
 obtain ⟨a, b, c, d, rfl, ha⟩ := fits_iv h2
 exact counts_V L C hx a b c d ha
end Go.Proofs.YtlhapagililgmaaGreat


/- Shifted polynomials: sizes, roots, counts. -/
namespace Go.Proofs.YtlhapagililgmaaGreat
set_option linter.unusedSimpArgs false
set_option linter.unusedVariables false
open Go.RowKit

theorem Lw.lq {p : List Rat} (h : Lw p) (p0 : p ≠ []) : Pn (lqP p) := (h.pn p0).lq h.tb (N := 4) (by have := h.len; omega) (by decide +kernel) (by decide +kernel)
end Go.Proofs.YtlhapagililgmaaGreat

