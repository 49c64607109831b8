/- Texts S28 LS1 LS2 LS3 LS4a LS4 S29 LS5a LS5 LS9a in one. -/
import Derived.Test.YtlhapagililgmaaGreatR34
import Derived.Test.YtlhapagililgmaaGreatR26
import Derived.Test.YtlhapagililgmaaGreatR31
/- The conditions of the package sturm, at polynomials with small integer multiples. -/
namespace Go.Proofs.YtlhapagililgmaaGreat
set_option linter.unusedSimpArgs false
set_option linter.unusedVariables false
open Go.RowKit

def BigN : Nat := 2 ^ 640
theorem BigN_k : BigN < 4294967296 ^ 21 := by decide +kernel
theorem BigN_ok : BigN < 4294967296 ^ 23 ∧ ipB 9 (vlB BigN 9) < 4294967296 ^ 23 ∧ 1 ≤ 23 := by decide +kernel
theorem gcN : (allB 10 fun la => gcC 20 la 21 (la - 1) 22 && allB (la + 1) fun lb => dvC la 21 lb (2 * gcM 20 la 21 (la - 1) 22 + 1)) = true := by decide +kernel
theorem chT : (allB 10 fun lq => stC 900000000 20 lq 44 (lq - 1) 45) = true := by decide +kernel
theorem chT1 : (allB 10 fun lq => stC 900000000 20 lq 21 (lq - 1) 22) = true := by decide +kernel
structure Pn (p : List Rat) : Prop where
 can : Can p
 ne : p ≠ []
 len : p.length ≤ 9
 tb : Tb p BigN BigN
section
variable {p : List Rat}
theorem Pn.pb (h : Pn p) : PB p 21 := h.tb.pb BigN_k BigN_k (by decide)
theorem Pn.sq (h : Pn p) : PB (sqp p) 44 := (sqp_PB BigN_ok h.can h.ne h.tb.ht h.len h.pb).mono (by decide)
theorem Pn.Fr (h : Pn p) : FrOk p := by
 have hl := h.len
 exact FrOk_of (allB_ok gcN _ (show p.length < 10 by omega)) h.can h.ne rfl h.pb (diff_PB h.pb (by omega)) (by decide) (by omega)
theorem Pn.Ck (h : Pn p) : CkOk p ∧ ∀ i, (stI (sqp p) i).1 ≠ [] → (Can (stI (sqp p) i).1 ∧ PB (stI (sqp p) i).1 900000000) ∧ (stI (sqp p) i).1.length ≤ 9 := by
 have hl := h.len
 have hq := sqp_le h.can h.ne
 exact CkOk_of (by omega) h.can h.ne h.Fr (by omega) h.sq chT (by decide) (by decide)
theorem Pn.Vr (h : Pn p) {x : Rat} (hx : qs x ≤ 1000) : VrOk (chZ p) x := by
 have hl := h.len
 exact VrOk_of h.can h.ne (by omega) h.Ck.2 hx (by decide)
theorem Pn.Ct (h : Pn p) {lo hi : Rat} (h1 : qs lo ≤ 1000) (h2 : qs hi ≤ 1000) : CtOk p lo hi :=
 ⟨⟨by omega, by omega⟩, fun _ => ⟨⟨h.can, by have := h.len; omega⟩, h.Ck.1, h.Vr h1, h.Vr h2⟩⟩
theorem Pn.Bd (h : Pn p) : BdOk p := ⟨h.can, by have := h.len; omega, 21, h.pb, by decide⟩
theorem Pn.Ch (h : Pn p) : ChOk p := by
 have hl := h.len
 exact (ChOk_of (allB_ok chT1 _ (show p.length < 10 by omega)) h.can rfl h.pb (diff_PB h.pb (by omega)) (by decide) (by omega)).1
theorem Pn.bnd (h : Pn p) : dl (bndZ p).natAbs ≤ 50 := by
 unfold bndZ
 split
 ·exact Nat.le_trans ((dl_le (n := 0) (k := 0)).2 (by decide)) (Nat.zero_le _)
 ·have h1 := mxQ_sz h.pb (p.length - 1)
  have h2 : qs (-(mxQ p (p.length - 1) + 1)) ≤ 50 := by
   rw [qs_neg]
   exact Nat.le_trans (qsA h1 qs_1) (by decide)
  rw [Int.natAbs_neg]
  exact dlFl h2
theorem Pn.In (h : Pn p) : InOk p := by
 have hl := h.len
 have hb := h.bnd
 have h0 := bndZ_nn p
 have cp := h.can
 refine ⟨⟨h.Ck.1, IgOk_of cp h.ne (by omega) h.pb (by decide), h.Bd⟩, fun z h1 h2 => ?_, ?_, h0⟩
 ·have hz : dl z.natAbs ≤ 52 := by
   have := dl_add (bndZ p).natAbs 1
   have h3 : dl z.natAbs ≤ dl ((bndZ p).natAbs + 1) := dl_mono (by omega)
   have h4 : dl 1 ≤ 1 := (dl_le (k := 1)).2 (by decide)
   omega
  have hq : qs (z : Rat) ≤ 1000 := Nat.le_trans (qs_int z) (by omega)
  refine ⟨SgOk_ig (t := 1000) (by omega) h.pb hq ?_, h.Vr hq, by omega⟩
  have : (p.length + 2) * (21 + (p.length * 21 + 1) + 1000 + 3) ≤ 11 * 2000 := Nat.mul_le_mul (by omega) (by omega)
  omega
 ·have e1 : (vS (chZ p) ((-bndZ p - 1 : Int) : Rat) (chZ p).length).1 = ((vrS p ((-bndZ p - 1 : Int) : Rat) : Nat) : Int) := vS_vrS cp h.ne _
  have e2 : (vS (chZ p) ((bndZ p : Int) : Rat) (chZ p).length).1 = ((vrS p ((bndZ p : Int) : Rat) : Nat) : Int) := vS_vrS cp h.ne _
  have h3 := hlv_len cp h.ne (igL p) (2 * bndZ p + 1).toNat (-bndZ p - 1) (bndZ p) (by omega)
  have h4 := vrS_deg cp h.ne ((-bndZ p - 1 : Int) : Rat)
  unfold intF
  rw [e1, e2]
  omega
theorem Pn.intN (h : Pn p) : (intL p).length ≤ 8 := by
 have hl := h.len
 have h0 := bndZ_nn p
 have e0 : intL p = intF p := if_neg h.ne
 have e1 : (vS (chZ p) ((-bndZ p - 1 : Int) : Rat) (chZ p).length).1 = ((vrS p ((-bndZ p - 1 : Int) : Rat) : Nat) : Int) := vS_vrS h.can h.ne _
 have e2 : (vS (chZ p) ((bndZ p : Int) : Rat) (chZ p).length).1 = ((vrS p ((bndZ p : Int) : Rat) : Nat) : Int) := vS_vrS h.can h.ne _
 have h3 := hlv_len h.can h.ne (igL p) (2 * bndZ p + 1).toNat (-bndZ p - 1) (bndZ p) (by omega)
 have h4 := vrS_deg h.can h.ne ((-bndZ p - 1 : Int) : Rat)
 rw [e0]
 unfold intF
 rw [e1, e2]
 omega
theorem Pn.intS (h : Pn p) (i : Nat) : dl (zz (intL p) i).natAbs ≤ 50 := by
 by_cases hi : i < (intL p).length
 ·have hm : zz (intL p) i ∈ intL p := by
   unfold zz
   rw [List.getD_eq_getElem?_getD, List.getElem?_eq_getElem hi]
   exact List.getElem_mem hi
  have hz := ((intL_ok h.can h.ne).1 _).1 hm
  obtain ⟨_, hb⟩ := root_bnd h.can h.ne hz
  obtain ⟨b1, b2⟩ := ab_le.1 (Std.le_of_lt hb)
  have b1 : ((-bndZ p : Int) : Rat) ≤ (zz (intL p) i : Rat) := by rw [Rat.intCast_neg]; exact b1
  have b1 := Rat.intCast_le_intCast.1 b1
  have b2 := Rat.intCast_le_intCast.1 b2
  exact Nat.le_trans (dl_mono (by omega)) h.bnd
 ·have : zz (intL p) i = 0 := by
   unfold zz
   rw [List.getD_eq_getElem?_getD, List.getElem?_eq_none (by omega)]; rfl
  rw [this]
  exact Nat.le_trans ((dl_le (n := 0) (k := 0)).2 (by decide)) (Nat.zero_le _)
theorem dl_Big {n : Nat} (h : n ≤ BigN) : dl n ≤ 21 := dl_le.2 (Nat.lt_of_le_of_lt h BigN_k)
theorem pwQ_sz {c : Rat} (h : qs c ≤ 21) : ∀ i, qs (pwQ c i) ≤ 1 + 21 * i
 | 0 => qs_1
 | i + 1 => by
   have := qs_mul (pwQ c i) c
   have := pwQ_sz h i
   rw [pwQ]
   omega
theorem rtL_PB (h : Pn p) (hq : Pn (lqP p)) : PB (rtL p) 80 := fun i => by
 by_cases hi : i < (rtL p).length
 ·have hi' := hi
  rw [rtL_len] at hi'
  rw [cf_rtL hi']
  have e : (intL (lqP p))[i] = zz (intL (lqP p)) i := by
   unfold zz
   rw [List.getD_eq_getElem?_getD, List.getElem?_eq_getElem hi']; rfl
  rw [e]
  refine Nat.le_trans (qsD (j := 50) (k := 21) ?_ ?_) (by decide)
  ·exact Nat.le_trans (qs_int _) (Nat.max_le.2 ⟨hq.intS i, by decide⟩)
  ·exact Nat.le_trans (qs_int _) (Nat.max_le.2 ⟨dl_Big (ldZ_le h.tb h.ne), by decide⟩)
 ·rw [cf_ge (by omega)]
  exact Nat.le_trans qs_0 (by decide)
theorem Pn.Ra (h : Pn p) (hq : Pn (lqP p)) : RaOk p := fun h2 => by
 have hl := h.len
 have l0 := ldZ_neQ h.can h.ne
 have d1 := dl_Big (ldZ_le h.tb h.ne)
 have q1 : qs (ldZ p : Rat) ≤ 21 := Nat.le_trans (qs_int _) (Nat.max_le.2 ⟨d1, by decide⟩)
 refine ⟨⟨⟨IgOk_of h.can h.ne (by omega) h.pb (by decide), h.pb.mono (by decide)⟩, ldZ_ne h.can h.ne, by omega, fun i hi => ⟨pwQ_ne l0 i, ?_⟩⟩, fun _ => hq.In, by have := hq.intN; omega, fun i => Nat.le_trans (hq.intS i) (by decide), (rtL_PB h hq).mono (by decide)⟩
 have := pwQ_sz q1 i
 omega
theorem Pn.lq (h : Pn p) {T H N : Nat} (hT : Tb p T H) (hN : p.length ≤ N + 1) (h1 : T * H ^ (2 * N) ≤ BigN) (h2 : H ^ (2 * N + 1) ≤ BigN) : Pn (lqP p) :=
 ⟨lq_can p, lq_ne h.can h.ne, by rw [lq_len h.can h.ne]; exact h.len, (hT.lq h.can h.ne hN).mono h1 h2⟩
theorem ratL_LB (h : Pn p) (hq : Pn (lqP p)) : LB (ratL p) ∧ PB (ratL p) 80 ∧ (ratL p).length ≤ 8 := by
 have key : PB (ratL p) 80 ∧ (ratL p).length ≤ 8 := by
  unfold ratL
  split
  ·exact ⟨PB_nil (by decide), Nat.zero_le _⟩
  ·refine ⟨insI_PB (rtL_PB h hq) _, ?_⟩
   rw [srt_len, rtL_len]
   exact hq.intN
 exact ⟨⟨by omega, fun k => Nat.le_trans (key.1 k) (by decide)⟩, key⟩
theorem intL_LZ (h : Pn p) : LZ (intL p) := ⟨by have := h.intN; omega, fun k => Nat.le_trans (h.intS k) (by decide)⟩
end
end Go.Proofs.YtlhapagililgmaaGreat


/- The fixed examples of the laws about package sturm. -/
namespace Go.Proofs.YtlhapagililgmaaGreat
set_option linter.unusedSimpArgs false
set_option linter.unusedVariables false
open Go.RowKit

@[go_sem ↓, go_sem] theorem ev_pRaw4 {a b : List V} : pRaw4.p (.agg [.lst a, .lst b]) = (uni8 a).bind fun l => (unB b).map fun m => (b = V.bytes m, (l, m)) := rfl
theorem z4b (l : List Int) (h : (l.all fun z => decide (-128 ≤ z) && decide (z ≤ 127)) = true) : (∀ z ∈ l, B8 z) = True := eq_true (b8 l h)
theorem pn_of {p : List Rat} (t : Nat) (h : (cnB p && decide (p ≠ []) && decide (p.length ≤ 9) && decide (1 ≤ t) && decide (t ≤ BigN) && (List.range p.length).all fun i => decide (((t : Rat) * cf p i).den = 1) && decide (((t : Rat) * cf p i).num.natAbs ≤ BigN)) = true) : Pn p := by
 simp only [Bool.and_eq_true, decide_eq_true_eq] at h
 obtain ⟨⟨⟨⟨⟨h1, h2⟩, h3⟩, h4⟩, h5⟩, h6⟩ := h
 refine ⟨cnB_ok h1, h2, h3, t, ⟨h4, h5⟩, fun i => ?_⟩
 by_cases hi : i < p.length
 ·have := List.all_eq_true.1 h6 i (List.mem_range.2 hi)
  simp only [Bool.and_eq_true, decide_eq_true_eq] at this
  refine ⟨((t : Rat) * cf p i).num, ?_, this.2⟩
  exact Rat.ext rfl this.1
 ·exact ⟨0, by rw [cf_ge (by omega), Rat.mul_zero]; rfl, Nat.zero_le _⟩
theorem mr_of {a b : List Rat} {n m j k : Nat} (ha : Sz a n j) (hb : Sz b m k) (h : (n + m ≤ 1000000 ∧ n * (j + k + 1) + 1 ≤ 5000000000000) ∧ j ≤ 5000000000000 ∧ k ≤ 5000000000000) : (a.length + b.length ≤ 1000000 ∧ PB a 5000000000000 ∧ PB b 5000000000000) ∧ ∃ j k, (PB a j ∧ PB b k) ∧ a.length * (j + k + 1) ≤ 4999999999999 :=
 ⟨⟨(Sz.cm ha hb h.1).1, ha.pb.mono h.2.1, hb.pb.mono h.2.2⟩, (Sz.cm ha hb h.1).2⟩
set_option maxRecDepth 20000 in
set_option maxHeartbeats 2000000 in
theorem sanity4_V : PCall Tryz.prog 11 [] (.raw (.bool true)) := by
 obtain ⟨p1, h1⟩ : ∃ p : List Rat, p = [-2, 0, 1] := ⟨_, rfl⟩
 obtain ⟨p2, h2⟩ : ∃ p : List Rat, p = [0, -1, 0, 1] := ⟨_, rfl⟩
 obtain ⟨p3, h3⟩ : ∃ p : List Rat, p = [1, -2, 1] := ⟨_, rfl⟩
 obtain ⟨p4, h4⟩ : ∃ p : List Rat, p = [-7, 2] := ⟨_, rfl⟩
 obtain ⟨p5, h5⟩ : ∃ p : List Rat, p = [1, 0, 1] := ⟨_, rfl⟩
 obtain ⟨p6, h6⟩ : ∃ p : List Rat, p = [5] := ⟨_, rfl⟩
 obtain ⟨p7, h7⟩ : ∃ p : List Rat, p = [-1, 2] := ⟨_, rfl⟩
 obtain ⟨p8, h8⟩ : ∃ p : List Rat, p = [3, 1] := ⟨_, rfl⟩
 obtain ⟨p9, h9⟩ : ∃ p : List Rat, p = [0, 2] := ⟨_, rfl⟩
 obtain ⟨p10, h10⟩ : ∃ p : List Rat, p = [2] := ⟨_, rfl⟩
 obtain ⟨p11, h11⟩ : ∃ p : List Rat, p = [-3, 5, 2] := ⟨_, rfl⟩
 obtain ⟨p12, h12⟩ : ∃ p : List Rat, p = [6, -10, -7, 5, 2] := ⟨_, rfl⟩
 have z1 : pyL [-2, 0, 1] [] 3 = p1 := by rw [h1]; decide +kernel
 have z2 : pyL [0, -1, 0, 1] [] 4 = p2 := by rw [h2]; decide +kernel
 have z3 : pyL [1, -2, 1] [] 3 = p3 := by rw [h3]; decide +kernel
 have z4 : pyL [-7, 2] [] 2 = p4 := by rw [h4]; decide +kernel
 have z5 : pyL [1, 0, 1] [] 3 = p5 := by rw [h5]; decide +kernel
 have z6 : pyL [5] [] 1 = p6 := by rw [h6]; decide +kernel
 have z7 : pyL [-1, 2] [] 2 = p7 := by rw [h7]; decide +kernel
 have z8 : pyL [3, 1] [] 2 = p8 := by rw [h8]; decide +kernel
 have z9 : pyL [0, 2] [] 2 = p9 := by rw [h9]; decide +kernel
 have z10 : pyL [2] [] 1 = p10 := by rw [h10]; decide +kernel
 have w1 := z4b [-2, 0, 1] (by decide)
 have w2 := z4b [0, -1, 0, 1] (by decide)
 have w3 := z4b [1, -2, 1] (by decide)
 have w4 := z4b [-7, 2] (by decide)
 have w5 := z4b [1, 0, 1] (by decide)
 have w6 := z4b [5] (by decide)
 have w7 := z4b [-1, 2] (by decide)
 have w8 := z4b [3, 1] (by decide)
 have w9 := z4b [0, 2] (by decide)
 have w10 := z4b [2] (by decide)
 have n1 : Pn p1 := pn_of 1 (by rw [h1]; decide +kernel)
 have n2 : Pn p2 := pn_of 1 (by rw [h2]; decide +kernel)
 have n3 : Pn p3 := pn_of 1 (by rw [h3]; decide +kernel)
 have n4 : Pn p4 := pn_of 1 (by rw [h4]; decide +kernel)
 have n5 : Pn p5 := pn_of 1 (by rw [h5]; decide +kernel)
 have n6 : Pn p6 := pn_of 1 (by rw [h6]; decide +kernel)
 have n12 : Pn p12 := pn_of 1 (by rw [h12]; decide +kernel)
 have nq : Pn (lqP p12) := by
  have e : lqP p12 = [6, -5, -7 / 4, 5 / 8, 1 / 8] := by rw [h12]; decide +kernel
  rw [e]
  exact pn_of 8 (by decide +kernel)
 have e1 : stL p1 (pDiff p1) = [p1, p9, p10] := by rw [h1, h9, h10]; decide +kernel
 have e2 : stL [] (pDiff []) = [] := rfl
 have c1 : cntP p2 ((-1 : Int) : Rat) ((1 : Int) : Rat) = 2 := by rw [h2]; decide +kernel
 have c2 : cntP p2 ((-2 : Int) : Rat) ((1 : Int) : Rat) = 3 := by rw [h2]; decide +kernel
 have c3 : cntP p3 ((0 : Int) : Rat) ((1 : Int) : Rat) = 1 := by rw [h3]; decide +kernel
 have c4 : cntP p3 ((1 : Int) : Rat) ((2 : Int) : Rat) = 0 := by rw [h3]; decide +kernel
 have c5 : cntP p2 ((1 : Int) : Rat) ((-2 : Int) : Rat) = 0 := by rw [h2]; decide +kernel
 have c6 : cntP [] ((0 : Int) : Rat) ((1 : Int) : Rat) = 0 := rfl
 have b1 : bndZ p4 = 5 := by rw [h4]; decide +kernel
 have b2 : bndZ p5 = 2 := by rw [h5]; decide +kernel
 have b3 : bndZ p6 = 0 := by rw [h6]; rfl
 have m1 : pMul p7 p8 = p11 := by rw [h7, h8, h11]; decide +kernel
 have m2 : pMul p11 p1 = p12 := by rw [h11, h1, h12]; decide +kernel
 have r1 : ratL p12 = [((-3 : Int) : Rat), mdQ 1 2] := by rw [h12]; decide +kernel
 have r2 : intL p12 = [-3] := by rw [h12]; decide +kernel
 have r3 : ratL [] = [] := rfl
 have r4 : intL p6 = [] := by rw [h6]; decide +kernel
 have k1 : Can p1 = True := eq_true n1.can
 have k2 : ChOk p1 = True := eq_true n1.Ch
 have k3 : Can [] = True := eq_true Can_nil
 have k4 : ChOk [] = True := eq_true ⟨⟨Nat.zero_le _, PB_nil (by decide)⟩, fun n hn => absurd (show (stI [] n).1 = [] by rw [stI_J]; exact congrArg Prod.fst (stJ_nil n)) hn⟩
 have qz : ∀ z : Int, z.natAbs < 4294967296 → qs (z : Rat) ≤ 1000 := fun z hz => Nat.le_trans (qs_int z) (Nat.max_le.2 ⟨Nat.le_trans (dl_le (k := 1).2 (by simpa using hz)) (by decide), by decide⟩)
 have t1 : CtOk p2 ((-1 : Int) : Rat) ((1 : Int) : Rat) = True := eq_true (n2.Ct (qz _ (by decide)) (qz _ (by decide)))
 have t2 : CtOk p2 ((-2 : Int) : Rat) ((1 : Int) : Rat) = True := eq_true (n2.Ct (qz _ (by decide)) (qz _ (by decide)))
 have t3 : CtOk p3 ((0 : Int) : Rat) ((1 : Int) : Rat) = True := eq_true (n3.Ct (qz _ (by decide)) (qz _ (by decide)))
 have t4 : CtOk p3 ((1 : Int) : Rat) ((2 : Int) : Rat) = True := eq_true (n3.Ct (qz _ (by decide)) (qz _ (by decide)))
 have t5 : CtOk p2 ((1 : Int) : Rat) ((-2 : Int) : Rat) = True := eq_true (n2.Ct (qz _ (by decide)) (qz _ (by decide)))
 have t6 : CtOk [] ((0 : Int) : Rat) ((1 : Int) : Rat) = True := eq_true ⟨⟨Nat.le_trans (qz _ (by decide)) (by decide), Nat.le_trans (qz _ (by decide)) (by decide)⟩, fun h => absurd rfl h⟩
 have d1 : BdOk p4 = True := eq_true n4.Bd
 have d2 : BdOk p5 = True := eq_true n5.Bd
 have d3 : BdOk p6 = True := eq_true n6.Bd
 have ra : RaOk p12 = True := eq_true (n12.Ra nq)
 have la : (p12.length ≤ 1000000) = True := eq_true (by have := n12.len; omega)
 have rn : RaOk [] = True := eq_true fun h => absurd h (by decide)
 have i1 : InOk p12 = True := eq_true n12.In
 have i2 : InOk p6 = True := eq_true n6.In
 have lb : LB [((-3 : Int) : Rat), mdQ 1 2] = True := eq_true (by rw [← r1]; exact (ratL_LB n12 nq).1)
 have lz : LZ [-3] = True := eq_true (by rw [← r2]; exact intL_LZ n12)
 have szO : ∀ (p : List Rat) (n : Nat), (decide (p.length ≤ n) && smL p && cnB p) = true → Sz p n 1 := fun p n h => by
  simp only [Bool.and_eq_true, decide_eq_true_eq] at h
  exact ⟨h.1.1, smL_PB h.1.2 (Nat.le_refl _), cnB_ok h.2⟩
 have g1 := eq_true (mr_of (szO p7 2 (by rw [h7]; decide +kernel)) (szO p8 2 (by rw [h8]; decide +kernel)) (by decide))
 have g2 := eq_true (mr_of (szO p11 3 (by rw [h11]; decide +kernel)) (szO p1 3 (by rw [h1]; decide +kernel)) (by decide))
 have dlz : ∀ n : Nat, n < 4294967296 → dl n ≤ 30000000000000 := fun n h => Nat.le_trans ((dl_le (k := 1)).2 (by simpa using h)) (by decide)
 have y5 := eq_true (dlz (Int.natAbs 5) (by decide))
 have y2 := eq_true (dlz (Int.natAbs 2) (by decide))
 have y0 := eq_true (dlz (Int.natAbs 0) (by decide))
 have y3 := eq_true (dlz (Int.natAbs (-3)) (by decide))
 have u1 : [p1, p9, p10].getD 1 [] = p9 := rfl
 have u2 : [p1, p9, p10].getD 2 [] = p10 := rfl
 have u3 : (p9.length ≤ 1000000) = True := eq_true (by rw [h9]; decide)
 have u4 : (p10.length ≤ 1000000) = True := eq_true (by rw [h10]; decide)
 have u5 : PB p9 5000000000000 = True := eq_true (by rw [h9]; exact smL_PB (by decide +kernel) (by decide))
 have u6 : PB p10 5000000000000 = True := eq_true (by rw [h10]; exact smL_PB (by decide +kernel) (by decide))
 have u7 : decide (p9 = p9) = true := decide_eq_true rfl
 have u8 : decide (p10 = p10) = true := decide_eq_true rfl
 have q0 : ([] : List Int).length = 0 := rfl
 refine PCall.of_awp Tryz.func11 rfl Tryz.ntmps11 Tryz.results11 (by simp) ?_
 have T := (tabs mixed (tbl_cons lPoly_C (tbl_cons chain_C (tbl_cons count_C (tbl_cons r2Whole_C (tbl_cons bound_C (tbl_cons rof_C (tbl_cons same_C (tbl_cons rPMul_C (tbl_cons rats_C (tbl_cons r2Made_C (tbl_cons sameRats_C (tbl_cons ints_C (tbl_cons sameInts_C (tbl_cons rPEq_C tbl_nil)))))))))))))))
 refine AWp.seq (vc_ok T _ _ _ ?_)
 simp only [go_sem, z1, z2, z3, z4, z5, z6, z7, z8, z9, z10, w1, w2, w3, w4, w5, w6, w7, w8, w9, w10, e1, e2, c1, c2, c3, c4, c5, c6, b1, b2, b3, m1, m2, r1, r2, r3, r4, k1, k2, k3, k4, t1, t2, t3, t4, t5, t6, d1, d2, d3, ra, la, rn, i1, i2, lb, lz, g1, g2, q0, y5, y2, y0, y3]
 refine AWp.seq (vc_ok T _ _ _ ?_)
 simp only [go_sem, z1, z2, z3, z4, z5, z6, z7, z8, z9, z10, w1, w2, w3, w4, w5, w6, w7, w8, w9, w10, e1, e2, c1, c2, c3, c4, c5, c6, b1, b2, b3, m1, m2, r1, r2, r3, r4, k1, k2, k3, k4, t1, t2, t3, t4, t5, t6, d1, d2, d3, ra, la, rn, i1, i2, lb, lz, g1, g2, q0, y5, y2, y0, y3]
 refine AWp.seq (vc_ok T _ _ _ ?_)
 simp only [go_sem, z1, z2, z3, z4, z5, z6, z7, z8, z9, z10, w1, w2, w3, w4, w5, w6, w7, w8, w9, w10, e1, e2, c1, c2, c3, c4, c5, c6, b1, b2, b3, m1, m2, r1, r2, r3, r4, k1, k2, k3, k4, t1, t2, t3, t4, t5, t6, d1, d2, d3, ra, la, rn, i1, i2, lb, lz, g1, g2, q0, y5, y2, y0, y3]
 refine AWp.seq (vc_ok T _ _ _ ?_)
 simp only [go_sem, z1, z2, z3, z4, z5, z6, z7, z8, z9, z10, w1, w2, w3, w4, w5, w6, w7, w8, w9, w10, e1, e2, c1, c2, c3, c4, c5, c6, b1, b2, b3, m1, m2, r1, r2, r3, r4, k1, k2, k3, k4, t1, t2, t3, t4, t5, t6, d1, d2, d3, ra, la, rn, i1, i2, lb, lz, g1, g2, q0, y5, y2, y0, y3]
 refine AWp.seq (vc_ok T _ _ _ ?_)
 simp only [go_sem, z1, z2, z3, z4, z5, z6, z7, z8, z9, z10, w1, w2, w3, w4, w5, w6, w7, w8, w9, w10, e1, e2, c1, c2, c3, c4, c5, c6, b1, b2, b3, m1, m2, r1, r2, r3, r4, k1, k2, k3, k4, t1, t2, t3, t4, t5, t6, d1, d2, d3, ra, la, rn, i1, i2, lb, lz, g1, g2, q0, y5, y2, y0, y3]
 refine AWp.seq (vc_ok T _ _ _ ?_)
 simp only [go_sem, z1, z2, z3, z4, z5, z6, z7, z8, z9, z10, w1, w2, w3, w4, w5, w6, w7, w8, w9, w10, e1, e2, c1, c2, c3, c4, c5, c6, b1, b2, b3, m1, m2, r1, r2, r3, r4, k1, k2, k3, k4, t1, t2, t3, t4, t5, t6, d1, d2, d3, ra, la, rn, i1, i2, lb, lz, g1, g2, q0, y5, y2, y0, y3]
 refine AWp.seq (vc_ok T _ _ _ ?_)
 simp only [go_sem, z1, z2, z3, z4, z5, z6, z7, z8, z9, z10, w1, w2, w3, w4, w5, w6, w7, w8, w9, w10, e1, e2, c1, c2, c3, c4, c5, c6, b1, b2, b3, m1, m2, r1, r2, r3, r4, k1, k2, k3, k4, t1, t2, t3, t4, t5, t6, d1, d2, d3, ra, la, rn, i1, i2, lb, lz, g1, g2, q0, y5, y2, y0, y3]
 refine vc_ok T _ _ _ ?_
 simp (maxSteps := 2000000) only [go_sem, z1, z2, z3, z4, z5, z6, z7, z8, z9, z10, w1, w2, w3, w4, w5, w6, w7, w8, w9, w10, e1, e2, c1, c2, c3, c4, c5, c6, b1, b2, b3, m1, m2, r1, r2, r3, r4, k1, k2, k3, k4, t1, t2, t3, t4, t5, t6, d1, d2, d3, ra, la, rn, i1, i2, lb, lz, g1, g2, q0, y5, y2, y0, y3, u1, u2, u3, u4, u5, u6, u7, u8]
 exact by rfl
def kSanity4 : Con := con0 (True, .raw (.bool true))
attribute [go_sem ↓, go_sem] kSanity4
theorem sanity4_C : Ctr Tryz.prog 11 kSanity4 := Ctr.c0 (by kernel_rfl) fun _ => sanity4_V
end Go.Proofs.YtlhapagililgmaaGreat


/- The laws about package sturm: arguments; the law of counts. -/
namespace Go.Proofs.YtlhapagililgmaaGreat
set_option linter.unusedSimpArgs false
set_option linter.unusedVariables false
open Go.RowKit

set_option maxRecDepth 20000 in
theorem fits_raw4 {X : V} {n : Nat} (h : Fits Tryz.prog (n + 4) 25 X) : ∃ a b, X = .agg [.lst (V.i8s a), .lst (V.bytes b)] ∧ PyOk a b 5 := by
 have u3 : Tryz.prog.underlying 38 = some (.int .i8) := by kernel_rfl
 have u4 : Tryz.prog.underlying 22 = some (.slice 38) := by kernel_rfl
 have u5 : Tryz.prog.underlying 23 = some (.slice 5) := by kernel_rfl
 have u6 : Tryz.prog.underlying 5 = some (.int .u8) := by kernel_rfl
 obtain ⟨l, rfl, hl⟩ := fits_struct Tryz.underlying25 h
 obtain ⟨x1, m, rfl, g1, hl⟩ := fitL_cons hl
 obtain ⟨x2, m, rfl, g2, hl⟩ := fitL_cons hl
 have := fitL_nil hl
 subst this
 obtain ⟨R, rfl, lR, hR⟩ := fits_ints u4 u3 g1
 obtain ⟨N, rfl, hN, lN⟩ := fits_bytes u5 u6 g2
 exact ⟨R, N, rfl, ⟨⟨lR, lN⟩, by decide⟩, fun z hz => wf_i8 (hR z hz), hN⟩
set_option maxRecDepth 20000 in
theorem fits_iv {X : V} {n : Nat} (h : Fits Tryz.prog (n + 4) 41 X) : ∃ a b c d, X = .agg [.agg [.raw (.int .i8 a), .raw (.int .i8 b)], .agg [.raw (.int .i8 c), .raw (.int .i8 d)]] ∧ (B8 a ∧ B8 b) ∧ B8 c ∧ B8 d := by
 have u2 : Tryz.prog.underlying 39 = some (.array 2 38) := by kernel_rfl
 have u3 : Tryz.prog.underlying 38 = some (.int .i8) := by kernel_rfl
 obtain ⟨l, rfl, hl⟩ := fits_struct Tryz.underlying41 h
 obtain ⟨x1, m, rfl, g1, hl⟩ := fitL_cons hl
 obtain ⟨x2, m, rfl, g2, hl⟩ := fitL_cons hl
 have := fitL_nil hl
 subst this
 obtain ⟨z, rfl, hz⟩ := fits_pr u2 u3 g1
 obtain ⟨w, rfl, hw⟩ := fits_pr u2 u3 g2
 exact ⟨z.1, z.2, w.1, w.2, rfl, hz, hw⟩
theorem md_sz {z d : Int} (hz : z.natAbs < 4294967296) (h1 : 1 ≤ d) (h2 : d < 4294967296) : qs (mdQ z d) ≤ 1 := by
 obtain ⟨a, b⟩ := md_nd (z := z) h1
 exact qs_sm (by omega) (by omega)
theorem wq_sz {a b : Int} (ha : B8 a) : qs (wQ a b) ≤ 1 := by
 obtain ⟨h1, h2⟩ := ha
 exact md_sz (by omega) (by omega) (by omega)
end Go.Proofs.YtlhapagililgmaaGreat


/- The law of chains. -/
namespace Go.Proofs.YtlhapagililgmaaGreat
set_option linter.unusedSimpArgs false
set_option linter.unusedVariables false
open Go.RowKit

theorem dvT : (allB 10 fun lb => lb == 0 || dvC 9 1800000001 lb 900000000) = true := by decide +kernel
structure ChL (L : List (List Rat)) : Prop where
 sz : ∀ i, i < L.length → Sz (L.getD i []) 9 900000000 ∧ L.getD i [] ≠ []
 st : ∀ i, i + 2 < L.length → pMod (pAdd (L.getD i []) (L.getD (i + 2) [])) (L.getD (i + 1) []) = [] ∧ (L.getD (i + 2) []).length < (L.getD (i + 1) []).length
theorem ChL.dv {L : List (List Rat)} (h : ChL L) {i : Nat} (hi : i + 2 < L.length) : DvOk (pAdd (L.getD i []) (L.getD (i + 2) [])) (L.getD (i + 1) []) := by
 obtain ⟨s1, _⟩ := h.sz i (by omega)
 obtain ⟨s2, n2⟩ := h.sz (i + 1) (by omega)
 obtain ⟨s3, _⟩ := h.sz (i + 2) hi
 have sa := s1.add s3
 have l2 := s2.len
 have := List.length_pos_iff.2 n2
 have hd := allB_ok dvT (L.getD (i + 1) []).length (by omega)
 rw [Bool.or_eq_true, beq_iff_eq] at hd
 exact dvC_ok (hd.resolve_left (by omega)) (can_pAdd _ _) s2.can sa.len rfl sa.pb s2.pb
end Go.Proofs.YtlhapagililgmaaGreat


/- Sums of counts. No program in sight. -/
namespace Go.Proofs.YtlhapagililgmaaGreat
set_option linter.unusedSimpArgs false
set_option linter.unusedVariables false
open Go.RowKit

theorem Tb.ib {p : List Rat} {t H : Nat} (h : IB H (pSc (t : Rat) p)) : ∀ i, ∃ z : Int, (t : Rat) * cf p i = (z : Rat) ∧ z.natAbs ≤ H := fun i => by
 obtain ⟨⟨z, hz⟩, hb⟩ := h i
 rw [cf_pSc] at hz
 rw [cf_pSc, hz] at hb
 exact ⟨z, hz, Bd_int.1 hb⟩
theorem Tb.toIB {p : List Rat} {t H : Nat} (h : ∀ i, ∃ z : Int, (t : Rat) * cf p i = (z : Rat) ∧ z.natAbs ≤ H) : IB H (pSc (t : Rat) p) := fun i => by
 obtain ⟨z, e, l⟩ := h i
 rw [cf_pSc, e]
 exact ⟨⟨z, rfl⟩, Bd_int.2 l⟩
theorem Tb.mul {a b : List Rat} {T H S K n : Nat} (ha : Tb a T H) (hb : Tb b S K) (hn : a.length ≤ n) : Tb (pMul a b) (T * S) (n * (H * K)) := by
 obtain ⟨t, ⟨t1, t2⟩, h1⟩ := ha
 obtain ⟨s, ⟨s1, s2⟩, h2⟩ := hb
 refine ⟨t * s, ⟨Nat.mul_pos t1 s1, Nat.mul_le_mul t2 s2⟩, Tb.ib ?_⟩
 have e : pSc ((t * s : Nat) : Rat) (pMul a b) = pMul (pSc (t : Rat) a) (pSc (s : Rat) b) := ev_inj (can_pSc _ _) (can_pMul _ _) fun x => by
  rw [ev_pSc, ev_pMul, ev_pMul, ev_pSc, ev_pSc, natR_mul]; grind
 rw [e]
 exact IB_mul (Tb.toIB h1) (Tb.toIB h2) (Nat.le_trans (len_pSc _ _) hn)
theorem Tb.sc {a : List Rat} {T H d : Nat} (ha : Tb a T H) {k : Rat} {z : Int} (hd : 1 ≤ d) (e : (d : Rat) * k = (z : Rat)) : Tb (pSc k a) (T * d) (H * z.natAbs) := by
 obtain ⟨t, ⟨t1, t2⟩, h1⟩ := ha
 refine ⟨t * d, ⟨Nat.mul_pos t1 hd, Nat.mul_le_mul_right d t2⟩, fun i => ?_⟩
 obtain ⟨w, hw, hl⟩ := h1 i
 refine ⟨w * z, ?_, by rw [Int.natAbs_mul]; exact Nat.mul_le_mul_right _ hl⟩
 rw [cf_pSc, natR_mul, Rat.intCast_mul, ← hw, ← e]; grind
theorem py_Tb (a : List Int) (b : List Nat) : Tb (pyL a b 5) 2520 22680 := by
 refine ⟨2520, ⟨by decide, Nat.le_refl _⟩, fun i => ?_⟩
 obtain ⟨h1, h2⟩ := py_cf a b 5 i
 generalize cf (pyL a b 5) i = q at h1 h2 ⊢
 have hd := q.den_pos
 obtain ⟨k, hk⟩ : ∃ k, 2520 = q.den * k := by
  have : ∀ n : Fin 10, 1 ≤ n.1 → 2520 = n.1 * (2520 / n.1) := by decide
  exact ⟨_, this ⟨q.den, by omega⟩ hd⟩
 have hk2 : k ≤ 2520 := by rw [hk]; exact Nat.le_mul_of_pos_left k hd
 refine ⟨q.num * (k : Int), ?_, ?_⟩
 ·have e := rat_md q
  rw [hk, natR_mul, Rat.intCast_mul, ← e]
  have : (((k : Nat) : Int) : Rat) = (k : Rat) := rfl
  rw [this]; grind
 ·rw [Int.natAbs_mul, Int.natAbs_natCast]
  exact Nat.le_trans (Nat.mul_le_mul h1 hk2) (by decide)
structure Lw (p : List Rat) : Prop where
 can : Can p
 len : p.length ≤ 5
 tb : Tb p 2520 22680
theorem py_Lw (a : List Int) (b : List Nat) : Lw (pyL a b 5) := ⟨py_can a b 5, by have := py_len a b 5; simp at this; omega, py_Tb a b⟩
section
variable {p : List Rat}
theorem Lw.sz (h : Lw p) : Sz p 5 1 := ⟨h.len, h.tb.pb (by decide) (by decide) (by decide), h.can⟩
theorem Lw.pn (h : Lw p) (p0 : p ≠ []) : Pn p := ⟨h.can, p0, by have := h.len; omega, h.tb.mono (by decide +kernel) (by decide +kernel)⟩
theorem Lw.sq (h : Lw p) (p0 : p ≠ []) : Pn (pMul p p) := ⟨can_pMul _ _, fun e => by rcases (pMul_eq_nil h.can h.can).1 e with h | h <;> exact p0 h, by
 have := len_pMul h.can h.can p0 p0
 have := h.len
 omega, (h.tb.mul h.tb h.len).mono (by decide +kernel) (by decide +kernel)⟩
theorem ct_nil {lo hi : Rat} (h1 : qs lo ≤ 1000) (h2 : qs hi ≤ 1000) : CtOk [] lo hi := ⟨⟨by omega, by omega⟩, fun h => absurd rfl h⟩
theorem Lw.Ct (h : Lw p) {lo hi : Rat} (h1 : qs lo ≤ 1000) (h2 : qs hi ≤ 1000) : CtOk p lo hi := by
 by_cases p0 : p = []
 ·rw [p0]; exact ct_nil h1 h2
 ·exact (h.pn p0).Ct h1 h2
theorem cntP_nil (lo hi : Rat) : cntP [] lo hi = 0 := if_pos (.inl rfl)
end
end Go.Proofs.YtlhapagililgmaaGreat


/- The law of sums. -/
namespace Go.Proofs.YtlhapagililgmaaGreat
set_option linter.unusedSimpArgs false
set_option linter.unusedVariables false
open Go.RowKit

end Go.Proofs.YtlhapagililgmaaGreat


/- Contracts: products of linear factors of the laws about package sturm. -/
namespace Go.Proofs.YtlhapagililgmaaGreat
set_option linter.unusedSimpArgs false
set_option linter.unusedVariables false
open Go.RowKit

abbrev Tri := Int × Int × Int
def lnR (r : Rat) : List Rat := tr [-((r.num : Int) : Rat), ((r.den : Int) : Rat)]
def rtQ (z : Tri) : Rat := mdQ (z.1.tmod 10) (1 + z.2.1 % 256 % 5)
def rtN (z : Tri) : Nat := (z.2.2 % 256 % 2).toNat
def mulK (o f : List Rat) : Nat → List Rat
 | 0 => o
 | k + 1 => pMul (mulK o f k) f
def pdP (L : List Tri) : Nat → List Rat
 | 0 => pyL [1] [] 1
 | i + 1 => mulK (pdP L i) (lnR (rtQ (L.getD i (0, 0, 0)))) (rtN (L.getD i (0, 0, 0)) + 1)
theorem lnR_eq (r : Rat) : lnR r = [-((r.num : Int) : Rat), ((r.den : Int) : Rat)] := by
 have h := r.den_pos
 refine tr_of_can ?_
 rw [Can_cons, if_neg (by simp), Can_cons, if_pos rfl]
 intro e
 have : (r.den : Int) = 0 := intCast_inj4 e
 omega
theorem lnR_can (r : Rat) : Can (lnR r) := tr_can _
theorem rtQ_nd {z : Tri} : (rtQ z).num.natAbs ≤ 9 ∧ (rtQ z).den ≤ 5 := by
 have t1 : z.1.tmod 10 < 10 := Int.tmod_lt_of_pos _ (by decide)
 have t2 : -10 < z.1.tmod 10 := Int.lt_tmod_of_pos _ (by decide)
 obtain ⟨h1, h2⟩ := md_nd (z := z.1.tmod 10) (d := 1 + z.2.1 % 256 % 5) (by omega)
 unfold rtQ
 exact ⟨by omega, by omega⟩
theorem rtQ_sz {z : Tri} : qs (rtQ z) ≤ 1 := by
 obtain ⟨h1, h2⟩ := rtQ_nd (z := z)
 exact qs_sm (by omega) (by omega)
structure PdI (o : List Rat) (j : Nat) : Prop where
 can : Can o
 len : o.length = j + 1
 ib : IB (18 ^ j) o
theorem PdI.one : PdI (pyL [1] [] 1) 0 := by
 have e : pyL [1] [] 1 = [1] := by decide +kernel
 rw [e]
 refine ⟨by rw [Can_cons, if_pos rfl]; decide, rfl, fun i => ?_⟩
 cases i with
 | zero => exact ⟨⟨1, rfl⟩, by rw [cf_zero]; unfold Bd; decide⟩
 | succ i => exact ⟨⟨0, rfl⟩, by rw [cf_succ, cf_nil]; unfold Bd; decide⟩
theorem lnR_ib {r : Rat} (h1 : r.num.natAbs ≤ 9) (h2 : r.den ≤ 5) : IB 9 (lnR r) := by
 rw [lnR_eq]
 intro i
 rcases i with _ | _ | i
 ·rw [cf_zero, ← Rat.intCast_neg]
  exact ⟨⟨_, rfl⟩, Bd_int.2 (by omega)⟩
 ·rw [cf_succ, cf_zero]
  exact ⟨⟨_, rfl⟩, Bd_int.2 (by omega)⟩
 ·rw [cf_succ, cf_succ, cf_nil]
  exact ⟨⟨0, rfl⟩, by unfold Bd; decide⟩
theorem PdI.step {o : List Rat} {j : Nat} (h : PdI o j) {r : Rat} (h1 : r.num.natAbs ≤ 9) (h2 : r.den ≤ 5) : PdI (pMul o (lnR r)) (j + 1) := by
 have l2 : (lnR r).length = 2 := by rw [lnR_eq]; rfl
 have n2 : lnR r ≠ [] := by rw [lnR_eq]; simp
 have n1 : o ≠ [] := fun e => by have := h.len; rw [e] at this; simp at this
 refine ⟨can_pMul _ _, by rw [len_pMul h.can (lnR_can r) n1 n2, h.len, l2]; omega, ?_⟩
 rw [pMul_comm]
 have := IB_mul (lnR_ib h1 h2) h.ib (n := 2) (by omega)
 rw [Nat.pow_succ]
 refine this.mono (by omega)
theorem IB.pb {H : Nat} {o : List Rat} (h : IB H o) (hH : H < 4294967296) : PB o 1 := fun i => by
 obtain ⟨⟨z, hz⟩, hb⟩ := h i
 rw [hz] at hb ⊢
 have := Bd_int.1 hb
 exact Nat.le_trans (qs_int z) (Nat.max_le.2 ⟨(dl_le (k := 1)).2 (by simp; omega), Nat.le_refl _⟩)
theorem PdI.sz {o : List Rat} {j : Nat} (h : PdI o j) (hj : j ≤ 6) : Sz o 7 1 :=
 ⟨by rw [h.len]; omega, h.ib.pb (Nat.lt_of_le_of_lt (Nat.pow_le_pow_right (by decide) hj) (by decide)), h.can⟩
theorem PdI.mulK {o : List Rat} {j : Nat} (h : PdI o j) {r : Rat} (h1 : r.num.natAbs ≤ 9) (h2 : r.den ≤ 5) : ∀ k, PdI (mulK o (lnR r) k) (j + k)
 | 0 => h
 | k + 1 => (PdI.mulK h h1 h2 k).step h1 h2
theorem PdI.all (L : List Tri) : ∀ i, ∃ j, j ≤ 2 * i ∧ PdI (pdP L i) j
 | 0 => ⟨0, Nat.le_refl _, PdI.one⟩
 | i + 1 => by
   obtain ⟨j, h1, h2⟩ := PdI.all L i
   obtain ⟨k1, k2⟩ := rtQ_nd (z := L.getD i (0, 0, 0))
   have hn : rtN (L.getD i (0, 0, 0)) ≤ 1 := by unfold rtN; omega
   exact ⟨_, by omega, PdI.mulK h2 k1 k2 (rtN (L.getD i (0, 0, 0)) + 1)⟩
end Go.Proofs.YtlhapagililgmaaGreat


/- The products of the laws: roots, counts, sizes. -/
namespace Go.Proofs.YtlhapagililgmaaGreat
set_option linter.unusedSimpArgs false
set_option linter.unusedVariables false
open Go.RowKit

structure PrF (p : List Rat) (rs : List Rat) : Prop where
 pn : Pn p
 lq : Pn (lqP p)
 inc : rs.Pairwise (· < ·)
 root : ∀ x, ev p x = 0 ↔ x ∈ rs
 sq : ∃ (k : Rat) (g : Rat → Rat), k ≠ 0 ∧ (∀ x, 0 < g x) ∧ ∀ x, ev (sqp p) x = k * prodR rs x * g x
section
variable {p rs : List Rat}
def intsOf (l : List Rat) : List Int := (l.filter fun r => decide ((r.den : Int) = 1)).map Rat.num
theorem den_one {r : Rat} (h : (r.den : Int) = 1) : r = (r.num : Rat) := by
 have h1 : r.den = 1 := by omega
 exact Rat.ext rfl h1
theorem intsOf_mem {l : List Rat} {z : Int} : z ∈ intsOf l ↔ (z : Rat) ∈ l := by
 unfold intsOf
 rw [List.mem_map]
 constructor
 ·rintro ⟨r, hr, rfl⟩
  obtain ⟨h1, h2⟩ := List.mem_filter.1 hr
  rw [← den_one (of_decide_eq_true h2)]; exact h1
 ·intro h
  exact ⟨(z : Rat), List.mem_filter.2 ⟨h, decide_eq_true rfl⟩, rfl⟩
theorem intsOf_inc : ∀ {l : List Rat}, l.Pairwise (· < ·) → (intsOf l).Pairwise (· < ·)
 | [], _ => List.Pairwise.nil
 | r :: l, h => by
   obtain ⟨h1, h2⟩ := List.pairwise_cons.1 h
   have ih := intsOf_inc h2
   by_cases hr : (r.den : Int) = 1
   ·have e : intsOf (r :: l) = r.num :: intsOf l := by
     unfold intsOf
     rw [List.filter_cons_of_pos (by simpa using hr)]; rfl
    rw [e, List.pairwise_cons]
    refine ⟨fun z hz => ?_, ih⟩
    have h3 := h1 _ (intsOf_mem.1 hz)
    rw [den_one hr] at h3
    exact Rat.intCast_lt_intCast.1 h3
   ·have e : intsOf (r :: l) = intsOf l := by
     unfold intsOf
     rw [List.filter_cons_of_neg (by simpa using hr)]
    rw [e]; exact ih
theorem PrF.int (h : PrF p rs) : intL p = intsOf rs := by
 obtain ⟨h3, h4⟩ := intL_ok h.pn.can h.pn.ne
 exact inc_uniqZ h4 (intsOf_inc h.inc) fun z => by rw [h3, intsOf_mem, h.root]
end
end Go.Proofs.YtlhapagililgmaaGreat


/- The law of counts of a product. -/
namespace Go.Proofs.YtlhapagililgmaaGreat
set_option linter.unusedSimpArgs false
set_option linter.unusedVariables false
open Go.RowKit

end Go.Proofs.YtlhapagililgmaaGreat


/- Shifted polynomials: sizes, roots, counts. -/
namespace Go.Proofs.YtlhapagililgmaaGreat
set_option linter.unusedSimpArgs false
set_option linter.unusedVariables false
open Go.RowKit

def shI (a b : Int) : List Rat → List Rat
 | [] => []
 | c :: p => addL [((b ^ p.length : Int) : Rat) * c] (mulL [(a : Rat), (b : Rat)] (shI a b p))
theorem shI_ev {a b : Int} (hb : (b : Rat) ≠ 0) (x : Rat) : ∀ p : List Rat, (b : Rat) * ev (shI a b p) x = ((b ^ p.length : Int) : Rat) * ev p (x + (a : Rat) / (b : Rat))
 | [] => by show (b : Rat) * 0 = _ * 0; rw [Rat.mul_zero, Rat.mul_zero]
 | c :: p => by
   have ih := shI_ev (a := a) hb x p
   have bi := Rat.mul_inv_cancel _ hb
   rw [shI, ev_addL, ev_mulL]
   have e1 : ev [((b ^ p.length : Int) : Rat) * c] x = ((b ^ p.length : Int) : Rat) * c := ev_sing _ _
   have e2 : ev [(a : Rat), (b : Rat)] x = (a : Rat) + x * (b : Rat) := by simp only [ev]; grind
   have e3 : ev (c :: p) (x + (a : Rat) / (b : Rat)) = c + (x + (a : Rat) / (b : Rat)) * ev p (x + (a : Rat) / (b : Rat)) := rfl
   have e4 : ((b ^ (c :: p).length : Int) : Rat) = ((b ^ p.length : Int) : Rat) * (b : Rat) := by
    rw [List.length_cons, Int.pow_succ, Rat.intCast_mul]
   rw [e1, e2, e3, e4]
   simp only [Rat.div_def] at ih ⊢
   generalize ev (shI a b p) x = S at *
   generalize ev p (x + (a : Rat) * (b : Rat)⁻¹) = E at *
   generalize ((b ^ p.length : Int) : Rat) = B at *
   generalize (b : Rat)⁻¹ = y at *
   generalize (b : Rat) = d at *
   generalize (a : Rat) = n at *
   grind
theorem shI_ib {H : Nat} {a b : Int} (ha : a.natAbs ≤ 9) (hb : b.natAbs ≤ 5) : ∀ p : List Rat, IB H p → IB (H * 30 ^ p.length) (shI a b p)
 | [], h => fun i => ⟨⟨0, rfl⟩, by
   have : Bd 0 (0 : Rat) := ⟨by decide, by decide⟩
   exact this.mono (Nat.zero_le _)⟩
 | c :: p, h => fun i => by
   have ih := shI_ib ha hb p fun i => h (i + 1)
   have h2 : IB 9 [(a : Rat), (b : Rat)] := fun i => by
    rcases i with _ | _ | i
    ·rw [cf_zero]; exact ⟨⟨_, rfl⟩, Bd_int.2 ha⟩
    ·rw [cf_succ, cf_zero]; exact ⟨⟨_, rfl⟩, Bd_int.2 (by omega)⟩
    ·rw [cf_succ, cf_succ, cf_nil]; exact ⟨⟨0, rfl⟩, by unfold Bd; decide⟩
   have h3 := IB_mulL ih [(a : Rat), (b : Rat)] h2 i
   have l2 : ([(a : Rat), (b : Rat)] : List Rat).length = 2 := rfl
   rw [l2] at h3
   have hc := h 0
   rw [cf_zero] at hc
   obtain ⟨⟨z, hz⟩, hcb⟩ := hc
   rw [hz] at hcb
   have hcb := Bd_int.1 hcb
   have h1 : IsI (cf [((b ^ p.length : Int) : Rat) * c] i) ∧ Bd (5 ^ p.length * H) (cf [((b ^ p.length : Int) : Rat) * c] i) := by
    cases i with
    | zero =>
      rw [cf_zero, hz, ← Rat.intCast_mul]
      refine ⟨⟨_, rfl⟩, Bd_int.2 ?_⟩
      rw [Int.natAbs_mul, Int.natAbs_pow]
      exact Nat.mul_le_mul (Nat.pow_le_pow_left hb _) hcb
    | succ i =>
      rw [cf_succ, cf_nil]
      have : Bd 0 (0 : Rat) := ⟨by decide, by decide⟩
      exact ⟨⟨0, rfl⟩, this.mono (Nat.zero_le _)⟩
   rw [shI, cf_addL]
   refine ⟨h1.1.add h3.1, (h1.2.add h3.2).mono ?_⟩
   rw [List.length_cons, Nat.pow_succ]
   have k1 : 5 ^ p.length * H ≤ 30 ^ p.length * H := Nat.mul_le_mul_right H (Nat.pow_le_pow_left (by decide) _)
   generalize 30 ^ p.length = P at *
   generalize 5 ^ p.length = F at *
   have e1 : 2 * (9 * (H * P)) = 18 * (H * P) := by omega
   have e2 : H * (P * 30) = 30 * (H * P) := by rw [← Nat.mul_assoc, Nat.mul_comm]
   have e3 : P * H = H * P := Nat.mul_comm _ _
   omega
theorem shift_su (c : Rat) {p : List Rat} (hp : Can p) : pShift c p = suP 1 c p := ev_inj (can_pShift hp) (can_suP _ _ _) fun x => by
 rw [ev_pShift, ev_suP, show (1 : Rat) * x + c = x + c by grind]
theorem Tb.su {p : List Rat} {T H : Nat} (h : Tb p T H) (hp : Can p) {c : Rat} (hn : c.num.natAbs ≤ 9) (hd : c.den ≤ 5) : Tb (suP 1 c p) (T * 5 ^ p.length) (5 * (H * 30 ^ p.length)) := by
 obtain ⟨t, ⟨t1, t2⟩, h1⟩ := h
 have dp := c.den_pos
 have d0 : ((c.den : Int) : Rat) ≠ 0 := fun e => by
  have : (c.den : Int) = 0 := intCast_inj4 e
  omega
 have ec : (c.num : Rat) / ((c.den : Int) : Rat) = c := by
  have := Rat.divInt_eq_div c.num (c.den : Int)
  rw [Rat.num_divInt_den] at this
  exact this.symm
 have hI := shI_ib (a := c.num) (b := (c.den : Int)) hn (by rw [Int.natAbs_natCast]; exact hd) (pSc (t : Rat) p) (Tb.toIB h1)
 have hlen := len_pSc' (natR_ne t1) hp
 rw [hlen] at hI
 refine ⟨t * c.den ^ p.length, ⟨Nat.mul_pos t1 (Nat.pow_pos dp), Nat.mul_le_mul t2 (Nat.pow_le_pow_left hd _)⟩, fun i => ?_⟩
 obtain ⟨⟨z, hz⟩, hzb⟩ := hI i
 rw [hz] at hzb
 have hzb := Bd_int.1 hzb
 have e : cf (scL ((t * c.den ^ p.length : Nat) : Rat) (suP 1 c p)) i = cf (scL ((c.den : Int) : Rat) (shI c.num (c.den : Int) (pSc (t : Rat) p))) i := cf_of_ev (fun x => by
  rw [ev_scL, ev_scL, ev_suP]
  have h5 := shI_ev (a := c.num) d0 x (pSc (t : Rat) p)
  rw [ec, ev_pSc, hlen] at h5
  rw [h5, natR_mul, show (1 : Rat) * x + c = x + c by grind]
  have e6 : ((c.den ^ p.length : Nat) : Rat) = (((c.den : Int) ^ p.length : Int) : Rat) := by
   have : (((c.den ^ p.length : Nat) : Int)) = (c.den : Int) ^ p.length := Int.natCast_pow _ _
   rw [← this]; rfl
  rw [e6]; grind) i
 rw [cf_scL, cf_scL, hz, ← Rat.intCast_mul] at e
 refine ⟨(c.den : Int) * z, e, ?_⟩
 rw [Int.natAbs_mul, Int.natAbs_natCast]
 exact Nat.mul_le_mul hd hzb
theorem Lw.su {p : List Rat} (h : Lw p) (p0 : p ≠ []) {c : Rat} (hn : c.num.natAbs ≤ 9) (hd : c.den ≤ 5) : (Pn (suP 1 c p) ∧ Pn (lqP (suP 1 c p))) ∧ Pn (lqP p) := by
 have hl := h.len
 have n0 := su_ne (show (1 : Rat) ≠ 0 by decide) c h.can p0
 have ll := su_len (show (1 : Rat) ≠ 0 by decide) c h.can
 have h1 := (h.tb.su h.can hn hd).mono (T' := 2520 * 5 ^ 5) (H' := 5 * (22680 * 30 ^ 5)) (Nat.mul_le_mul_left _ (Nat.pow_le_pow_right (by decide) hl)) (Nat.mul_le_mul_left _ (Nat.mul_le_mul_left _ (Nat.pow_le_pow_right (by decide) hl)))
 have a1 : Pn (suP 1 c p) := ⟨can_suP _ _ _, n0, by omega, h1.mono (by decide +kernel) (by decide +kernel)⟩
 exact ⟨⟨a1, a1.lq h1 (N := 4) (by omega) (by decide +kernel) (by decide +kernel)⟩, (h.pn p0).lq h.tb (N := 4) (by omega) (by decide +kernel) (by decide +kernel)⟩
theorem Lw.lq {p : List Rat} (h : Lw p) (p0 : p ≠ []) : Pn (lqP p) := (h.pn p0).lq h.tb (N := 4) (by have := h.len; omega) (by decide +kernel) (by decide +kernel)
theorem ratL_su {p : List Rat} (hp : Can p) (c : Rat) : ratL (suP 1 c p) = (ratL p).map fun r => r - c := by
 have ll := su_len (show (1 : Rat) ≠ 0 by decide) c hp
 by_cases h2 : 2 ≤ p.length
 ·obtain ⟨a1, a2⟩ := ratL_ok (can_suP 1 c p) (show 2 ≤ (suP 1 c p).length by omega)
  obtain ⟨b1, b2⟩ := ratL_ok hp h2
  refine inc_uniqQ a2 (List.pairwise_map.2 (b2.imp fun {x y} h => by grind)) fun r => ?_
  rw [a1, ev_suP, List.mem_map]
  constructor
  ·intro h
   exact ⟨1 * r + c, (b1 _).2 h, by grind⟩
  ·rintro ⟨s, hs, rfl⟩
   rw [show 1 * (s - c) + c = s by grind]
   exact (b1 s).1 hs
 ·have e1 : ratL p = [] := if_pos (by omega)
  have e2 : ratL (suP 1 c p) = [] := if_pos (by omega)
  rw [e1, e2]; rfl
theorem cnt_su {p : List Rat} (hp : Can p) (c lo hi : Rat) : cntP (suP 1 c p) (lo - c) (hi - c) = cntP p lo hi := by
 by_cases p0 : p = []
 ·subst p0
  rw [su_nil, cntP_nil, cntP_nil]
 ·have n0 := su_ne (show (1 : Rat) ≠ 0 by decide) c hp p0
  unfold cntP
  rw [vrS_su c hp p0, vrS_su c hp p0, show lo - c + c = lo by grind, show hi - c + c = hi by grind]
  have : (hi - c ≤ lo - c) ↔ hi ≤ lo := ⟨fun h => by grind, fun h => by grind⟩
  simp only [p0, n0, false_or, this]
end Go.Proofs.YtlhapagililgmaaGreat

