/- Texts LS6 LS7 in one. -/
import Derived.Test.YtlhapagililgmaaGreatR36
/- The law of the bound. -/
namespace Go.Proofs.YtlhapagililgmaaGreat
set_option linter.unusedSimpArgs false
set_option linter.unusedVariables false
open Go.RowKit

theorem divInt_one (z : Int) : Rat.divInt z 1 = (z : Rat) := by
 rw [Rat.divInt_eq_div, Rat.div_def, show (((1 : Int) : Rat))⁻¹ = 1 by decide +kernel, Rat.mul_one]
theorem qi_p (z : Int) : pQ.p (.agg [.I z, .I 1]) = some (True, (z : Rat)) := by
 show some (True ∧ True ∧ (Rat.divInt z 1).num = z ∧ ((Rat.divInt z 1).den : Int) = 1, Rat.divInt z 1) = _
 rw [divInt_one]
 have : (True ∧ True ∧ ((z : Rat)).num = z ∧ (((z : Rat)).den : Int) = 1) = True := eq_true ⟨trivial, trivial, rfl, rfl⟩
 rw [this]
theorem qa_p (q : Rat) : pQ.p (.agg [.I ((q.num.natAbs : Nat) : Int), .I (q.den : Int)]) = some (True, abQ q) := by
 obtain ⟨e1, e2⟩ := abQ_nd q
 have e0 : sv false (dg q.num.natAbs) = ((q.num.natAbs : Nat) : Int) := by unfold sv; rw [if_neg (by decide), lv_dg]
 rw [e0] at e1
 have e3 : Rat.divInt ((q.num.natAbs : Nat) : Int) (q.den : Int) = abQ q := by rw [← e1, ← e2]; exact Rat.num_divInt_den _
 show some (True ∧ True ∧ (Rat.divInt ((q.num.natAbs : Nat) : Int) (q.den : Int)).num = ((q.num.natAbs : Nat) : Int) ∧ ((Rat.divInt ((q.num.natAbs : Nat) : Int) (q.den : Int)).den : Int) = (q.den : Int), Rat.divInt ((q.num.natAbs : Nat) : Int) (q.den : Int)) = _
 rw [e3]
 have : (True ∧ True ∧ (abQ q).num = ((q.num.natAbs : Nat) : Int) ∧ ((abQ q).den : Int) = (q.den : Int)) = True := eq_true ⟨trivial, trivial, e1, by rw [e2]⟩
 rw [this]
theorem sv_dg0 (n : Nat) : sv false (dg n) = (n : Int) := by unfold sv; rw [if_neg (by decide), lv_dg]
theorem cnt_bnd {p : List Rat} (hp : Can p) (h2 : 2 ≤ p.length) {f : Int} (hf : bndZ p ≤ f) (hb : 1 ≤ bndZ p) : cntP p ((-bndZ p - 1 : Int) : Rat) (bndZ p : Rat) = cntP p ((-f - 1 : Int) : Rat) (f : Rat) := by
 have p0 : p ≠ [] := fun e => by rw [e] at h2; simp at h2
 have c1 : ((-bndZ p - 1 : Int) : Rat) < (bndZ p : Rat) := cast_lt (by omega)
 have c2 : ((-f - 1 : Int) : Rat) < (f : Rat) := cast_lt (by omega)
 have l1 : (bndZ p : Rat) ≤ (f : Rat) := Rat.intCast_le_intCast.2 hf
 have l2 : ((-f - 1 : Int) : Rat) ≤ ((-bndZ p - 1 : Int) : Rat) := Rat.intCast_le_intCast.2 (by omega)
 have l3 : ((-bndZ p - 1 : Int) : Rat) ≤ -(bndZ p : Rat) := by
  rw [← Rat.intCast_neg]
  exact Rat.intCast_le_intCast.2 (by omega)
 have h1 := vrS_bnd hp h2 l1 (.inl (Std.le_refl _))
 have h3 := vrS_bnd hp h2 l2 (.inr l3)
 unfold cntP
 rw [if_neg (fun h => h.elim p0 fun h => absurd c1 (Rat.not_lt.2 h)), if_neg (fun h => h.elim p0 fun h => absurd c2 (Rat.not_lt.2 h)), h1, h3]
theorem bndZ_pos {p : List Rat} (h2 : 2 ≤ p.length) : 1 ≤ bndZ p := by
 have h := bndZ_ge h2
 have h3 := mxQ_nn p (p.length - 1)
 have : ((1 : Int) : Rat) ≤ (bndZ p : Rat) := by rw [show ((1 : Int) : Rat) = 1 from rfl]; grind
 exact Rat.intCast_le_intCast.1 this
set_option maxRecDepth 8000 in
set_option maxHeartbeats 1000000 in
theorem bounds_V (x : List Int) (y : List Nat) (hx : PyOk x y 5) (n : Int) (hn : 0 ≤ n ∧ n ≤ 255) : PCall Tryz.prog 7 [.agg [.lst (V.i8s x), .lst (V.bytes y)], .raw (.int .u8 n)] (.raw (.bool true)) := by
 have T := (tabs mixed (tbl_cons sanity4_C (tbl_cons made4_C (tbl_cons bound_C (tbl_cons rsign_C (tbl_cons rvalid_C (tbl_cons rof_C (tbl_cons radd_C (tbl_cons rneg_C (tbl_cons rsub_C (tbl_cons count_C (tbl_cons rats_C (tbl_cons rmade_C (tbl_cons r2Cmp_C tbl_nil))))))))))))))
 have hs := py_Lw x y
 have hsm := py_Sm x y
 have hx' := eq_true hx
 obtain ⟨p, ep⟩ : ∃ p, pyL x y 5 = p := ⟨_, rfl⟩
 rw [ep] at hs hsm
 have t1 := eq_true (sm_Bd hsm)
 refine PCall.of_vc T Tryz.func7 rfl Tryz.ntmps7 Tryz.results7 (by simp) ?_
 by_cases h2 : p.length < 2
 ·have c1 : (p.length : Int) < 2 := by omega
  have e0 : bndZ p = 0 := if_pos h2
  have e1 : (sgI 0 == 0) = true := rfl
  simp only [go_sem, hx', ep, t1, c1, e0, e1]
 ·have c1 : ¬ (p.length : Int) < 2 := by omega
  have p0 : p ≠ [] := fun e => by rw [e] at h2; exact h2 (by decide)
  have hp := hs.pn p0
  have hB := bndZ_pos (p := p) (by omega)
  have hb := hp.bnd
  have hc := cnt_bnd hs.can (by omega) (f := bndZ p + (1 + n)) (by omega) hB
  have hlq := hs.lq p0
  have t2 := eq_true (hp.Ra hlq)
  have t3 := eq_true (show p.length ≤ 1000000 by have := hs.len; omega)
  have dB : ∀ z : Int, z.natAbs ≤ (bndZ p).natAbs + 300 → dl z.natAbs ≤ 60 := fun z hz => by
   have h1 := dl_add (bndZ p).natAbs 300
   have h3 : dl 300 ≤ 1 := (dl_le (k := 1)).2 (by decide)
   have := dl_mono hz
   omega
  obtain ⟨hL, hLp, hLl⟩ := ratL_LB hp hlq
  have hroot := (ratL_ok hs.can (show 2 ≤ p.length by omega)).1
  have hbn : ∀ r, r ∈ ratL p → abQ r < (bndZ p : Rat) := fun r hr => by
   rw [abQ_ab]
   exact (root_bnd hs.can p0 ((hroot r).1 hr)).2
  obtain ⟨B, eB⟩ : ∃ B, bndZ p = B := ⟨_, rfl⟩
  obtain ⟨l, el⟩ : ∃ B, ratL p = B := ⟨_, rfl⟩
  rw [eB] at hB hb hc dB hbn
  rw [el] at hL hLp hLl hbn
  have s1 : sgI B = 1 := cmpI_gt (by omega)
  have s2 : ¬ sgI B ≤ 0 := by rw [s1]; decide
  have vb := validB_I B
  have qz : ∀ z : Int, z.natAbs ≤ B.natAbs + 300 → qs (z : Rat) ≤ 1000 := fun z hz => Nat.le_trans (qs_int z) (Nat.max_le.2 ⟨Nat.le_trans (dB z hz) (by decide), by decide⟩)
  have f0 : IntKind.i64.wrap n = n := IntWalk.i64_in _ ⟨by omega, by omega⟩
  have k1 := eq_true (hp.Ct (lo := ((-B - 1 : Int) : Rat)) (hi := (B : Rat)) (qz _ (by omega)) (qz _ (by omega)))
  have k2 := eq_true (hp.Ct (lo := ((-(B + (1 + n)) - 1 : Int) : Rat)) (hi := ((B + (1 + n) : Int) : Rat)) (qz _ (by omega)) (qz _ (by omega)))
  have y1 : dl (Int.natAbs 1) ≤ 14000000000000 := Nat.le_trans ((dl_le (k := 1)).2 (by decide)) (by decide)
  have m1 := eq_true (Nat.le_trans (dB B (by omega)) (show 60 ≤ 14000000000000 by decide))
  have m2 := eq_true (Nat.le_trans (dB (1 + n) (by omega)) (show 60 ≤ 14000000000000 by decide))
  have m3 := eq_true (Nat.le_trans (dB B (by omega)) (show 60 ≤ 30000000000000 by decide))
  have m4 := eq_true (Nat.le_trans (dB (-B) (by omega)) (show 60 ≤ 14000000000000 by decide))
  have m5 := eq_true (Nat.le_trans (dB (B + (1 + n)) (by omega)) (show 60 ≤ 30000000000000 by decide))
  have m6 := eq_true (Nat.le_trans (dB (-(B + (1 + n))) (by omega)) (show 60 ≤ 14000000000000 by decide))
  have m7 : (dg B.natAbs).length ≤ 9223372036854775807 := Nat.le_trans (show dl B.natAbs ≤ 60 from dB B (by omega)) (by decide)
  obtain ⟨w, ew⟩ : ∃ w, cntP p ((-B - 1 : Int) : Rat) (B : Rat) = w := ⟨_, rfl⟩
  have ew2 : cntP p ((-(B + (1 + n)) - 1 : Int) : Rat) ((B + (1 + n) : Int) : Rat) = w := by rw [← hc, ew]
  have z1 : (w != w) = false := by simp
  simp only [go_sem, hx', ep, t1, c1, eB, s1, s2, vb, f0, k1, k2, y1, m1, m2, m3, m4, m5, m6, m7, qi_p, ew, ew2, z1, t2, t3, el]
  refine ⟨⟨by omega, by omega⟩, ⟨by omega, by omega⟩, by rfl, by rfl, by rfl, ?_⟩
  refine AWp.loops (X := { i : Nat // i ≤ l.length }) (fun i => mkSt [(5, .raw (.bool true)), (7, .ptr 0 2 0 0), (8, .ptr 1 2 0 0), (12, .lst (V.rats l)), (13, .raw (.int .i64 (i.1 : Nat)))]
   [(0, true, ⟨44, 2, [.I B]⟩), (1, true, ⟨44, 2, [.I 1]⟩)] 2 98) (fun i => l.length - i.1) ⟨0, Nat.zero_le _⟩ (Wk.of [12, 23] (by decide) ?_) ?_
  ·simp only [go_sem, Int.natCast_zero]
  rintro ⟨i, hin⟩
  refine vc_at T ?_
  by_cases hlt : i < l.length
  ·have d1 : (i : Int) < (l.length : Int) := by omega
   have d2 : (i : Int) + 1 = ((i + 1 : Nat) : Int) := by omega
   have d3 : 0 ≤ (i : Int) := by omega
   have hm := hbn (cf l i) (mem_cf.2 ⟨i, hlt, rfl⟩)
   have g1 : ¬ 0 < cmpQ (abQ (cf l i)) (B : Rat) := by
    unfold cmpQ
    rw [if_pos hm]; decide
   have qi : qs (abQ (cf l i)) ≤ 5000000000000 := by rw [qs_abQ]; exact Nat.le_trans (hLp i) (by decide)
   have qB : qs (B : Rat) ≤ 5000000000000 := Nat.le_trans (qz B (by omega)) (by decide)
   have hd : (dg (cf l i).num.natAbs).length ≤ 30000000000000 := Nat.le_trans (show dl (cf l i).num.natAbs ≤ 80 from Nat.le_trans (qs_num _) (hLp i)) (by decide)
   have hL1 : Lim (dg (cf l i).num.natAbs) = True := eq_true (dg_canon _).1
   simp only [go_sem, d1, d2, d3, hlt, hd, hL1, sv_dg0, qa_p, qi_p, g1, qi, qB]
   refine ⟨by rfl, ⟨by omega, by omega⟩, ⟨i + 1, hlt⟩, Wk.of [0, 1] (by decide) ?_, by simp only; omega⟩
   simp only [go_sem]
  ·obtain rfl : i = l.length := by omega
   have d1 : ¬ (l.length : Int) < (l.length : Int) := by omega
   simp only [go_sem, d1]
set_option maxRecDepth 20000 in
theorem lawBounds_F (X Y : V) (h : Fits Tryz.prog 6 25 X) (h2 : Fits Tryz.prog 6 5 Y) : PCall Tryz.prog 7 [X, Y] (.raw (.bool true)) := by
 have u6 : Tryz.prog.underlying 5 = some (.int .u8) := by kernel_rfl
 obtain ⟨x, y, rfl, hx⟩ := fits_raw4 h
 obtain ⟨n, hn, rfl⟩ := fits_int u6 h2
 exact bounds_V x y hx n (by have := wf_u8 hn; omega)
end Go.Proofs.YtlhapagililgmaaGreat


/- The law of the roots of a product. -/
namespace Go.Proofs.YtlhapagililgmaaGreat
set_option linter.unusedSimpArgs false
set_option linter.unusedVariables false
open Go.RowKit

theorem intsOf_take {rs : List Rat} {i : Nat} (h : i < rs.length) : intsOf (rs.take (i + 1)) = if ((cf rs i).den : Int) = 1 then intsOf (rs.take i) ++ [(cf rs i).num] else intsOf (rs.take i) := by
 rw [List.take_add_one, List.getElem?_eq_getElem h, ← cf_lt h]
 unfold intsOf
 show ((rs.take i ++ [cf rs i]).filter _).map _ = _
 rw [List.filter_append, List.map_append]
 split
 ·rename_i hd
  rw [List.filter_cons_of_pos (by simpa using hd)]; rfl
 ·rename_i hd
  rw [List.filter_cons_of_neg (by simpa using hd)]; simp
theorem intsOf_len (l : List Rat) : (intsOf l).length ≤ l.length := by
 unfold intsOf
 rw [List.length_map]
 exact List.length_filter_le _ _
def inSt (rs p : List Rat) (i : Nat) : St := mkSt [(3, .raw (.bool true)), (4, .lst (V.rats p)), (5, .lst (V.rats rs)), (6, .sl 0 2 0 (intsOf (rs.take i)).length), (7, .raw (.int .i64 (i : Nat)))] [(0, true, ⟨44, 2, V.zs (intsOf (rs.take i))⟩)] 1 49
set_option maxRecDepth 8000 in
set_option maxHeartbeats 1000000 in
theorem finds_V (L : List Tri) (C : List Nat) (hx : TrOk L C) : PCall Tryz.prog 8 [.agg [.lst (V.trs L), .lst (V.bytes C)]] (.raw (.bool true)) := by
 have T := (tabs mixed (tbl_cons sanity4_C (tbl_cons prod4_C (tbl_cons rof_C (tbl_cons same_C (tbl_cons rats_C (tbl_cons sameRats_C (tbl_cons ints_C (tbl_cons sameInts_C tbl_nil)))))))))
 have mx : maxLen = 9223372036854775807 := by decide
 have hs := prF L C
 have hx' := eq_true hx
 have qR := prR_qs L
 have lR := prR_len L
 obtain ⟨p, ep⟩ : ∃ p, prP L C = p := ⟨_, rfl⟩
 obtain ⟨rs, er⟩ : ∃ p, prR L = p := ⟨_, rfl⟩
 rw [ep, er] at hs
 rw [er] at qR lR
 have t1 := eq_true (hs.pn.Ra hs.lq)
 have t2 := eq_true (show p.length ≤ 1000000 by have := hs.pn.len; omega)
 have t3 := eq_true hs.pn.In
 have v1 := hs.rat
 have v2 := hs.int
 have lb := (ratL_LB hs.pn hs.lq).1
 have lz := intL_LZ hs.pn
 rw [v1] at lb
 rw [v2] at lz
 have lb' := eq_true lb
 have lz' := eq_true lz
 have dd1 : decide (rs = rs) = true := decide_eq_true rfl
 have dd2 : decide (intsOf rs = intsOf rs) = true := decide_eq_true rfl
 have y1 : dl (Int.natAbs 1) ≤ 30000000000000 := Nat.le_trans ((dl_le (k := 1)).2 (by decide)) (by decide)
 refine PCall.of_vc T Tryz.func8 rfl Tryz.ntmps8 Tryz.results8 (by simp) ?_
 simp only [go_sem, hx', ep, er]
 refine AWp.loops (X := { i : Nat // i ≤ rs.length }) (fun i => inSt rs p i.1) (fun i => rs.length - i.1) ⟨0, Nat.zero_le _⟩ (Wk.of [11] (by decide) ?_) ?_
 ·have e0 : intsOf [] = [] := rfl
  have e1 : V.zs [] = [] := rfl
  simp only [go_sem, Int.natCast_zero, List.take_zero, e0, e1, List.length_nil]
 rintro ⟨i, hin⟩
 unfold inSt
 refine vc_at T ?_
 have hc := intsOf_len (rs.take i)
 rw [List.length_take] at hc
 obtain ⟨M, eM⟩ : ∃ n, intsOf (rs.take i) = n := ⟨_, rfl⟩
 rw [eM] at hc
 by_cases hlt : i < rs.length
 ·have d1 : (i : Int) < (rs.length : Int) := by omega
  have d2 : (i : Int) + 1 = ((i + 1 : Nat) : Int) := by omega
  have d3 : 0 ≤ (i : Int) := by omega
  have ck := intsOf_take hlt
  rw [eM] at ck
  have s2 := eq_true (show dl ((cf rs i).den : Int).natAbs ≤ 30000000000000 from Nat.le_trans (sz_den (qR i)) (by decide))
  by_cases h1 : ((cf rs i).den : Int) = 1
  ·have g1 : decide (((cf rs i).den : Int) = 1) = true := decide_eq_true h1
   rw [if_pos h1] at ck
   have lk : (M ++ [(cf rs i).num]).length = M.length + 1 := by rw [List.length_append]; rfl
   have tk : (V.zs M).take M.length = V.zs M := List.take_of_length_le (by rw [zs_len]; exact Nat.le_refl _)
   simp only [go_sem, d1, d2, d3, hlt, eM, s2, y1, g1, mx, tk]
   refine ⟨by rfl, ⟨by omega, by omega⟩, ⟨by omega, by omega⟩, ⟨i + 1, hlt⟩, Wk.of [19] (by decide) ?_, by simp only; omega⟩
   simp only [go_sem, ck, lk]
  ·have g1 : decide (((cf rs i).den : Int) = 1) = false := decide_eq_false h1
   rw [if_neg h1] at ck
   simp only [go_sem, d1, d2, d3, hlt, eM, s2, y1, g1]
   refine ⟨by rfl, ⟨by omega, by omega⟩, ⟨i + 1, hlt⟩, Wk.of [0] (by decide) ?_, by simp only; omega⟩
   simp only [go_sem, ck]
 ·obtain rfl : i = rs.length := by omega
  have d1 : ¬ (rs.length : Int) < (rs.length : Int) := by omega
  rw [List.take_length] at eM
  rw [eM] at v2 lz' dd2
  have tk : (V.zs M).take M.length = V.zs M := List.take_of_length_le (by rw [zs_len]; exact Nat.le_refl _)
  simp only [go_sem, d1, t1, t2, t3, v1, v2, lb', lz', dd1, dd2, List.take_length, eM, tk]
set_option maxRecDepth 20000 in
theorem lawFinds_F (X : V) (h : Fits Tryz.prog 6 55 X) : PCall Tryz.prog 8 [X] (.raw (.bool true)) := by
 obtain ⟨L, C, rfl, hx⟩ := fits_rt4 h
 exact finds_V L C hx
end Go.Proofs.YtlhapagililgmaaGreat

