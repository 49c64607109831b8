/- Texts LS9 in one. -/
import Derived.Test.YtlhapagililgmaaGreatR35
import Derived.Test.YtlhapagililgmaaGreatR27
/- The law of shifts. -/
namespace Go.Proofs.YtlhapagililgmaaGreat
set_option linter.unusedSimpArgs false
set_option linter.unusedVariables false
open Go.RowKit

theorem Lw.Ra {p : List Rat} (h : Lw p) : RaOk p := fun h2 => by
 have p0 : p ≠ [] := fun e => by rw [e] at h2; simp at h2
 exact (h.pn p0).Ra (h.lq p0) h2
theorem Lw.LB {p : List Rat} (h : Lw p) : LB (ratL p) ∧ PB (ratL p) 80 ∧ (ratL p).length ≤ 8 := by
 by_cases p0 : p = []
 ·rw [p0]
  exact ⟨⟨Nat.zero_le _, fun k => Nat.le_trans qs_0 (by decide)⟩, PB_nil (by decide), Nat.zero_le _⟩
 ·exact ratL_LB (h.pn p0) (h.lq p0)
structure ShF (p : List Rat) (c lo hi : Rat) : Prop where
 a1 : RaOk p
 a2 : p.length ≤ 1000000
 b1 : RaOk (pShift c p)
 b2 : (pShift c p).length ≤ 1000000
 s : (Can p ∧ ∃ N k C, (p.length ≤ N ∧ PB p k) ∧ (qs c ≤ C ∧ 1 ≤ C) ∧ N ≤ 1000 ∧ N * (shBd N k C + C + 1) ≤ 2000000000000 ∧ shBd N k C ≤ 2000000000000)
 r : ratL (pShift c p) = (ratL p).map fun r => r - c
 l : PB (ratL p) 80 ∧ (ratL p).length ≤ 8
 c1 : CtOk p lo hi
 c2 : CtOk (pShift c p) (lo - c) (hi - c)
 e : cntP (pShift c p) (lo - c) (hi - c) = cntP p lo hi
theorem shFacts {p : List Rat} (h : Lw p) {c lo hi : Rat} (hn : c.num.natAbs ≤ 9) (hd : c.den ≤ 5) (q1 : qs lo ≤ 1) (q2 : qs hi ≤ 1) : ShF p c lo hi := by
 have qc : qs c ≤ 1 := qs_sm (by omega) (by omega)
 have e := shift_su c h.can
 have s : (Can p ∧ ∃ N k C, (p.length ≤ N ∧ PB p k) ∧ (qs c ≤ C ∧ 1 ≤ C) ∧ N ≤ 1000 ∧ N * (shBd N k C + C + 1) ≤ 2000000000000 ∧ shBd N k C ≤ 2000000000000) := ⟨h.can, 5, 1, 1, ⟨h.len, h.sz.pb⟩, ⟨qc, by decide⟩, by decide, by decide +kernel, by decide +kernel⟩
 have l1 : qs (lo - c) ≤ 3 := by have := qs_sub lo c; omega
 have l2 : qs (hi - c) ≤ 3 := by have := qs_sub hi c; omega
 refine ⟨h.Ra, by have := h.len; omega, ?_, ?_, s, by rw [e]; exact ratL_su h.can c, h.LB.2, h.Ct (by omega) (by omega), ?_, by rw [e]; exact cnt_su h.can c lo hi⟩
 ·rw [e]
  by_cases p0 : p = []
  ·rw [p0, su_nil]; exact fun h => absurd h (by decide)
  ·obtain ⟨⟨a, b⟩, _⟩ := h.su p0 hn hd
   exact a.Ra b
 ·rw [e]
  have := su_le 1 c p
  have := h.len
  omega
 ·rw [e]
  by_cases p0 : p = []
  ·rw [p0, su_nil]; exact ct_nil (by omega) (by omega)
  ·exact (h.su p0 hn hd).1.1.Ct (by omega) (by omega)
set_option maxRecDepth 8000 in
set_option maxHeartbeats 1000000 in
theorem shifts_V (x : List Int) (y : List Nat) (hx : PyOk x y 5) (a b e d : Int) (ha : (B8 a ∧ B8 b) ∧ B8 e ∧ B8 d) (z : Int × Int) (hz : B8 z.1 ∧ B8 z.2) : PCall Tryz.prog 10 [.agg [.lst (V.i8s x), .lst (V.bytes y)], .agg [.agg [.raw (.int .i8 a), .raw (.int .i8 b)], .agg [.raw (.int .i8 e), .raw (.int .i8 d)]], .agg [.raw (.int .i8 z.1), .raw (.int .i8 z.2)]] (.raw (.bool true)) := by
 obtain ⟨z, z'⟩ := z
 obtain ⟨⟨zl, zh⟩, zl', zh'⟩ := hz
 simp only at zl zh zl' zh'
 have T := (tabs mixed (tbl_cons sanity4_C (tbl_cons made4_C (tbl_cons bounds_C (tbl_cons r2Made_C (tbl_cons rShift_C (tbl_cons rats_C (tbl_cons r2Sub_C (tbl_cons r2Same_C (tbl_cons count_C tbl_nil))))))))))
 have hs := py_Lw x y
 have hx' := eq_true hx
 have b1 := eq_true ha.1.1
 have b2 := eq_true ha.1.2
 have b3 := eq_true ha.2.1
 have b4 := eq_true ha.2.2
 have q1 := wq_sz (b := b) ha.1.1
 have q2 := wq_sz (b := d) ha.2.1
 have t1 : z.tmod 10 < 10 := Int.tmod_lt_of_pos _ (by decide)
 have t2 : -10 < z.tmod 10 := Int.lt_tmod_of_pos _ (by decide)
 have f0 : IntKind.i64.wrap z = z := IntWalk.i64_in _ ⟨by omega, by omega⟩
 have f1 : IntKind.i64.wrap (z' % 256 % 5) = z' % 256 % 5 := IntWalk.i64_in _ ⟨by omega, by omega⟩
 obtain ⟨n1, n2⟩ := rtQ_nd (z := (z, z', 0))
 have n3 := rtQ_sz (z := (z, z', 0))
 obtain ⟨p, ep⟩ : ∃ p, pyL x y 5 = p := ⟨_, rfl⟩
 obtain ⟨lo, el⟩ : ∃ p, wQ a b = p := ⟨_, rfl⟩
 obtain ⟨hi, eh⟩ : ∃ p, wQ e d = p := ⟨_, rfl⟩
 obtain ⟨c, ec⟩ : ∃ p, rtQ (z, z', 0) = p := ⟨_, rfl⟩
 have ec' : mdQ (z.tmod 10) (1 + z' % 256 % 5) = c := ec
 rw [ep] at hs
 rw [el] at q1
 rw [eh] at q2
 rw [ec] at n1 n2 n3
 have F := shFacts hs n1 n2 q1 q2
 have k1 := eq_true F.a1
 have k2 := eq_true F.a2
 have k3 := eq_true F.b1
 have k4 := eq_true F.b2
 have k5 := eq_true F.s
 have k6 := eq_true F.c1
 have k7 := eq_true F.c2
 have v1 := F.r
 have v2 := F.e
 obtain ⟨lP, lL⟩ := F.l
 obtain ⟨q, eq⟩ : ∃ q, pShift c p = q := ⟨_, rfl⟩
 obtain ⟨l, ell⟩ : ∃ q, ratL p = q := ⟨_, rfl⟩
 obtain ⟨w, ew⟩ : ∃ q, cntP p lo hi = q := ⟨_, rfl⟩
 rw [eq] at k3 k4 k7 v1 v2
 rw [ell] at v1 lP lL
 rw [ew] at v2
 obtain ⟨m, em⟩ : ∃ q, l.map (fun r => r - c) = q := ⟨_, rfl⟩
 rw [em] at v1
 have lm : m.length = l.length := by rw [← em, List.length_map]
 have gm : ∀ i, i < l.length → cf m i = cf l i - c := fun i hi => by
  rw [cf_lt hi, cf_lt (by rw [lm]; exact hi)]
  subst em
  rw [List.getElem_map]
 have qlo : qs lo ≤ 5000000000000 := by omega
 have qhi : qs hi ≤ 5000000000000 := by omega
 have qc : qs c ≤ 5000000000000 := by omega
 have z1 : ((l.length : Int) != (l.length : Int)) = false := by simp
 have z2 : (w == w) = true := by simp
 refine PCall.of_vc T Tryz.func10 rfl Tryz.ntmps10 Tryz.results10 (by simp) ?_
 simp only [go_sem, hx', b1, b2, b3, b4, ep, el, eh, f0, f1, ec', k1, k2, k3, k4, k5, v1, eq, ell, lm, z1]
 refine ⟨by omega, ⟨by omega, by omega⟩, ⟨⟨by omega, by omega⟩, by omega, by omega⟩, ?_⟩
 refine AWp.loops (X := { i : Nat // i ≤ l.length }) (fun i => mkSt [(7, .raw (.bool true)), (8, .lst (V.rats p)), (9, .ptr 0 4 0 0), (10, .ptr 1 4 0 0), (11, .ptr 2 4 0 0), (12, .lst (V.rats q)), (13, .lst (V.rats l)), (14, .lst (V.rats m)), (15, .raw (.int .i64 (i.1 : Nat)))]
  [(0, true, ⟨46, 4, [.Q lo]⟩), (1, true, ⟨46, 4, [.Q hi]⟩), (2, true, ⟨46, 4, [.Q c]⟩)] 3 81) (fun i => l.length - i.1) ⟨0, Nat.zero_le _⟩ (Wk.of [14, 15, 29] (by decide) ?_) ?_
 ·simp only [go_sem, Int.natCast_zero]
 rintro ⟨i, hin⟩
 refine vc_at T ?_
 by_cases hlt : i < l.length
 ·have d1 : (i : Int) < (l.length : Int) := by omega
  have d2 : (i : Int) + 1 = ((i + 1 : Nat) : Int) := by omega
  have d3 : 0 ≤ (i : Int) := by omega
  have d4 : i < m.length := by omega
  have qi : qs (cf l i) ≤ 5000000000000 := Nat.le_trans (lP i) (by decide)
  have gi := gm i hlt
  have qi2 : qs (cf l i - c) ≤ 100 := by have := qs_sub (cf l i) c; have := lP i; omega
  have s1 := eq_true (show dl (cf l i - c).num.natAbs ≤ 30000000000000 from Nat.le_trans (sz_num qi2) (by decide))
  have s2 := eq_true (show dl ((cf l i - c).den : Int).natAbs ≤ 30000000000000 from Nat.le_trans (sz_den qi2) (by decide))
  have dd : decide (cf l i - c = cf l i - c) = true := decide_eq_true rfl
  simp only [go_sem, d1, d2, d3, d4, hlt, qi, qc, gi, s1, s2, qpair, dd]
  refine ⟨by omega, by rfl, ⟨by omega, by omega⟩, ⟨i + 1, hlt⟩, Wk.of [0, 1, 2] (by decide) ?_, by simp only; omega⟩
  simp only [go_sem]
 ·obtain rfl : i = l.length := by omega
  have d1 : ¬ (l.length : Int) < (l.length : Int) := by omega
  simp only [go_sem, d1, qlo, qhi, qc, k6, k7, v2, ew, z2]
  exact by rfl
set_option maxRecDepth 20000 in
theorem lawShifts_F (X Y Z : V) (h : Fits Tryz.prog 6 25 X) (h2 : Fits Tryz.prog 6 41 Y) (h3 : Fits Tryz.prog 6 39 Z) : PCall Tryz.prog 10 [X, Y, Z] (.raw (.bool true)) := by
 have u2 : Tryz.prog.underlying 39 = some (.array 2 38) := by kernel_rfl
 have u3 : Tryz.prog.underlying 38 = some (.int .i8) := by kernel_rfl
 obtain ⟨x, y, rfl, hx⟩ := fits_raw4 h
 obtain ⟨a, b, c, d, rfl, ha⟩ := fits_iv h2
 obtain ⟨z, rfl, hz⟩ := fits_pr u2 u3 h3
 exact shifts_V x y hx a b c d ha z hz
end Go.Proofs.YtlhapagililgmaaGreat

