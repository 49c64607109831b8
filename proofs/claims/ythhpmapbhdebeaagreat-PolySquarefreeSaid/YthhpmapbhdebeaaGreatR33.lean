/- Texts LC9 in one. -/
import Derived.Test.YthhpmapbhdebeaaGreatR28
import Derived.Test.YthhpmapbhdebeaaGreatR20
import Derived.Test.YthhpmapbhdebeaaGreatR29
import Derived.Test.YthhpmapbhdebeaaGreatR32
/- The law of squarefree decompositions. -/
namespace Go.Proofs.YthhpmapbhdebeaaGreat
set_option linter.unusedSimpArgs false
set_option linter.unusedVariables false
open Go.RowKit

set_option maxRecDepth 20000 in
theorem fits_roots {X : V} (h : Fits Tryz.prog 6 30 X) : ∃ y : Rts, X = y.v ∧ y.Ok := by
  have u2 : Tryz.prog.underlying 24 = some (.array 2 23) := by kernel_rfl
  have u3 : Tryz.prog.underlying 23 = some (.int .i8) := by kernel_rfl
  have u4 : Tryz.prog.underlying 27 = some (.slice 23) := by kernel_rfl
  have u5 : Tryz.prog.underlying 28 = some (.slice 5) := by kernel_rfl
  have u6 : Tryz.prog.underlying 5 = some (.int .u8) := by kernel_rfl
  obtain ⟨l, rfl, hl⟩ := fits_struct Tryz.underlying30 h
  obtain ⟨x1, m, rfl, g1, hl⟩ := fitL_cons hl
  obtain ⟨x2, m, rfl, g2, hl⟩ := fitL_cons hl
  obtain ⟨x3, m, rfl, g3, hl⟩ := fitL_cons hl
  have := fitL_nil hl
  subst this
  obtain ⟨R, rfl, lR, hR⟩ := fits_ints u4 u3 g1
  obtain ⟨N, rfl, hN, lN⟩ := fits_bytes u5 u6 g2
  obtain ⟨z, rfl, hz⟩ := fits_pr u2 u3 g3
  exact ⟨⟨R, N, z⟩, rfl, fun z hz => wf_i8 (hR z hz), hN, hz.1, hz.2, lR, lN⟩
/-- The polynomials that the law decomposes. -/
theorem sq_prod {a b : List Rat} (ha : Sz a 5 1) (hb : Sz b 5 1) (ma : MB a 128) (mb : MB b 128) : SqIn (pMul a b) := by
  have h := ha.mul hb
  exact ⟨h.mono (by decide) (by decide), (MB_Ht ma ha.len).mul (MB_Ht mb hb.len) ha.len⟩
theorem sq_self {a : List Rat} (ha : Sz a 5 1) (ma : MB a 128) : SqIn a := ⟨ha.mono (by decide) (by decide), (MB_Ht ma ha.len).mono (by decide +kernel)⟩
theorem sq_lin {o : List Rat} (h : LnI o) : SqIn o := ⟨h.sz.1.mono (by decide) (by decide), h.sz.2.1.mono (by decide +kernel)⟩
set_option maxRecDepth 20000 in
set_option maxHeartbeats 4000000 in
theorem squarefree_V (x : Th) (hx : x.Ok) (y : Rts) (hy : y.Ok) : PCall Tryz.prog 3 [x.v, y.v] (.raw (.bool true)) := by
  obtain ⟨⟨pa, pb, pc⟩, hz⟩ := hx
  have T : Tabs Tryz.prog _ noGab := tabs mixed (tbl_cons sanity3_C (tbl_cons made3_C (tbl_cons rPMul_C (tbl_cons linear_C tbl_nil))))
  refine PCall.of_vc T Tryz.func3 rfl Tryz.ntmps3 Tryz.results3 (by simp [Th.v, Rts.v]) ?_
  have ha : Sz (psL x.A 5) 5 1 := psL_sz pa 5
  have hb : Sz (psL x.B 5) 5 1 := psL_sz pb 5
  have ma : MB (psL x.A 5) 128 := psL_MB pa 5
  have mb : MB (psL x.B 5) 128 := psL_MB pb 5
  have ho := hy.p
  unfold Th.v Rts.v
  obtain ⟨a, ea⟩ : ∃ a, psL x.A 5 = a := ⟨_, rfl⟩
  obtain ⟨b, eb⟩ : ∃ a, psL x.B 5 = a := ⟨_, rfl⟩
  obtain ⟨o, eo⟩ : ∃ a, y.p = a := ⟨_, rfl⟩
  rw [ea] at ha ma
  rw [eb] at hb mb
  rw [eo] at ho
  have m1 := Sz.cm hb hb
  have m2 := Sz.cm ha hb
  have p1 : PB a 5000000000000 := ha.pb.mono (by decide)
  have p2 : PB b 5000000000000 := hb.pb.mono (by decide)
  simp only [go_sem, ea, eb, eo, pa, pb, pc, hy, m1, m2, p1, p2]
  refine ⟨by rfl, ?_⟩
  refine AWp.frzS 9 ?_
  simp only [go_sem]
  obtain ⟨L, eL⟩ : ∃ L, [a, pMul b b, pMul a b, o] = L := ⟨_, rfl⟩
  have hL : ∀ i, i < 4 → SqIn (L.getD i []) := fun i hi => by
    rw [← eL]
    match i, hi with
    | 0, _ => exact sq_self ha ma
    | 1, _ => exact sq_prod hb hb mb mb
    | 2, _ => exact sq_prod ha hb ma mb
    | 3, _ => exact sq_lin ho
  have lL : L.length = 4 := by rw [← eL]; rfl
  refine AWp.loops (X := { i : Nat // i ≤ 4 }) (fun i => mkSt [(4, .raw (.bool false)), (5, .raw (.bool true)), (9, .lst (V.mat L)), (10, .raw (.int .i64 (i.1 : Nat)))] [] 0 159) (fun i => 4 - i.1) ⟨0, Nat.zero_le _⟩ (Wk.of [] (by decide) ?_) ?_
  · have e0 : V.mat L = [.lst (V.rats a), .lst (V.rats (pMul b b)), .lst (V.rats (pMul a b)), .lst (V.rats o)] := by rw [← eL]; rfl
    simp only [go_sem, e0, Int.natCast_zero]
  rintro ⟨i, hi⟩
  have four : ((4 : Nat) : Int) = 4 := rfl
  by_cases hin : i < 4
  · obtain ⟨q, eq⟩ : ∃ q, L.getD i [] = q := ⟨_, rfl⟩
    have hq := hL i hin
    rw [eq] at hq
    obtain ⟨fs, hfs⟩ := sq_all hq
    have T1 : Tabs Tryz.prog _ noGab := tabs mixed (tbl_cons (sqf_C 10 fs) (tbl_cons rMonic_C (tbl_cons rPEq_C (tbl_cons rDiff_C (tbl_cons rGcd_C (tbl_cons rProd_C tbl_nil))))))
    refine vc_at T1 ?_
    have c1 : (i : Int) < 4 := by omega
    have c2 : (i : Int) + 1 = ((i + 1 : Nat) : Int) := by omega
    have hv := hfs.val
    have hok := hfs.ok
    have hlen := hfs.pt.len
    have c3 : ¬ (20 : Int) < (fs.length : Int) := by omega
    have c5 : i < L.length := by omega
    have c6 : 0 ≤ (i : Int) := by omega
    simp only [go_sem, lL, four, c1, c3, c5, eq, hv, hok]
    refine ⟨by omega, hin, ?_⟩
    refine AWp.loops (X := { j : Nat // j ≤ fs.length }) (fun j => mkSt [(4, .raw (.bool false)), (5, .raw (.bool true)), (9, .lst (V.mat L)), (10, .raw (.int .i64 (i : Nat))), (11, .lst (V.facs fs)), (12, .raw (.int .i64 (j.1 : Nat)))] [] 0 159) (fun j => fs.length - j.1) ⟨0, Nat.zero_le _⟩ (Wk.of [] (by decide) ?_) ?_
    · simp only [go_sem, Int.natCast_zero]
    rintro ⟨j, hj⟩
    refine vc_at T1 ?_
    by_cases hjn : j < fs.length
    · obtain ⟨p, ep⟩ : ∃ p, fcP fs j = p := ⟨_, rfl⟩
      obtain ⟨n, en⟩ : ∃ n, fcN fs j = n := ⟨_, rfl⟩
      have mp := hfs.pt.mon j hjn
      have sp := hfs.psz hjn
      have l2 := hfs.pt.two j hjn
      have hn := hfs.pt.exp j hjn
      have hsq := hfs.pt.sqf j hjn
      rw [ep] at mp sp l2 hsq
      rw [en] at hn
      have lp := sp.len
      have d1 : (j : Int) < (fs.length : Int) := by omega
      have d2 : (j : Int) + 1 = ((j + 1 : Nat) : Int) := by omega
      have d3 : ¬ (p.length : Int) < 2 := by omega
      have d4 : ¬ (20 : Int) < (p.length : Int) := by omega
      have d5 : ¬ (n : Int) < 1 := by omega
      have d6 : ¬ (20 : Int) < (n : Int) := by omega
      have d7 : 0 ≤ (j : Int) := by omega
      have em : pMonic p = p := by
        refine ev_inj (can_pMonic p) mp.can fun x => ?_
        rw [ev_pMonic mp.ne, mp.one]; grind
      have d8 : (((pGcd p (pDiff p)).length : Int) != 1) = false := by rw [hsq]; rfl
      have k1 : p.length ≤ 1000000 := by omega
      have k2 : PB p 5000000000000 := sp.pb.mono (by decide)
      have k3 : ∃ s, PB p s ∧ s ≤ 2500000000000 := ⟨6, sp.pb, by decide⟩
      have k4 : ∃ n, GcOk n p (pDiff p) := ⟨_, (gc_start (sp.mono (Nat.le_refl 9) (show 6 ≤ 7 by decide)) ((sp.diff (by decide)).mono (Nat.le_refl 9) (Nat.le_refl 7)) (by decide)).1⟩
      have k5 := mp.can
      have k6 : decide (p = p) = true := decide_eq_true rfl
      by_cases j0 : j = 0
      · have d9 : ¬ (0 : Int) < (j : Int) := by omega
        simp (maxSteps := 2000000) only [go_sem, ep, en, hjn, d1, d3, d4, d5, d6, d7, d8, d9, em, k1, k2, k3, k4, k5, k6]
        refine ⟨by rfl, ?_⟩
        refine AWp.loops (X := { k : Nat // k ≤ j }) (fun k => mkSt [(4, .raw (.bool false)), (5, .raw (.bool true)), (9, .lst (V.mat L)), (10, .raw (.int .i64 (i : Nat))), (11, .lst (V.facs fs)), (12, .raw (.int .i64 (j : Nat))), (13, .lst (V.rats p)), (14, .raw (.int .i64 (k.1 : Nat)))] [] 0 159) (fun k => j - k.1) ⟨0, Nat.zero_le _⟩ (Wk.of [] (by decide) ?_) ?_
        · simp only [go_sem, Int.natCast_zero]
        rintro ⟨k, hk⟩
        refine vc_at T1 ?_
        by_cases hkj : k < j
        · have e1 : (k : Int) < (j : Int) := by omega
          have e2 : (k : Int) + 1 = ((k + 1 : Nat) : Int) := by omega
          have e3 : k < fs.length := by omega
          have e4 : ∃ n, GcOk n p (fcP fs k) := ⟨_, (gc_start sp (hfs.psz e3) (by decide)).1⟩
          have hc := hfs.pt.cop k j hkj hjn
          rw [ep] at hc
          have e5 : (((pGcd p (fcP fs k)).length : Int) != 1) = false := by rw [hc]; rfl
          have e6 : 0 ≤ (k : Int) := by omega
          simp only [go_sem, e1, e2, e3, e4, e5, e6]
          refine ⟨by omega, ⟨by omega, by omega⟩, ⟨k + 1, hkj⟩, Wk.of [] (by decide) ?_, by simp only; omega⟩
          simp only [go_sem]
        · obtain rfl : k = j := by omega
          have e1 : ¬ (k : Int) < (k : Int) := by omega
          simp only [go_sem, e1, d2]
          refine ⟨⟨by omega, by omega⟩, ⟨k + 1, hjn⟩, Wk.of [] (by decide) ?_, by simp only; omega⟩
          simp only [go_sem]
      · have d9 : (0 : Int) < (j : Int) := by omega
        have d10 : (j : Int) - 1 = ((j - 1 : Nat) : Int) := by omega
        have hinc := hfs.pt.inc (j - 1) j (by omega) hjn
        rw [en] at hinc
        have d11 : ¬ (n : Int) ≤ ((fcN fs (j - 1) : Nat) : Int) := by omega
        have d12 : j - 1 < fs.length := by omega
        simp (maxSteps := 2000000) only [go_sem, ep, en, hjn, d1, d3, d4, d5, d6, d7, d8, d9, d10, d11, d12, em, k1, k2, k3, k4, k5, k6]
        refine ⟨⟨by omega, by omega⟩, ⟨by omega, by omega⟩, by rfl, ?_⟩
        refine AWp.loops (X := { k : Nat // k ≤ j }) (fun k => mkSt [(4, .raw (.bool false)), (5, .raw (.bool true)), (9, .lst (V.mat L)), (10, .raw (.int .i64 (i : Nat))), (11, .lst (V.facs fs)), (12, .raw (.int .i64 (j : Nat))), (13, .lst (V.rats p)), (14, .raw (.int .i64 (k.1 : Nat)))] [] 0 159) (fun k => j - k.1) ⟨0, Nat.zero_le _⟩ (Wk.of [] (by decide) ?_) ?_
        · simp only [go_sem, Int.natCast_zero]
        rintro ⟨k, hk⟩
        refine vc_at T1 ?_
        by_cases hkj : k < j
        · have e1 : (k : Int) < (j : Int) := by omega
          have e2 : (k : Int) + 1 = ((k + 1 : Nat) : Int) := by omega
          have e3 : k < fs.length := by omega
          have e4 : ∃ n, GcOk n p (fcP fs k) := ⟨_, (gc_start sp (hfs.psz e3) (by decide)).1⟩
          have hc := hfs.pt.cop k j hkj hjn
          rw [ep] at hc
          have e5 : (((pGcd p (fcP fs k)).length : Int) != 1) = false := by rw [hc]; rfl
          have e6 : 0 ≤ (k : Int) := by omega
          simp only [go_sem, e1, e2, e3, e4, e5, e6]
          refine ⟨by omega, ⟨by omega, by omega⟩, ⟨k + 1, hkj⟩, Wk.of [] (by decide) ?_, by simp only; omega⟩
          simp only [go_sem]
        · obtain rfl : k = j := by omega
          have e1 : ¬ (k : Int) < (k : Int) := by omega
          simp only [go_sem, e1, d2]
          refine ⟨⟨by omega, by omega⟩, ⟨k + 1, hjn⟩, Wk.of [] (by decide) ?_, by simp only; omega⟩
          simp only [go_sem]
    · obtain rfl : j = fs.length := by omega
      have d1 : ¬ (fs.length : Int) < (fs.length : Int) := by omega
      have sq := hq.sz
      have lq := sq.len
      by_cases h2 : 2 ≤ q.length
      · have g1 : ¬ (q.length : Int) < 2 := by omega
        have g2 : (2 : Int) ≤ (q.length : Int) := by omega
        have hpr := hfs.pt.prd h2
        have sm := sq.monic
        have g3 : decide (pMonic q = pMonic q) = true := decide_eq_true rfl
        have g4 : q.length ≤ 1000000 := by omega
        have g5 : Can q := sq.can
        have g6 : ∃ s, PB q s ∧ s ≤ 2500000000000 := ⟨16, sq.pb, by decide⟩
        have g7 : (pMonic q).length ≤ 1000000 := by have := sm.len; omega
        have g8 : PB (pMonic q) 5000000000000 := sm.pb.mono (by decide)
        have g9 : PdOk fs := ⟨by omega, fun j hj => ⟨by have := hfs.pt.exp j hj; omega, fun k hk => by
          have s1 := hfs.msz hj (Nat.le_of_lt hk)
          have s2 := hfs.psz hj
          obtain ⟨m1, m2⟩ := Sz.cm s1 s2
          exact ⟨⟨m1, s1.pb.mono (by decide), s2.pb.mono (by decide)⟩, m2⟩⟩⟩
        simp (maxSteps := 2000000) only [go_sem, lL, c2, c5, c6, eq, d1, g1, g2, g3, g4, g5, g6, g7, g8, g9, hpr]
        refine ⟨by omega, hin, by omega, hin, by omega, hin, by rfl, ⟨by omega, by omega⟩, ⟨i + 1, hin⟩, Wk.of [] (by decide) ?_, by simp only; omega⟩
        simp only [go_sem]
      · have g1 : (q.length : Int) < 2 := by omega
        have g2 : ¬ (2 : Int) ≤ (q.length : Int) := by omega
        have h0 := hfs.pt.nil (by omega)
        have g3 : ¬ (0 : Int) < (fs.length : Int) := by rw [h0]; decide
        simp (maxSteps := 2000000) only [go_sem, lL, c2, c5, c6, eq, d1, g1, g2, g3]
        refine ⟨by omega, hin, by omega, hin, by rfl, ⟨by omega, by omega⟩, ⟨i + 1, hin⟩, Wk.of [] (by decide) ?_, by simp only; omega⟩
        simp only [go_sem]
  · obtain rfl : i = 4 := by omega
    refine vc_at T ?_
    have c1 : ¬ (4 : Int) < 4 := by omega
    simp only [go_sem, lL, four, c1]
set_option maxRecDepth 20000 in
theorem lawSquarefree_F (X Y : V) (h : Fits Tryz.prog 6 26 X) (g : Fits Tryz.prog 6 30 Y) : PCall Tryz.prog 3 [X, Y] (.raw (.bool true)) := by
  obtain ⟨x, rfl, hx⟩ := fits_three h
  obtain ⟨y, rfl, hy⟩ := fits_roots g
  exact squarefree_V x hx y hy
end Go.Proofs.YthhpmapbhdebeaaGreat

