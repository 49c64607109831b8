/- Texts J6 J7 in one. -/
import Derived.Test.YtfbogelmgdojgaaGreatP76
import Derived.Test.YtfbogelmgdojgaaGreatP74
import Derived.Test.YtfbogelmgdojgaaGreatP44
import Derived.Test.YtfbogelmgdojgaaGreatP69
/- The law of quotients: the fixed examples. -/
namespace Go.Proofs.YtfbogelmgdojgaaGreat
set_option linter.unusedSimpArgs false
set_option linter.unusedVariables false
open Go.RowKit

theorem smq_le {q : Rat} (h : smq q = true) : qs q ≤ 10000000000 := smq_ok h (by decide)
theorem smL_le {l : List Rat} (h : smL l = true) : PB l 10000000000 := smL_PB h (by decide)
def nwB (q : List Rat) (L : Nat) : Bool := (smL q && decide (L ≤ 1000)) && allB (L + 1) fun k => smL (nwL q k) && allB (q.length + 1) fun i => smq (nwN q k (nwL q k) i) && smq (cf q (q.length - 1 - (i + 1)) * nwBy k (nwL q k) (i + 1))
theorem nwB_ok {q : List Rat} {L : Nat} (h : nwB q L = true) : NwOk q L := by
  simp only [nwB, Bool.and_eq_true, decide_eq_true_eq] at h
  obtain ⟨⟨h1, h2⟩, h3⟩ := h
  refine ⟨⟨Nat.le_trans (smL_len h1) (by decide), smL_le h1, by omega⟩, fun k hk => ?_⟩
  have h4 := allB_ok h3 k (by omega)
  simp only [Bool.and_eq_true] at h4
  refine ⟨smL_le h4.1, fun i hi => ?_⟩
  have h5 := allB_ok h4.2 i (by omega)
  simp only [Bool.and_eq_true] at h5
  exact ⟨smq_le h5.1, smq_le h5.2⟩
def poB (q : List Rat) (n : Nat) : Bool := (cnB q && smL q) && ((decide (1 ≤ (pMonic q).length) && smL (pMonic q)) && nwB (pMonic q) n)
theorem poB_ok {q : List Rat} {n : Nat} (h : poB q n = true) : PoOk q n := by
  simp only [poB, Bool.and_eq_true, decide_eq_true_eq] at h
  obtain ⟨⟨h1, h2⟩, ⟨h3, h4⟩, h5⟩ := h
  exact ⟨⟨cnB_ok h1, Nat.le_trans (smL_len h2) (by decide), 1, smL_PB h2 (Nat.le_refl _), by decide⟩, ⟨h3, Nat.le_trans (smL_len h4) (by decide)⟩, nwB_ok h5⟩
def trB (q a : List Rat) : Bool := (dvB a q && !decide (q = [])) && ((decide ((pMod a q).length = 0) || poB q (pMod a q).length) && ((smL (pMod a q) && smL (nwR (pMonic q) (pMod a q).length)) &&
  allB (pMod a q).length fun i => smq (trF (pMod a q) (nwR (pMonic q) (pMod a q).length) i) && smq (cf (pMod a q) i * cf (nwR (pMonic q) (pMod a q).length) i)))
theorem trB_ok {q a : List Rat} (h : trB q a = true) : TrOk q a := by
  simp only [trB, Bool.and_eq_true, Bool.or_eq_true, Bool.not_eq_true', decide_eq_true_eq, decide_eq_false_iff_not] at h
  obtain ⟨⟨h1, h2⟩, h3, ⟨h4, h5⟩, h6⟩ := h
  refine ⟨⟨dvB_ok h1, h2⟩, fun h0 => ?_, smL_le h4, smL_le h5, fun i hi => ?_⟩
  · rcases h3 with h3 | h3
    · omega
    · exact poB_ok h3
  · have h7 := allB_ok h6 i hi
    simp only [Bool.and_eq_true] at h7
    exact ⟨smq_le h7.1, smq_le h7.2⟩
def mlB (a b : List Rat) : Bool := smL a && smL b
theorem mlB_ok {a b : List Rat} (h : mlB a b = true) : a.length + b.length ≤ 1000000 ∧ ∃ j k, (PB a j ∧ PB b k) ∧ a.length * (j + k + 1) ≤ 9999999999 := by
  simp only [mlB, Bool.and_eq_true] at h
  have h1 := smL_len h.1
  have h2 := smL_len h.2
  exact ⟨by omega, 1, 1, ⟨smL_PB h.1 (Nat.le_refl _), smL_PB h.2 (Nat.le_refl _)⟩, by omega⟩
def mqB (q a b : List Rat) : Bool := mlB a b && (dvB (pMul a b) q && !decide (q = []))
theorem mqB_ok {q a b : List Rat} (h : mqB q a b = true) : MqOk q a b := by
  simp only [mqB, Bool.and_eq_true, Bool.not_eq_true', decide_eq_false_iff_not] at h
  exact ⟨mlB_ok h.1, dvB_ok h.2.1, h.2.2⟩
def mnB (q a : List Rat) (K : Nat) (fs : List (List Rat × Nat)) : Bool :=
  (decide (2 ≤ q.length) && decide (q.length ≤ 100)) && ((dvB a q && !decide (q = [])) && ((allB (q.length - 2) fun i => mqB q (pwE q (pMod a q) i) (pMod a q)) && ((allB (q.length - 1) fun i => trB q (pwE q (pMod a q) i)) &&
  (smL (trs q (pMod a q) (q.length - 1)) && ((allB (q.length - 1) fun k => smL (mnL (trs q (pMod a q) (q.length - 1)) k) && allB (k + 2) fun i => smq (mnS (mnL (trs q (pMod a q) (q.length - 1)) k) (trs q (pMod a q) (q.length - 1)) (k + 1) i) && smq (cf (mnL (trs q (pMod a q) (q.length - 1)) k) i * cf (trs q (pMod a q) (q.length - 1)) (k + 1 - i))) &&
  ((decide (pSqf K (tr (mnL (trs q (pMod a q) (q.length - 1)) (q.length - 1)).reverse) = some fs) && sfB K (tr (mnL (trs q (pMod a q) (q.length - 1)) (q.length - 1)).reverse)) && (decide (fs.length ≤ 100) && allB fs.length fun i => mlB (prd fs i) (fs.getD i ([], 0)).1)))))))
theorem mnB_ok {q a : List Rat} {K : Nat} {fs : List (List Rat × Nat)} (h : mnB q a K fs = true) : MnOk q a K fs := by
  simp only [mnB, Bool.and_eq_true, Bool.not_eq_true', decide_eq_true_eq, decide_eq_false_iff_not] at h
  obtain ⟨⟨h1, h2⟩, ⟨h3, h4⟩, h5, h6, h7, h8, ⟨h9, h10⟩, h11, h12⟩ := h
  refine ⟨⟨h1, by omega⟩, ⟨dvB_ok h3, h4⟩, ⟨by omega, fun i hi => mqB_ok (allB_ok h5 i (by omega))⟩, fun i hi => trB_ok (allB_ok h6 i hi), smL_le h7, fun k hk => ?_, ⟨h9, sfB_ok h10⟩, by omega, fun i hi => mlB_ok (allB_ok h12 i hi)⟩
  have h13 := allB_ok h8 k hk
  simp only [Bool.and_eq_true] at h13
  refine ⟨smL_le h13.1, fun i hi => ?_⟩
  have h14 := allB_ok h13.2 i (by omega)
  simp only [Bool.and_eq_true] at h14
  exact ⟨smq_le h14.1, smq_le h14.2⟩
end Go.Proofs.YtfbogelmgdojgaaGreat

/- The law of quotients: the fixed examples. -/
namespace Go.Proofs.YtfbogelmgdojgaaGreat
set_option linter.unusedSimpArgs false
set_option linter.unusedVariables false
open Go.RowKit

set_option maxRecDepth 20000 in
set_option maxHeartbeats 2000000 in
theorem sanity6_V : PCall Tryz.prog 9 [] (.raw (.bool true)) := by
  obtain ⟨p1, hp1⟩ : ∃ p : List Rat, p = [-2, 0, 1] := ⟨_, rfl⟩
  obtain ⟨p2, hp2⟩ : ∃ p : List Rat, p = [0, 1] := ⟨_, rfl⟩
  obtain ⟨p3, hp3⟩ : ∃ p : List Rat, p = [0, -1, 1] := ⟨_, rfl⟩
  obtain ⟨p4, hp4⟩ : ∃ p : List Rat, p = [1, 1] := ⟨_, rfl⟩
  obtain ⟨p5, hp5⟩ : ∃ p : List Rat, p = [-2, 1] := ⟨_, rfl⟩
  obtain ⟨p6, hp6⟩ : ∃ p : List Rat, p = [0, 0, 1] := ⟨_, rfl⟩
  obtain ⟨p7, hp7⟩ : ∃ p : List Rat, p = [2, 0, 4] := ⟨_, rfl⟩
  have zp1 : zsL [-2, 0, 1] 3 = p1 := by rw [hp1]; decide +kernel
  have wp1 : (∀ z ∈ ([-2, 0, 1] : List Int), B8 z) = True := eq_true (b8 _ (by decide))
  have zp2 : zsL [0, 1] 2 = p2 := by rw [hp2]; decide +kernel
  have wp2 : (∀ z ∈ ([0, 1] : List Int), B8 z) = True := eq_true (b8 _ (by decide))
  have zp3 : zsL [0, -1, 1] 3 = p3 := by rw [hp3]; decide +kernel
  have wp3 : (∀ z ∈ ([0, -1, 1] : List Int), B8 z) = True := eq_true (b8 _ (by decide))
  have zp4 : zsL [1, 1] 2 = p4 := by rw [hp4]; decide +kernel
  have wp4 : (∀ z ∈ ([1, 1] : List Int), B8 z) = True := eq_true (b8 _ (by decide))
  have zp5 : zsL [-2, 1] 2 = p5 := by rw [hp5]; decide +kernel
  have wp5 : (∀ z ∈ ([-2, 1] : List Int), B8 z) = True := eq_true (b8 _ (by decide))
  have i1 : invR p1 p2 = .tup [.lst (V.rats [((0 : Int) : Rat), mdQ 1 2]), .raw (.int .i64 0)] := by
    rw [hp1, hp2]
    unfold invR
    rw [if_pos (by decide +kernel), show pMod (pExt (pMod [0, 1] [-2, 0, 1]) [-2, 0, 1]).2.1 [-2, 0, 1] = [((0 : Int) : Rat), mdQ 1 2] from by decide +kernel]
  have i2 : invR p3 p2 = .tup [.lst (V.rats []), .raw (.int .i64 60)] := by
    rw [hp3, hp2]
    exact if_neg (by decide +kernel)
  have a1 : DvOk p2 p1 ∧ p1 ≠ [] := by rw [hp1, hp2]; exact ⟨dvB_ok (by decide +kernel), by decide⟩
  have a2 : DvOk p2 p3 ∧ p3 ≠ [] := by rw [hp3, hp2]; exact ⟨dvB_ok (by decide +kernel), by decide⟩
  have a3 : ∃ n, ExOk n (pMod p2 p1) p1 [1] [] [] [1] := ⟨10, by rw [hp1, hp2]; exact exB_ok (by decide +kernel)⟩
  have a4 : ∃ n, ExOk n (pMod p2 p3) p3 [1] [] [] [1] := ⟨10, by rw [hp3, hp2]; exact exB_ok (by decide +kernel)⟩
  have a5 : ((pExt (pMod p2 p1) p1).1.length = 1 → DvOk (pExt (pMod p2 p1) p1).2.1 p1) = True := eq_true fun _ => by rw [hp1, hp2]; exact dvB_ok (by decide +kernel)
  have a6 : ((pExt (pMod p2 p3) p3).1.length = 1 → DvOk (pExt (pMod p2 p3) p3).2.1 p3) = True := eq_true fun h => absurd h (by rw [hp3, hp2]; decide +kernel)
  have b1 : nwR (pMonic p1) 3 = p7 := by rw [hp1, hp7]; decide +kernel
  have b2 : nwR (pMonic p1) (-1) = [] := by rw [hp1]; decide +kernel
  have b3 : PoOk p1 3 := by rw [hp1]; exact poB_ok (by decide +kernel)
  have b4 : p7.length = 3 := by rw [hp7]; rfl
  have b50 : cf p7 0 = ((2 : Int) : Rat) := by rw [hp7]; decide +kernel
  have b51 : cf p7 1 = ((0 : Int) : Rat) := by rw [hp7]; decide +kernel
  have b52 : cf p7 2 = ((4 : Int) : Rat) := by rw [hp7]; decide +kernel
  have c1 : trQ p1 p4 = ((2 : Int) : Rat) := by rw [hp1, hp4]; decide +kernel
  have c2 : TrOk p1 p4 := by rw [hp1, hp4]; exact trB_ok (by decide +kernel)
  have d1 : pRes (pMonic p1) (pMod p4 p1) = ((-1 : Int) : Rat) := by rw [hp1, hp4]; decide +kernel
  have d2 : Can p1 ∧ p1.length ≤ 1000000 ∧ ∃ s, PB p1 s ∧ s ≤ 5000000000 := by rw [hp1]; exact ⟨cnB_ok (by decide +kernel), by decide, 1, smL_PB (by decide +kernel) (Nat.le_refl _), by decide⟩
  have d3 : DvOk p4 p1 := by rw [hp1, hp4]; exact dvB_ok (by decide +kernel)
  have d4 : ∃ n, ReOk n 1 (pMonic p1) (pMod p4 p1) := ⟨10, by rw [hp1, hp4]; exact reB_ok (by decide +kernel)⟩
  have e1 : pMul p2 p2 = p6 := by rw [hp2, hp6]; decide +kernel
  have e2 : MnOk p1 p6 5 [([-2, 1], 2)] := by rw [hp1, hp6]; exact mnB_ok (by decide +kernel)
  have e3 : prd [([-2, 1], 2)] 1 = p5 := by rw [hp5]; decide +kernel
  have f1 : validQ3 p1 = true := by rw [hp1]; decide +kernel
  have f2 : validQ3 p6 = false := by rw [hp6]; decide +kernel
  have f3 : validQ3 [((1 : Int) : Rat)] = false := by decide +kernel
  have f4 : ∃ n, GcOk n p1 (pDiff p1) := ⟨20, by rw [hp1]; exact gcB_ok (by decide +kernel)⟩
  have f5 : ∃ n, GcOk n p6 (pDiff p6) := ⟨20, by rw [hp6]; exact gcB_ok (by decide +kernel)⟩
  have g0 : ∀ a : Rat, cmpQ a a = 0 := fun a => by
    have := cmpQ_eq0 a a
    simpa using this
  have g1 : ∀ l : List Rat, decide (l = l) = true := fun l => decide_eq_true rfl
  have sm : ∀ l : List Rat, smL l = true → l.length ≤ 1000000 ∧ PB l 10000000000 := fun l h => ⟨Nat.le_trans (smL_len h) (by decide), smL_PB h (by decide)⟩
  have mp1 : p1.length ≤ 1000000 ∧ PB p1 10000000000 := sm p1 (by rw [hp1]; decide +kernel)
  have mp2 : p2.length ≤ 1000000 ∧ PB p2 10000000000 := sm p2 (by rw [hp2]; decide +kernel)
  have mp4 : p4.length ≤ 1000000 ∧ PB p4 10000000000 := sm p4 (by rw [hp4]; decide +kernel)
  have mp5 : p5.length ≤ 1000000 ∧ PB p5 10000000000 := sm p5 (by rw [hp5]; decide +kernel)
  have mp6 : p6.length ≤ 1000000 ∧ PB p6 10000000000 := sm p6 (by rw [hp6]; decide +kernel)
  have mp7 : p7.length ≤ 1000000 ∧ PB p7 10000000000 := sm p7 (by rw [hp7]; decide +kernel)
  have m8 : ([((0 : Int) : Rat), mdQ 1 2] : List Rat).length ≤ 1000000 ∧ PB [((0 : Int) : Rat), mdQ 1 2] 10000000000 := sm _ (by decide +kernel)
  have m9 : ([((1 : Int) : Rat)] : List Rat).length ≤ 1000000 ∧ PB [((1 : Int) : Rat)] 10000000000 := sm _ (by decide +kernel)
  have m10 : p2.length + p2.length ≤ 1000000 ∧ ∃ j k, (PB p2 j ∧ PB p2 k) ∧ p2.length * (j + k + 1) ≤ 9999999999 := by rw [hp2]; exact mlB_ok (by decide +kernel)
  have q2 : qs ((2 : Int) : Rat) ≤ 10000000000 := smq_le (by decide +kernel)
  have q0 : qs ((0 : Int) : Rat) ≤ 10000000000 := smq_le (by decide +kernel)
  have q4 : qs ((4 : Int) : Rat) ≤ 10000000000 := smq_le (by decide +kernel)
  have qm1 : qs ((-1 : Int) : Rat) ≤ 10000000000 := smq_le (by decide +kernel)
  refine PCall.of_awp Tryz.func9 rfl Tryz.ntmps9 Tryz.results9 (by simp) ?_
  have T1 := (tabs mixed (tbl_cons rInts_C (tbl_cons qInv_C (tbl_cons power6_C tbl_nil))))
  refine AWp.seq (vc_ok T1 _ _ _ ?_)
  simp only [go_sem, zp1, wp1, zp2, wp2, zp3, wp3, zp4, wp4, zp5, wp5, i1, i2, a1, a2, a3, a4, a5, a6, b1, b2, b3, b4, b50, b51, b52, c1, c2, d1, d2, d3, d4, e1, e2, e3, f1, f2, f3, f4, f5, g0, g1, mp1, mp2, mp4, mp5, mp6, mp7, m8, m9, m10, q2, q0, q4, qm1]
  refine AWp.seq (vc_ok T1 _ _ _ ?_)
  simp only [go_sem, zp1, wp1, zp2, wp2, zp3, wp3, zp4, wp4, zp5, wp5, i1, i2, a1, a2, a3, a4, a5, a6, b1, b2, b3, b4, b50, b51, b52, c1, c2, d1, d2, d3, d4, e1, e2, e3, f1, f2, f3, f4, f5, g0, g1, mp1, mp2, mp4, mp5, mp6, mp7, m8, m9, m10, q2, q0, q4, qm1]
  refine AWp.seq (vc_ok T1 _ _ _ ?_)
  simp only [go_sem, zp1, wp1, zp2, wp2, zp3, wp3, zp4, wp4, zp5, wp5, i1, i2, a1, a2, a3, a4, a5, a6, b1, b2, b3, b4, b50, b51, b52, c1, c2, d1, d2, d3, d4, e1, e2, e3, f1, f2, f3, f4, f5, g0, g1, mp1, mp2, mp4, mp5, mp6, mp7, m8, m9, m10, q2, q0, q4, qm1]
  refine AWp.seq (vc_ok T1 _ _ _ ?_)
  simp only [go_sem, zp1, wp1, zp2, wp2, zp3, wp3, zp4, wp4, zp5, wp5, i1, i2, a1, a2, a3, a4, a5, a6, b1, b2, b3, b4, b50, b51, b52, c1, c2, d1, d2, d3, d4, e1, e2, e3, f1, f2, f3, f4, f5, g0, g1, mp1, mp2, mp4, mp5, mp6, mp7, m8, m9, m10, q2, q0, q4, qm1]
  refine AWp.seq (vc_ok T1 _ _ _ ?_)
  simp only [go_sem, zp1, wp1, zp2, wp2, zp3, wp3, zp4, wp4, zp5, wp5, i1, i2, a1, a2, a3, a4, a5, a6, b1, b2, b3, b4, b50, b51, b52, c1, c2, d1, d2, d3, d4, e1, e2, e3, f1, f2, f3, f4, f5, g0, g1, mp1, mp2, mp4, mp5, mp6, mp7, m8, m9, m10, q2, q0, q4, qm1]
  refine AWp.seq (vc_ok T1 _ _ _ ?_)
  simp only [go_sem, zp1, wp1, zp2, wp2, zp3, wp3, zp4, wp4, zp5, wp5, i1, i2, a1, a2, a3, a4, a5, a6, b1, b2, b3, b4, b50, b51, b52, c1, c2, d1, d2, d3, d4, e1, e2, e3, f1, f2, f3, f4, f5, g0, g1, mp1, mp2, mp4, mp5, mp6, mp7, m8, m9, m10, q2, q0, q4, qm1]
  refine AWp.seq (vc_ok T1 _ _ _ ?_)
  simp only [go_sem, zp1, wp1, zp2, wp2, zp3, wp3, zp4, wp4, zp5, wp5, i1, i2, a1, a2, a3, a4, a5, a6, b1, b2, b3, b4, b50, b51, b52, c1, c2, d1, d2, d3, d4, e1, e2, e3, f1, f2, f3, f4, f5, g0, g1, mp1, mp2, mp4, mp5, mp6, mp7, m8, m9, m10, q2, q0, q4, qm1]
  refine AWp.seq (vc_ok T1 _ _ _ ?_)
  simp only [go_sem, zp1, wp1, zp2, wp2, zp3, wp3, zp4, wp4, zp5, wp5, i1, i2, a1, a2, a3, a4, a5, a6, b1, b2, b3, b4, b50, b51, b52, c1, c2, d1, d2, d3, d4, e1, e2, e3, f1, f2, f3, f4, f5, g0, g1, mp1, mp2, mp4, mp5, mp6, mp7, m8, m9, m10, q2, q0, q4, qm1]
  have T2 := (tabs mixed (tbl_cons rInts_C (tbl_cons r2Made_C (tbl_cons rPEq_C (tbl_cons (min_C 5 [([-2, 1], 2)]) (tbl_cons trace_C (tbl_cons qNorm_C (tbl_cons r2Whole_C (tbl_cons r2Cmp_C (tbl_cons rPMul_C (tbl_cons qVal_C (tbl_cons power6_C tbl_nil))))))))))))
  refine AWp.from (Wk.of (ss := [(1, .lst (V.rats p1)), (2, .lst (V.rats p2)), (3, .lst (V.rats [((0 : Int) : Rat), mdQ 1 2])), (4, .raw (.int .i64 0)), (6, .raw (.int .i64 60)), (7, .lst (V.rats p4)), (8, .lst (V.rats p7))]) (hs := []) (n := 0) (N := 119) [] (by decide) ?_) (vc_at T2 ?_)
  · simp only [go_sem]
  simp only [app_cons, app_nil]
  simp (maxSteps := 2000000) only [go_sem, zp1, wp1, zp2, wp2, zp3, wp3, zp4, wp4, zp5, wp5, i1, i2, a1, a2, a3, a4, a5, a6, b1, b2, b3, b4, b50, b51, b52, c1, c2, d1, d2, d3, d4, e1, e2, e3, f1, f2, f3, f4, f5, g0, g1, mp1, mp2, mp4, mp5, mp6, mp7, m8, m9, m10, q2, q0, q4, qm1]
  rfl
def kSanity6 : Con := con0 (True, .raw (.bool true))
attribute [go_sem ↓, go_sem] kSanity6
theorem sanity6_C : Ctr Tryz.prog 9 kSanity6 := Ctr.c0 (by kernel_rfl) fun _ => sanity6_V
end Go.Proofs.YtfbogelmgdojgaaGreat
