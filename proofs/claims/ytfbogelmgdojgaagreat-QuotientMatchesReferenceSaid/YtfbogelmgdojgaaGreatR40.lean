/- Texts H19 LQ8 in one. -/
import Derived.Test.YtfbogelmgdojgaaGreatR39
import Derived.Test.YtfbogelmgdojgaaGreatR35
/- Contracts: the reference's minimal polynomial. -/
namespace Go.Proofs.YtfbogelmgdojgaaGreat
set_option linter.unusedSimpArgs false
set_option linter.unusedVariables false
open Go.RowKit

theorem rws_snoc (l : List RwP) (x y : List Rat) : V.rws l ++ [.agg [.lst (V.rats x), .lst (V.rats y)]] = V.rws (l ++ [(x, y)]) := by simp [V.rws]
theorem rws_good (l : List RwP) : allGood (V.rws l) = True := eq_true fun y hy => by
 obtain ⟨p, _, rfl⟩ := List.mem_map.1 hy
 rfl
def kInsR : Con := con2 pRws pRw fun L r => (L.length ≤ 1000, .lst (V.rws (insL L r)))
attribute [go_sem ↓, go_sem] kInsR
set_option maxRecDepth 8000 in
theorem insR_C : Ctr Tryz.prog 71 kInsR := Ctr.c2 (by kernel_rfl) fun L r h => by
 obtain ⟨ra, rc⟩ := r
 have hl : L.length ≤ 1000 := h
 show PCall _ _ [.lst (V.rws L), .agg [.lst (V.rats ra), .lst (V.rats rc)]] (.lst (V.rws (insL L (ra, rc))))
 have T : Tabs Tryz.prog _ _ := (tabs mixed tbl_nil)
 have mx : maxLen = 9223372036854775807 := by decide
 refine PCall.of_vc T Tryz.func71 rfl Tryz.ntmps71 Tryz.results71 (by simp) ?_
 simp only [go_sem]
 obtain ⟨K, eK, hK, k1, k2⟩ : ∃ K, atL L ra.length = K ∧ K ≤ L.length ∧ (∀ i, i < K → ra.length < (rwA L i).length) ∧ (K < L.length → ¬ ra.length < (rwA L K).length) := ⟨_, rfl, atL_le _ _, (atL_at L ra.length).1, (atL_at L ra.length).2⟩
 refine AWp.loops (X := { k : Nat // k ≤ K }) (fun k => mkSt [(0, .lst (V.rws L)), (3, .ptr 0 2 0 0), (4, .raw (.slice none 0 0)), (5, .raw (.int .i64 (k.1 : Nat)))] [(0, true, ⟨87, 2, [.agg [.lst (V.rats ra), .lst (V.rats rc)]]⟩)] 1 39) (fun k => K - k.1) ⟨0, Nat.zero_le _⟩ (Wk.of [0] (by decide) ?_) ?_
 ·simp only [go_sem, Int.natCast_zero]
 rintro ⟨k, hk⟩
 refine vc_at T ?_
 have d3 : 0 ≤ (k : Int) := by omega
 by_cases hkK : k < K
 ·have hkl : k < L.length := by omega
  have d1 : (k : Int) < (L.length : Int) := by omega
  have d2 : (ra.length : Int) < ((rwA L k).length : Int) := by have := k1 k hkK; omega
  have d4 : (k : Int) + 1 = ((k + 1 : Nat) : Int) := by omega
  simp only [go_sem, hkl, d1, d2, d3, d4]
  refine ⟨by rfl, ⟨by omega, by omega⟩, ⟨k + 1, hkK⟩, Wk.of [0] (by decide) ?_, by simp only; omega⟩
  simp only [go_sem]
 ·obtain rfl : k = K := by omega
  have e1 : insL L (ra, rc) = L.take k ++ (ra, rc) :: L.drop k := by unfold insL; simp only [eK]
  have l1 : k + (L.length - k) ≤ L.length := by omega
  have l2 : List.take (L.length - k) (List.drop k L) = List.drop k L := List.take_of_length_le (by rw [List.length_drop]; exact Nat.le_refl _)
  have l3 : (List.drop k L).length = L.length - k := List.length_drop
  have l4 : (List.take k L).length = k := by rw [List.length_take]; omega
  have l6 : (k : Int) ≤ (L.length : Int) := by omega
  have l7 : List.take k (List.take k L) = List.take k L := List.take_of_length_le (by omega)
  have tk : List.take (k + 1) (List.take k L ++ [(ra, rc)]) = List.take k L ++ [(ra, rc)] := List.take_of_length_le (by rw [List.length_append, l4]; exact Nat.le_refl _)
  have w5 : (∀ y : V, y ∈ V.rws L → y.atoms.length = 2) = True := eq_true fun y hy => by
   obtain ⟨p, _, rfl⟩ := List.mem_map.1 hy
   rfl
  have w6 : (¬ k = 0 → True) = True := eq_true fun _ => trivial
  have w7 : ((L.length : Int) ≤ (L.length : Int)) = True := eq_true (Int.le_refl _)
  have fin : List.take (k + 1 + (L.length - k)) (List.take k L ++ [(ra, rc)] ++ List.drop k L) = List.take k L ++ (ra, rc) :: List.drop k L := by
   rw [List.append_assoc, List.singleton_append]
   exact List.take_of_length_le (by rw [List.length_append, List.length_cons, l4, l3]; omega)
  rw [e1]
  by_cases hkl : k < L.length
  ·have d1 : (k : Int) < (L.length : Int) := by omega
   have d2 : ¬ (ra.length : Int) < ((rwA L k).length : Int) := by have := k2 hkl; omega
   simp only [go_sem, hkl, d1, d2, d3, l1, l2, l3, l4, l6, l7, hK, tk, w5, w6, w7, rws_app, rws_snoc, rws_good, fin, mx]
   exact ⟨by rfl, ⟨by omega, by omega⟩, ⟨by omega, by omega⟩, by omega, by omega⟩
  ·have d1 : ¬ (k : Int) < (L.length : Int) := by omega
   simp only [go_sem, d1, d3, l1, l2, l3, l4, l6, l7, hK, tk, w5, w6, w7, rws_app, rws_snoc, rws_good, fin, mx]
   exact ⟨by rfl, ⟨by omega, by omega⟩, ⟨by omega, by omega⟩, by omega, by omega⟩
def kM6Min (D : Nat) : Con := con2 pR pR fun q a => (Can a ∧ MrOk q a D ∧ (Can (rwR q a D).2 ∧ (rwR q a D).2.length ≤ 1000000 ∧ ∃ s, PB (rwR q a D).2 s ∧ s ≤ 2500000000000), .lst (V.rats (pMonic (rwR q a D).2)))
attribute [go_sem ↓, go_sem] kM6Min
set_option maxRecDepth 8000 in
theorem m6Min_C (D : Nat) : Ctr Tryz.prog 28 (kM6Min D) := Ctr.c2 (by kernel_rfl) fun q a h => by
 obtain ⟨ca, ⟨⟨hl, hD⟩, hne, heq, hrow, hred, hmul, hst⟩, hmo⟩ := h
 show PCall _ _ _ (.lst (V.rats (pMonic (rwR q a D).2)))
 have T := (tabs mixed (tbl_cons rM6Red_C (tbl_cons r2Whole_C (tbl_cons rPower_C (tbl_cons r2Ovr_C (tbl_cons rSc_C (tbl_cons rSub_C (tbl_cons rMonic_C (tbl_cons insR_C (tbl_cons rM6Mul_C tbl_nil))))))))))
 have mx : maxLen = 9223372036854775807 := by decide
 refine PCall.of_vc T Tryz.func28 rfl Tryz.ntmps28 Tryz.results28 (by simp) ?_
 have x0 : pMod [((1 : Int) : Rat)] q = pwX q a 0 := rfl
 have st1 : DvOk [((1 : Int) : Rat)] q = True := eq_true hst.1
 have st2 := hst.2
 simp only [go_sem, st1, st2, x0]
 refine AWp.frzS 5 ?_
 simp only [go_sem]
 refine AWp.loops (X := { k : Nat // k ≤ D }) (fun k => mkSt [(0, .lst (V.rats q)), (1, .lst (V.rats a)), (4, .raw (.slice none 0 0)), (5, .lst (V.rws (rwK q a k.1))), (6, .lst (V.rats (pwX q a k.1))), (7, .raw (.int .i64 (k.1 : Nat)))] [] 0 97) (fun k => D - k.1) ⟨0, Nat.zero_le _⟩ (Wk.of [] (by decide) ?_) ?_
 ·simp only [go_sem, rwK, rws_nil, Int.natCast_zero]
 rintro ⟨k, hk⟩
 refine vc_at T ?_
 have c1 : (k : Int) < (q.length : Int) := by omega
 have c3 : 0 ≤ (k : Int) := by omega
 have c4 : (k : Int) ≤ 1000000 := by omega
 have e0 : tr (mon ((1 : Int) : Rat) k) = tr (mon 1 k) := rfl
 simp only [go_sem, c1, c3, c4, e0]
 have lK := rwK_len q a k
 refine AWp.loops (X := { i : Nat // i ≤ k }) (fun i => mkSt [(0, .lst (V.rats q)), (1, .lst (V.rats a)), (4, .raw (.slice none 0 0)), (5, .lst (V.rws (rwK q a k))), (6, .lst (V.rats (pwX q a k))), (7, .raw (.int .i64 (k : Nat))), (8, .ptr 0 2 0 0), (9, .raw (.int .i64 (i.1 : Nat)))] [(0, true, ⟨87, 2, [.agg [.lst (V.rats (redR ((rwK q a k).take i.1) (pwX q a k, tr (mon 1 k))).1), .lst (V.rats (redR ((rwK q a k).take i.1) (pwX q a k, tr (mon 1 k))).2)]]⟩)] 1 97) (fun i => k - i.1) ⟨0, Nat.zero_le _⟩ (Wk.of [9] (by decide) ?_) ?_
 ·simp only [go_sem, List.take_zero, redR, Int.natCast_zero]
 rintro ⟨i, hi⟩
 refine vc_at T ?_
 obtain ⟨L, eL⟩ : ∃ L, rwK q a k = L := ⟨_, rfl⟩
 by_cases hik : i < k
 ·have d1 : (i : Int) < (k : Int) := by omega
  have d2 : (i : Int) + 1 = ((i + 1 : Nat) : Int) := by omega
  have d3 : 0 ≤ (i : Int) := by omega
  obtain ⟨⟨y0, yl⟩, ys1, ys2⟩ := hrow k hk i hik
  obtain ⟨rs1, rs2⟩ := hred k hk i hi
  have st := redR_step (L := rwK q a k) (r := (pwX q a k, tr (mon 1 k))) (i := i) (by omega)
  have lL : L.length = k := by rw [← eL]; exact lK
  rw [eL] at st y0 yl ys1 ys2 rs1 rs2 ⊢
  obtain ⟨r, er⟩ : ∃ r, redR (L.take i) (pwX q a k, tr (mon 1 k)) = r := ⟨_, rfl⟩
  obtain ⟨r1, r2⟩ := r
  obtain ⟨y, ey⟩ : ∃ y, L.getD i ([], []) = y := ⟨_, rfl⟩
  obtain ⟨y1, y2⟩ := y
  have eA : rwA L i = y1 := by unfold rwA; rw [ey]
  have eC : rwC L i = y2 := by unfold rwC; rw [ey]
  rw [er, ey] at st
  rw [er] at rs1 rs2
  rw [ey] at y0 yl ys1 ys2
  have hiL : i < L.length := by omega
  simp only at y0 yl ys1 ys2 rs1 rs2
  by_cases hle : y1.length ≤ r1.length
  ·have d4 : (y1.length : Int) ≤ (r1.length : Int) := by omega
   have d5 : (y1.length : Int) - 1 = ((y1.length - 1 : Nat) : Int) := by omega
   have d6 : 0 ≤ ((y1.length - 1 : Nat) : Int) := by omega
   have d7 : y1.length - 1 < y1.length := by omega
   have d8 : y1.length - 1 < r1.length := by omega
   simp only [go_sem, lL, er, eA, eC, hiL, d1, d2, d3, d4, d5, d6, d7, d8]
   have st' : redR (L.take (i + 1)) (pwX q a k, tr (mon 1 k)) = (pSub r1 (pSc (cf r1 (y1.length - 1) / cf y1 (y1.length - 1)) y1), pSub r2 (pSc (cf r1 (y1.length - 1) / cf y1 (y1.length - 1)) y2)) := by rw [st]; exact if_pos hle
   have q1 := rs1.pb (y1.length - 1)
   have q2 := ys1.pb (y1.length - 1)
   have q3 := qs_div (cf r1 (y1.length - 1)) (cf y1 (y1.length - 1))
   have q4 : qs (cf r1 (y1.length - 1) / cf y1 (y1.length - 1)) ≤ 2000000000000 := by omega
   have s1 := ys1.sc q4
   have s2 := ys2.sc q4
   have up : ∀ {p : List Rat} {t : Nat}, Sz p 1000 t → t ≤ 5000000000000 → p.length ≤ 1000000 ∧ PB p 5000000000000 := fun h e => ⟨by have := h.len; omega, h.pb.mono e⟩
   obtain ⟨u1, u2⟩ := up ys1 (by decide)
   obtain ⟨u3, u4⟩ := up ys2 (by decide)
   obtain ⟨u5, u6⟩ := up rs1 (by decide)
   obtain ⟨u7, u8⟩ := up rs2 (by decide)
   obtain ⟨v1, v2⟩ := up s1 (by decide)
   obtain ⟨v3, v4⟩ := up s2 (by decide)
   refine ⟨hik, ⟨by omega, by omega⟩, by omega, hik, ⟨by omega, by omega⟩, by omega, ⟨by omega, by omega, yl⟩, by rfl, hik, ⟨u1, u2, by omega⟩, ⟨⟨u5, v1⟩, u6, v2⟩, by rfl, hik, ⟨u3, u4, by omega⟩, ⟨⟨u7, v3⟩, u8, v4⟩, by rfl, ⟨by omega, by omega⟩, ⟨i + 1, hik⟩, Wk.of [0] (by decide) ?_, by simp only; omega⟩
   simp only [go_sem, st']
  ·have d4 : ¬ (y1.length : Int) ≤ (r1.length : Int) := by omega
   have st' : redR (L.take (i + 1)) (pwX q a k, tr (mon 1 k)) = (r1, r2) := by rw [st]; exact if_neg hle
   simp only [go_sem, lL, er, eA, eC, hiL, d1, d2, d3, d4]
   refine ⟨hik, ⟨by omega, by omega⟩, ⟨i + 1, hik⟩, Wk.of [0] (by decide) ?_, by simp only; omega⟩
   simp only [go_sem, st']
 ·obtain rfl : k = i := by omega
  have d1 : ¬ (k : Int) < (k : Int) := by omega
  have tL : (rwK q a k).take k = rwK q a k := List.take_of_length_le (by omega)
  have eR : redR ((rwK q a k).take k) (pwX q a k, tr (mon 1 k)) = rwR q a k := by rw [tL]; rfl
  rw [eR]
  obtain ⟨r1, e1⟩ : ∃ r1, (rwR q a k).1 = r1 := ⟨_, rfl⟩
  obtain ⟨r2, e2⟩ : ∃ r2, (rwR q a k).2 = r2 := ⟨_, rfl⟩
  have nk : insL (rwK q a k) (r1, r2) = rwK q a (k + 1) := by rw [← e1, ← e2]; rfl
  have k1000 : k ≤ 1000 := by omega
  by_cases hkD : k < D
  ·have h1 := hne k hkD
   rw [e1] at h1
   have h2 : ((r1.length : Int) == 0) = false := by rw [beq_eq_false_iff_ne]; have := List.length_pos_iff.2 h1; omega
   have h3 : (k : Int) + 1 = ((k + 1 : Nat) : Int) := by omega
   obtain ⟨m1, m2, m3, m4⟩ := hmul k hkD
   have nx : pMod (pMul (pwX q a k) a) q = pwX q a (k + 1) := rfl
   simp only [go_sem, lK, e1, e2, d1, h2, h3, nk, k1000, m1, m2, m3, m4, nx]
   refine ⟨⟨by omega, by omega⟩, ⟨k + 1, hkD⟩, Wk.of [] (by decide) ?_, by simp only; omega⟩
   simp only [go_sem]
  ·obtain rfl : k = D := by omega
   have h1 : r1 = [] := by rw [← e1]; exact heq
   have h2 : ((r1.length : Int) == 0) = true := by rw [h1]; rfl
   rw [e2] at hmo ⊢
   simp only [go_sem, lK, e1, e2, d1, h2, hmo]
end Go.Proofs.YtfbogelmgdojgaaGreat


/- The law of the reference. -/
namespace Go.Proofs.YtfbogelmgdojgaaGreat
set_option linter.unusedSimpArgs false
set_option linter.unusedVariables false
open Go.RowKit

set_option maxRecDepth 20000 in
set_option maxHeartbeats 4000000 in
theorem matches6_V (x : Cs) (m : Int) (hx : x.Ok) (hm : B8 m) : PCall Tryz.prog 3 [x.v, .raw (.int .i8 m)] (.raw (.bool true)) := by
 obtain ⟨⟨⟨pq, pq'⟩, pa, pb⟩, hz⟩ := hx
 obtain ⟨n, k, hq⟩ := mod6_md pq'
 have hs := mod6_sqf pq'
 have ha : Sz (psL x.A 6) 6 1 := psL_sz pa 6
 have hb : Sz (psL x.B 6) 6 1 := psL_sz pb 6
 have hw : Sz (zsL x.Q 5) 5 1 := zs_sz pq' 5
 have hwg : (1 < (zsL x.Q 5).length → ∃ m, GcOk m (zsL x.Q 5) (pDiff (zsL x.Q 5))) = True := eq_true fun h => zs_gc pq' h
 have pqq : (∀ z ∈ x.Q, B8 z) = True := eq_true pq'
 unfold Cs.v
 obtain ⟨q, eq⟩ : ∃ a, mod6 x.Q = a := ⟨_, rfl⟩
 obtain ⟨a, ea⟩ : ∃ a, psL x.A 6 = a := ⟨_, rfl⟩
 obtain ⟨b, eb⟩ : ∃ a, psL x.B 6 = a := ⟨_, rfl⟩
 obtain ⟨w, ew⟩ : ∃ a, zsL x.Q 5 = a := ⟨_, rfl⟩
 rw [eq] at hq hs
 rw [ea] at ha
 rw [eb] at hb
 rw [ew] at hw hwg
 have q0 := hq.ne
 have cq := hq.can
 have h2 := hq.two
 have hql := hq.sz.len
 have wc := hw.can
 have w1 : w.length ≤ 1000000 := by have := hw.len; omega
 have w2 : PB w 5000000000000 := hw.pb.mono (by decide)
 -- inverses
 obtain ⟨s, e, ⟨i1, i2⟩, i3, i4⟩ := inv_both hq ha
 obtain ⟨⟨j1, j2, j3⟩, S, ⟨s1, s2⟩, hs2⟩ := iv_ok hq ha
 have j4 := hq.dv ha (by decide)
 have j5 : ((pExt (pMod a q) q).1.length = 1 → DvOk (pExt (pMod a q) q).2.1 q) = True := eq_true fun _ => (hq.dv (m := 4) (j := S) ⟨by have := hs2.len; have := hq.cs; omega, hs2.pb, hs2.can⟩ ⟨by decide, by omega⟩).1
 have ic := hq.toMd0.ivC ha
 have ee : ((e : Int) == e) = true := beq_self_eq_true e
 have ds : decide (s = s) = true := decide_eq_true rfl
 -- residues and products
 have r1 := hq.rm ha (by decide)
 have r2 : (pMod a q).length ≤ 1000000 ∧ PB (pMod a q) 5000000000000 := r1.c1
 have dr : decide (pMod a q = pMod a q) = true := decide_eq_true rfl
 have m1 := hq.mu ha hb (by decide)
 have m2 := hq.rm (ha.mul hb) (by decide)
 have m3 : (pMod (pMul a b) q).length ≤ 1000000 ∧ PB (pMod (pMul a b) q) 5000000000000 := m2.c1
 have dm : decide (pMod (pMul a b) q = pMod (pMul a b) q) = true := decide_eq_true rfl
 have m4 := ha.c1
 have m5 := hb.c1
 -- trace and norm
 obtain ⟨t1, t2⟩ := hq.tr ha (by decide)
 have t3 : qs (TrM q a) ≤ 5000000000000 := by rw [← trQ_TrM ha.can cq h2]; exact Nat.le_trans t2 (by decide)
 have t4 := trQ_TrM ha.can cq h2
 have t5 := trC_of hq.toMd0 ha (by decide) (by decide)
 have t6 : (cmpQ (TrM q a) (TrM q a) == 0) = true := by rw [cmpQ_self]; rfl
 have n1 : pRes (pMonic q) (pMod a q) = Nm q a := by rw [norm_Nm ha.can cq h2, Nm_monic cq q0]
 have n2 := ic.nm
 have n3 : (cmpQ (Nm q a) (Nm q a) == 0) = true := by rw [cmpQ_self]; rfl
 have n4 : Can q ∧ q.length ≤ 1000000 ∧ ∃ s, PB q s ∧ s ≤ 2500000000000 := ⟨cq, by omega, 5504, hq.sz.pb, by decide⟩
 -- power sums
 have k0 := Int.tmod_lt_of_pos m (show (0 : Int) < 9 by decide)
 have k1 : (m.tmod 9).toNat ≤ 8 := by omega
 obtain ⟨P1, P2⟩ := po8 hq.toMd0 k1
 have P3 := pwC_of hq.toMd0 (show (m.tmod 9).toNat ≤ 9 by omega)
 have P4 : rg (fun i => TrM q (pwX q (mon 1 1) i)) (m.tmod 9).toNat = nwL (pMonic q) (m.tmod 9).toNat := pow_tr cq h2 _
 have P5 := nwL_len (pMonic q) (m.tmod 9).toNat
 -- minimal polynomials
 obtain ⟨l, hl, el⟩ := monic_factor (chi_can q a) (fun e => by have := chi_length q a; rw [e] at this; simp at this) (by unfold lead; rw [chi_length, Nat.add_sub_cancel, chi_top])
 obtain ⟨⟨M1, M2⟩, ⟨M3, M4⟩, M5⟩ := mn_ok hq ha hl el
 have rt := rad_root cq h2 hs (by decide : (1 : Rat) ≠ 0) el (cayley ha.can cq h2)
 have e1 : chi q a = PwL l := ev_inj (chi_can q a) (can_PwL l) fun x => by rw [el x]; grind
 have hlen : (PiL l).length ≤ q.length := by
  have h3 := chi_length q a
  have := PiL_len hl
  rw [e1] at h3
  omega
 obtain ⟨R1, R2⟩ := mr_ok hq ha hl (fun x => by rw [el x]; grind) rt hlen
 obtain ⟨p1, p0, p2⟩ := lead_PiL hl
 obtain ⟨f, ef⟩ : ∃ f, PiL l = f := ⟨_, rfl⟩
 have cf : Can (PiL l) := can_PiL l
 rw [ef] at M2 M3 hlen p1 p0 cf R1 R2
 obtain ⟨D, eD⟩ : ∃ D, f.length - 1 = D := ⟨_, rfl⟩
 rw [eD] at R1 R2
 have mo : pMonic f = f := ev_inj (can_pMonic f) cf fun x => by rw [ev_pMonic p0, p1]; grind
 have m6 : Can f ∧ f.length ≤ 1000000 ∧ ∃ s, PB f s ∧ s ≤ 2500000000000 := ⟨cf, by omega, _, M3, by decide⟩
 have fl : f.length ≤ 1000000 := by omega
 have fp : PB f 5000000000000 := M3.mono (by decide)
 have df : decide (f = f) = true := decide_eq_true rfl
 -- validity
 have v1 := hq.val hs
 have v2 : q.length ≤ 1000000 ∧ PB q 5000000000000 := hq.sz.c1
 have v3 : (1 < q.length → ∃ n, GcOk n q (pDiff q)) = True := eq_true fun _ => hq.gc
 have v4 : (validQ3 w == validQ3 w) = true := beq_self_eq_true _
 have wm : IntKind.i64.wrap m = m := IntWalk.i64_in _ ⟨by have := hm.1; omega, by have := hm.2; omega⟩
 have T := (tabs mixed (tbl_cons sanity6_C (tbl_cons made6_C (tbl_cons qInv_C (tbl_cons m6Inv_C (tbl_cons rInts_C (tbl_cons rPEq_C (tbl_cons qRed_C (tbl_cons rM6Red_C (tbl_cons qMulq_C (tbl_cons rM6Mul_C (tbl_cons trace_C (tbl_cons m6Tr_C (tbl_cons r2Cmp_C (tbl_cons qNorm_C (tbl_cons m6Norm_C (tbl_cons power6_C (tbl_cons m6Pow_C (tbl_cons same6_C (tbl_cons minF_C (tbl_cons (m6Min_C D) (tbl_cons qVal_C (tbl_cons m6Val_C tbl_nil)))))))))))))))))))))))
 refine PCall.of_vc T Tryz.func3 rfl Tryz.ntmps3 Tryz.results3 (by simp) ?_
 simp only [app_cons, app_nil]
 simp (maxSteps := 2000000) only [go_sem, eq, ea, eb, ew, pq, pqq, pa, pb, q0, i1, i2, i3, i4, j1, j4, j5, ee, ds, r2, dr, m1, m3, dm, m4, m5, t1, t3, t4, t6, n1, n2, n3, n4, j2, P1, P2, P4, P5, M1, M2, R2, mo, m6, fl, fp, df, v1, v2, v3, v4, w1, w2, wc, hwg, ha.can, cq, eq_true ic, eq_true t5, eq_true P3, eq_true R1, eq_true ic.mx, eq_true ic.dt, wm]
 exact ⟨by omega, rfl, by show (nwL _ _).length ≤ _; rw [P5]; omega, P2⟩
set_option maxRecDepth 20000 in
theorem lawMatches6_F (X Y : V) (h : Fits Tryz.prog 6 27 X) (g : Fits Tryz.prog 6 24 Y) : PCall Tryz.prog 3 [X, Y] (.raw (.bool true)) := by
 obtain ⟨x, rfl, hx⟩ := fits_case h
 obtain ⟨n, hw, rfl⟩ := fits_int (k := .i8) (by kernel_rfl) g
 exact matches6_V x n hx (wf_i8 hw)
end Go.Proofs.YtfbogelmgdojgaaGreat

