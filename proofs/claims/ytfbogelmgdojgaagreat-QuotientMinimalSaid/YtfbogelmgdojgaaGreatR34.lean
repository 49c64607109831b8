/- Texts J8 SZ10 LQ5 in one. -/
import Derived.Test.YtfbogelmgdojgaaGreatR33
import Derived.Test.YtfbogelmgdojgaaGreatR29
import Derived.Test.YtfbogelmgdojgaaGreatR30
/- Contracts: the minimal polynomial as a function; values at residues. -/
namespace Go.Proofs.YtfbogelmgdojgaaGreat
set_option linter.unusedSimpArgs false
set_option linter.unusedVariables false
open Go.RowKit

def minP (q a : List Rat) : List Rat :=
  match pSqf q.length (tr (mnL (trs q (pMod a q) (q.length - 1)) (q.length - 1)).reverse) with
  | some fs => prd fs fs.length
  | none => []
def kMinF : Con := con2 pR pR fun q a => (∃ fs, MnOk q a q.length fs, .lst (V.rats (minP q a)))
attribute [go_sem ↓, go_sem] kMinF
theorem minF_C : Ctr Tryz.prog 27 kMinF := Ctr.c2 (by kernel_rfl) fun q a h => by
  obtain ⟨fs, h⟩ := h
  show PCall _ _ _ (.lst (V.rats (minP q a)))
  have e : minP q a = prd fs fs.length := by unfold minP; rw [h.sqf.1]
  rw [e]
  exact (min_C q.length fs).2 [.lst (V.rats q), .lst (V.rats a)] (MnOk q a q.length fs) _ (by simp only [go_sem]) h
/-- The steps of At. -/
def atO (q f a : List Rat) (j : Nat) : List Rat := atm q a (f.drop (f.length - j))
theorem atO_step (q f a : List Rat) {j : Nat} (h : j < f.length) : atO q f a (j + 1) = pAdd (pMod (pMul (atO q f a j) a) q) (tr [cf f (f.length - 1 - j)]) := by
  unfold atO
  rw [show f.length - (j + 1) = f.length - 1 - j from by omega, List.drop_eq_getElem_cons (by omega), atm, show f.length - 1 - j + 1 = f.length - j from by omega, cf_lt (by omega)]
def atS (q f a : List Rat) : Nat → St
  | 0 => mkSt [(0, .lst (V.rats q)), (1, .lst (V.rats f)), (2, .lst (V.rats a)), (7, .sl 0 4 0 0), (8, .raw (.int .i64 ((f.length : Int) - 1)))] [(0, true, ⟨45, 4, []⟩)] 1 32
  | j + 1 => mkSt [(0, .lst (V.rats q)), (1, .lst (V.rats f)), (2, .lst (V.rats a)), (7, .lst (V.rats (atO q f a (j + 1)))), (8, .raw (.int .i64 ((f.length : Int) - 1 - ((j + 1 : Nat) : Int))))] [] 0 32
def AtOk (q f a : List Rat) : Prop := f.length ≤ 1000000 ∧ (∀ j, j < f.length → ((atO q f a j).length + a.length ≤ 1000000 ∧ PB (atO q f a j) 5000000000000 ∧ PB a 5000000000000) ∧ (∃ i k, (PB (atO q f a j) i ∧ PB a k) ∧ (atO q f a j).length * (i + k + 1) ≤ 4999999999999) ∧
  (DvOk (pMul (atO q f a j) a) q ∧ q ≠ []) ∧ ((pMod (pMul (atO q f a j) a) q).length ≤ 1000000 ∧ (tr [cf f (f.length - 1 - j)]).length ≤ 1000000) ∧ PB (pMod (pMul (atO q f a j) a) q) 5000000000000 ∧ PB (tr [cf f (f.length - 1 - j)]) 5000000000000) ∧ DvOk (atm q a f) q ∧ q ≠ []
def kM6Mul : Con := con3 pR pR pR fun q a b => ((a.length + b.length ≤ 1000000 ∧ PB a 5000000000000 ∧ PB b 5000000000000) ∧ (∃ i k, (PB a i ∧ PB b k) ∧ a.length * (i + k + 1) ≤ 4999999999999) ∧ DvOk (pMul a b) q ∧ q ≠ [], .lst (V.rats (pMod (pMul a b) q)))
attribute [go_sem ↓, go_sem] kM6Mul
theorem rM6Mul_C : Ctr Tryz.prog 18 kM6Mul := Ctr.c3 (by kernel_rfl) fun q a b h => by
  obtain ⟨h1, h2, h3, h4⟩ := h
  show PCall _ _ _ (.lst (V.rats (pMod (pMul a b) q)))
  refine PCall.of_vc (tabs mixed (tbl_cons rPMul_C (tbl_cons rRest_C tbl_nil))) Tryz.func18 rfl Tryz.ntmps18 Tryz.results18 (by simp) ?_
  simp only [go_sem, h1, h2, h3, h4]
def kM6Red : Con := con2 pR pR fun q a => (DvOk a q ∧ q ≠ [], .lst (V.rats (pMod a q)))
attribute [go_sem ↓, go_sem] kM6Red
theorem rM6Red_C : Ctr Tryz.prog 16 kM6Red := Ctr.c2 (by kernel_rfl) fun q a h => by
  obtain ⟨h3, h4⟩ := h
  show PCall _ _ _ (.lst (V.rats (pMod a q)))
  refine PCall.of_vc (tabs mixed (tbl_cons rRest_C tbl_nil)) Tryz.func16 rfl Tryz.ntmps16 Tryz.results16 (by simp) ?_
  simp only [go_sem, h3, h4]
def kM6At : Con := con3 pR pR pR fun q f a => (AtOk q f a, .lst (V.rats (pMod (atm q a f) q)))
attribute [go_sem ↓, go_sem] kM6At
theorem rM6At_C : Ctr Tryz.prog 48 kM6At := Ctr.c3 (by kernel_rfl) fun q f a h => by
  obtain ⟨hl, hs, hd, q0⟩ := h
  show PCall _ _ _ (.lst (V.rats (pMod (atm q a f) q)))
  have T := (tabs mixed (tbl_cons rM6Mul_C (tbl_cons rM6Red_C (tbl_cons rAdd_C (tbl_cons rTrim_C tbl_nil)))))
  refine PCall.of_vc T Tryz.func48 rfl Tryz.ntmps48 Tryz.results48 (by simp) ?_
  simp only [go_sem]
  refine ⟨⟨by omega, by omega⟩, ?_⟩
  refine AWp.loops (X := { j : Nat // j ≤ f.length }) (fun j => atS q f a j.1) (fun j => f.length - j.1) ⟨0, Nat.zero_le _⟩ (Wk.of [1] (by decide) ?_) ?_
  · simp only [go_sem]
  have e0 : atO q f a 0 = [] := by unfold atO; rw [Nat.sub_zero, List.drop_length]; rfl
  have ee : atO q f a f.length = atm q a f := by unfold atO; rw [Nat.sub_self]; rfl
  rintro ⟨j, hj⟩
  rcases j with _ | j
  · show AWp _ _ _ (mkSt _ _ _ _)
    refine vc_at T ?_
    by_cases hjn : 0 < f.length
    · obtain ⟨s1, s2, s3, s4, s5, s6⟩ := hs 0 hjn
      have e1 := atO_step q f a hjn
      rw [Nat.sub_zero] at s4 s6 e1
      rw [e0] at s1 s2 s3 s4 s5 e1
      have c1 : 0 ≤ (f.length : Int) - 1 := by omega
      have c2 : (f.length : Int) - 1 = ((f.length - 1 : Nat) : Int) := by omega
      have c3 : f.length - 1 < f.length := by omega
      have e2 : (f.length : Int) - 1 - ((0 + 1 : Nat) : Int) = (f.length : Int) - 1 - 1 := by omega
      rw [List.length_nil, Nat.zero_add] at s1
      have s7 : ∃ i k, PB [] i ∧ PB a k := by obtain ⟨i, k, h, _⟩ := s2; exact ⟨i, k, h⟩
      rw [c2]
      have c4 : 0 ≤ ((f.length - 1 : Nat) : Int) := by omega
      simp only [go_sem, c4, c3, s1, s3, s4, s5, s6, s7]
      refine ⟨by omega, ⟨by omega, by omega⟩, ⟨0 + 1, hjn⟩, Wk.of [] (by decide) ?_, by simp only; omega⟩
      simp only [go_sem, e1, e2, c2]
    · have h0 : f = [] := List.eq_nil_of_length_eq_zero (by omega)
      subst h0
      have c1 : ¬ (0 : Int) ≤ -1 := by decide
      have e1 : atm q a [] = [] := rfl
      rw [e1] at hd
      simp only [go_sem, c1, hd, q0, e1]
  · show AWp _ _ _ (mkSt _ _ _ _)
    refine vc_at T ?_
    by_cases hjn : j + 1 < f.length
    · obtain ⟨s1, s2, s3, s4, s5, s6⟩ := hs (j + 1) hjn
      have e1 := atO_step q f a hjn
      have c1 : 0 ≤ ((f.length - 1 - (j + 1) : Nat) : Int) := by omega
      have c2 : (f.length : Int) - 1 - ((j + 1 : Nat) : Int) = ((f.length - 1 - (j + 1) : Nat) : Int) := by omega
      have c3 : f.length - 1 - (j + 1) < f.length := by omega
      have e2 : (f.length : Int) - 1 - ((j + 1 + 1 : Nat) : Int) = ((f.length - 1 - (j + 1) : Nat) : Int) - 1 := by omega
      rw [c2]
      simp only [go_sem, c1, c3, s1, s2, s3, s4, s5, s6]
      refine ⟨by omega, ⟨by omega, by omega⟩, ⟨j + 1 + 1, hjn⟩, Wk.of [] (by decide) ?_, by simp only; omega⟩
      simp only [go_sem, e1, e2]
    · have hj' : j + 1 = f.length := by omega
      have c1 : ¬ 0 ≤ (f.length : Int) - 1 - ((j + 1 : Nat) : Int) := by omega
      rw [← hj'] at ee
      simp only [go_sem, c1, ee, hd, q0]
end Go.Proofs.YtfbogelmgdojgaaGreat


/- The sizes of a minimal polynomial, put together. No program in sight. -/
namespace Go.Proofs.YtfbogelmgdojgaaGreat
set_option linter.unusedSimpArgs false
set_option linter.unusedVariables false
open Go.RowKit

theorem monic_factor {a : List Rat} (ha : Can a) (a0 : a ≠ []) (h1 : lead a = 1) : ∃ l, Good l ∧ ∀ x, ev a x = 1 * ev (PwL l) x := by
  obtain ⟨c, l, c0, hl, hc⟩ := factor a.length a (Nat.le_refl _) ha a0
  have e : a = pSc c (PwL l) := ev_inj ha (can_pSc _ _) fun x => by rw [hc x, ev_pSc]
  have h2 := lead_pSc c0 (can_PwL l)
  rw [← e, h1, (lead_PwL hl).1.1] at h2
  have : c = 1 := by grind
  exact ⟨l, hl, fun x => by rw [hc x, this]⟩
theorem partsL_len {l : Fac} (hl : Good l) : ∀ k n, (partsL l k n).length = ((dsL l n k).filter fun d => decide (d ≠ 0)).length
  | 0, _ => rfl
  | k + 1, n => by
    have gZ := hl.filter (f := fun y => y.2 == n)
    rw [partsL, dsL, List.filter_cons]
    by_cases h : (l.filter fun y => y.2 == n) = []
    · have : dgL l n = 0 := by unfold dgL; rw [h]; rfl
      rw [if_pos h, this, if_neg (by decide), partsL_len hl k (n + 1)]
    · have := (lead_PiL gZ).2.2 h
      have : dgL l n ≠ 0 := by unfold dgL; omega
      rw [if_neg h, if_pos (by simpa using this), List.length_cons, List.length_cons, partsL_len hl k (n + 1)]
theorem part_len {l : Fac} (hl : Good l) (f : List Rat × Nat → Bool) : (PiL (l.filter f)).length ≤ (PiL l).length := by
  refine (dvd_len (can_PiL l) (can_PiL _) ⟨PiL (l.filter fun y => !f y), can_PiL _, fun x => ?_⟩ (lead_PiL hl).2.1).1
  rw [filt_Pi f l x]; grind
theorem mnZ_le : ∀ k, k ≤ 4 → mnZ 140000000 k ≤ 20000000000
  | 0, _ => by decide
  | 1, _ => by decide
  | 2, _ => by decide
  | 3, _ => by decide
  | 4, _ => by decide
  | k + 5, h => by omega
theorem atB_mono (n k X : Nat) (hn : 2 ≤ n) (i : Nat) : atB n k X i ≤ atB n k X (i + 1) := by
  show _ ≤ 32 * ((n - 1) * (atB n k X i + 2) + 1 + (2 * k + 1)) + X + 1
  have : 1 * (atB n k X i + 2) ≤ (n - 1) * (atB n k X i + 2) := Nat.mul_le_mul_right _ (by omega)
  omega
theorem atB_le (n k X : Nat) (hn : 2 ≤ n) {i : Nat} : ∀ {j}, i ≤ j → atB n k X i ≤ atB n k X j
  | 0, h => by rw [show i = 0 from by omega]; exact Nat.le_refl _
  | j + 1, h => by
    by_cases e : i = j + 1
    · rw [e]; exact Nat.le_refl _
    · exact Nat.le_trans (atB_le n k X hn (j := j) (by omega)) (atB_mono n k X hn j)
theorem mn_ok {q a : List Rat} {n k : Nat} {l : Fac} (hq : Md q n k) (ha : Sz a 6 1) (hl : Good l) (e : ∀ x, ev (chi q a) x = 1 * ev (PwL l) x) :
    ((∃ fs, MnOk q a q.length fs) ∧ minP q a = PiL l) ∧ (PB (PiL l) 1000000000000 ∧ ∃ m, GcOk m (PiL l) (pDiff (PiL l))) ∧ AtOk q (PiL l) a := by
  have hC : mnC n k = true := by
    rcases hq.cs with ⟨rfl, rfl⟩ | ⟨rfl, rfl⟩ | ⟨rfl, rfl⟩ | ⟨rfl, rfl⟩ <;> decide +kernel
  simp only [mnC, Bool.and_eq_true] at hC
  obtain ⟨c1, c2, c3⟩ := hC
  have n5 := hq.cs
  have hlen := hq.len
  have h2 := hq.two
  have q0 := hq.ne
  have one0 : (1 : Rat) ≠ 0 := by decide
  have hχ := chi_length q a
  have pχ := hq.chiP ha
  obtain ⟨⟨sf, sfp⟩, sfr⟩ := sf_ok (K := q.length) c2 (chi_can q a) (by omega) pχ one0 hl e ⟨by omega, by omega⟩
  have hy := yun (chi_can q a) (by omega) one0 hl e (k := q.length) (by omega)
  have e1 : chi q a = PwL l := ev_inj (chi_can q a) (can_PwL l) fun x => by rw [e x]; grind
  have eR : pSc 1 (PiL l) = PiL l := ev_inj (can_pSc _ _) (can_PiL l) fun x => by rw [ev_pSc]; grind
  rw [eR] at sfr
  have hlw : (PwL l).length = n := by rw [← e1]; omega
  have hle : ∀ y ∈ l, y.2 ≤ n - 1 := fun y hy => by have := (lead_PwL hl).2 y hy; omega
  have hw : wsm 1 (dsL l 1 (n - 1)) = n - 1 := by
    rw [wsm_dgW (n - 1) hl hle]
    have := len_PwL hl
    omega
  have ht := tyC_ok (n - 1) 1 (n - 1) (mnT n k) (Nat.le_refl _) c3 (dsL l 1 (n - 1)) (dsL_len l (n - 1) 1) hw
  have f1 : (l.filter fun y => decide (1 ≤ y.2)) = l := List.filter_eq_self.2 fun y hy => by have := (hl.mem y hy).2; simp; omega
  have lPi := len_PiL_sum hl (n - 1) 1 (fun y hy => by have := hle y hy; omega)
  rw [f1] at lPi
  have lPn : (PiL l).length ≤ n := by have := PiL_len hl; omega
  have hpl := partsL_len hl (n - 1) 1
  generalize hds : dsL l 1 (n - 1) = ds at *
  simp only [mnT, Bool.and_eq_true, decide_eq_true_eq] at ht
  obtain ⟨t1, t2, t3, t4⟩ := ht
  generalize hX : rdX (n - 1) (chZ n k) ds = X at *
  have mc := min_chi ha.can hq.can h2
  have T1 : ∀ i, i < n - 1 → pwZ n k i ≤ 30000000 := fun i hi => by
    have := allB_ok c1 i hi
    simpa using this
  have tPB : PB (trs q (pMod a q) (q.length - 1)) 140000000 := by
    unfold trs
    refine PB_cons (Nat.le_trans (show qs (((q.length - 1 : Nat) : Int) : Rat) ≤ 1 from qs_nat (z := q.length - 1) (by omega)) (by decide)) fun i => ?_
    unfold cf
    rw [List.getD_eq_getElem?_getD, List.getElem?_map]
    by_cases hi : i < q.length - 1
    · rw [List.getElem?_range hi]
      exact (hq.tr2 (hq.pw ha i) (T1 i (by omega))).2
    · rw [List.getElem?_eq_none (by simp; omega)]
      exact Nat.le_trans qs_0 (by decide)
  have prs : (partsL l (q.length - 1) 1).length ≤ 1000000 ∧ ∀ i, i < (partsL l (q.length - 1) 1).length → (prd (partsL l (q.length - 1) 1) i).length + ((partsL l (q.length - 1) 1).getD i ([], 0)).1.length ≤ 1000000 ∧ ∃ j k, (PB (prd (partsL l (q.length - 1) 1) i) j ∧ PB ((partsL l (q.length - 1) 1).getD i ([], 0)).1 k) ∧ (prd (partsL l (q.length - 1) 1) i).length * (j + k + 1) ≤ 4999999999999 := by
    rw [hlen]
    refine ⟨by omega, fun i hi => ?_⟩
    have part : ∀ i, i < (partsL l (n - 1) 1).length → PB ((partsL l (n - 1) 1).getD i ([], 0)).1 200000000000 ∧ ((partsL l (n - 1) 1).getD i ([], 0)).1.length ≤ 5 := fun i hi => by
      have hm : (partsL l (n - 1) 1).getD i ([], 0) ∈ partsL l (n - 1) 1 := by
        rw [List.getD_eq_getElem?_getD, List.getElem?_eq_getElem hi]
        exact List.getElem_mem hi
      obtain ⟨m1, m2, _⟩ := partsL_mem _ _ _ hm
      rw [m2]
      have := part_len hl (fun z => z.2 == ((partsL l (n - 1) 1).getD i ([], 0)).2)
      exact ⟨sfp _ m1.1, by omega⟩
    obtain ⟨p1, p2⟩ := part i hi
    have one1 : PB [((1 : Int) : Rat)] 1 := PB_cons (show qs ((1 : Int) : Rat) ≤ 1 from qs_1) (PB_nil (Nat.le_refl _))
    have s1 : Sz [((1 : Int) : Rat)] 1 1 := ⟨Nat.le_refl _, one1, can1⟩
    rcases i with _ | i
    · refine ⟨by rw [prd]; show 1 + _ ≤ _; omega, 1, 200000000000, ⟨one1, p1⟩, by rw [prd]; decide⟩
    · obtain rfl : i = 0 := by omega
      obtain ⟨p3, p4⟩ := part 0 (by omega)
      have hb : (prd (partsL l (n - 1) 1) (0 + 1)).length ≤ 5 ∧ PB (prd (partsL l (n - 1) 1) (0 + 1)) 200000000003 := by
        rw [prd, prd]
        have hc : Can ((partsL l (n - 1) 1).getD 0 ([], 0)).1 := by
          have hm : (partsL l (n - 1) 1).getD 0 ([], 0) ∈ partsL l (n - 1) 1 := by
            rw [List.getD_eq_getElem?_getD, List.getElem?_eq_getElem (show 0 < (partsL l (n - 1) 1).length by omega)]
            exact List.getElem_mem _
          rw [(partsL_mem _ _ _ hm).2.1]
          exact can_PiL _
        have := Sz.mul s1 (⟨p4, p3, hc⟩ : Sz _ 5 200000000000)
        exact ⟨Nat.le_trans this.len (by decide), this.pb.mono (by decide)⟩
      refine ⟨by omega, 200000000003, 200000000000, ⟨hb.2, p1⟩, ?_⟩
      have := Nat.mul_le_mul_right (200000000003 + 200000000000 + 1) hb.1
      omega
  have MN : MnOk q a q.length (partsL l (q.length - 1) 1) := by
    refine ⟨⟨h2, by omega⟩, hq.dv ha (by decide), ⟨by omega, fun i hi => ?_⟩, fun i hi => (hq.tr2 (hq.pw ha i) (T1 i (by omega))).1, tPB.mono (by decide), fun j hj => ?_, ⟨by rw [mc]; exact hy, by rw [mc]; exact sf⟩, prs⟩
    · exact (hq.mulr (hq.pw ha i) (hq.rsz ha)).2 (Nat.le_trans (T1 (i + 1) (by omega)) (by decide))
    · have h3 := mnL_sz tPB j (by omega)
      have h4 := mnZ_le j (by omega)
      have h5 := h3.mono h4
      refine ⟨h5.mono (by decide), fun i hi => ⟨?_, ?_⟩⟩
      · refine Nat.le_trans (mnS_sz h5 tPB (j + 1) i) ?_
        exact Nat.le_trans (Nat.add_le_add_right (Nat.mul_le_mul_right _ (show i ≤ 5 by omega)) 1) (by decide)
      · have h6 := qs_mul (cf (mnL (trs q (pMod a q) (q.length - 1)) j) i) (cf (trs q (pMod a q) (q.length - 1)) (j + 1 - i))
        have h7 := h5 i
        have h8 := tPB (j + 1 - i)
        omega
  have hmin : minP q a = PiL l := by
    unfold minP
    rw [mc, hy]
    show prd (partsL l (q.length - 1) 1) (partsL l (q.length - 1) 1).length = PiL l
    rw [prd_Pi, hlen, rad_parts hl hle]
  obtain ⟨_, p0, p2⟩ := lead_PiL hl
  have pm1 := (lead_PiL hl).1
  have cf0 := can_PiL l
  have hGl : (pG (PiL l) (pDiff (PiL l))).length = 1 := cop_len1 cf0 (can_pDiff _) (PiL_sqf hl)
  refine ⟨⟨⟨_, MN⟩, hmin⟩, ⟨sfr.mono t2, ⟨24, (gtC_ok 24 t1 cf0 (can_pDiff _) lPi (by rw [len_pDiff cf0]; omega) sfr (diff_PB sfr (by omega)) hGl).1⟩⟩, ?_⟩
  -- the values
  have X1 := sfr.pos
  have step : ∀ (o : List Rat) (E : Nat), Sz o (n - 1) E → Sz (pMod (pMul o a) q) (n - 1) (32 * ((n - 1) * (E + 2) + 1 + (2 * k + 1))) ∧ (32 * ((n - 1) * (E + 2) + 1 + (2 * k + 1)) ≤ 1200000000000 → ((o.length + a.length ≤ 1000000 ∧ PB o 5000000000000 ∧ PB a 5000000000000) ∧ (∃ i k, (PB o i ∧ PB a k) ∧ o.length * (i + k + 1) ≤ 4999999999999) ∧ DvOk (pMul o a) q ∧ q ≠ [])) := fun o E ho => by
    have hm := ho.mul ha
    obtain ⟨⟨_, cr⟩, hrl, _⟩ := dm_ok hm.can hq.can q0
    have hml := hm.len
    have ho1 : 1 * (E + 2) ≤ (n - 1) * (E + 2) := Nat.mul_le_mul_right _ (by omega)
    have e : (pMul o a).length - q.length + 1 ≤ 5 := by omega
    refine ⟨⟨by omega, ?_, cr⟩, fun h => ⟨⟨by have := ho.len; have := ha.len; omega, ho.pb.mono (by omega), ha.pb.mono (by decide)⟩, ⟨E, 1, ⟨ho.pb, ha.pb⟩, ?_⟩, ⟨⟨⟨hm.can, hq.can⟩, by omega, _, k, ⟨hm.pb, hq.pb⟩, ?_⟩, q0⟩⟩⟩
    · exact ((div_PB (S := (n - 1) * (E + 2) + 1 + (2 * k + 1)) hm.can hq.can q0 hm.pb hq.pb (by rw [show E + 1 + 1 = E + 2 from rfl]; omega)).2).mono (Nat.mul_le_mul_right _ (Nat.pow_le_pow_right (n := 2) (by decide) e))
    · have := Nat.mul_le_mul_right (E + 1 + 1) ho.len
      rw [show E + 1 + 1 = E + 2 from rfl] at this ⊢
      omega
    · refine Nat.le_trans (Nat.mul_le_mul_right _ (Nat.pow_le_pow_right (n := 2) (by decide) e)) (Nat.le_trans ?_ (Nat.le_trans h (by decide)))
      rw [show E + 1 + 1 = E + 2 from rfl]
      exact Nat.mul_le_mul_left _ (by omega)
  have fl : (PiL l).length = ds.sum + 1 := lPi
  have at0 : atO q (PiL l) a 0 = [] := by unfold atO; rw [Nat.sub_zero, List.drop_length]; rfl
  have e00 : pMod (pMul [] a) q = [] := by rw [pMul_nil_l]; exact (dm_small Can_nil hq.can (List.length_pos_iff.2 q0)).2
  have trP : ∀ i, PB (tr [cf (PiL l) i]) X := fun i j => by
    rw [cf_tr]
    exact PB_cons (sfr i) (PB_nil X1) j
  have trL : ∀ c : Rat, (tr [c]).length ≤ 1 := fun c => Nat.le_trans (tr_len _) (Nat.le_refl _)
  have atS : ∀ j, j < (PiL l).length → Sz (atO q (PiL l) a (j + 1)) (n - 1) (atB n k X j) := fun j => by
    induction j with
    | zero =>
      intro hj
      rw [atO_step q (PiL l) a hj, at0, e00, Nat.sub_zero]
      have : cf (PiL l) ((PiL l).length - 1) = 1 := pm1
      rw [this]
      have e1 : pAdd [] (tr [1]) = [1] := rfl
      rw [e1]
      exact ⟨by show 1 ≤ _; omega, PB_cons qs_1 (PB_nil (Nat.le_refl _)), can1⟩
    | succ j ih =>
      intro hj
      rw [atO_step q (PiL l) a hj]
      obtain ⟨h1, _⟩ := step _ _ (ih (by omega))
      refine ⟨?_, fun i => ?_, can_pAdd _ _⟩
      · have h3 := len_pAdd (pMod (pMul (atO q (PiL l) a (j + 1)) a) q) (tr [cf (PiL l) ((PiL l).length - 1 - (j + 1))])
        have h4 := h1.len
        have h5 := trL (cf (PiL l) ((PiL l).length - 1 - (j + 1)))
        omega
      · rw [cf_pAdd]
        have h3 := qs_add (cf (pMod (pMul (atO q (PiL l) a (j + 1)) a) q) i) (cf (tr [cf (PiL l) ((PiL l).length - 1 - (j + 1))]) i)
        have h4 := h1.pb i
        have h5 := trP ((PiL l).length - 1 - (j + 1)) i
        show _ ≤ 32 * ((n - 1) * (atB n k X j + 2) + 1 + (2 * k + 1)) + X + 1
        omega
  refine ⟨by omega, fun j hj => ?_, ?_⟩
  · rcases j with _ | j
    · rw [at0, e00]
      have n1 : PB ([] : List Rat) 1 := PB_nil (Nat.le_refl _)
      refine ⟨⟨by have := ha.len; simp; omega, n1.mono (by decide), ha.pb.mono (by decide)⟩, ⟨1, 1, ⟨n1, ha.pb⟩, by simp⟩, ⟨⟨⟨can_pMul _ _, hq.can⟩, by rw [pMul_nil_l]; simp; omega, 1, k, ⟨by rw [pMul_nil_l]; exact n1, hq.pb⟩, ?_⟩, q0⟩, ⟨by simp, by have := trL (cf (PiL l) ((PiL l).length - 1 - 0)); omega⟩, n1.mono (by decide), (trP _).mono (by omega)⟩
      rw [pMul_nil_l, List.length_nil, show 0 - q.length + 1 = 1 from by omega]
      omega
    · have hs := atS j (by omega)
      have hb := atB_le n k X (by omega) (show j + 1 ≤ ds.sum by omega)
      have hb' : 32 * ((n - 1) * (atB n k X j + 2) + 1 + (2 * k + 1)) + X + 1 ≤ 1200000000000 := Nat.le_trans hb t3
      obtain ⟨h1, h3⟩ := step _ _ hs
      obtain ⟨h4, h5, h6⟩ := h3 (by omega)
      exact ⟨h4, h5, h6, ⟨by have := h1.len; omega, by have := trL (cf (PiL l) ((PiL l).length - 1 - (j + 1))); omega⟩, h1.pb.mono (by omega), (trP _).mono (by omega)⟩
  · have hs := atS ds.sum (by omega)
    have e2 : atO q (PiL l) a (ds.sum + 1) = atm q a (PiL l) := by unfold atO; rw [← fl, Nat.sub_self]; rfl
    rw [e2] at hs
    refine ⟨⟨⟨hs.can, hq.can⟩, by have := hs.len; omega, _, k, ⟨hs.pb, hq.pb⟩, ?_⟩, q0⟩
    rw [show (atm q a (PiL l)).length - q.length + 1 = 1 from by have := hs.len; omega]
    omega
end Go.Proofs.YtfbogelmgdojgaaGreat


/- The law of minimal polynomials. -/
namespace Go.Proofs.YtfbogelmgdojgaaGreat
set_option linter.unusedSimpArgs false
set_option linter.unusedVariables false
open Go.RowKit

theorem sc_sqf {c : Rat} (hc : c ≠ 0) {p : List Rat} (h : cop p (pDiff p)) : cop (pSc c p) (pDiff (pSc c p)) := by
  have e : pDiff (pSc c p) = pSc c (pDiff p) := ev_inj (can_pDiff _) (can_pSc _ _) fun x => by rw [ev_pDiff_sc, ev_pSc]
  rw [e]
  exact cop.sc hc (cop.symm (cop.sc hc (cop.symm h)))
theorem mod6_sqf {l : List Int} (h : ∀ z ∈ l, B8 z) : cop (mod6 l) (pDiff (mod6 l)) := by
  have hs : Sz (zsL l 5) 5 1 := zs_sz h 5
  unfold mod6
  split
  · have e1 : zsL [0, 1] 2 = mon 1 1 := by decide +kernel
    have e2 : pDiff (zsL [0, 1] 2) = [1] := by decide +kernel
    rw [e2]
    exact cop_one _
  · rename_i h2
    have ha := hs.can
    have a0 : zsL l 5 ≠ [] := fun e => by rw [e] at h2; simp at h2
    obtain ⟨c, L, c0, hl, e⟩ := factor (zsL l 5).length (zsL l 5) (Nat.le_refl _) ha a0
    have e1 : zsL l 5 = pSc c (PwL L) := ev_inj ha (can_pSc _ _) fun x => by rw [e x, ev_pSc]
    obtain ⟨g1, g0⟩ := lead_GL hl
    obtain ⟨r1, r2, r3⟩ := gcd_out ha (can_pDiff (zsL l 5)) (can_GL L) (can_pSc c (PiL L)) (can_pSc c (WL (fun e => (e : Rat)) L)) g0 g1 (fun x => by rw [e x, GL_Pi hl x, ev_pSc]; grind) (fun x => by
      rw [e1, ev_pDiff_sc, diff_PwL hl x, ev_pSc]; grind) (cop.sc c0 (cop.symm (cop.sc c0 (cop.symm (cop_W hl fun y hy h => by
        have h1 := (hl.mem y hy).2
        have h3 : (y.2 : Rat) = ((0 : Nat) : Rat) := h
        have : y.2 = 0 := by exact_mod_cast h3
        omega)))))
    have : sqp (zsL l 5) = pSc c (PiL L) := by unfold sqp; rw [r1, r2]
    rw [this]
    exact sc_sqf c0 (PiL_sqf hl)
theorem Pw_Pi {l : Fac} (h : ∀ y ∈ l, y.2 = 1) (x : Rat) : ev (PwL l) x = ev (PiL l) x := by
  induction l with
  | nil => rfl
  | cons y l ih =>
    rw [PwL, PiL, ev_pMul, ev_pMul, ih (fun z hz => h z (List.mem_cons_of_mem _ hz)), ev_pwr, h y List.mem_cons_self, show (1 : Nat) = 0 + 1 from rfl, Rat.pow_succ, Rat.pow_zero]
    grind
/-- The minimal polynomial of the variable. -/
theorem min_z {q : List Rat} (hq : Can q) (h2 : 2 ≤ q.length) (hs : cop q (pDiff q)) : ∃ l, Good l ∧ (∀ x, ev (chi q (mon 1 1)) x = 1 * ev (PwL l) x) ∧ PiL l = pMonic q := by
  have q0 : q ≠ [] := fun e => by rw [e] at h2; simp at h2
  obtain ⟨c, l, c0, hl, h1, e⟩ := sqf_factor hq q0 hs
  have e1 : q = pSc c (PiL l) := ev_inj hq (can_pSc _ _) fun x => by rw [e x, ev_pSc]
  have h3 := lead_pSc c0 (can_PiL l)
  rw [← e1, (lead_PiL hl).1] at h3
  have e2 : PiL l = pMonic q := ev_inj (can_PiL l) (can_pMonic q) fun x => by
    rw [ev_pMonic q0, e x, h3]
    have : 1 / (c * 1) * c = 1 := by grind
    grind
  exact ⟨l, hl, fun x => by rw [chi_z hq h2, ← e2, Pw_Pi h1]; grind, e2⟩
set_option maxRecDepth 20000 in
set_option maxHeartbeats 2000000 in
theorem minimal6_V (x : Cs) (hx : x.Ok) : PCall Tryz.prog 8 [x.v] (.raw (.bool true)) := by
  obtain ⟨⟨⟨pq, pq'⟩, pa, pb⟩, hz⟩ := hx
  have T := (tabs mixed (tbl_cons sanity6_C (tbl_cons made6_C (tbl_cons minF_C (tbl_cons rMonic_C (tbl_cons rPEq_C (tbl_cons rDiff_C (tbl_cons rGcd_C (tbl_cons rM6At_C (tbl_cons rInts_C tbl_nil))))))))))
  refine PCall.of_vc T Tryz.func8 rfl Tryz.ntmps8 Tryz.results8 (by simp [Cs.v]) ?_
  obtain ⟨n, k, hq⟩ := mod6_md pq'
  have hs := mod6_sqf pq'
  have ha : Sz (psL x.A 6) 6 1 := psL_sz pa 6
  have pqq : (∀ z ∈ x.Q, B8 z) = True := eq_true pq'
  unfold Cs.v
  obtain ⟨q, eq⟩ : ∃ a, mod6 x.Q = a := ⟨_, rfl⟩
  obtain ⟨a, ea⟩ : ∃ a, psL x.A 6 = a := ⟨_, rfl⟩
  rw [eq] at hq hs
  rw [ea] at ha
  have q0 := hq.ne
  have cq := hq.can
  have h2 := hq.two
  have hql := hq.sz.len
  obtain ⟨l, hl, el⟩ := monic_factor (chi_can q a) (fun e => by have := chi_length q a; rw [e] at this; simp at this) (by unfold lead; rw [chi_length, Nat.add_sub_cancel, chi_top])
  obtain ⟨⟨M1, M2⟩, ⟨M3, M4⟩, M5⟩ := mn_ok hq ha hl el
  obtain ⟨l', hl', el', ez⟩ := min_z cq h2 hs
  have hz1 : Sz (mon 1 1) 6 1 := mon_sz (by decide)
  obtain ⟨⟨N1, N2⟩, ⟨N3, N4⟩, _⟩ := mn_ok hq hz1 hl' el'
  rw [ez] at N2 N3
  have ez' : zsL [0, 1] 2 = mon 1 1 := by decide +kernel
  have wz : (∀ z ∈ ([0, 1] : List Int), B8 z) = True := eq_true (b8 _ (by decide))
  have rt := rad_root cq h2 hs (by decide : (1 : Rat) ≠ 0) el (cayley ha.can cq h2)
  have hPl := PiL_len hl
  have hl0 : l ≠ [] := fun e => by
    have h3 := chi_length q a
    have e1 : chi q a = PwL l := ev_inj (chi_can q a) (can_PwL l) fun x => by rw [el x]; grind
    rw [e1, e] at h3
    have : (PwL []).length = 1 := rfl
    omega
  have hlen : (PiL l).length ≤ q.length := by
    have h3 := chi_length q a
    have e1 : chi q a = PwL l := ev_inj (chi_can q a) (can_PwL l) fun x => by rw [el x]; grind
    rw [e1] at h3
    omega
  obtain ⟨p1, p0, p2⟩ := lead_PiL hl
  have p2 := p2 hl0
  obtain ⟨f, ef⟩ : ∃ f, PiL l = f := ⟨_, rfl⟩
  have hsf := PiL_sqf hl
  have cf : Can (PiL l) := can_PiL l
  rw [ef] at M2 M3 M4 M5 rt hlen p1 p0 p2 hsf cf
  have mo : pMonic f = f := ev_inj (can_pMonic f) cf fun x => by rw [ev_pMonic p0, p1]; grind
  have gc : pGcd f (pDiff f) = [1] := cop_gcd1 cf (can_pDiff f) hsf
  have c1 : ¬ (f.length : Int) < 2 := by omega
  have c2 : ¬ (q.length : Int) < (f.length : Int) := by omega
  have m1 : Can f ∧ f.length ≤ 1000000 ∧ ∃ s, PB f s ∧ s ≤ 2500000000000 := ⟨cf, by omega, _, M3, by decide⟩
  have m2 : Can q ∧ q.length ≤ 1000000 ∧ ∃ s, PB q s ∧ s ≤ 2500000000000 := ⟨cq, by omega, 5504, hq.sz.pb, by decide⟩
  have fl : f.length ≤ 1000000 := by omega
  have fp : PB f 5000000000000 := M3.mono (by decide)
  have mp : (pMonic q).length ≤ 1000000 ∧ PB (pMonic q) 5000000000000 := ⟨by rw [len_pMonic cq]; omega, N3.mono (by decide)⟩
  have dl : decide (f = f) = true := decide_eq_true rfl
  have dm : decide (pMonic q = pMonic q) = true := decide_eq_true rfl
  have c3 : ((([1] : List Rat).length : Int) != 1) = false := rfl
  have at1 : pMod ([] : List Rat) q = [] := (dm_small Can_nil cq (List.length_pos_iff.2 q0)).2
  have c4 : (((([] : List Rat)).length : Int) == 0) = true := rfl
  simp only [app_cons, app_nil]
  simp (maxSteps := 2000000) only [go_sem, eq, ea, pq, pqq, pa, pb, M1, M2, c1, c2, m1, mo, fl, fp, dl, M4, gc, c3, M5, rt, at1, c4, wz, ez', N1, N2, m2, mp, dm]
set_option maxRecDepth 20000 in
theorem lawMinimal6_F (X : V) (h : Fits Tryz.prog 6 27 X) : PCall Tryz.prog 8 [X] (.raw (.bool true)) := by
  obtain ⟨x, rfl, hx⟩ := fits_case h
  exact minimal6_V x hx
end Go.Proofs.YtfbogelmgdojgaaGreat

