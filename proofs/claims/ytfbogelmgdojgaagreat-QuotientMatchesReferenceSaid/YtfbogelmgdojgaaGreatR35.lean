/- Texts SZ10 LQ5 PM19 DT5a DT5 A33 in one. -/
import Derived.Test.YtfbogelmgdojgaaGreatR34
import Derived.Test.YtfbogelmgdojgaaGreatR31
import Derived.Test.YtfbogelmgdojgaaGreatR33
import Derived.Test.YtfbogelmgdojgaaGreatR30
import Derived.Test.YtfbogelmgdojgaaGreatR20
import Derived.Test.YtfbogelmgdojgaaGreatR23
/- The sizes of a minimal polynomial, put together. No program in sight. -/
namespace Go.Proofs.YtfbogelmgdojgaaGreat
set_option linter.unusedSimpArgs false
set_option linter.unusedVariables false
open Go.RowKit

theorem monic_factor {a : List Rat} (ha : Can a) (a0 : a ≠ []) (h1 : lead a = 1) : ∃ l, Good l ∧ ∀ x, ev a x = 1 * ev (PwL l) x := by
 obtain ⟨c, l, c0, hl, hc⟩ := factor a.length a (Nat.le_refl _) ha a0
 have e : a = pSc c (PwL l) := ev_inj ha (can_pSc _ _) fun x => by rw [hc x, ev_pSc]
 have h2 := lead_pSc c0 (can_PwL l)
 rw [← e, h1, (lead_PwL hl).1.1] at h2
 have : c = 1 := by grind
 exact ⟨l, hl, fun x => by rw [hc x, this]⟩
theorem partsL_len {l : Fac} (hl : Good l) : ∀ k n, (partsL l k n).length = ((dsL l n k).filter fun d => decide (d ≠ 0)).length
 | 0, _ => rfl
 | k + 1, n => by
   have gZ := hl.filter (f := fun y => y.2 == n)
   rw [partsL, dsL, List.filter_cons]
   by_cases h : (l.filter fun y => y.2 == n) = []
   ·have : dgL l n = 0 := by unfold dgL; rw [h]; rfl
    rw [if_pos h, this, if_neg (by decide), partsL_len hl k (n + 1)]
   ·have := (lead_PiL gZ).2.2 h
    have : dgL l n ≠ 0 := by unfold dgL; omega
    rw [if_neg h, if_pos (by simpa using this), List.length_cons, List.length_cons, partsL_len hl k (n + 1)]
theorem part_len {l : Fac} (hl : Good l) (f : List Rat × Nat → Bool) : (PiL (l.filter f)).length ≤ (PiL l).length := by
 refine (dvd_len (can_PiL l) (can_PiL _) ⟨PiL (l.filter fun y => !f y), can_PiL _, fun x => ?_⟩ (lead_PiL hl).2.1).1
 rw [filt_Pi f l x]; grind
theorem mnZ_le : ∀ k, k ≤ 4 → mnZ 140000000 k ≤ 20000000000
 | 0, _ => by decide
 | 1, _ => by decide
 | 2, _ => by decide
 | 3, _ => by decide
 | 4, _ => by decide
 | k + 5, h => by omega
theorem atB_mono (n k X : Nat) (hn : 2 ≤ n) (i : Nat) : atB n k X i ≤ atB n k X (i + 1) := by
 show _ ≤ 32 * ((n - 1) * (atB n k X i + 2) + 1 + (2 * k + 1)) + X + 1
 have : 1 * (atB n k X i + 2) ≤ (n - 1) * (atB n k X i + 2) := Nat.mul_le_mul_right _ (by omega)
 omega
theorem atB_le (n k X : Nat) (hn : 2 ≤ n) {i : Nat} : ∀ {j}, i ≤ j → atB n k X i ≤ atB n k X j
 | 0, h => by rw [show i = 0 from by omega]; exact Nat.le_refl _
 | j + 1, h => by
   by_cases e : i = j + 1
   ·rw [e]; exact Nat.le_refl _
   ·exact Nat.le_trans (atB_le n k X hn (j := j) (by omega)) (atB_mono n k X hn j)
theorem mn_core {q a : List Rat} {n k S : Nat} {l : Fac} (hq : Md0 q n k) (ha : Sz a 6 1) (pχ : PB (chi q a) S) (c1 : pwC6 n k = true) (c2 : sfC (n - 1) S = true) (c4 : tyC (n - 1) 1 (n - 1) cntT = true) (hl : Good l) (e : ∀ x, ev (chi q a) x = 1 * ev (PwL l) x) :
 (((∃ fs, MnOk q a q.length fs) ∧ minP q a = PiL l) ∧ PB (PiL l) (rdX (n - 1) S (dsL l 1 (n - 1)))) ∧ wsm 1 (dsL l 1 (n - 1)) = n - 1 ∧ (PiL l).length = (dsL l 1 (n - 1)).sum + 1 := by
 have n5 := hq.cs0
 have hlen := hq.len
 have h2 := hq.two
 have q0 := hq.ne
 have one0 : (1 : Rat) ≠ 0 := by decide
 have hχ := chi_length q a
 obtain ⟨⟨sf, sfp⟩, sfr⟩ := sf_ok (K := q.length) c2 (chi_can q a) (by omega) pχ one0 hl e ⟨by omega, by omega⟩
 have hy := yun (chi_can q a) (by omega) one0 hl e (k := q.length) (by omega)
 have e1 : chi q a = PwL l := ev_inj (chi_can q a) (can_PwL l) fun x => by rw [e x]; grind
 have eR : pSc 1 (PiL l) = PiL l := ev_inj (can_pSc _ _) (can_PiL l) fun x => by rw [ev_pSc]; grind
 rw [eR] at sfr
 have hlw : (PwL l).length = n := by rw [← e1]; omega
 have hle : ∀ y ∈ l, y.2 ≤ n - 1 := fun y hy => by have := (lead_PwL hl).2 y hy; omega
 have hw : wsm 1 (dsL l 1 (n - 1)) = n - 1 := by
  rw [wsm_dgW (n - 1) hl hle]
  have := len_PwL hl
  omega
 have ht := tyC_ok (n - 1) 1 (n - 1) cntT (Nat.le_refl _) c4 (dsL l 1 (n - 1)) (dsL_len l (n - 1) 1) hw
 have f1 : (l.filter fun y => decide (1 ≤ y.2)) = l := List.filter_eq_self.2 fun y hy => by have := (hl.mem y hy).2; simp; omega
 have lPi := len_PiL_sum hl (n - 1) 1 (fun y hy => by have := hle y hy; omega)
 rw [f1] at lPi
 have lPn : (PiL l).length ≤ n := by have := PiL_len hl; omega
 have hpl := partsL_len hl (n - 1) 1
 generalize hds : dsL l 1 (n - 1) = ds at *
 have t4 : (ds.filter fun d => decide (d ≠ 0)).length ≤ 2 := of_decide_eq_true ht
 have mc := min_chi ha.can hq.can h2
 have T1 : ∀ i, i < n - 1 → pwZ n k i ≤ 30000000 := fun i hi => by
  have := allB_ok c1 i hi
  simpa using this
 have tPB : PB (trs q (pMod a q) (q.length - 1)) 140000000 := by
  unfold trs
  refine PB_cons (Nat.le_trans (show qs (((q.length - 1 : Nat) : Int) : Rat) ≤ 1 from qs_nat (z := q.length - 1) (by omega)) (by decide)) fun i => ?_
  unfold cf
  rw [List.getD_eq_getElem?_getD, List.getElem?_map]
  by_cases hi : i < q.length - 1
  ·rw [List.getElem?_range hi]
   exact (hq.tr2 (hq.pw ha i) (T1 i (by omega))).2
  ·rw [List.getElem?_eq_none (by simp; omega)]
   exact Nat.le_trans qs_0 (by decide)
 have prs : (partsL l (q.length - 1) 1).length ≤ 1000000 ∧ ∀ i, i < (partsL l (q.length - 1) 1).length → (prd (partsL l (q.length - 1) 1) i).length + ((partsL l (q.length - 1) 1).getD i ([], 0)).1.length ≤ 1000000 ∧ ∃ j k, (PB (prd (partsL l (q.length - 1) 1) i) j ∧ PB ((partsL l (q.length - 1) 1).getD i ([], 0)).1 k) ∧ (prd (partsL l (q.length - 1) 1) i).length * (j + k + 1) ≤ 4999999999999 := by
  rw [hlen]
  refine ⟨by omega, fun i hi => ?_⟩
  have part : ∀ i, i < (partsL l (n - 1) 1).length → PB ((partsL l (n - 1) 1).getD i ([], 0)).1 200000000000 ∧ ((partsL l (n - 1) 1).getD i ([], 0)).1.length ≤ 5 := fun i hi => by
   have hm : (partsL l (n - 1) 1).getD i ([], 0) ∈ partsL l (n - 1) 1 := by
    rw [List.getD_eq_getElem?_getD, List.getElem?_eq_getElem hi]
    exact List.getElem_mem hi
   obtain ⟨m1, m2, _⟩ := partsL_mem _ _ _ hm
   rw [m2]
   have := part_len hl (fun z => z.2 == ((partsL l (n - 1) 1).getD i ([], 0)).2)
   exact ⟨sfp _ m1.1, by omega⟩
  obtain ⟨p1, p2⟩ := part i hi
  have one1 : PB [((1 : Int) : Rat)] 1 := PB_cons (show qs ((1 : Int) : Rat) ≤ 1 from qs_1) (PB_nil (Nat.le_refl _))
  have s1 : Sz [((1 : Int) : Rat)] 1 1 := ⟨Nat.le_refl _, one1, can1⟩
  rcases i with _ | i
  ·refine ⟨by rw [prd]; show 1 + _ ≤ _; omega, 1, 200000000000, ⟨one1, p1⟩, by rw [prd]; decide⟩
  ·obtain rfl : i = 0 := by omega
   obtain ⟨p3, p4⟩ := part 0 (by omega)
   have hb : (prd (partsL l (n - 1) 1) (0 + 1)).length ≤ 5 ∧ PB (prd (partsL l (n - 1) 1) (0 + 1)) 200000000003 := by
    rw [prd, prd]
    have hc : Can ((partsL l (n - 1) 1).getD 0 ([], 0)).1 := by
     have hm : (partsL l (n - 1) 1).getD 0 ([], 0) ∈ partsL l (n - 1) 1 := by
      rw [List.getD_eq_getElem?_getD, List.getElem?_eq_getElem (show 0 < (partsL l (n - 1) 1).length by omega)]
      exact List.getElem_mem _
     rw [(partsL_mem _ _ _ hm).2.1]
     exact can_PiL _
    have := Sz.mul s1 (⟨p4, p3, hc⟩ : Sz _ 5 200000000000)
    exact ⟨Nat.le_trans this.len (by decide), this.pb.mono (by decide)⟩
   refine ⟨by omega, 200000000003, 200000000000, ⟨hb.2, p1⟩, ?_⟩
   have := Nat.mul_le_mul_right (200000000003 + 200000000000 + 1) hb.1
   omega
 have MN : MnOk q a q.length (partsL l (q.length - 1) 1) := by
  refine ⟨⟨h2, by omega⟩, hq.dv ha (by decide), ⟨by omega, fun i hi => ?_⟩, fun i hi => (hq.tr2 (hq.pw ha i) (T1 i (by omega))).1, tPB.mono (by decide), fun j hj => ?_, ⟨by rw [mc]; exact hy, by rw [mc]; exact sf⟩, prs⟩
  ·exact (hq.mulr (hq.pw ha i) (hq.rsz ha)).2 (Nat.le_trans (T1 (i + 1) (by omega)) (by decide))
  ·have h3 := mnL_sz tPB j (by omega)
   have h4 := mnZ_le j (by omega)
   have h5 := h3.mono h4
   refine ⟨h5.mono (by decide), fun i hi => ⟨?_, ?_⟩⟩
   ·refine Nat.le_trans (mnS_sz h5 tPB (j + 1) i) ?_
    exact Nat.le_trans (Nat.add_le_add_right (Nat.mul_le_mul_right _ (show i ≤ 5 by omega)) 1) (by decide)
   ·have h6 := qs_mul (cf (mnL (trs q (pMod a q) (q.length - 1)) j) i) (cf (trs q (pMod a q) (q.length - 1)) (j + 1 - i))
    have h7 := h5 i
    have h8 := tPB (j + 1 - i)
    omega
 have hmin : minP q a = PiL l := by
  unfold minP
  rw [mc, hy]
  show prd (partsL l (q.length - 1) 1) (partsL l (q.length - 1) 1).length = PiL l
  rw [prd_Pi, hlen, rad_parts hl hle]
 exact ⟨⟨⟨⟨_, MN⟩, hmin⟩, sfr⟩, hw, lPi⟩
theorem mn_ok {q a : List Rat} {n k : Nat} {l : Fac} (hq : Md q n k) (ha : Sz a 6 1) (hl : Good l) (e : ∀ x, ev (chi q a) x = 1 * ev (PwL l) x) :
 ((∃ fs, MnOk q a q.length fs) ∧ minP q a = PiL l) ∧ (PB (PiL l) 1000000000000 ∧ ∃ m, GcOk m (PiL l) (pDiff (PiL l))) ∧ AtOk q (PiL l) a := by
 have hC : mnC n k = true := by
  rcases hq.cs with ⟨rfl, rfl⟩ | ⟨rfl, rfl⟩ | ⟨rfl, rfl⟩ | ⟨rfl, rfl⟩ <;> decide +kernel
 simp only [mnC, Bool.and_eq_true] at hC
 obtain ⟨c1, c2, c4, c3⟩ := hC
 have n5 := hq.cs
 have hlen := hq.len
 have h2 := hq.two
 have q0 := hq.ne
 obtain ⟨⟨MN, sfr⟩, hw, lPi⟩ := mn_core hq.toMd0 ha (hq.chiP ha) c1 c2 c4 hl e
 have hχ := chi_length q a
 have e1 : chi q a = PwL l := ev_inj (chi_can q a) (can_PwL l) fun x => by rw [e x]; grind
 have lPn : (PiL l).length ≤ n := by have := PiL_len hl; rw [← e1] at this; omega
 have ht := tyC_ok (n - 1) 1 (n - 1) (mnT n k) (Nat.le_refl _) c3 (dsL l 1 (n - 1)) (dsL_len l (n - 1) 1) hw
 generalize hds : dsL l 1 (n - 1) = ds at *
 simp only [mnT, Bool.and_eq_true, decide_eq_true_eq] at ht
 obtain ⟨t1, t2, t3⟩ := ht
 generalize hX : rdX (n - 1) (chZ n k) ds = X at *
 obtain ⟨_, p0, p2⟩ := lead_PiL hl
 have pm1 := (lead_PiL hl).1
 have cf0 := can_PiL l
 have hGl : (pG (PiL l) (pDiff (PiL l))).length = 1 := cop_len1 cf0 (can_pDiff _) (PiL_sqf hl)
 refine ⟨MN, ⟨sfr.mono t2, ⟨24, (gtC_ok 24 t1 cf0 (can_pDiff _) lPi (by rw [len_pDiff cf0]; omega) sfr (diff_PB sfr (by omega)) hGl).1⟩⟩, ?_⟩
 -- the values
 have X1 := sfr.pos
 have step : ∀ (o : List Rat) (E : Nat), Sz o (n - 1) E → Sz (pMod (pMul o a) q) (n - 1) (32 * ((n - 1) * (E + 2) + 1 + (2 * k + 1))) ∧ (32 * ((n - 1) * (E + 2) + 1 + (2 * k + 1)) ≤ 1200000000000 → ((o.length + a.length ≤ 1000000 ∧ PB o 5000000000000 ∧ PB a 5000000000000) ∧ (∃ i k, (PB o i ∧ PB a k) ∧ o.length * (i + k + 1) ≤ 4999999999999) ∧ DvOk (pMul o a) q ∧ q ≠ [])) := fun o E ho => by
  have hm := ho.mul ha
  obtain ⟨⟨_, cr⟩, hrl, _⟩ := dm_ok hm.can hq.can q0
  have hml := hm.len
  have ho1 : 1 * (E + 2) ≤ (n - 1) * (E + 2) := Nat.mul_le_mul_right _ (by omega)
  have e : (pMul o a).length - q.length + 1 ≤ 5 := by omega
  refine ⟨⟨by omega, ?_, cr⟩, fun h => ⟨⟨by have := ho.len; have := ha.len; omega, ho.pb.mono (by omega), ha.pb.mono (by decide)⟩, ⟨E, 1, ⟨ho.pb, ha.pb⟩, ?_⟩, ⟨⟨⟨hm.can, hq.can⟩, by omega, _, k, ⟨hm.pb, hq.pb⟩, ?_⟩, q0⟩⟩⟩
  ·exact ((div_PB (S := (n - 1) * (E + 2) + 1 + (2 * k + 1)) hm.can hq.can q0 hm.pb hq.pb (by rw [show E + 1 + 1 = E + 2 from rfl]; omega)).2).mono (Nat.mul_le_mul_right _ (Nat.pow_le_pow_right (n := 2) (by decide) e))
  ·have := Nat.mul_le_mul_right (E + 1 + 1) ho.len
   rw [show E + 1 + 1 = E + 2 from rfl] at this ⊢
   omega
  ·refine Nat.le_trans (Nat.mul_le_mul_right _ (Nat.pow_le_pow_right (n := 2) (by decide) e)) (Nat.le_trans ?_ (Nat.le_trans h (by decide)))
   rw [show E + 1 + 1 = E + 2 from rfl]
   exact Nat.mul_le_mul_left _ (by omega)
 have fl : (PiL l).length = ds.sum + 1 := lPi
 have at0 : atO q (PiL l) a 0 = [] := by unfold atO; rw [Nat.sub_zero, List.drop_length]; rfl
 have e00 : pMod (pMul [] a) q = [] := by rw [pMul_nil_l]; exact (dm_small Can_nil hq.can (List.length_pos_iff.2 q0)).2
 have trP : ∀ i, PB (tr [cf (PiL l) i]) X := fun i j => by
  rw [cf_tr]
  exact PB_cons (sfr i) (PB_nil X1) j
 have trL : ∀ c : Rat, (tr [c]).length ≤ 1 := fun c => Nat.le_trans (tr_len _) (Nat.le_refl _)
 have atS : ∀ j, j < (PiL l).length → Sz (atO q (PiL l) a (j + 1)) (n - 1) (atB n k X j) := fun j => by
  induction j with
  | zero =>
    intro hj
    rw [atO_step q (PiL l) a hj, at0, e00, Nat.sub_zero]
    have : cf (PiL l) ((PiL l).length - 1) = 1 := pm1
    rw [this]
    have e1 : pAdd [] (tr [1]) = [1] := rfl
    rw [e1]
    exact ⟨by show 1 ≤ _; omega, PB_cons qs_1 (PB_nil (Nat.le_refl _)), can1⟩
  | succ j ih =>
    intro hj
    rw [atO_step q (PiL l) a hj]
    obtain ⟨h1, _⟩ := step _ _ (ih (by omega))
    refine ⟨?_, fun i => ?_, can_pAdd _ _⟩
    ·have h3 := len_pAdd (pMod (pMul (atO q (PiL l) a (j + 1)) a) q) (tr [cf (PiL l) ((PiL l).length - 1 - (j + 1))])
     have h4 := h1.len
     have h5 := trL (cf (PiL l) ((PiL l).length - 1 - (j + 1)))
     omega
    ·rw [cf_pAdd]
     have h3 := qs_add (cf (pMod (pMul (atO q (PiL l) a (j + 1)) a) q) i) (cf (tr [cf (PiL l) ((PiL l).length - 1 - (j + 1))]) i)
     have h4 := h1.pb i
     have h5 := trP ((PiL l).length - 1 - (j + 1)) i
     show _ ≤ 32 * ((n - 1) * (atB n k X j + 2) + 1 + (2 * k + 1)) + X + 1
     omega
 refine ⟨by omega, fun j hj => ?_, ?_⟩
 ·rcases j with _ | j
  ·rw [at0, e00]
   have n1 : PB ([] : List Rat) 1 := PB_nil (Nat.le_refl _)
   refine ⟨⟨by have := ha.len; simp; omega, n1.mono (by decide), ha.pb.mono (by decide)⟩, ⟨1, 1, ⟨n1, ha.pb⟩, by simp⟩, ⟨⟨⟨can_pMul _ _, hq.can⟩, by rw [pMul_nil_l]; simp; omega, 1, k, ⟨by rw [pMul_nil_l]; exact n1, hq.pb⟩, ?_⟩, q0⟩, ⟨by simp, by have := trL (cf (PiL l) ((PiL l).length - 1 - 0)); omega⟩, n1.mono (by decide), (trP _).mono (by omega)⟩
   rw [pMul_nil_l, List.length_nil, show 0 - q.length + 1 = 1 from by omega]
   omega
  ·have hs := atS j (by omega)
   have hb := atB_le n k X (by omega) (show j + 1 ≤ ds.sum by omega)
   have hb' : 32 * ((n - 1) * (atB n k X j + 2) + 1 + (2 * k + 1)) + X + 1 ≤ 1200000000000 := Nat.le_trans hb t3
   obtain ⟨h1, h3⟩ := step _ _ hs
   obtain ⟨h4, h5, h6⟩ := h3 (by omega)
   exact ⟨h4, h5, h6, ⟨by have := h1.len; omega, by have := trL (cf (PiL l) ((PiL l).length - 1 - (j + 1))); omega⟩, h1.pb.mono (by omega), (trP _).mono (by omega)⟩
 ·have hs := atS ds.sum (by omega)
  have e2 : atO q (PiL l) a (ds.sum + 1) = atm q a (PiL l) := by unfold atO; rw [← fl, Nat.sub_self]; rfl
  rw [e2] at hs
  refine ⟨⟨⟨hs.can, hq.can⟩, by have := hs.len; omega, _, k, ⟨hs.pb, hq.pb⟩, ?_⟩, q0⟩
  rw [show (atm q a (PiL l)).length - q.length + 1 = 1 from by have := hs.len; omega]
  omega
end Go.Proofs.YtfbogelmgdojgaaGreat


/- The law of minimal polynomials. -/
namespace Go.Proofs.YtfbogelmgdojgaaGreat
set_option linter.unusedSimpArgs false
set_option linter.unusedVariables false
open Go.RowKit

theorem sc_sqf {c : Rat} (hc : c ≠ 0) {p : List Rat} (h : cop p (pDiff p)) : cop (pSc c p) (pDiff (pSc c p)) := by
 have e : pDiff (pSc c p) = pSc c (pDiff p) := ev_inj (can_pDiff _) (can_pSc _ _) fun x => by rw [ev_pDiff_sc, ev_pSc]
 rw [e]
 exact cop.sc hc (cop.symm (cop.sc hc (cop.symm h)))
theorem mod6_sqf {l : List Int} (h : ∀ z ∈ l, B8 z) : cop (mod6 l) (pDiff (mod6 l)) := by
 have hs : Sz (zsL l 5) 5 1 := zs_sz h 5
 unfold mod6
 split
 ·have e1 : zsL [0, 1] 2 = mon 1 1 := by decide +kernel
  have e2 : pDiff (zsL [0, 1] 2) = [1] := by decide +kernel
  rw [e2]
  exact cop_one _
 ·rename_i h2
  have ha := hs.can
  have a0 : zsL l 5 ≠ [] := fun e => by rw [e] at h2; simp at h2
  obtain ⟨c, L, c0, hl, e⟩ := factor (zsL l 5).length (zsL l 5) (Nat.le_refl _) ha a0
  have e1 : zsL l 5 = pSc c (PwL L) := ev_inj ha (can_pSc _ _) fun x => by rw [e x, ev_pSc]
  obtain ⟨g1, g0⟩ := lead_GL hl
  obtain ⟨r1, r2, r3⟩ := gcd_out ha (can_pDiff (zsL l 5)) (can_GL L) (can_pSc c (PiL L)) (can_pSc c (WL (fun e => (e : Rat)) L)) g0 g1 (fun x => by rw [e x, GL_Pi hl x, ev_pSc]; grind) (fun x => by
   rw [e1, ev_pDiff_sc, diff_PwL hl x, ev_pSc]; grind) (cop.sc c0 (cop.symm (cop.sc c0 (cop.symm (cop_W hl fun y hy h => by
    have h1 := (hl.mem y hy).2
    have h3 : (y.2 : Rat) = ((0 : Nat) : Rat) := h
    have : y.2 = 0 := by exact_mod_cast h3
    omega)))))
  have : sqp (zsL l 5) = pSc c (PiL L) := by unfold sqp; rw [r1, r2]
  rw [this]
  exact sc_sqf c0 (PiL_sqf hl)
end Go.Proofs.YtfbogelmgdojgaaGreat


/- Moduli with rational roots. No program in sight. -/
namespace Go.Proofs.YtfbogelmgdojgaaGreat
set_option linter.unusedSimpArgs false
set_option linter.unusedVariables false

def lnr (r : Rat) : List Rat := [-r, 1]
theorem can_lnr (r : Rat) : Can (lnr r) := by
 unfold lnr
 rw [Can_cons, if_neg (by simp)]
 exact can1
theorem ev_lnr (r x : Rat) : ev (lnr r) x = x - r := by
 show -r + x * (1 + x * 0) = x - r
 grind
theorem lnr_ne (r : Rat) : lnr r ≠ [] := by simp [lnr]
theorem mod_lnr {b : List Rat} (r : Rat) (hb : Can b) : pMod b (lnr r) = tr [ev b r] := by
 obtain ⟨⟨d1, d2⟩, d3, d4⟩ := dm_ok hb (can_lnr r) (lnr_ne r)
 have hl : (pMod b (lnr r)).length ≤ 1 := by
  have : (lnr r).length = 2 := rfl
  omega
 have h := d4 r
 rw [ev_lnr] at h
 have h1 : ev (pMod b (lnr r)) r = ev b r := by rw [← h]; grind
 rw [← h1]
 match hm : pMod b (lnr r), hl, d2 with
 | [], _, _ => rfl
 | [c], _, hc =>
   rw [Can_cons, if_pos rfl] at hc
   rw [ev_sing]
   exact (tr_of_can (by rw [Can_cons, if_pos rfl]; exact hc)).symm
 | _ :: _ :: _, h, _ => simp at h
theorem Nm_lnr {b : List Rat} (r : Rat) (hb : Can b) : Nm (lnr r) b = ev b r := by
 have e : xs 0 b = b := ev_inj (can_xs _ _) hb fun x => by rw [ev_xs, Rat.pow_zero]; grind
 unfold Nm
 show det 1 (NM 1 (lnr r) b) = _
 rw [det, sm, sm, sg]
 show 0 + 1 * cf (pMod (xs (1 - 1 - 0) b) (lnr r)) (1 - 1 - 0) * det 0 _ = _
 rw [show (1 - 1 - 0 : Nat) = 0 from rfl, e, mod_lnr r hb, cf_tr]
 show 0 + 1 * ev b r * 1 = _
 grind
def lnP : List Rat → List Rat
 | [] => [1]
 | r :: l => pMul (lnP l) (lnr r)
theorem can_lnP : ∀ l, Can (lnP l)
 | [] => can1
 | _ :: _ => can_pMul _ _
theorem lnP_len : ∀ l, (lnP l).length = l.length + 1 ∧ lead (lnP l) = 1 ∧ lnP l ≠ []
 | [] => ⟨rfl, rfl, by simp [lnP]⟩
 | r :: l => by
   obtain ⟨h1, h2, h3⟩ := lnP_len l
   have h4 := len_pMul (can_lnP l) (can_lnr r) h3 (lnr_ne r)
   have h5 : (lnr r).length = 2 := rfl
   refine ⟨by rw [lnP, h4, h1, h5, List.length_cons]; omega, ?_, fun e => ?_⟩
   ·rw [lnP, lead_pMul (can_lnP l) (can_lnr r) h3 (lnr_ne r), h2]
    show (1 : Rat) * 1 = 1
    grind
   ·rw [lnP] at e
    rw [e] at h4; simp at h4; omega
def prR (b : List Rat) : List Rat → Rat
 | [] => 1
 | r :: l => prR b l * ev b r
theorem pRes_lnr {b : List Rat} (r : Rat) (hb : Can b) (b0 : b ≠ []) : pRes (lnr r) b = ev b r := by
 rw [pRes_norm (can_lnr r) hb (lnr_ne r) b0, Nm_lnr r hb]
 have : lead (lnr r) = 1 := rfl
 rw [this]
 have : ∀ n : Nat, (1 : Rat) ^ n = 1 := fun n => by
  induction n with
  | zero => rw [Rat.pow_zero]
  | succ n ih => rw [Rat.pow_succ, ih]; grind
 rw [this]; grind
theorem pRes_mul_l {a b c : List Rat} (ha : Can a) (hb : Can b) (hc : Can c) (a0 : a ≠ []) (b0 : b ≠ []) (c0 : c ≠ []) : pRes (pMul b c) a = pRes b a * pRes c a := by
 have m0 : pMul b c ≠ [] := fun e => by rcases (pMul_eq_nil hb hc).1 e with e | e; exact b0 e; exact c0 e
 have hbl := List.length_pos_iff.2 b0
 have hcl := List.length_pos_iff.2 c0
 have h1 := pRes_swap ha (can_pMul b c) a0 m0
 have h2 := pRes_swap ha hb a0 b0
 have h3 := pRes_swap ha hc a0 c0
 rw [h1, h2, h3, pRes_mul ha hb hc a0 b0 c0, len_pMul hb hc b0 c0, sgm_sg, sgm_sg, sgm_sg, show b.length + c.length - 1 - 1 = b.length - 1 + (c.length - 1) from by omega, Nat.mul_add, sg_add]
 grind
theorem pRes_lnP {b : List Rat} (hb : Can b) (b0 : b ≠ []) : ∀ l, pRes (lnP l) b = prR b l
 | [] => by
   show pRes [1] b = 1
   rw [pRes_norm can1 hb (by simp) b0]
   show (1 : Rat) ^ _ * 1 = 1
   have : ∀ n : Nat, (1 : Rat) ^ n = 1 := fun n => by
    induction n with
    | zero => rw [Rat.pow_zero]
    | succ n ih => rw [Rat.pow_succ, ih]; grind
   rw [this]; grind
 | r :: l => by rw [lnP, pRes_mul_l hb (can_lnP l) (can_lnr r) b0 (lnP_len l).2.2 (lnr_ne r), pRes_lnP hb b0 l, pRes_lnr r hb b0]; rfl
theorem Nm_lnP {b : List Rat} (hb : Can b) {l : List Rat} (l0 : l ≠ []) : Nm (lnP l) b = prR b l := by
 by_cases b0 : b = []
 ·subst b0
  have hz : ∀ l : List Rat, l ≠ [] → prR [] l = 0 := fun l h => by
   cases l with
   | nil => exact absurd rfl h
   | cons r l => show _ * (0 : Rat) = 0; grind
  rw [hz l l0]
  unfold Nm
  have hl := (lnP_len l).1
  have := List.length_pos_iff.2 l0
  refine det_zero_row _ (p := 0) (by omega) fun j _ => ?_
  unfold NM
  rw [show ∀ e, xs e [] = [] from fun e => pMul_nil_r _, (dm_small Can_nil (can_lnP l) (List.length_pos_iff.2 (lnP_len l).2.2)).2]
  rfl
 ·have h := pRes_norm (can_lnP l) hb (lnP_len l).2.2 b0
  rw [pRes_lnP hb b0, (lnP_len l).2.1] at h
  have : ∀ n : Nat, (1 : Rat) ^ n = 1 := fun n => by
   induction n with
   | zero => rw [Rat.pow_zero]
   | succ n ih => rw [Rat.pow_succ, ih]; grind
  rw [this] at h
  rw [h]; grind
structure Spl (q : List Rat) (c : Rat) (l : List Rat) : Prop where
 can : Can q
 c0 : c ≠ 0
 l0 : l ≠ []
 eq : q = pSc c (lnP l)
theorem Spl.monic {q c l} (h : Spl q c l) : pMonic q = lnP l := by
 rw [h.eq, pMonic_pSc h.c0 (can_lnP l)]
 exact ev_inj (can_pMonic _) (can_lnP l) fun x => by
  rw [ev_pMonic (lnP_len l).2.2, (lnP_len l).2.1]; grind
theorem Spl.len {q c l} (h : Spl q c l) : q.length = l.length + 1 := by
 rw [h.eq, len_pSc' h.c0 (can_lnP l), (lnP_len l).1]
theorem Spl.two {q c l} (h : Spl q c l) : 2 ≤ q.length := by
 have := List.length_pos_iff.2 h.l0
 rw [h.len]; omega
theorem Spl.Nm {q c l} (h : Spl q c l) {b : List Rat} (hb : Can b) : Nm (pMonic q) b = prR b l := by rw [h.monic, Nm_lnP hb h.l0]
theorem Nm_monic {q b : List Rat} (hq : Can q) (q0 : q ≠ []) : Nm (pMonic q) b = Nm q b := by
 unfold Nm
 rw [len_pMonic hq]
 refine (det_ML _).congr fun i _ j _ => ?_
 unfold NM
 rw [mod_monic (can_xs _ _) hq q0]
theorem Spl.chi {q c l} (h : Spl q c l) {a : List Rat} (ha : Can a) : chi q a = lnP (l.map (ev a)) := by
 have q0 : q ≠ [] := fun e => by have := h.two; rw [e] at this; simp at this
 refine ev_inj (chi_can q a) (can_lnP _) fun t => ?_
 rw [← chi_norm t h.can ha h.two, ← Nm_monic h.can q0, h.Nm (can_pSub _ _)]
 have : ∀ l : List Rat, prR (pSub (tr [t]) a) l = ev (lnP (l.map (ev a))) t := fun l => by
  induction l with
  | nil => exact (ev1 t).symm
  | cons r l ih =>
    rw [List.map_cons, lnP, ev_pMul, ← ih, ev_lnr]
    show _ * ev (pSub (tr [t]) a) r = _
    rw [ev_pSub, ev_tr, ev_sing]
 exact this l
def suR : List Rat → Rat
 | [] => 0
 | r :: l => suR l + r
theorem lnP_cf : ∀ l : List Rat, l ≠ [] → cf (lnP l) (l.length - 1) = - suR l
 | [], h => absurd rfl h
 | r :: l, _ => by
   rw [lnP, pMul_com, cf_pMul, show lnr r = [-r, 1] from rfl, cf_m2, List.length_cons, Nat.add_sub_cancel]
   have hl := lnP_len l
   have h1 : cf (lnP l) l.length = 1 := by
    have := hl.2.1
    unfold lead at this
    rw [hl.1, Nat.add_sub_cancel] at this
    exact this
   rw [h1, suR]
   by_cases h0 : l = []
   ·subst h0
    rw [List.length_nil, if_pos rfl, suR]; grind
   ·rw [if_neg (fun e => h0 (List.eq_nil_of_length_eq_zero e)), lnP_cf l h0]; grind
theorem Spl.tr {q c l} (h : Spl q c l) {a : List Rat} (ha : Can a) : trQ q a = suR (l.map (ev a)) := by
 have q0 : q ≠ [] := fun e => by have := h.two; rw [e] at this; simp at this
 have h2 := h.two
 rw [trQ_TrM ha h.can h2]
 have hn := newton h.can ha h2 (s := q.length - 1 - 1) (by omega)
 rw [show q.length - 1 + 1 - (q.length - 1 - 1) = 1 + 1 from by omega, sm, sm, sm, Nat.add_zero] at hn
 have e0 : TrM q (pwr a 0) = ((q.length - 1 : Nat) : Rat) := TrM_unit h.can h2
 have e1 : pwr a 1 = a := ev_inj (can_pwr _ _) ha fun x => by rw [ev_pwr, show (1 : Nat) = 0 + 1 from rfl, Rat.pow_succ, Rat.pow_zero]; grind
 have e2 : cf (Go.Proofs.YtfbogelmgdojgaaGreat.chi q a) (q.length - 1 - 1 + 1) = 1 := by rw [show q.length - 1 - 1 + 1 = q.length - 1 from by omega, chi_top]
 have e3 : cf (Go.Proofs.YtfbogelmgdojgaaGreat.chi q a) (q.length - 1 - 1) = - suR (l.map (ev a)) := by
  rw [h.chi ha, h.len, show l.length + 1 - 1 - 1 = (l.map (ev a)).length - 1 from by rw [List.length_map]; omega]
  exact lnP_cf _ (by simp [h.l0])
 rw [e0, e1, e2, e3] at hn
 have e4 : ((q.length - 1 : Nat) : Rat) = ((q.length - 1 - 1 : Nat) : Rat) + 1 := by
  have : ((q.length - 1 - 1 + 1 : Nat) : Rat) = ((q.length - 1 - 1 : Nat) : Rat) + 1 := by rw [Rat.natCast_add]; rfl
  rw [← this]; congr 1; omega
 rw [e4] at hn
 grind
theorem Spl.norm {q c l} (h : Spl q c l) {a : List Rat} (ha : Can a) : pRes (pMonic q) (pMod a q) = prR a l := by
 rw [norm_Nm ha h.can h.two, h.Nm ha]
end Go.Proofs.YtfbogelmgdojgaaGreat


/- Matrices as lists of rows. No program in sight. -/
namespace Go.Proofs.YtfbogelmgdojgaaGreat
set_option linter.unusedSimpArgs false
set_option linter.unusedVariables false

def subM (k : Nat) (M : List (List Rat)) : Mat := fun i j => cf (M.getD (k + i) []) (k + j)
theorem gd_set {M : List (List Rat)} {i : Nat} (hi : i < M.length) (l : List Rat) (j : Nat) : (M.set i l).getD j [] = if j = i then l else M.getD j [] := by
 rw [List.getD_eq_getElem?_getD, List.getD_eq_getElem?_getD]
 by_cases h : j = i
 ·subst h
  rw [List.getElem?_set_self hi, if_pos rfl]; rfl
 ·rw [List.getElem?_set_ne (fun e => h e.symm), if_neg h]
theorem cf_setL {l : List Rat} {i : Nat} (hi : i < l.length) (x : Rat) (j : Nat) : cf (l.set i x) j = if j = i then x else cf l j := by
 unfold cf
 rw [List.getD_eq_getElem?_getD, List.getD_eq_getElem?_getD]
 by_cases h : j = i
 ·subst h
  rw [List.getElem?_set_self hi, if_pos rfl]; rfl
 ·rw [List.getElem?_set_ne (fun e => h e.symm), if_neg h]
def swM (M : List (List Rat)) (k p : Nat) : List (List Rat) := (M.set p (M.getD k [])).set k (M.getD p [])
theorem swM_len (M : List (List Rat)) (k p : Nat) : (swM M k p).length = M.length := by unfold swM; rw [List.length_set, List.length_set]
theorem swM_get {M : List (List Rat)} {k p : Nat} (hk : k < M.length) (hp : p < M.length) (j : Nat) : (swM M k p).getD j [] = if j = k then M.getD p [] else if j = p then M.getD k [] else M.getD j [] := by
 unfold swM
 rw [gd_set (by rw [List.length_set]; exact hk), gd_set hp]
end Go.Proofs.YtfbogelmgdojgaaGreat


/- Gaussian elimination for determinants. No program in sight. -/
namespace Go.Proofs.YtfbogelmgdojgaaGreat
set_option linter.unusedSimpArgs false
set_option linter.unusedVariables false

theorem sub_none {k n : Nat} {M : List (List Rat)} (hk : k < n) (h : ∀ i, k ≤ i → i < n → cf (M.getD i []) k = 0) : det (n - k) (subM k M) = 0 := by
 rw [← det_tp]
 refine det_zero_row _ (p := 0) (by omega) fun j hj => ?_
 exact h (k + j) (by omega) (by omega)
theorem sub_swap {k p n : Nat} {M : List (List Rat)} (hn : n ≤ M.length) (hk : k < p) (hp : p < n) : det (n - k) (subM k (swM M k p)) = - det (n - k) (subM k M) := by
 rw [← (det_ML (n - k)).swap (subM k M) (p := 0) (q := p - k) (by omega) (by omega) (by omega)]
 refine (det_ML (n - k)).congr fun i hi j hj => ?_
 unfold subM swp
 rw [swM_get (by omega) (by omega)]
 by_cases h1 : i = p - k
 ·subst h1
  rw [upd_same, if_neg (by omega), if_pos (by omega)]; rfl
 ·rw [upd_ne _ h1]
  by_cases h2 : i = 0
  ·subst h2
   rw [upd_same, if_pos (by omega)]
   show _ = cf (M.getD (k + (p - k)) []) (k + j)
   rw [show k + (p - k) = p from by omega]
  ·rw [upd_ne _ h2, if_neg (by omega), if_neg (by omega)]
def elR (f : Rat) (rk ri : List Rat) (k : Nat) : Nat → List Rat
 | 0 => ri
 | s + 1 => (elR f rk ri k s).set (k + s) (cf (elR f rk ri k s) (k + s) - f * cf rk (k + s))
theorem elR_len (f : Rat) (rk ri : List Rat) (k : Nat) : ∀ s, (elR f rk ri k s).length = ri.length
 | 0 => rfl
 | s + 1 => by rw [elR, List.length_set, elR_len f rk ri k s]
theorem elR_cf (f : Rat) (rk ri : List Rat) (k : Nat) : ∀ s, k + s ≤ ri.length → ∀ c, cf (elR f rk ri k s) c = if k ≤ c ∧ c < k + s then cf ri c - f * cf rk c else cf ri c
 | 0, _, c => by rw [if_neg (by omega)]; rfl
 | s + 1, h, c => by
   rw [elR, cf_setL (by rw [elR_len]; omega), elR_cf f rk ri k s (by omega), elR_cf f rk ri k s (by omega)]
   by_cases h1 : c = k + s
   ·rw [if_pos h1, if_neg (by omega), if_pos (by omega), h1]
   ·rw [if_neg h1]
    by_cases h2 : k ≤ c ∧ c < k + s
    ·rw [if_pos h2, if_pos (by omega)]
    ·rw [if_neg h2, if_neg (by omega)]
def elF (M : List (List Rat)) (k i : Nat) : Rat := cf (M.getD i []) k * (1 / cf (M.getD k []) k)
def elS (M : List (List Rat)) (k n i : Nat) : List (List Rat) := M.set i (elR (elF M k i) (M.getD k []) (M.getD i []) k (n - k))
theorem elS_len (M : List (List Rat)) (k n i : Nat) : (elS M k n i).length = M.length := by unfold elS; rw [List.length_set]
theorem elS_get {M : List (List Rat)} {k n i : Nat} (hi : i < M.length) (j : Nat) : (elS M k n i).getD j [] = if j = i then elR (elF M k i) (M.getD k []) (M.getD i []) k (n - k) else M.getD j [] := gd_set hi _ _
theorem sub_el {M : List (List Rat)} {k n i : Nat} (hn : n ≤ M.length) (hk : k < i) (hi : i < n) (hr : n ≤ (M.getD i []).length) : det (n - k) (subM k (elS M k n i)) = det (n - k) (subM k M) := by
 rw [← (det_ML (n - k)).addrow (subM k M) (p := i - k) (q := 0) (by omega) (by omega) (by omega) (- elF M k i)]
 refine (det_ML (n - k)).congr fun a ha j hj => ?_
 unfold subM
 rw [elS_get (by omega)]
 by_cases h1 : a = i - k
 ·subst h1
  rw [upd_same, if_pos (by omega), elR_cf _ _ _ _ _ (by omega), if_pos (by omega), show k + (i - k) = i from by omega, Nat.add_zero]
  grind
 ·rw [upd_ne _ h1, if_neg (by omega)]
theorem sub_pivot {M : List (List Rat)} {k n : Nat} (hk : k < n) (h : ∀ i, k < i → i < n → cf (M.getD i []) k = 0) : det (n - k) (subM k M) = cf (M.getD k []) k * det (n - (k + 1)) (subM (k + 1) M) := by
 obtain ⟨m, hm⟩ : ∃ m, n - k = m + 1 := ⟨n - k - 1, by omega⟩
 rw [hm, show n - (k + 1) = m from by omega, ← dtc_eq, dtc, sm_one 0 (by omega) fun i hi h0 => ?_]
 ·rw [dtc_eq, sg]
  have e : mino (subM k M) 0 = subM (k + 1) M := by
   funext i j
   unfold mino subM
   rw [if_neg (Nat.not_lt_zero i), show k + (i + 1) = k + 1 + i from by omega, show k + (j + 1) = k + 1 + j from by omega]
  rw [e]
  show 1 * cf (M.getD (k + 0) []) (k + 0) * _ = _
  rw [Nat.add_zero]; grind
 ·have : subM k M i 0 = 0 := h (k + i) (by omega) (by omega)
  rw [this]; grind
theorem el_zero {M : List (List Rat)} {k n i : Nat} (hk : k < n) (hi : i < M.length) (hr : n ≤ (M.getD i []).length) (hp : cf (M.getD k []) k ≠ 0) : cf ((elS M k n i).getD i []) k = 0 := by
 rw [elS_get hi, if_pos rfl, elR_cf _ _ _ _ _ (by omega), if_pos (by omega)]
 unfold elF
 grind
end Go.Proofs.YtfbogelmgdojgaaGreat


/- Matrices whose rows are owned: heaps with any number of rows. No program in sight. -/
namespace Go.Proofs.YtfbogelmgdojgaaGreat
set_option linter.unusedSimpArgs false
set_option linter.unusedVariables false
open Go.RowKit

def rid (b i : Nat) : Nat := b + i
def V.rwG (ρ : Nat → Nat) (w n : Nat) : List V := (List.range n).map fun i => .sl (ρ i) 4 0 w
def V.rwI (b w n : Nat) : List V := V.rwG (rid b) w n
def matH (o b : Nat) (tO t : TypeId) (w : Nat) (M : List (List Rat)) (H : Hp) : Hp := fun j =>
 if j = o then some ⟨tO, 1, V.rwI b w M.length⟩ else if b ≤ j ∧ j < b + M.length then some ⟨t, 4, V.rats (M.getD (j - b) [])⟩ else H j
section
variable {o b : Nat} {tO t : TypeId} {w : Nat} {M : List (List Rat)} {H : Hp}
@[go_sem] theorem rid_s (b n k : Nat) : rid b n + k + 1 = rid b n + (k + 1) := rfl
@[go_sem] theorem rwG_len (ρ : Nat → Nat) (w n : Nat) : (V.rwG ρ w n).length = n := by simp [V.rwG]
@[go_sem] theorem rwI_len (b w n : Nat) : (V.rwI b w n).length = n := rwG_len _ _ _
theorem rwG_get {ρ : Nat → Nat} {w n i : Nat} (h : i < n) : (V.rwG ρ w n)[i]? = some (.sl (ρ i) 4 0 w) := by
 unfold V.rwG
 rw [List.getElem?_map, List.getElem?_range h]; rfl
@[go_sem ↓, go_sem] theorem ev_rwI_get {b w n i : Nat} {k : V → Prop} : optC (V.rwI b w n)[i]? k = (i < n ∧ k (.sl (rid b i) 4 0 w)) := by
  unfold V.rwI
  by_cases h : i < n
  ·rw [rwG_get h]; simp [optC, h]
  ·rw [List.getElem?_eq_none (by rw [rwG_len]; omega)]; simp [optC, h]
@[go_sem ↓, go_sem] theorem ev_rwG_get {ρ : Nat → Nat} {w n i : Nat} {k : V → Prop} : optC (V.rwG ρ w n)[i]? k = (i < n ∧ k (.sl (ρ i) 4 0 w)) := by
  by_cases h : i < n
  ·rw [rwG_get h]; simp [optC, h]
  ·rw [List.getElem?_eq_none (by rw [rwG_len]; omega)]; simp [optC, h]
@[go_sem] theorem matH_o : matH o b tO t w M H o = some ⟨tO, 1, V.rwI b w M.length⟩ := if_pos rfl
theorem matH_row {i : Nat} (ho : o < b) (hi : i < M.length) : matH o b tO t w M H (rid b i) = some ⟨t, 4, V.rats (M.getD i [])⟩ := by
 unfold matH rid
 rw [if_neg (by omega), if_pos (by omega), Nat.add_sub_cancel_left]
theorem matH_lo {k : Nat} (ho : ¬ k = o) (hk : k < b) : matH o b tO t w M H k = H k := by
 unfold matH
 rw [if_neg ho, if_neg (by omega)]
theorem matH_up {i : Nat} (ho : o < b) (hi : i < M.length) (l : List Rat) : (matH o b tO t w M H).up (rid b i) (some ⟨t, 4, V.rats l⟩) = matH o b tO t w (M.set i l) H := by
 funext j
 unfold Hp.up matH rid
 rw [List.length_set]
 by_cases e : j = b + i
 ·subst e
  rw [if_pos rfl, if_neg (by omega), if_pos (by omega), Nat.add_sub_cancel_left, List.getD_eq_getElem?_getD, List.getElem?_set_self hi]; rfl
 ·rw [if_neg e]
  by_cases h1 : j = o
  ·rw [if_pos h1, if_pos h1]
  ·rw [if_neg h1, if_neg h1]
   by_cases h2 : b ≤ j ∧ j < b + M.length
   ·rw [if_pos h2, if_pos h2, List.getD_eq_getElem?_getD, List.getD_eq_getElem?_getD, List.getElem?_set_ne (by omega)]
   ·rw [if_neg h2, if_neg h2]
theorem rid_nn {b n c k : Nat} (h : k < b) : (k = rid b n + c) = False := eq_false (by unfold rid; omega)
theorem rid_nl {b n c k : Nat} (h : k < b) : (rid b n + c = k) = False := eq_false (by unfold rid; omega)
theorem rid_rl {b j k : Nat} (h : k < b) : (rid b j = k) = False := eq_false (by unfold rid; omega)
theorem rid_rn {b n c j : Nat} (h : j < n) : (rid b j = rid b n + c) = False := eq_false (by unfold rid; omega)
theorem rid_cc {b n c d : Nat} : (rid b n + c = rid b n + d) = (c = d) := propext ⟨fun h => by omega, fun h => by rw [h]⟩
end
def mapF (φ : Nat → Nat) (f : Foot) : Foot := (f.1.map φ, f.2.map φ)
theorem meets_map (φ : Nat → Nat) {x y : List Nat} (h : meets x y = true) : meets (x.map φ) (y.map φ) = true := by
 unfold meets at h ⊢
 rw [List.any_eq_true] at h ⊢
 obtain ⟨a, h1, h2⟩ := h
 refine ⟨φ a, List.mem_map_of_mem h1, ?_⟩
 rw [List.contains_eq_mem] at h2 ⊢
 exact decide_eq_true (List.mem_map_of_mem (of_decide_eq_true h2))
theorem noConf_map (φ : Nat → Nat) {f g : Foot} (h : noConf (mapF φ f) (mapF φ g) = true) : noConf f g = true := by
 unfold noConf mapF at *
 simp only [Bool.and_eq_true, Bool.not_eq_true'] at h ⊢
 refine ⟨?_, ?_⟩
 ·rcases hm : meets f.2 (g.1 ++ g.2) with _ | _
  ·rfl
  ·have := meets_map φ hm
   rw [List.map_append] at this
   rw [this] at h; exact absurd h.1 (by decide)
 ·rcases hm : meets g.2 f.1 with _ | _
  ·rfl
  ·have := meets_map φ hm
   rw [this] at h; exact absurd h.2 (by decide)
theorem chk_map (φ : Nat → Nat) {ops : Array Oper} {tr : List Foot} (h : chk ops (tr.map (mapF φ)) = true) : chk ops tr = true := by
 unfold chk at h ⊢
 simp only [Bool.and_eq_true] at h ⊢
 refine ⟨h.1, ?_⟩
 have h2 := h.2
 rw [List.all_eq_true] at h2 ⊢
 intro p hp
 have mem : ∀ q ∈ tr.zipIdx, (mapF φ q.1, q.2) ∈ (tr.map (mapF φ)).zipIdx := fun q hq => by
  rw [List.zipIdx_map]
  exact List.mem_map.2 ⟨q, hq, rfl⟩
 have h3 := h2 _ (mem p hp)
 simp only [Bool.or_eq_true, Bool.and_eq_true] at h3 ⊢
 rcases h3 with ⟨h3, h4⟩ | h3
 ·left
  refine ⟨?_, ?_⟩
  ·have : (p.1.1.map φ) = [] := eq_of_beq h3
   rw [List.map_eq_nil_iff.1 this]; rfl
  ·have : (p.1.2.map φ) = [] := eq_of_beq h4
   rw [List.map_eq_nil_iff.1 this]; rfl
 ·right
  rw [List.all_eq_true] at h3 ⊢
  intro q hq
  have h4 := h3 _ (mem q hq)
  unfold chkPair at h4 ⊢
  simp only [Bool.or_eq_true] at h4 ⊢
  rcases h4 with h4 | h4
  ·exact .inl h4
  ·exact .inr (noConf_map φ h4)
def rnm (b n : Nat) (x : Nat) : Nat := if x < b then x else if x < b + n then 1000000 else x - (b + n) + 1000001
theorem rnm_row {b n i : Nat} (h : i < n) : rnm b n (rid b i) = 1000000 := by
 unfold rnm rid
 rw [if_neg (by omega), if_pos (by omega)]
theorem rnm_new (b n c : Nat) : rnm b n (rid b n + c) = c + 1000001 := by
 unfold rnm rid
 rw [if_neg (by omega), if_neg (by omega)]; omega
theorem rnm_lo {b n k : Nat} (h : k < b) : rnm b n k = k := if_pos h
def mkR (o b : Nat) (tO t : TypeId) (w : Nat) (ss : List (Nat × V)) (hs : List (Nat × Bool × Blk)) (M : List (List Rat)) (N : Nat) : St := { s := mkS ss, H := matH o b tO t w M (mkH hs), n := rid b M.length, N := N }
theorem vc_atR {P : Program} {Γ : Tab} {Δ : Gab} (T : Tabs P Γ Δ) {c : Code} {Q : Exit → St → Prop} {o b : Nat} {tO t : TypeId} {w : Nat} {ss : List (Nat × V)} {hs : List (Nat × Bool × Blk)} {M : List (List Rat)} {N : Nat}
 (h : vc P Γ Δ c Q { s := mkS ss, H := matH o b tO t w M (mkH hs), n := rid b M.length, N := N }) : AWp P c Q (mkR o b tO t w ss hs M N) := vc_ok T _ _ _ h
def thR (θ : List Nat) (ρ : Nat → Nat) (n : Nat) : List Nat := θ ++ (List.range n).map ρ
@[go_sem] theorem thR_lo {θ : List Nat} {ρ : Nat → Nat} {n k : Nat} (h : k < θ.length) : (thR θ ρ n)[k]? = θ[k]? := by
  unfold thR
  rw [List.getElem?_append_left h]
theorem thR_row {θ : List Nat} {ρ : Nat → Nat} {n i : Nat} (h : i < n) : (thR θ ρ n)[rid θ.length i]? = some (ρ i) := by
 unfold thR rid
 rw [List.getElem?_append_right (by omega), Nat.add_sub_cancel_left, List.getElem?_map, List.getElem?_range h]; rfl
theorem Wk.ofR (θ : List Nat) (ρ : Nat → Nat) {o b : Nat} {tO t : TypeId} {w : Nat} {σ : St} {ss : List (Nat × V)} {hs : List (Nat × Bool × Blk)} {M : List (List Rat)} {N : Nat} (hb : b = θ.length) (ho : o < b) (hhs : ∀ x ∈ hs, x.1 < b)
 (hnd : (thR θ ρ M.length).Nodup) (h0 : N = σ.N ∧ σ.m = 0 ∧ σ.q = false) (hss : wkS (thR θ ρ M.length) σ.s ss) (hH : wkH (thR θ ρ M.length) σ.H hs)
 (hO : optC θ[o]? fun k0 => σ.H k0 = some ⟨tO, 1, V.rwG ρ w M.length⟩) (hR : ∀ i, i < M.length → σ.H (ρ i) = some ⟨t, 4, V.rats (M.getD i [])⟩) : Wk σ (mkR o b tO t w ss hs M N) := by
 obtain ⟨h1, h2, h3⟩ := h0
 have hS : ∀ (l : List (Nat × V)), wkS (thR θ ρ M.length) σ.s l → RenS (thR θ ρ M.length) (mkS l) σ.s ∧ ∀ t m, mkS l t ≠ .tup m := by
  intro l
  induction l with
  | nil => intro _; exact ⟨fun t => trivial, fun t m h => by simp [mkS] at h⟩
  | cons p l ih =>
    intro hl
    obtain ⟨⟨q1, q2⟩, q3⟩ := hl
    obtain ⟨i1, i2⟩ := ih q3
    refine ⟨fun t => ?_, fun t m => ?_⟩
    ·simp only [mkS, upS]
     split
     ·rename_i e; subst e; exact q2
     ·exact i1 t
    ·simp only [mkS, upS]
     split
     ·intro e; rw [e] at q1; simp [V.noTup] at q1
     ·exact i2 t m
 have hHH : ∀ (l : List (Nat × Bool × Blk)), wkH (thR θ ρ M.length) σ.H l → RenH (thR θ ρ M.length) (mkH l) σ.H := by
  intro l
  induction l with
  | nil => intro _ k x hk; simp [mkH] at hk
  | cons p l ih =>
    intro hl k x hk
    obtain ⟨q1, q2⟩ := hl
    simp only [mkH, Hp.up] at hk
    split at hk
    ·rename_i e
     subst e
     injection hk with hk
     subst hk
     unfold optC at q1
     split at q1
     ·rename_i k0 hk0
      split at q1
      ·rename_i y hy
       obtain ⟨r1, r2, r3⟩ := q1
       refine ⟨k0, y, hk0, hy, r1, r2, ?_⟩
       split at r3
       ·rw [← r3.1]; exact renL_refl r3.2
       ·exact renL_of _ _ r3
      ·exact q1.elim
     ·exact q1.elim
    ·exact ih q2 k x hk
 refine Wk.mk (thR θ ρ M.length) h1 h2.symm h3.symm (fun k hk => by omega) (by show rid b M.length = _; unfold thR rid; rw [List.length_append, List.length_map, List.length_range, hb]) (hS ss hss).1 ?_ hnd (hS ss hss).2
 intro k x hk
 have hk : matH o b tO t w M (mkH hs) k = some x := hk
 unfold matH at hk
 by_cases ek : k = o
 ·rw [if_pos ek] at hk
  injection hk with hk
  subst hk ek
  rcases hθ : θ[k]? with _ | k0
  ·rw [hθ] at hO; exact hO.elim
  ·rw [hθ] at hO
   have hO : σ.H k0 = some ⟨tO, 1, V.rwG ρ w M.length⟩ := hO
   refine ⟨k0, _, by rw [thR_lo (by omega)]; exact hθ, hO, rfl, rfl, by simp only [rwI_len, rwG_len], fun i x y hx hy => ?_⟩
   have hi : i < M.length := by have := (List.getElem?_eq_some_iff.1 hx).1; rw [rwI_len] at this; exact this
   have hx : (V.rwI b w M.length)[i]? = some x := hx
   have hy : (V.rwG ρ w M.length)[i]? = some y := hy
   unfold V.rwI at hx
   rw [rwG_get hi] at hx hy
   injection hx with hx
   injection hy with hy
   subst hx hy
   exact ⟨⟨by rw [hb]; exact thR_row hi, rfl, rfl, rfl⟩, rfl, fun h => by cases h⟩
 ·rw [if_neg ek] at hk
  by_cases hr : b ≤ k ∧ k < b + M.length
  ·rw [if_pos hr] at hk
   injection hk with hk
   subst hk
   have hi : k - b < M.length := by omega
   refine ⟨ρ (k - b), _, ?_, hR _ hi, rfl, rfl, renL_refl ?_⟩
   ·have := thR_row (θ := θ) (ρ := ρ) hi
    rw [← hb] at this
    unfold rid at this
    rw [show b + (k - b) = k from by omega] at this
    exact this
   ·exact of_eq_true (rats_pure _)
  ·rw [if_neg hr] at hk
   exact hHH hs hH k x hk
end Go.Proofs.YtfbogelmgdojgaaGreat

