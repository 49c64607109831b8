/- Texts S32 LS8 in one. -/
import Derived.Test.YtlhapagililgmaaGreatR36
import Derived.Test.YtlhapagililgmaaGreatR35
/- Contracts: the reference of package sturm, rational roots. -/
namespace Go.Proofs.YtlhapagililgmaaGreat
set_option linter.unusedSimpArgs false
set_option linter.unusedVariables false
open Go.RowKit

theorem first_ne {c : List Int} {n : Nat} (hn : iz c n ≠ 0) : ∃ k, k ≤ n ∧ (∀ j, j < k → iz c j = 0) ∧ iz c k ≠ 0 := by
 obtain ⟨k, h1, h2⟩ := least (Q := fun k => iz c k ≠ 0) hn
 exact ⟨k, h2 n hn, fun j hj => Classical.byContradiction fun h => by have := h2 j h; omega, h1⟩
def oZ (low : Nat) : List Rat := if low = 0 then [] else [((0 : Int) : Rat)]
theorem oZ_ins (low : Nat) : insR (oZ low) ((0 : Int) : Rat) = oZ (low + 1) := by
 unfold oZ
 rw [if_neg (Nat.succ_ne_zero low)]
 split
 ·rfl
 ·unfold insR
  rw [if_pos (by simp)]
def Dn (p : List Rat) (o : List Rat) (over under : List Int) (i k j : Nat) : Prop := ∀ r, ev p r = 0 → ∀ i' k' j', (i' < i ∨ i' = i ∧ (k' < k ∨ k' = k ∧ j' < j)) → i' < over.length → k' < under.length → j' < 2 → r.num = (2 * (j' : Int) - 1) * iz over i' → (r.den : Int) = iz under k' → r ∈ o
theorem Dn.zero {p o : List Rat} {over under : List Int} : Dn p o over under 0 0 0 := fun r _ i' k' j' h => by omega
theorem Dn.next {p o : List Rat} {over under : List Int} {i k : Nat} (h : Dn p o over under i k 2) : Dn p o over under i (k + 1) 0 := fun r hr i' k' j' h1 h2 h3 h4 => h r hr i' k' j' (by omega) h2 h3 h4
theorem Dn.row {p o : List Rat} {over under : List Int} {i : Nat} (h : Dn p o over under i under.length 0) : Dn p o over under (i + 1) 0 0 := fun r hr i' k' j' h1 h2 h3 h4 => h r hr i' k' j' (by omega) h2 h3 h4
theorem Dn.ins {p o : List Rat} {over under : List Int} {i k j : Nat} (h : Dn p o over under i k j) : Dn p (insR o (mdQ ((2 * (j : Int) - 1) * iz over i) (iz under k))) over under i k (j + 1) := fun r hr i' k' j' h1 h2 h3 h4 e1 e2 => by
 rw [insR_mem]
 by_cases hd : i' < i ∨ i' = i ∧ (k' < k ∨ k' = k ∧ j' < j)
 ·exact .inr (h r hr i' k' j' hd h2 h3 h4 e1 e2)
 ·obtain ⟨rfl, rfl, rfl⟩ : i' = i ∧ k' = k ∧ j' = j := by omega
  rw [← e1, ← e2, mdQ_nd]
  exact .inl rfl
theorem Dn.skip {p o : List Rat} {over under : List Int} {i k j : Nat} (h : Dn p o over under i k j) (hs : ∀ r, ev p r = 0 → r.num = (2 * (j : Int) - 1) * iz over i → (r.den : Int) = iz under k → False) : Dn p o over under i k (j + 1) := fun r hr i' k' j' h1 h2 h3 h4 e1 e2 => by
 by_cases hd : i' < i ∨ i' = i ∧ (k' < k ∨ k' = k ∧ j' < j)
 ·exact h r hr i' k' j' hd h2 h3 h4 e1 e2
 ·obtain ⟨rfl, rfl, rfl⟩ : i' = i ∧ k' = k ∧ j' = j := by omega
  exact (hs r hr e1 e2).elim
theorem mem_iz {l : List Int} {z : Int} (h : z ∈ l) : ∃ i, i < l.length ∧ iz l i = z := by
 obtain ⟨i, hi, e⟩ := List.mem_iff_getElem.1 h
 refine ⟨i, hi, ?_⟩
 unfold iz
 rw [List.getD_eq_getElem?_getD, List.getElem?_eq_getElem hi]
 exact e
theorem dv_mem {n d : Int} (n0 : n ≠ 0) (hd : 1 ≤ d) (h : d ∣ n) : d ∈ dvL n n.natAbs := by
 rw [dvL_mem]
 have h1 := Nat.le_of_dvd (by omega) (Int.natAbs_dvd_natAbs.2 h)
 exact ⟨⟨hd, by omega⟩, Int.tmod_eq_zero_of_dvd h⟩
theorem Dn.all {p o : List Rat} {low : Nat} (p0 : p ≠ []) (hp : Can p) (hl : low < p.length) (hz : ∀ j, j < low → iz (ogL p p.length) j = 0) (hne : iz (ogL p p.length) low ≠ 0)
 (h0 : 0 < low → (0 : Rat) ∈ o) (h : Dn p o (dvL (iz (ogL p p.length) low) (iz (ogL p p.length) low).natAbs) (dvL (iz (ogL p p.length) (p.length - 1)) (iz (ogL p p.length) (p.length - 1)).natAbs) (dvL (iz (ogL p p.length) low) (iz (ogL p p.length) low).natAbs).length 0 0) : ∀ r, ev p r = 0 → r ∈ o := fun r hr => by
 have pl := List.length_pos_iff.2 p0
 have g0 : ogL p p.length ≠ [] := fun e => by have := ogL_len p p.length; rw [e] at this; simp at this; omega
 have hh := ev_ogL hr
 by_cases r0 : r.num = 0
 ·have e : r = 0 := Rat.num_eq_zero.1 r0
  rw [e] at hr ⊢
  refine h0 ?_
  have e0 : cf p 0 = 0 := by
   match p, p0 with
   | a :: p, _ =>
     have : a + 0 * ev p 0 = 0 := hr
     show a = 0
     grind
  rcases Nat.eq_zero_or_pos low with hlow | hlow
  ·exfalso
   rw [hlow, iz_zz, zz_ogL p pl] at hne
   unfold ogI at hne
   rw [e0] at hne
   exact hne (by show (0 : Int) * _ = 0; rw [Int.zero_mul])
  ·exact hlow
 ·have d1 := den_last g0 hh
  rw [ogL_len] at d1
  have d2 := num_first r0 (ogL p p.length) low hh hz
  have l1 : zz (ogL p p.length) (p.length - 1) ≠ 0 := by
   rw [zz_ogL p (by omega)]
   exact ogI_ne (by omega) (lead_ne hp p0)
  have dp := r.den_pos
  obtain ⟨k, hk, ek⟩ := mem_iz (dv_mem l1 (by omega) d1)
  have d3 : ((r.num.natAbs : Nat) : Int) ∣ zz (ogL p p.length) low := Int.natAbs_dvd.2 d2
  obtain ⟨i, hi, ei⟩ := mem_iz (dv_mem hne (by omega) d3)
  by_cases hs : 0 < r.num
  ·exact h r hr i k 1 (.inl hi) hi hk (by decide) (by show r.num = (2 * 1 - 1) * _; rw [ei]; omega) ek.symm
  ·exact h r hr i k 0 (.inl hi) hi hk (by decide) (by show r.num = (2 * 0 - 1) * _; rw [ei]; omega) ek.symm
def kRatsR : Con := con1 pR fun p => (Lw p, .lst (V.rats (ratL p)))
attribute [go_sem ↓, go_sem] kRatsR
set_option maxRecDepth 8000 in
set_option maxHeartbeats 1000000 in
theorem ratsR_C : Ctr Tryz.prog 40 kRatsR := Ctr.c1 (by kernel_rfl) fun p h => by
 have h : Lw p := h
 show PCall _ _ _ (.lst (V.rats (ratL p)))
 have T := (tabs mixed (tbl_cons intR_C (tbl_cons r2Whole_C (tbl_cons ins_C (tbl_cons divs_C (tbl_cons r2Made_C (tbl_cons van_C (tbl_cons rEval_C (tbl_cons r2Sign_C tbl_nil)))))))))
 have mx : maxLen = 9223372036854775807 := by decide
 have hl := h.len
 refine PCall.of_awp Tryz.func40 rfl Tryz.ntmps40 Tryz.results40 (by simp) ?_
 refine AWp.seq (vc_ok T _ _ _ ?_)
 simp only [go_sem]
 refine AWp.seq (vc_ok T _ _ _ ?_)
 simp only [go_sem]
 refine AWp.frzS 3 ?_
 have r0 : V.rats [] = [] := rfl
 simp only [go_sem]
 refine AWp.seq (vc_ok T _ _ _ ?_)
 by_cases h2 : p.length < 2
 ·have c1 : (p.length : Int) < 2 := by omega
  have e1 : ratL p = [] := if_pos h2
  rw [e1]
  simp only [go_sem, c1]
  exact .refl _
 ·have c1 : ¬ (p.length : Int) < 2 := by omega
  have p0 : p ≠ [] := fun e => by rw [e] at h2; exact h2 (by decide)
  have hlw := eq_true h
  simp only [go_sem, c1]
  obtain ⟨c, ec⟩ : ∃ c, ogL p p.length = c := ⟨_, rfl⟩
  refine AWp.seq (vc_ok T _ _ _ ?_)
  simp only [go_sem, ec]
  refine ⟨h, ?_⟩
  have lc : c.length = p.length := by rw [← ec, ogL_len]
  have bc : ∀ i, (iz c i).natAbs ≤ 22680 := fun i => by
   by_cases hi : i < p.length
   ·rw [← ec, iz_zz, zz_ogL p hi]; exact ogI_le h.tb hi
   ·have : iz c i = 0 := by
     unfold iz
     rw [List.getD_eq_getElem?_getD, List.getElem?_eq_none (by omega)]; rfl
    rw [this]; decide
  have hlast : iz c (p.length - 1) ≠ 0 := by
   rw [← ec, iz_zz, zz_ogL p (by omega)]
   exact ogI_ne (by omega) (lead_ne h.can p0)
  obtain ⟨L0, hL0, hz, hne⟩ := first_ne hlast
  refine AWp.seq (vc_ok T _ _ _ ?_)
  simp only [go_sem]
  refine AWp.loops (X := { n : Nat // n ≤ L0 }) (fun n => mkSt [(0, .lst (V.rats p)), (3, .lst (V.rats (oZ n.1))), (4, .lst (V.ints c)), (5, .raw (.int .i64 (n.1 : Nat)))] [] 0 91) (fun n => L0 - n.1) ⟨0, Nat.zero_le _⟩ (Wk.of [] (by decide) ?_) ?_
  ·have e0 : V.rats (oZ 0) = [] := rfl
   simp only [go_sem, e0, Int.natCast_zero]
  rintro ⟨n, hn⟩
  refine vc_at T ?_
  have d1 : 0 ≤ (n : Int) := by omega
  have d2 : n < c.length := by omega
  have d2' : (n : Int) < (c.length : Int) := by omega
  by_cases hlt : n < L0
  ·have g1 : (iz c n == 0) = true := by rw [hz n hlt]; rfl
   have d3 : (n : Int) + 1 = ((n + 1 : Nat) : Int) := by omega
   have x1 := oZ_ins n
   have q0 : qs ((0 : Int) : Rat) ≤ 5000000000000 := Nat.le_trans (qs_int 0) (by decide)
   have lb : LB (oZ n) = True := eq_true (by
    unfold oZ
    split
    ·exact ⟨Nat.zero_le _, fun k => Nat.le_trans qs_0 (by decide)⟩
    ·refine ⟨by simp, fun k => ?_⟩
     cases k with
     | zero => rw [cf_zero]; exact q0
     | succ k => rw [cf_succ, cf_nil]; exact Nat.le_trans qs_0 (by decide))
   have inc : (oZ n).Pairwise (· < ·) = True := eq_true (by
    unfold oZ
    split <;> simp)
   simp only [go_sem, d1, d2, g1, d3, q0, lb, inc, x1]
   refine ⟨by omega, ⟨by omega, by omega⟩, ⟨n + 1, hlt⟩, Wk.of [] (by decide) ?_, by simp only; omega⟩
   simp only [go_sem]
  ·obtain rfl : n = L0 := by omega
   have g1 : (iz c n == 0) = false := beqF hne
   have d3 : (c.length : Int) - 1 = ((p.length - 1 : Nat) : Int) := by omega
   have d4 : 0 ≤ ((p.length - 1 : Nat) : Int) := by omega
   have d5 : p.length - 1 < c.length := by omega
   have b1 := bc n
   have b2 := bc (p.length - 1)
   obtain ⟨over, eo⟩ : ∃ o, dvL (iz c n) (iz c n).natAbs = o := ⟨_, rfl⟩
   obtain ⟨under, eu⟩ : ∃ o, dvL (iz c (p.length - 1)) (iz c (p.length - 1)).natAbs = o := ⟨_, rfl⟩
   have lo : over.length ≤ 22680 := by rw [← eo]; exact Nat.le_trans (dvL_len _ _) b1
   have lu : under.length ≤ 22680 := by rw [← eu]; exact Nat.le_trans (dvL_len _ _) b2
   have bo : ∀ i, i < over.length → 1 ≤ iz over i ∧ iz over i ≤ 22680 := fun i hi => by
    have hm : iz over i ∈ dvL (iz c n) (iz c n).natAbs := by
     rw [eo]; unfold iz; rw [List.getD_eq_getElem?_getD, List.getElem?_eq_getElem hi]; exact List.getElem_mem hi
    obtain ⟨⟨k1, k2⟩, _⟩ := (dvL_mem _ _ _).1 hm
    omega
   have bu : ∀ i, i < under.length → 1 ≤ iz under i ∧ iz under i ≤ 22680 := fun i hi => by
    have hm : iz under i ∈ dvL (iz c (p.length - 1)) (iz c (p.length - 1)).natAbs := by
     rw [eu]; unfold iz; rw [List.getD_eq_getElem?_getD, List.getElem?_eq_getElem hi]; exact List.getElem_mem hi
    obtain ⟨⟨k1, k2⟩, _⟩ := (dvL_mem _ _ _).1 hm
    omega
   have hall : ∀ o, RtI p o → (0 < n → (0 : Rat) ∈ o) → Dn p o over under over.length 0 0 → o = ratL p := fun o h1 h3 h4 => by
    refine h1.fin h.can (by omega) (Dn.all p0 h.can (low := n) (by omega) (by rw [ec]; exact hz) (by rw [ec]; exact hne) h3 ?_)
    rw [ec, eo, eu]; exact h4
   have hstart : RtI p (oZ n) ∧ (0 < n → (0 : Rat) ∈ oZ n) := by
    unfold oZ
    by_cases n0 : n = 0
    ·rw [if_pos n0]; exact ⟨.nil p, fun h => by omega⟩
    ·rw [if_neg n0]
     refine ⟨⟨by simp, fun r hr => ?_⟩, fun _ => by rw [show ((0 : Int) : Rat) = 0 from rfl]; simp⟩
     rw [List.mem_singleton.1 hr]
     have e0 := hz 0 (by omega)
     rw [← ec, iz_zz, zz_ogL p (by omega)] at e0
     have e1 : cf p 0 = 0 := Classical.byContradiction fun hc => ogI_ne (by omega) hc e0
     match p, p0, e1 with
     | a :: p, _, e1 =>
       have e1 : a = 0 := e1
       show a + ((0 : Int) : Rat) * ev p _ = 0
       rw [e1, show ((0 : Int) : Rat) = 0 from rfl]; grind
   simp only [go_sem, d1, d2, g1]
   refine ⟨d2', AWp.seq (vc_ok T _ _ _ ?_)⟩
   simp only [go_sem, d1, d2, d3, d4, d5, eo, eu]
   refine ⟨d2', ⟨by omega, by omega⟩, ⟨by omega, by omega⟩, by omega, ⟨by omega, by omega⟩, by rfl, ?_⟩
   refine AWp.seq (vc_ok T _ _ _ ?_)
   simp only [go_sem]
   refine AWp.loops (X := { x : Nat × List Rat // x.1 ≤ over.length ∧ RtI p x.2 ∧ (0 < n → (0 : Rat) ∈ x.2) ∧ Dn p x.2 over under x.1 0 0 }) (fun x => mkSt [(0, .lst (V.rats p)), (3, .lst (V.rats x.1.2)), (4, .lst (V.ints c)), (6, .lst (V.ints over)), (7, .lst (V.ints under)), (8, .raw (.int .i64 (x.1.1 : Nat)))] [] 0 91) (fun x => over.length - x.1.1) ⟨(0, oZ n), Nat.zero_le _, hstart.1, hstart.2, .zero⟩ (Wk.of [] (by decide) ?_) ?_
   ·simp only [go_sem, Int.natCast_zero]
   rintro ⟨⟨i, o⟩, hi, hr, h0, hd⟩
   simp only at hi hr h0 hd
   refine vc_at T ?_
   by_cases hin : i < over.length
   ·have f1 : (i : Int) < (over.length : Int) := by omega
    have f2 : (i : Int) + 1 = ((i + 1 : Nat) : Int) := by omega
    have f3 : 0 ≤ (i : Int) := by omega
    simp only [go_sem, f1]
    refine AWp.loops (X := { x : Nat × List Rat // x.1 ≤ under.length ∧ RtI p x.2 ∧ (0 < n → (0 : Rat) ∈ x.2) ∧ Dn p x.2 over under i x.1 0 }) (fun x => mkSt [(0, .lst (V.rats p)), (3, .lst (V.rats x.1.2)), (4, .lst (V.ints c)), (6, .lst (V.ints over)), (7, .lst (V.ints under)), (8, .raw (.int .i64 (i : Nat))), (9, .raw (.int .i64 (x.1.1 : Nat)))] [] 0 91) (fun x => under.length - x.1.1) ⟨(0, o), Nat.zero_le _, hr, h0, hd⟩ (Wk.of [] (by decide) ?_) ?_
    ·simp only [go_sem, Int.natCast_zero]
    rintro ⟨⟨k, o⟩, hk, hr, h0, hd⟩
    simp only at hk hr h0 hd
    refine vc_at T ?_
    by_cases hkn : k < under.length
    ·have f4 : (k : Int) < (under.length : Int) := by omega
     have f5 : (k : Int) + 1 = ((k + 1 : Nat) : Int) := by omega
     have f6 : 0 ≤ (k : Int) := by omega
     simp only [go_sem, f4]
     refine AWp.loops (X := { x : Nat × List Rat // x.1 ≤ 2 ∧ RtI p x.2 ∧ (0 < n → (0 : Rat) ∈ x.2) ∧ Dn p x.2 over under i k x.1 }) (fun x => mkSt [(0, .lst (V.rats p)), (3, .lst (V.rats x.1.2)), (4, .lst (V.ints c)), (6, .lst (V.ints over)), (7, .lst (V.ints under)), (8, .raw (.int .i64 (i : Nat))), (9, .raw (.int .i64 (k : Nat))), (10, .raw (.int .i64 (2 * (x.1.1 : Nat) - 1)))] [] 0 91) (fun x => 2 - x.1.1) ⟨(0, o), Nat.zero_le _, hr, h0, hd⟩ (Wk.of [] (by decide) ?_) ?_
     ·simp only [go_sem]
     rintro ⟨⟨j, o⟩, hj, hr, h0, hd⟩
     simp only at hj hr h0 hd
     refine vc_at T ?_
     obtain ⟨s, es⟩ : ∃ s : Int, 2 * (j : Int) - 1 = s := ⟨_, rfl⟩
     by_cases hjn : j < 2
     ·have f7 : s ≤ 1 := by omega
      have f8 : s + 2 = 2 * ((j + 1 : Nat) : Int) - 1 := by omega
      obtain ⟨a1, a2⟩ := bo i hin
      obtain ⟨a3, a4⟩ := bu k hkn
      have ab : -22680 ≤ s * iz over i ∧ s * iz over i ≤ 22680 := by
       rcases (show s = -1 ∨ s = 1 by omega) with e | e
       ·rw [e]; omega
       ·rw [e]; omega
      have hins := hd.ins
      have hskip := hd.skip
      rw [es] at hins hskip
      obtain ⟨a, ea⟩ : ∃ a, s * iz over i = a := ⟨_, rfl⟩
      obtain ⟨b, eb⟩ : ∃ a, iz under k = a := ⟨_, rfl⟩
      rw [ea, eb] at hins hskip
      rw [ea] at ab
      rw [eb] at a3 a4
      obtain ⟨x, ex⟩ : ∃ x, mdQ a b = x := ⟨_, rfl⟩
      rw [ex] at hins
      have qx : qs x ≤ 1 := by rw [← ex]; exact md_sz (by omega) a3 (by omega)
      obtain ⟨⟨v1, v2, v3⟩, v4⟩ := Sz.ce h.sz qx (by decide)
      have v1 := eq_true v1
      have v2 := eq_true v2
      have v3' := eq_true v3
      have v4 := eq_true v4
      have lb := eq_true (hr.lb h (by omega)).1
      have inc := eq_true hr.inc
      have l8 := (hr.lb h (by omega)).2
      have cl : c.length ≤ 1000 := by omega
      have key : (∃ B, vnB c a b = B) ∧ True := ⟨⟨_, rfl⟩, trivial⟩
      obtain ⟨⟨B, eB⟩, _⟩ := key
      have hvan : ev p x = 0 → x.num = a → (x.den : Int) = b → B = true := fun h1 h3 h4 => by
       rw [← eB, ← ec, ← h3, ← h4]
       exact van_root h1
      cases B with
      | false =>
        have hsk := hskip fun r hr e1 e2 => by
         have e3 : r = x := by rw [← ex, ← e1, ← e2, mdQ_nd]
         have := hvan (by rw [← e3]; exact hr) (by rw [← e3]; exact e1) (by rw [← e3]; exact e2)
         cases this
        simp only [go_sem, es, ea, eb, ex, eB, f3, f6, f7, f8, hin, hkn, cl]
        refine ⟨by omega, ⟨by omega, by omega⟩, by omega, ⟨⟨by omega, by omega⟩, by omega, by omega⟩, by rfl, by omega, ⟨by omega, by omega⟩, by omega, by rfl, ⟨by omega, by omega⟩, ⟨(j + 1, o), hjn, hr, h0, hsk⟩, Wk.of [] (by decide) ?_, by simp only; omega⟩
        simp only [go_sem]
      | true =>
        by_cases hroot : ev p x = 0
        ·have g2 : (sgI (ev p x).num == 0) = true := by rw [sgI_num, hroot]; rfl
         simp only [go_sem, es, ea, eb, ex, eB, f3, f6, f7, f8, hin, hkn, cl, v1, v2, v3', v4, g2, lb, inc]
         refine ⟨by omega, ⟨by omega, by omega⟩, by omega, ⟨⟨by omega, by omega⟩, by omega, by omega⟩, by rfl, by omega, ⟨by omega, by omega⟩, by omega, by rfl, ⟨by omega, by omega⟩, ⟨(j + 1, insR o x), hjn, hr.ins hroot, fun hn => (insR_mem _ _ _).2 (.inr (h0 hn)), hins⟩, Wk.of [] (by decide) ?_, by simp only; omega⟩
         simp only [go_sem]
        ·have g2 : (sgI (ev p x).num == 0) = false := by
          rw [sgI_num, beq_eq_false_iff_ne]
          exact fun e => hroot ((sgQ_zero _).1 e)
         have hsk := hskip fun r hr e1 e2 => by
          have e3 : r = x := by rw [← ex, ← e1, ← e2, mdQ_nd]
          exact hroot (by rw [← e3]; exact hr)
         simp only [go_sem, es, ea, eb, ex, eB, f3, f6, f7, f8, hin, hkn, cl, v1, v2, v3', v4, g2]
         refine ⟨by omega, ⟨by omega, by omega⟩, by omega, ⟨⟨by omega, by omega⟩, by omega, by omega⟩, by rfl, by omega, ⟨by omega, by omega⟩, by omega, by rfl, ⟨by omega, by omega⟩, ⟨(j + 1, o), hjn, hr, h0, hsk⟩, Wk.of [] (by decide) ?_, by simp only; omega⟩
         simp only [go_sem]
     ·obtain rfl : j = 2 := by omega
      have f7 : ¬ s ≤ 1 := by omega
      simp only [go_sem, es, f7, f5]
      refine ⟨⟨by omega, by omega⟩, ⟨(k + 1, o), hkn, hr, h0, hd.next⟩, Wk.of [] (by decide) ?_, by simp only; omega⟩
      simp only [go_sem]
    ·obtain rfl : k = under.length := by omega
     have f4 : ¬ (under.length : Int) < (under.length : Int) := by omega
     simp only [go_sem, f4, f2]
     refine ⟨⟨by omega, by omega⟩, ⟨(i + 1, o), hin, hr, h0, hd.row⟩, Wk.of [] (by decide) ?_, by simp only; omega⟩
     simp only [go_sem]
   ·obtain rfl : i = over.length := by omega
    have f1 : ¬ (over.length : Int) < (over.length : Int) := by omega
    have e := hall o hr h0 hd
    rw [← e]
    simp only [go_sem, f1]
    refine vc_ok T _ _ _ ?_
    simp only [go_sem]
end Go.Proofs.YtlhapagililgmaaGreat


/- The law of the roots of the reference. -/
namespace Go.Proofs.YtlhapagililgmaaGreat
set_option linter.unusedSimpArgs false
set_option linter.unusedVariables false
open Go.RowKit

def Dig (p : List Rat) : Prop := ∀ i, (cf p i).num.natAbs ≤ 9 ∧ (cf p i).den ≤ 9
theorem natR_one {n : Nat} (h : 1 ≤ n) : (1 : Rat) ≤ (n : Rat) := by exact_mod_cast h
theorem ab_nat (z : Int) : ab (z : Rat) = ((z.natAbs : Nat) : Rat) := by
 unfold ab
 by_cases h : 0 ≤ (z : Rat)
 ·rw [if_pos h]
  have h1 : ((0 : Int) : Rat) ≤ (z : Rat) := h
  have h2 := Rat.intCast_le_intCast.1 h1
  have : z = ((z.natAbs : Nat) : Int) := by omega
  show (z : Rat) = (((z.natAbs : Nat) : Int) : Rat)
  rw [← this]
 ·rw [if_neg h]
  have h2 : ¬ 0 ≤ z := fun h3 => h (show ((0 : Int) : Rat) ≤ (z : Rat) from Rat.intCast_le_intCast.2 h3)
  have : -z = ((z.natAbs : Nat) : Int) := by omega
  show -(z : Rat) = (((z.natAbs : Nat) : Int) : Rat)
  rw [← this, Rat.intCast_neg]
theorem ab_den (x : Rat) : ab x * (x.den : Rat) = ((x.num.natAbs : Nat) : Rat) := by
 have h1 := rat_md x
 have h2 : ab (x * (x.den : Rat)) = ab x * ab (x.den : Rat) := ab_mul _ _
 have h3 : ab (x.den : Rat) = (x.den : Rat) := by
  unfold ab; rw [if_pos (natR_nn _)]
 rw [h1, h3, ab_nat] at h2
 exact h2.symm
theorem dig_quo {x l : Rat} (hx : x.num.natAbs ≤ 9) (h0 : l ≠ 0) (hl : l.den ≤ 9) : ab (x / l) ≤ 81 := by
 have e1 := ab_den x
 have e2 := ab_den l
 have b1 := natR_le hx
 have b2 : (1 : Rat) ≤ ((l.num.natAbs : Nat) : Rat) := natR_one (by have : l.num ≠ 0 := fun h => h0 (Rat.num_eq_zero.1 h); omega)
 have b3 := natR_le hl
 have b4 := natR_one x.den_pos
 have e3 : ab (x / l) * ab l = ab x := by
  rw [← ab_mul, Rat.div_def, Rat.mul_assoc, Rat.inv_mul_cancel _ h0, Rat.mul_one]
 have n1 := ab_nn x
 have n2 := ab_nn l
 have n3 := ab_nn (x / l)
 have n9 : ((9 : Nat) : Rat) = 9 := rfl
 rw [n9] at b1 b3
 have c1 : ab x ≤ 9 := by
  have : ab x * 1 ≤ ab x * (x.den : Rat) := Rat.mul_le_mul_of_nonneg_left b4 n1
  grind
 have c2 : (1 : Rat) ≤ 9 * ab l := by
  have : ab l * (l.den : Rat) ≤ ab l * 9 := Rat.mul_le_mul_of_nonneg_left b3 n2
  grind
 have c3 : ab (x / l) * 1 ≤ ab (x / l) * (9 * ab l) := Rat.mul_le_mul_of_nonneg_left c2 n3
 grind
theorem mxQ_81 {p : List Rat} (hd : Dig p) (h0 : lead p ≠ 0) : ∀ i, mxQ p i ≤ 81
 | 0 => by show (0 : Rat) ≤ 81; decide
 | i + 1 => by
   rw [mxQ]
   split
   ·rw [abQ_ab]
    exact dig_quo (hd i).1 h0 (hd _).2
   ·exact mxQ_81 hd h0 i
theorem bnd_82 {p : List Rat} (hp : Can p) (hd : Dig p) : bndZ p ≤ 2000 := by
 unfold bndZ
 split
 ·decide
 ·rename_i h
  have p0 : p ≠ [] := fun e => by rw [e] at h; exact h (by decide)
  have h1 := mxQ_81 hd (lead_ne hp p0) (p.length - 1)
  have h2 : ((-82 : Int) : Rat) ≤ -(mxQ p (p.length - 1) + 1) := by
   rw [show ((-82 : Int) : Rat) = -82 by decide +kernel]; grind
  have h3 := Rat.le_floor_iff.2 h2
  omega
structure RmF (p : List Rat) : Prop where
 a1 : RaOk p
 a2 : p.length ≤ 1000000
 lb : LB (ratL p) ∧ PB (ratL p) 80
 i1 : p ≠ [] → InOk p
 lz : LZ (intL p)
 b : bndZ p ≤ 2000
 ev : ∀ i, i < (ratL p).length → Sz p 5 1 ∧ ev p (cf (ratL p) i) = 0
 inc : ∀ i, i + 1 < (ratL p).length → cf (ratL p) i < cf (ratL p) (i + 1)
 ct : ∀ i, i < (ratL p).length → CtOk p (cf (ratL p) i - ((1 : Int) : Rat)) (cf (ratL p) i) ∧ 1 ≤ cntP p (cf (ratL p) i - ((1 : Int) : Rat)) (cf (ratL p) i)
theorem rmF {p : List Rat} (h : Lw p) (hd : Dig p) : RmF p := by
 have hb := bnd_82 h.can hd
 refine ⟨h.Ra, by have := h.len; omega, ⟨h.LB.1, h.LB.2.1⟩, fun p0 => (h.pn p0).In, ?_, hb, fun i hi => ?_, fun i hi => ?_, fun i hi => ?_⟩
 ·by_cases p0 : p = []
  ·rw [p0]
   exact ⟨by simp [intL], fun k => by
    have : zz (intL []) k = 0 := by unfold zz intL; simp
    rw [this]
    exact Nat.le_trans ((dl_le (n := 0) (k := 0)).2 (by decide)) (Nat.zero_le _)⟩
  ·exact intL_LZ (h.pn p0)
 all_goals
  have h2 : 2 ≤ p.length := by
   by_cases h2 : p.length < 2
   ·have e : ratL p = [] := if_pos h2
    rw [e] at hi; simp at hi
   ·omega
  have p0 : p ≠ [] := fun e => by rw [e] at h2; simp at h2
  obtain ⟨m1, m2⟩ := ratL_ok h.can h2
 ·exact ⟨h.sz, (m1 _).1 (mem_cf.2 ⟨i, hi, rfl⟩)⟩
 ·have := List.pairwise_iff_getElem.1 m2 i (i + 1) (by omega) hi (by omega)
  rwa [← cf_lt, ← cf_lt] at this
 ·have hr := (m1 _).1 (mem_cf.2 ⟨i, hi, rfl⟩)
  have q := h.LB.2.1 i
  obtain ⟨r, er⟩ : ∃ r, cf (ratL p) i = r := ⟨_, rfl⟩
  rw [er] at hr q ⊢
  have q2 : qs (r - ((1 : Int) : Rat)) ≤ 100 := by
   have := qs_sub r ((1 : Int) : Rat)
   have : qs ((1 : Int) : Rat) ≤ 1 := qs_1
   omega
  have hlt : r - ((1 : Int) : Rat) < r := by rw [show ((1 : Int) : Rat) = 1 from rfl]; grind
  refine ⟨h.Ct (by omega) (by omega), ?_⟩
  unfold cntP
  rw [if_neg fun e => e.elim p0 fun e => absurd hlt (Rat.not_lt.2 e)]
  have := vrS_root h.can p0 hlt hr
  omega
set_option maxRecDepth 8000 in
set_option maxHeartbeats 1000000 in
theorem rootsM_V (x : List Int) (y : List Nat) (hx : PyOk x y 5) : PCall Tryz.prog 9 [.agg [.lst (V.i8s x), .lst (V.bytes y)]] (.raw (.bool true)) := by
 have T := (tabs mixed (tbl_cons sanity4_C (tbl_cons made4_C (tbl_cons rats_C (tbl_cons ratsR_C (tbl_cons sameRats_C (tbl_cons ints_C (tbl_cons intsR_C (tbl_cons sameInts_C (tbl_cons rEval_C (tbl_cons r2Sign_C (tbl_cons r2Cmp_C (tbl_cons r2Whole_C (tbl_cons r2Sub_C (tbl_cons count_C tbl_nil)))))))))))))))
 have hs := py_Lw x y
 have hd : Dig (pyL x y 5) := fun i => py_cf x y 5 i
 have hx' := eq_true hx
 obtain ⟨p, ep⟩ : ∃ p, pyL x y 5 = p := ⟨_, rfl⟩
 rw [ep] at hs hd
 have F := rmF hs hd
 have k0 := eq_true hs
 have k1 := eq_true F.a1
 have k2 := eq_true F.a2
 have k3 := eq_true F.lb.1
 have k4 := eq_true F.i1
 have k5 := eq_true F.lz
 have k6 := eq_true F.b
 obtain ⟨l, el⟩ : ∃ l, ratL p = l := ⟨_, rfl⟩
 obtain ⟨m, em⟩ : ∃ l, intL p = l := ⟨_, rfl⟩
 have hev := F.ev
 have hinc := F.inc
 have hct := F.ct
 have hpb := F.lb.2
 have hlb := F.lb.1
 rw [el] at k3 hev hinc hct hpb hlb
 rw [em] at k5
 have dd1 : decide (l = l) = true := decide_eq_true rfl
 have dd2 : decide (m = m) = true := decide_eq_true rfl
 refine PCall.of_vc T Tryz.func9 rfl Tryz.ntmps9 Tryz.results9 (by simp) ?_
 simp only [go_sem, hx', ep, k0, k1, k2, k3, k4, k5, k6, el, em, dd1, dd2]
 refine AWp.loops (X := { i : Nat // i ≤ l.length }) (fun i => mkSt [(3, .raw (.bool true)), (4, .lst (V.rats p)), (5, .lst (V.rats l)), (6, .raw (.int .i64 (i.1 : Nat)))] [] 0 72) (fun i => l.length - i.1) ⟨0, Nat.zero_le _⟩ (Wk.of [] (by decide) ?_) ?_
 ·simp only [go_sem, Int.natCast_zero]
 rintro ⟨i, hin⟩
 refine vc_at T ?_
 by_cases hlt : i < l.length
 ·have d1 : (i : Int) < (l.length : Int) := by omega
  have d2 : (i : Int) + 1 = ((i + 1 : Nat) : Int) := by omega
  have d3 : 0 ≤ (i : Int) := by omega
  obtain ⟨sz, hr⟩ := hev i hlt
  obtain ⟨t1, t2⟩ := hct i hlt
  have q := hpb i
  have q1 := hlb.2 i
  have hll := hlb.1
  obtain ⟨⟨v1, v2, v3⟩, v4⟩ := Sz.ce sz q (by decide)
  have v1 := eq_true v1
  have v2 := eq_true v2
  have v3 := eq_true v3
  have v4 := eq_true v4
  have g1 : (sgI (ev p (cf l i)).num != 0) = false := by rw [sgI_num, hr]; rfl
  have t1 := eq_true t1
  have t2 : ¬ cntP p (cf l i - ((1 : Int) : Rat)) (cf l i) < 1 := by omega
  have qo : qs ((1 : Int) : Rat) ≤ 5000000000000 := Nat.le_trans (qs_int 1) (by decide)
  rcases i with _ | k
  ·have c1 : ¬ (0 : Int) < ((0 : Nat) : Int) := by decide
   have d1' : (0 : Int) < (l.length : Int) := d1
   simp only [go_sem, d1', hlt, v1, v2, v3, v4, g1, c1, t1, t2, q1, qo]
   refine ⟨by rfl, ⟨0 + 1, hlt⟩, Wk.of [] (by decide) ?_, by simp only; omega⟩
   simp only [go_sem]
   try rfl
  ·have c1 : (0 : Int) < ((k + 1 : Nat) : Int) := by omega
   have c2 : ((k + 1 : Nat) : Int) - 1 = (k : Int) := by omega
   have c3 : 0 ≤ (k : Int) := by omega
   have c4 : k < l.length := by omega
   have q3 := hlb.2 k
   have g2 : ¬ 0 ≤ cmpQ (cf l k) (cf l (k + 1)) := by
    unfold cmpQ
    rw [if_pos (hinc k hlt)]; decide
   simp only [go_sem, d1, d2, d3, hlt, v1, v2, v3, v4, g1, c1, c2, c3, c4, g2, t1, t2, q1, q3, qo]
   refine ⟨⟨by omega, by omega⟩, by omega, by rfl, ⟨by omega, by omega⟩, ⟨k + 2, hlt⟩, Wk.of [] (by decide) ?_, by simp only; omega⟩
   simp only [go_sem]
 ·obtain rfl : i = l.length := by omega
  have d1 : ¬ (l.length : Int) < (l.length : Int) := by omega
  simp only [go_sem, d1]
set_option maxRecDepth 20000 in
theorem lawRootsM_F (X : V) (h : Fits Tryz.prog 6 25 X) : PCall Tryz.prog 9 [X] (.raw (.bool true)) := by
 obtain ⟨x, y, rfl, hx⟩ := fits_raw4 h
 exact rootsM_V x y hx
end Go.Proofs.YtlhapagililgmaaGreat

