/- Texts H11 PM20 QM1 QM2 in one. -/
import Derived.Test.YtfbogelmgdojgaaGreatR36
import Derived.Test.YtfbogelmgdojgaaGreatR27
import Derived.Test.YtfbogelmgdojgaaGreatR20
import Derived.Test.YtfbogelmgdojgaaGreatR35
import Derived.Test.YtfbogelmgdojgaaGreatR22
import Derived.Test.YtfbogelmgdojgaaGreatR33
import Derived.Test.YtfbogelmgdojgaaGreatR32
/- Contracts: the determinant of the reference. -/
namespace Go.Proofs.YtfbogelmgdojgaaGreat
set_option linter.unusedSimpArgs false
set_option linter.unusedVariables false
open Go.RowKit

def eS (S : Nat) : Nat → Nat
 | 0 => S
 | k + 1 => 4 * eS S k + 2
def eT (S : Nat) : Nat → Nat
 | 0 => 1
 | k + 1 => eT S k + eS S k
def DetOk (M : List (List Rat)) : Prop := (M.length ≤ 100 ∧ ∀ i, i < M.length → (M.getD i []).length = M.length) ∧ ∃ S, (∀ i, PB (M.getD i []) S) ∧ eS S M.length ≤ 1000000000000 ∧ eT S M.length ≤ 1000000000000
def kRDet : Con := con1 pMt fun M => (DetOk M, .Q (det M.length (subM 0 M)))
attribute [go_sem ↓, go_sem] kRDet
structure DtS (M0 : List (List Rat)) (n S k : Nat) (M : List (List Rat)) (out : Rat) : Prop where
 len : M.length = n
 wid : ∀ i, i < n → (M.getD i []).length = n
 pb : ∀ i, PB (M.getD i []) (eS S k)
 po : qs out ≤ eT S k
 inv : out * det (n - k) (subM k M) = det n (subM 0 M0)
theorem eS_mono (S : Nat) {j : Nat} : ∀ {k}, j ≤ k → eS S j ≤ eS S k
 | 0, h => by rw [show j = 0 from by omega]; exact Nat.le_refl _
 | k + 1, h => by
   by_cases e : j = k + 1
   ·rw [e]; exact Nat.le_refl _
   ·have := eS_mono S (j := j) (k := k) (by omega)
    rw [eS]; omega
theorem eT_mono (S : Nat) {j : Nat} : ∀ {k}, j ≤ k → eT S j ≤ eT S k
 | 0, h => by rw [show j = 0 from by omega]; exact Nat.le_refl _
 | k + 1, h => by
   by_cases e : j = k + 1
   ·rw [e]; exact Nat.le_refl _
   ·have := eT_mono S (j := j) (k := k) (by omega)
    rw [eT]; omega
structure ElS (N : List (List Rat)) (n S k i : Nat) (Z : List (List Rat)) : Prop where
 len : Z.length = n
 wid : ∀ j, j < n → (Z.getD j []).length = n
 piv : Z.getD k [] = N.getD k []
 zero : ∀ j, k < j → j < i → cf (Z.getD j []) k = 0
 rest : ∀ j, i ≤ j → Z.getD j [] = N.getD j []
 pb : ∀ j, PB (Z.getD j []) (4 * S + 2)
 dt : det (n - k) (subM k Z) = det (n - k) (subM k N)
theorem ElS.step {N : List (List Rat)} {n S k i : Nat} {Z : List (List Rat)} (h : ElS N n S k i Z) (hN : ∀ j, PB (N.getD j []) S) (hk : k < i) (hi : i < n) (h0 : cf (N.getD k []) k ≠ 0) : ElS N n S k (i + 1) (elS Z k n i) := by
 obtain ⟨h1, h2, h3, h4, h5, h6, h7⟩ := h
 have hiZ : i < Z.length := by omega
 have g : ∀ j, (elS Z k n i).getD j [] = if j = i then elR (elF Z k i) (Z.getD k []) (Z.getD i []) k (n - k) else Z.getD j [] := elS_get hiZ
 refine ⟨by rw [elS_len]; exact h1, fun j hj => ?_, ?_, fun j hj1 hj2 => ?_, fun j hj => ?_, fun j => ?_, ?_⟩
 ·rw [g]
  split
  ·rw [elR_len]; exact h2 i hi
  ·exact h2 j hj
 ·rw [g, if_neg (by omega), h3]
 ·by_cases e : j = i
  ·subst e
   exact el_zero (by omega) hiZ (Nat.le_of_eq (h2 j hi).symm) (by rw [h3]; exact h0)
  ·rw [g, if_neg e]
   exact h4 j hj1 (by omega)
 ·rw [g, if_neg (by omega)]
  exact h5 j (by omega)
 ·rw [g]
  split
  ·intro c
   rw [elR_cf _ _ _ _ _ (by rw [h2 i hi]; omega)]
   have a1 := hN i c
   have a2 := hN i k
   have a3 := hN k c
   have a4 := hN k k
   rw [h5 i (Nat.le_refl i), h3]
   split
   ·unfold elF
    rw [h5 i (Nat.le_refl i), h3]
    have b1 := qs_inv1 (cf (N.getD k []) k) a4
    have b2 := qs_mul (cf (N.getD i []) k) (1 / cf (N.getD k []) k)
    have b3 := qs_mul (cf (N.getD i []) k * (1 / cf (N.getD k []) k)) (cf (N.getD k []) c)
    have b4 := qs_sub (cf (N.getD i []) c) (cf (N.getD i []) k * (1 / cf (N.getD k []) k) * cf (N.getD k []) c)
    omega
   ·omega
  ·exact h6 j
 ·rw [← h7]
  exact sub_el (Nat.le_of_eq h1.symm) hk hi (Nat.le_of_eq (h2 i hi).symm)
set_option maxRecDepth 8000 in
set_option maxHeartbeats 4000000 in
theorem rDet_C : Ctr Tryz.prog 52 kRDet := Ctr.c1 (by kernel_rfl) fun M h => by
 obtain ⟨⟨hn, hw⟩, S, hS, hS1, hT1⟩ := h
 show PCall _ _ _ (.Q (det M.length (subM 0 M)))
 have T := (tabs mixed (tbl_cons rZero_C (tbl_cons rOne_C (tbl_cons r2Sign_C (tbl_cons r2Neg_C (tbl_cons r2Mul_C (tbl_cons r2Sub_C (tbl_cons rInv_C tbl_nil))))))))
 have mx : maxLen = 9223372036854775807 := by decide
 refine PCall.of_vc T Tryz.func52 rfl Tryz.ntmps52 Tryz.results52 (by simp) ?_
 obtain ⟨n, en⟩ : ∃ n, M.length = n := ⟨_, rfl⟩
 rw [en] at hn hw hS1 hT1 ⊢
 simp only [go_sem, en]
 have lt : ∀ i, i ≤ n → (M.take i).length = i := fun i hi => by rw [List.length_take, en]; omega
 refine AWp.loops (X := { i : Nat // i ≤ n }) (fun i => mkR 0 2 29 45 n [(0, .lst (V.mat M)), (2, .ptr 1 4 0 0), (3, .raw (.int .i64 (n : Nat))), (4, .sl 0 1 0 i.1), (5, .raw (.int .i64 (i.1 : Nat)))] [(1, true, ⟨45, 4, [z0]⟩)] (M.take i.1) 139) (fun i => n - i.1) ⟨0, Nat.zero_le _⟩ (Wk.ofR [4, 0] (fun _ => 0) rfl (by decide) (by simp) (thR_nodup (by decide) (fun i j hi => by simp at hi) (fun x hx i hi => by simp at hi)) ?_ ?_ ?_ ?_ ?_) ?_
 ·simp only [go_sem]
 ·simp only [go_sem]
 ·simp only [go_sem]
  exact ⟨rfl, rfl⟩
 ·have e0 : V.rwG (fun _ => 0) n 0 = [] := rfl
  simp only [go_sem, List.take_zero, e0]
 ·intro i hi
  simp at hi
 rintro ⟨i, hi⟩
 refine vc_atR T ?_
 rw [lt i hi]
 by_cases hin : i < n
 ·have c1 : (i : Int) < (n : Int) := by omega
  have c2 : (i : Int) + 1 = ((i + 1 : Nat) : Int) := by omega
  have c3 : 0 ≤ (i : Int) := by omega
  have hiM : i < M.length := by omega
  obtain ⟨r, er⟩ : ∃ r, M.getD i [] = r := ⟨_, rfl⟩
  have lr : r.length = n := by rw [← er]; exact hw i hin
  simp only [go_sem, c1, c2, c3, hiM, er, mx]
  refine ⟨by omega, ⟨by omega, by omega⟩, by omega, ⟨by omega, by omega⟩, ⟨by omega, by omega⟩, ⟨i + 1, hin⟩, Wk.ofR [rid 2 i + 11, 1] (rhoS 2 i (rid 2 i + 9)) rfl (by decide) (by simp) (thR_nodup (by simp [rid]) (fun a b ha hb e => ?_) (fun x hx a ha => ?_)) ?_ ?_ ?_ ?_ ?_, by simp only; omega⟩
  ·simp only [lt (i + 1) hin] at ha hb
   unfold rhoS rid at e
   split at e <;> split at e <;> omega
  ·simp only [lt (i + 1) hin] at ha
   unfold rhoS rid
   simp [rid] at hx
   split <;> omega
  ·simp only [go_sem]
  ·simp only [go_sem]
  ·simp only [go_sem, rid_nn, matH_lo]
   exact rfl
  ·have e1 : (V.rwI 2 n (min i M.length)).take i ++ [V.sl (rid 2 i + 9) 4 0 r.length] = V.rwG (rhoS 2 i (rid 2 i + 9)) n (min (i + 1) M.length) := by
    rw [Nat.min_eq_left (by omega), Nat.min_eq_left (by omega), List.take_of_length_le (by rw [rwI_len]; exact Nat.le_refl _), lr, rwI_snoc]
   simp only [go_sem, e1]
  ·intro j hj
   simp only [lt (i + 1) hin] at hj
   have e1 : (M.take (i + 1)).getD j [] = M.getD j [] := by
    rw [List.getD_eq_getElem?_getD, List.getD_eq_getElem?_getD, List.getElem?_take, if_pos hj]
   by_cases hji : j < i
   ·have e2 : (M.take i).getD j [] = M.getD j [] := by
     rw [List.getD_eq_getElem?_getD, List.getD_eq_getElem?_getD, List.getElem?_take, if_pos hji]
    have e3 : rhoS 2 i (rid 2 i + 9) j = rid 2 j := if_pos hji
    have e4 := matH_row (o := 0) (b := 2) (tO := 29) (t := 45) (w := n) (M := M.take i) (H := mkH [(1, true, ⟨45, 4, [z0]⟩)]) (i := j) (by decide) (by rw [lt i hi]; exact hji)
    rw [e2] at e4
    simp only [mkH] at e4
    simp only [go_sem, e1, e3, rid_rn, rid_rl, hji, e4]
   ·obtain rfl : j = i := by omega
    have e3 : rhoS 2 j (rid 2 j + 9) j = rid 2 j + 9 := if_neg (Nat.lt_irrefl j)
    simp only [go_sem, e1, e3, rid_nl, rid_cc, er]
 ·obtain rfl : n = i := by omega
  have c1 : ¬ (n : Int) < (n : Int) := by omega
  have tM : M.take n = M := List.take_of_length_le (by omega)
  simp only [go_sem, c1, tM]
  refine AWp.loops (X := { x : Nat × List (List Rat) × Rat // x.1 ≤ n ∧ DtS M n S x.1 x.2.1 x.2.2 }) (fun x => mkR 0 3 29 45 n [(2, .ptr 1 4 0 0), (3, .raw (.int .i64 (n : Nat))), (4, .sl 0 1 0 n), (6, .ptr 2 4 0 0), (7, .raw (.int .i64 (x.1.1 : Nat)))] [(1, true, ⟨45, 4, [z0]⟩), (2, true, ⟨45, 4, [.Q x.1.2.2]⟩)] x.1.2.1 139) (fun x => n - x.1.1) ⟨(0, M, 1), Nat.zero_le _, en, hw, hS, qs_1, by show (1 : Rat) * _ = _; rw [Nat.sub_zero]; grind⟩ (Wk.ofR [0, 1, rid 2 n + 4] (rid 2) rfl (by decide) (by simp) (thR_nodup (by simp [rid]) (fun a b ha hb e => by unfold rid at e; omega) (fun x hx a ha => by simp only [en] at ha; simp [rid] at hx ⊢; omega)) ?_ ?_ ?_ ?_ ?_) ?_
  ·simp only [go_sem]
  ·simp only [go_sem]
  ·simp only [go_sem, rid_nn, matH_lo]
   exact rfl
  ·simp only [go_sem, rid_nn, matH_o]
   exact rfl
  ·intro j hj
   have hj' : j < n := by rw [← en]; exact hj
   have e4 := matH_row (o := 0) (b := 2) (tO := 29) (t := 45) (w := n) (M := M) (H := mkH [(1, true, ⟨45, 4, [z0]⟩)]) (i := j) (by decide) hj
   simp only [mkH] at e4
   simp only [go_sem, rid_rn, rid_rl, hj', e4]
  rintro ⟨⟨k, N, out⟩, hk, hD⟩
  simp only at hk hD
  obtain ⟨lN, wN, pN, po, inv⟩ := hD
  refine vc_atR T ?_
  have po5 : qs out ≤ 1000000000000 := Nat.le_trans po (Nat.le_trans (eT_mono S hk) hT1)
  have pN5 : ∀ i, PB (N.getD i []) 1000000000000 := fun i => (pN i).mono (Nat.le_trans (eS_mono S hk) hS1)
  have ho3 : (0 : Nat) < 3 := by decide
  by_cases hkn : k < n
  ·have c1 : (k : Int) < (n : Int) := by omega
   simp only [go_sem, c1, lN]
   refine AWp.loops (X := { p : Nat // (k ≤ p ∧ p ≤ n) ∧ ∀ i, k ≤ i → i < p → cf (N.getD i []) k = 0 }) (fun p => mkR 0 3 29 45 n [(2, .ptr 1 4 0 0), (3, .raw (.int .i64 (n : Nat))), (4, .sl 0 1 0 n), (6, .ptr 2 4 0 0), (7, .raw (.int .i64 (k : Nat))), (8, .raw (.int .i64 (p.1 : Nat)))] [(1, true, ⟨45, 4, [z0]⟩), (2, true, ⟨45, 4, [.Q out]⟩)] N 139) (fun p => n - p.1) ⟨k, ⟨Nat.le_refl _, hk⟩, fun i h1 h2 => by omega⟩ (Wk.ofR [0, 1, 2] (rid 3) rfl (by decide) (by simp) (thR_nodup (by decide) (fun a b ha hb e => by unfold rid at e; omega) (fun x hx a ha => by simp [rid] at hx ⊢; omega)) ?_ ?_ ?_ ?_ ?_) ?_
   ·simp only [go_sem]
   ·simp only [go_sem]
   ·simp only [go_sem, matH_lo]
    exact rfl
   ·simp only [go_sem, matH_o]
    exact rfl
   ·intro j hj
    exact matH_row ho3 hj
   rintro ⟨p, ⟨hkp, hpn⟩, hz⟩
   refine vc_atR T ?_
   simp only [lN]
   by_cases hp : p < n
   ·have d1 : (p : Int) < (n : Int) := by omega
    have d2 : 0 ≤ (p : Int) := by omega
    have d3 : 0 ≤ (k : Int) := by omega
    have rp := matH_row (o := 0) (b := 3) (tO := 29) (t := 45) (w := n) (M := N) (H := mkH [(1, true, ⟨45, 4, [z0]⟩), (2, true, ⟨45, 4, [.Q out]⟩)]) (i := p) ho3 (by omega)
    simp only [mkH] at rp
    have lp := wN p hp
    obtain ⟨r, er⟩ : ∃ r, N.getD p [] = r := ⟨_, rfl⟩
    rw [er] at rp lp
    have lk : k < r.length := by omega
    by_cases hx : cf r k = 0
    ·have s1 : (sgI (cf r k).num == 0) = true := by rw [sgn_numQ]; exact decide_eq_true hx
     have d4 : (p : Int) + 1 = ((p + 1 : Nat) : Int) := by omega
     simp only [go_sem, d1, d2, d3, d4, c1, hp, lN, rp, lk, s1]
     refine ⟨⟨by omega, by omega⟩, ⟨p + 1, ⟨by omega, hp⟩, fun i h1 h2 => ?_⟩, Wk.ofR [0, 1, 2] (rid 3) rfl (by decide) (by simp) (thR_nodup (by decide) (fun a b ha hb e => by unfold rid at e; omega) (fun x hx a ha => by simp [rid] at hx ⊢; omega)) ?_ ?_ ?_ ?_ ?_, by simp only; omega⟩
     ·by_cases e : i = p
      ·rw [e, er]; exact hx
      ·exact hz i h1 (by omega)
     ·simp only [go_sem]
     ·simp only [go_sem]
     ·simp only [go_sem, matH_lo]
      exact rfl
     ·simp only [go_sem, matH_o]
      exact rfl
     ·intro j hj
      exact matH_row ho3 hj
    ·have s1 : (sgI (cf r k).num == 0) = false := by rw [sgn_numQ]; exact decide_eq_false hx
     have d5 : ((p : Int) == (n : Int)) = false := by simp; omega
     have q1 : qs out ≤ 5000000000000 := by omega
     have q2 : qs (cf r k) ≤ 5000000000000 := by have := pN5 p k; rw [er] at this; omega
     have q3 : qs out ≤ 12000000000000 := by omega
     have d6 : (k : Int) + 1 = ((k + 1 : Nat) : Int) := by omega
     -- the matrix with the pivot in its place
     obtain ⟨ρ, N2, o2, hρ, hρi, lN2, wN2, pN2, pv, po2, inv2, hsw⟩ : ∃ (ρ : Nat → Nat) (N2 : List (List Rat)) (o2 : Rat), (∀ i, i < n → ∃ j, j < n ∧ ρ i = rid 3 j ∧ N.getD j [] = N2.getD i []) ∧ (∀ i j, i < n → j < n → ρ i = ρ j → i = j) ∧ N2.length = n ∧ (∀ i, i < n → (N2.getD i []).length = n) ∧ (∀ i, PB (N2.getD i []) (eS S k)) ∧
      N2.getD k [] = r ∧ qs o2 ≤ eT S k ∧ o2 * det (n - k) (subM k N2) = det n (subM 0 M) ∧ ((p = k ∧ ρ = rid 3 ∧ o2 = out) ∨ (p ≠ k ∧ ρ = rhoX 3 k p ∧ o2 = -out)) := by
      by_cases hpk : p = k
      ·exact ⟨rid 3, N, out, fun i hi => ⟨i, hi, rfl, rfl⟩, fun i j _ _ e => by unfold rid at e; omega, lN, wN, pN, by rw [← hpk]; exact er, po, inv, .inl ⟨hpk, rfl, rfl⟩⟩
      ·have hs := sub_swap (M := N) (n := n) (Nat.le_of_eq lN.symm) (show k < p by omega) hp
       have g := swM_get (M := N) (k := k) (p := p) (by omega) (by omega)
       refine ⟨rhoX 3 k p, swM N k p, -out, fun i hi => ?_, fun i j _ _ e => ?_, by rw [swM_len]; exact lN, fun i hi => ?_, fun i => ?_, by rw [g, if_pos rfl]; exact er, by rw [qs_neg]; exact po, by rw [hs, ← inv]; grind, .inr ⟨hpk, rfl, rfl⟩⟩
       ·unfold rhoX
        by_cases h1 : i = k
        ·exact ⟨p, hp, by rw [if_pos h1], by rw [g, if_pos h1]⟩
        ·by_cases h2 : i = p
         ·exact ⟨k, hkn, by rw [if_neg h1, if_pos h2], by rw [g, if_neg h1, if_pos h2]⟩
         ·exact ⟨i, hi, by rw [if_neg h1, if_neg h2], by rw [g, if_neg h1, if_neg h2]⟩
       ·unfold rhoX rid at e
        split at e <;> split at e <;> (try split at e) <;> (try split at e) <;> omega
       ·rw [g]
        split
        ·exact wN p hp
        ·split
         ·exact wN k hkn
         ·exact wN i hi
       ·rw [g]
        split
        ·exact pN p
        ·split
         ·exact pN k
         ·exact pN i
     obtain ⟨c, ec⟩ : ∃ c, cf r k = c := ⟨_, rfl⟩
     rw [ec] at hx q2 s1
     have rN2 : ∀ i, i < n → N2.getD i [] = N2.getD i [] := fun _ _ => rfl
     have hO5 : qs (o2 * c) ≤ 2000000000000 := by
      have h1 := qs_mul o2 c
      have h2 := pN5 p k
      rw [er, ec] at h2
      have h3 := Nat.le_trans po2 (Nat.le_trans (eT_mono S hk) hT1)
      omega
     have E0 : ElS N2 n (eS S k) k (k + 1) N2 := ⟨lN2, wN2, rfl, fun j h1 h2 => by omega, fun _ _ => rfl, fun j => (pN2 j).mono (by omega), rfl⟩
     have pv0 : cf (N2.getD k []) k ≠ 0 := by rw [pv, ec]; exact hx
     rcases hsw with ⟨hpk, eρ, eo⟩ | ⟨hpk, eρ, eo⟩
     all_goals first
      | (have d7 : ((p : Int) != (k : Int)) = false := by rw [hpk]; simp
         have rk := rp
         rw [hpk] at rk
         simp only [go_sem, d1, d2, d3, d5, d6, d7, c1, hp, hkn, lN, rp, rk, lk, ec, s1, q1, q2, matH_lo]
         refine ⟨chk_map (rnm 3 n) (by simp only [List.map_cons, List.map_nil, mapF, rnm_row hkn, rnm_lo, Nat.reduceLT]; rfl), ⟨by omega, by omega⟩, ?_⟩)
      | (have d7 : ((p : Int) != (k : Int)) = true := by simp; omega
         have g1 : ((V.rwI 3 n n).set p (.sl (rid 3 k) 4 0 n))[k]? = some (.sl (rid 3 k) 4 0 n) := by
          rw [List.getElem?_set_ne (by omega)]
          exact rwG_get hkn
         have g2 := rwI_swap (b := 3) (w := n) hkn hp hpk
         have g3 : rhoX 3 k p k = rid 3 p := if_pos rfl
         have q4 : qs (-out) ≤ 5000000000000 := by rw [qs_neg]; omega
         simp only [go_sem, d1, d2, d3, d5, d6, d7, c1, hp, hkn, lN, rp, lk, ec, s1, q2, q3, q4, matH_lo, g1, g2, g3, rid_rl]
         refine ⟨chk_map (rnm 3 n) (by simp only [List.map_cons, List.map_nil, mapF, rnm_row hp, rnm_lo, Nat.reduceLT]; rfl), ⟨by omega, by omega⟩, ?_⟩)
     all_goals
      refine AWp.loops (X := { y : Nat × List (List Rat) // (k + 1 ≤ y.1 ∧ y.1 ≤ n) ∧ ElS N2 n (eS S k) k y.1 y.2 }) (fun y => mkR 0 3 29 45 n [(2, .ptr 1 4 0 0), (3, .raw (.int .i64 (n : Nat))), (4, .sl 0 1 0 n), (6, .ptr 2 4 0 0), (7, .raw (.int .i64 (k : Nat))), (10, .raw (.int .i64 (y.1.1 : Nat)))] [(1, true, ⟨45, 4, [z0]⟩), (2, true, ⟨45, 4, [.Q (o2 * c)]⟩)] y.1.2 139) (fun y => n - y.1.1) ⟨(k + 1, N2), ⟨Nat.le_refl _, hkn⟩, E0⟩ (Wk.ofR [0, 1, 2] ρ rfl (by decide) (by simp) (thR_nodup (by decide) (fun a b ha hb e => hρi a b (by rw [← lN2]; exact ha) (by rw [← lN2]; exact hb) e) (fun x hx' a ha => ?_)) ?_ ?_ ?_ ?_ ?_) ?_
      ·obtain ⟨j', _, e1, _⟩ := hρ a (by rw [← lN2]; exact ha)
       rw [e1]
       simp [rid] at hx' ⊢; omega
      ·simp only [go_sem]
      ·simp only [go_sem]
      ·simp only [go_sem, matH_lo, eo]
       exact rfl
      ·simp only [go_sem, matH_o, eρ, lN, lN2]
       first | done | exact rfl
      ·intro j hj
       obtain ⟨j', hj', e1, e2⟩ := hρ j (by rw [← lN2]; exact hj)
       have e4 := matH_row (o := 0) (b := 3) (tO := 29) (t := 45) (w := n) (M := N) (H := mkH [(1, true, ⟨45, 4, [z0]⟩), (2, true, ⟨45, 4, [.Q out]⟩)]) (i := j') ho3 (by omega)
       simp only [mkH] at e4
       rw [e1]
       simp only [go_sem, rid_rl, e4, e2]
      rintro ⟨⟨i, Z⟩, ⟨hki, hin⟩, hE⟩
      simp only at hki hin hE
      refine vc_atR T ?_
      simp only [hE.len]
      by_cases hil : i < n
      ·have f1 : (i : Int) < (n : Int) := by omega
       have f2 : 0 ≤ (i : Int) := by omega
       have rI := matH_row (o := 0) (b := 3) (tO := 29) (t := 45) (w := n) (M := Z) (H := mkH [(1, true, ⟨45, 4, [z0]⟩), (2, true, ⟨45, 4, [.Q (o2 * c)]⟩)]) (i := i) ho3 (by rw [hE.len]; omega)
       have rK := matH_row (o := 0) (b := 3) (tO := 29) (t := 45) (w := n) (M := Z) (H := mkH [(1, true, ⟨45, 4, [z0]⟩), (2, true, ⟨45, 4, [.Q (o2 * c)]⟩)]) (i := k) ho3 (by rw [hE.len]; omega)
       simp only [mkH] at rI rK
       have pvZ : Z.getD k [] = r := by rw [hE.piv, pv]
       rw [pvZ] at rK
       have lI := hE.wid i hil
       have rest := hE.rest i (Nat.le_refl _)
       have bI : ∀ x, qs (cf (Z.getD i []) x) ≤ eS S k := fun x => by rw [rest]; exact pN2 i x
       have S12 : eS S k ≤ 1000000000000 := Nat.le_trans (eS_mono S hk) hS1
       have bC : qs c ≤ eS S k := by rw [← ec, ← pv]; exact pN2 k k
       have bR : ∀ x, qs (cf r x) ≤ eS S k := fun x => by rw [← pv]; exact pN2 k x
       obtain ⟨ri, eri⟩ : ∃ l, Z.getD i [] = l := ⟨_, rfl⟩
       rw [eri] at rI lI bI
       have lkI : k < ri.length := by omega
       have h1 := bI k
       have h2 := qs_inv1 c bC
       have u1 : qs (cf ri k) ≤ 5000000000000 := by omega
       have u2 : qs (1 / c) ≤ 5000000000000 := by omega
       have hf0 : cf ri k * (1 / c) = elF Z k i := by unfold elF; rw [eri, pvZ, ec]
       have hiZ : i < n := hil
       have rw5 : ∀ s, (elR (elF Z k i) r ri k s).length = n := fun s => by rw [elR_len]; exact lI
       have gZ : ∀ l j, (Z.set i l).getD j [] = if j = i then l else Z.getD j [] := fun l j => gd_set (by rw [hE.len]; exact hil) l j
       have lZ5 : ∀ l, (Z.set i l).length = n := fun l => by rw [List.length_set]; exact hE.len
       have ho4 : (0 : Nat) < 4 := by decide
       simp only [go_sem, f1, f2, c1, d3, hil, hkn, hE.len, rI, rK, lkI, lk, ec, q2, u1, u2, matH_lo]
       refine ⟨chk_map (rnm 3 n) (by simp only [List.map_cons, List.map_nil, mapF, rnm_row hkn, rnm_row hil, rnm_new, rnm_lo, Nat.reduceLT, Nat.reduceAdd]; rfl), ?_⟩
       refine AWp.loops (X := { s : Nat // s ≤ n - k }) (fun s => mkR 0 4 29 45 n [(2, .ptr 1 4 0 0), (3, .raw (.int .i64 (n : Nat))), (4, .sl 0 1 0 n), (6, .ptr 2 4 0 0), (7, .raw (.int .i64 (k : Nat))), (10, .raw (.int .i64 (i : Nat))), (11, .ptr 3 4 0 0), (12, .raw (.int .i64 ((k + s.1 : Nat) : Int)))] [(1, true, ⟨45, 4, [z0]⟩), (2, true, ⟨45, 4, [.Q (o2 * c)]⟩), (3, true, ⟨45, 4, [.Q (elF Z k i)]⟩)] (Z.set i (elR (elF Z k i) r ri k s.1)) 139) (fun s => n - k - s.1) ⟨0, Nat.zero_le _⟩ (Wk.ofR [0, 1, 2, rid 3 n + 19] (rid 3) rfl (by decide) (by simp) (thR_nodup (by simp [rid]) (fun a b ha hb e => by unfold rid at e; omega) (fun x hx' a ha => ?_)) ?_ ?_ ?_ ?_ ?_) ?_
       ·rw [lZ5] at ha
        simp [rid] at hx' ⊢; omega
       ·simp only [go_sem]
       ·simp only [go_sem, Nat.add_zero]
       ·simp only [go_sem, matH_lo, rid_nn, rid_nl, hf0]
        exact rfl
       ·simp only [go_sem, matH_o, rid_nn, hE.len]
        exact rfl
       ·intro j hj
        rw [lZ5] at hj
        have e4 := matH_row (o := 0) (b := 3) (tO := 29) (t := 45) (w := n) (M := Z) (H := mkH [(1, true, ⟨45, 4, [z0]⟩), (2, true, ⟨45, 4, [.Q (o2 * c)]⟩)]) (i := j) ho3 (by rw [hE.len]; omega)
        simp only [mkH] at e4
        have e5 : (Z.set i (elR (elF Z k i) r ri k 0)).getD j [] = Z.getD j [] := by
         rw [gZ]
         split
         ·rename_i e; rw [e, eri]; rfl
         ·rfl
        simp only [go_sem, rid_rn, rid_rl, hj, e4, e5]
       rintro ⟨s, hs⟩
       refine vc_atR T ?_
       simp only [lZ5]
       by_cases hsl : k + s < n
       ·have e1 : ((k + s : Nat) : Int) < (n : Int) := by omega
        have e2 : 0 ≤ ((k + s : Nat) : Int) := by omega
        have e3 : ((k + s : Nat) : Int) + 1 = ((k + (s + 1) : Nat) : Int) := by omega
        obtain ⟨L, eL⟩ : ∃ L, elR (elF Z k i) r ri k s = L := ⟨_, rfl⟩
        have lL := rw5 s
        rw [eL] at lL
        have rI5 := matH_row (o := 0) (b := 4) (tO := 29) (t := 45) (w := n) (M := Z.set i L) (H := mkH [(1, true, ⟨45, 4, [z0]⟩), (2, true, ⟨45, 4, [.Q (o2 * c)]⟩), (3, true, ⟨45, 4, [.Q (elF Z k i)]⟩)]) (i := i) ho4 (by rw [lZ5]; exact hil)
        have rK5 := matH_row (o := 0) (b := 4) (tO := 29) (t := 45) (w := n) (M := Z.set i L) (H := mkH [(1, true, ⟨45, 4, [z0]⟩), (2, true, ⟨45, 4, [.Q (o2 * c)]⟩), (3, true, ⟨45, 4, [.Q (elF Z k i)]⟩)]) (i := k) ho4 (by rw [lZ5]; exact hkn)
        simp only [mkH] at rI5 rK5
        rw [gZ, if_pos rfl] at rI5
        rw [gZ, if_neg (by omega), pvZ] at rK5
        have lL2 : k + s < L.length := by omega
        have lr2 : k + s < r.length := by omega
        have cL : cf L (k + s) = cf ri (k + s) := by rw [← eL, elR_cf _ _ _ _ _ (by omega), if_neg (by omega)]
        have v1 : qs (cf L (k + s)) ≤ 5000000000000 := by rw [cL]; have := bI (k + s); omega
        have v2 : qs (elF Z k i) ≤ 5000000000000 := by
         rw [← hf0]
         have := qs_mul (cf ri k) (1 / c)
         omega
        have v3 : qs (cf r (k + s)) ≤ 5000000000000 := by have := bR (k + s); omega
        have v4 : qs (elF Z k i * cf r (k + s)) ≤ 5000000000000 := by
         have w1 := qs_mul (elF Z k i) (cf r (k + s))
         have w2 := bR (k + s)
         have w3 := qs_mul (cf ri k) (1 / c)
         rw [hf0] at w3
         omega
        have up5 : ∀ l, (matH 0 4 29 45 n (Z.set i L) ((((Hp.up (fun _ => none) 3 (some ⟨45, 4, [.Q (elF Z k i)]⟩)).up 2 (some ⟨45, 4, [.Q (o2 * c)]⟩)).up 1 (some ⟨45, 4, [z0]⟩)))).up (rid 4 i) (some ⟨45, 4, V.rats l⟩) = matH 0 4 29 45 n (Z.set i l) ((((Hp.up (fun _ => none) 3 (some ⟨45, 4, [.Q (elF Z k i)]⟩)).up 2 (some ⟨45, 4, [.Q (o2 * c)]⟩)).up 1 (some ⟨45, 4, [z0]⟩))) := fun l => by
         rw [matH_up ho4 (by rw [lZ5]; exact hil), List.set_set]
        have e6 : elR (elF Z k i) r ri k (s + 1) = L.set (k + s) (cf L (k + s) - elF Z k i * cf r (k + s)) := by rw [elR, eL]
        simp only [go_sem, eL, e1, e2, e3, f2, d3, hil, hkn, c1, f1, lZ5, rI5, rK5, lL2, lr2, v1, v2, v3, v4, matH_lo, up5]
        refine ⟨chk_map (rnm 4 n) (by simp only [List.map_cons, List.map_nil, mapF, rnm_row hkn, rnm_row hil, rnm_new, rnm_lo, Nat.reduceLT, Nat.reduceAdd]; rfl), ⟨by omega, by omega⟩, ⟨s + 1, by omega⟩, Wk.ofR [0, 1, 2, 3] (rid 4) rfl (by decide) (by simp) (thR_nodup (by decide) (fun a b ha hb e => by unfold rid at e; omega) (fun x hx' a ha => ?_)) ?_ ?_ ?_ ?_ ?_, by simp only; omega⟩
        ·simp [rid] at hx' ⊢; omega
        ·simp only [go_sem]
        ·simp only [go_sem]
        ·simp only [go_sem, matH_lo]
         exact rfl
        ·simp only [go_sem, matH_o]
         exact rfl
        ·intro j hj
         show matH _ _ _ _ _ _ _ (rid 4 j) = some ⟨_, 4, V.rats ((Z.set i (elR (elF Z k i) r ri k (s + 1))).getD j [])⟩
         rw [e6]
         exact matH_row ho4 (by rw [lZ5]; rw [lZ5] at hj; exact hj)
       ·obtain rfl : s = n - k := by omega
        have e1 : ¬ ((k + (n - k) : Nat) : Int) < (n : Int) := by omega
        have d8 : (i : Int) + 1 = ((i + 1 : Nat) : Int) := by omega
        have eZ : Z.set i (elR (elF Z k i) r ri k (n - k)) = elS Z k n i := by unfold elS; rw [eri, pvZ]
        simp only [go_sem, e1, d8, eZ]
        refine ⟨⟨by omega, by omega⟩, ⟨(i + 1, elS Z k n i), ⟨by omega, hil⟩, hE.step pN2 (by omega) hil pv0⟩, Wk.ofR [0, 1, 2] (rid 4) rfl (by decide) (by simp) (thR_nodup (by decide) (fun a b ha hb e => by unfold rid at e; omega) (fun x hx' a ha => ?_)) ?_ ?_ ?_ ?_ ?_, by simp only; omega⟩
        ·simp [rid] at hx' ⊢; omega
        ·simp only [go_sem]
        ·simp only [go_sem]
        ·simp only [go_sem, matH_lo]
         exact rfl
        ·simp only [go_sem, matH_o]
         exact rfl
        ·intro j hj
         exact matH_row ho4 hj
      ·obtain rfl : n = i := by omega
       have f1 : ¬ (n : Int) < (n : Int) := by omega
       simp only [go_sem, f1, d6]
       have bC : qs c ≤ eS S k := by rw [← ec, ← pv]; exact pN2 k k
       refine ⟨⟨by omega, by omega⟩, ⟨(k + 1, Z, o2 * c), hkn, hE.len, hE.wid, hE.pb, ?_, ?_⟩, Wk.ofR [0, 1, 2] (rid 3) rfl (by decide) (by simp) (thR_nodup (by decide) (fun a b ha hb e => by unfold rid at e; omega) (fun x hx' a ha => ?_)) ?_ ?_ ?_ ?_ ?_, by simp only; omega⟩
       ·have := qs_mul o2 c
        show qs (o2 * c) ≤ eT S k + eS S k
        omega
       ·have h1 := sub_pivot hkn hE.zero
        rw [hE.dt, hE.piv, pv, ec] at h1
        rw [← inv2, h1]
        grind
       ·simp [rid] at hx' ⊢; omega
       ·simp only [go_sem]
       ·simp only [go_sem]
       ·simp only [go_sem, matH_lo]
        exact rfl
       ·simp only [go_sem, matH_o]
        exact rfl
       ·intro j hj
        exact matH_row ho3 hj
   ·obtain rfl : n = p := by omega
    have d1 : ¬ (n : Int) < (n : Int) := by omega
    have d5 : ((n : Int) == (n : Int)) = true := by simp
    have h0 : det n (subM 0 M) = 0 := by rw [← inv, sub_none hkn hz]; grind
    have ez : z0 = .agg [.raw (.bool false), .raw (.slice none 0 0), .raw (.bool false), .raw (.slice none 0 0)] := rfl
    simp only [go_sem, d1, d5, matH_lo, h0, ez]
  ·obtain rfl : n = k := by omega
   have c1 : ¬ (n : Int) < (n : Int) := by omega
   have h0 : det n (subM 0 M) = out := by
    rw [← inv, Nat.sub_self]
    show out * 1 = out
    grind
   have ez : z0 = .agg [.raw (.bool false), .raw (.slice none 0 0), .raw (.bool false), .raw (.slice none 0 0)] := rfl
   simp only [go_sem, c1, matH_lo, h0, ez]
end Go.Proofs.YtfbogelmgdojgaaGreat


/- Monic factors of integer polynomials. No program in sight. -/
namespace Go.Proofs.YtfbogelmgdojgaaGreat
set_option linter.unusedSimpArgs false
set_option linter.unusedVariables false

def Prm (r : Nat) : Prop := 2 ≤ r ∧ ∀ x y : Int, (r : Int) ∣ x * y → (r : Int) ∣ x ∨ (r : Int) ∣ y
def IsI (x : Rat) : Prop := ∃ z : Int, x = (z : Rat)
def Dv (n : Nat) (x : Rat) : Prop := ∃ z : Int, x = ((n * z : Int) : Rat)
theorem IsI.add {x y : Rat} : IsI x → IsI y → IsI (x + y) := fun ⟨a, h⟩ ⟨b, g⟩ => ⟨a + b, by rw [h, g, Rat.intCast_add]⟩
theorem IsI.mul {x y : Rat} : IsI x → IsI y → IsI (x * y) := fun ⟨a, h⟩ ⟨b, g⟩ => ⟨a * b, by rw [h, g, Rat.intCast_mul]⟩
theorem IsI.sub {x y : Rat} : IsI x → IsI y → IsI (x - y) := fun ⟨a, h⟩ ⟨b, g⟩ => ⟨a - b, by rw [h, g, Rat.intCast_sub]⟩
theorem IsI.int (z : Int) : IsI (z : Rat) := ⟨z, rfl⟩
theorem Dv.sub {n : Nat} {x y : Rat} : Dv n x → Dv n y → Dv n (x - y) := fun ⟨a, h⟩ ⟨b, g⟩ => ⟨a - b, by rw [h, g, ← Rat.intCast_sub]; congr 1; rw [Int.mul_sub]⟩
theorem Dv.mul {n : Nat} {x y : Rat} : Dv n x → IsI y → Dv n (x * y) := fun ⟨a, h⟩ ⟨b, g⟩ => ⟨a * b, by rw [h, g, ← Rat.intCast_mul]; congr 1; rw [Int.mul_assoc]⟩
theorem intCast_inj {a b : Int} (h : (a : Rat) = (b : Rat)) : a = b := by exact_mod_cast h
theorem Prm.dv {r : Nat} (hr : Prm r) {x y : Rat} (hx : IsI x) (hy : IsI y) (h : Dv r (x * y)) : Dv r x ∨ Dv r y := by
 obtain ⟨a, rfl⟩ := hx
 obtain ⟨b, rfl⟩ := hy
 obtain ⟨z, h⟩ := h
 rw [← Rat.intCast_mul] at h
 rcases hr.2 a b ⟨z, intCast_inj h⟩ with ⟨w, e⟩ | ⟨w, e⟩
 ·exact .inl ⟨w, by rw [e]⟩
 ·exact .inr ⟨w, by rw [e]⟩
theorem IsI.den (x : Rat) : IsI ((x.den : Rat) * x) := ⟨x.num, by
 have h0 : (x.den : Rat) ≠ 0 := fun h => x.den_nz (by exact_mod_cast h)
 have h1 : x = (x.num : Rat) / (x.den : Rat) := by
  have := Rat.divInt_eq_div x.num (x.den : Int)
  rw [Rat.num_divInt_den] at this
  exact this
 have h2 : (x.den : Rat) * ((x.num : Rat) / (x.den : Rat)) = (x.num : Rat) := by
  rw [Rat.div_def, Rat.mul_comm, Rat.mul_assoc, Rat.inv_mul_cancel _ h0, Rat.mul_one]
 rw [← h1] at h2
 exact h2⟩
def Bd (M : Nat) (x : Rat) : Prop := -(M : Rat) ≤ x ∧ x ≤ (M : Rat)
theorem natR_le {m n : Nat} (h : m ≤ n) : (m : Rat) ≤ (n : Rat) := by exact_mod_cast h
theorem natR_add (m n : Nat) : ((m + n : Nat) : Rat) = (m : Rat) + (n : Rat) := by exact_mod_cast rfl
theorem Bd.mono {M N : Nat} {x : Rat} (h : Bd M x) (hn : M ≤ N) : Bd N x := by
 have := natR_le hn
 exact ⟨by have := h.1; grind, by have := h.2; grind⟩
theorem Bd.add {M N : Nat} {x y : Rat} (h : Bd M x) (g : Bd N y) : Bd (M + N) (x + y) := by
 obtain ⟨h1, h2⟩ := h
 obtain ⟨g1, g2⟩ := g
 unfold Bd
 rw [natR_add]
 exact ⟨by grind, by grind⟩
theorem Bd.neg {M : Nat} {x : Rat} (h : Bd M x) : Bd M (-x) := by
 obtain ⟨h1, h2⟩ := h
 exact ⟨by grind, by grind⟩
theorem Bd.sub {M N : Nat} {x y : Rat} (h : Bd M x) (g : Bd N y) : Bd (M + N) (x - y) := by
 rw [show x - y = x + -y from by grind]
 exact h.add g.neg
def sdv (k : Rat) : List Rat → List Rat
 | [] => []
 | _ :: l => addL l (scL k (sdv k l))
theorem sdv_len (k : Rat) : ∀ l : List Rat, (sdv k l).length = l.length - 1
 | [] => rfl
 | c :: l => by
   rw [sdv, len_addL, len_scL, sdv_len k l, List.length_cons]
   omega
theorem sdv_ev (k : Rat) (x : Rat) : ∀ l : List Rat, ev l x = ev l k + (x - k) * ev (sdv k l) x
 | [] => by show (0 : Rat) = 0 + (x - k) * 0; grind
 | c :: l => by
   have ih := sdv_ev k x l
   rw [sdv, ev_addL, ev_scL]
   show c + x * ev l x = c + k * ev l k + _
   grind
theorem IsI.nat (k : Nat) : IsI (k : Rat) := ⟨(k : Int), rfl⟩
theorem IsI.ev (k : Nat) : ∀ A : List Rat, (∀ i, IsI (cf A i)) → IsI (ev A (k : Rat))
 | [], _ => ⟨0, rfl⟩
 | _ :: A, h => (h 0).add ((IsI.nat k).mul (IsI.ev k A fun i => h (i + 1)))
end Go.Proofs.YtfbogelmgdojgaaGreat


/- The squarefree part of the characteristic polynomial divides every polynomial that vanishes at the residue. No program in sight. -/
namespace Go.Proofs.YtfbogelmgdojgaaGreat
set_option linter.unusedSimpArgs false
set_option linter.unusedVariables false

def sdP : List Rat → Nat → List Rat
 | [], _ => []
 | _ :: l, k => addL [cf l k] (0 :: sdP l k)
theorem sdP_ev (t : Rat) : ∀ (l : List Rat) (k : Nat), ev (sdP l k) t = cf (sdv t l) k
 | [], k => rfl
 | c :: l, k => by
   rw [sdP, sdv, ev_addL, cf_addL, cf_scL, ← sdP_ev t l k]
   show (cf l k + t * 0) + (0 + t * ev (sdP l k) t) = _
   grind
def dPl : Nat → (Nat → Nat → List Rat) → List Rat
 | 0, _ => [1]
 | n + 1, E => smP (n + 1) fun k => scL (sg k) (mulL (E 0 k) (dPl n fun i j => E (i + 1) (if j < k then j else j + 1)))
theorem dPl_ev (t : Rat) : ∀ (n : Nat) (E : Nat → Nat → List Rat), ev (dPl n E) t = det n (fun i j => ev (E i j) t)
 | 0, E => by show (1 : Rat) + t * 0 = 1; grind
 | n + 1, E => by
   rw [dPl, ev_smP, det]
   refine sm_congr fun k _ => ?_
   rw [ev_scL, ev_mulL, dPl_ev t n, Rat.mul_assoc]
   rfl
theorem cmp_sm {q a : List Rat} (hq : Can q) (q0 : q ≠ []) (j : Nat) : ∀ (l : List Rat) (n : Nat) (w : List Rat), l.length ≤ n → cf (pMod (pMul (cmpP a l) w) q) j = sm n (fun k => cf l k * cf (pMod (pMul (pwr a k) w) q) j)
 | [], n, w, _ => by
   rw [sm_zero fun k _ => by rw [cf_nil, Rat.zero_mul]]
   show cf (pMod (pMul [] w) q) j = 0
   rw [pMul_nil_l, (dm_small Can_nil hq (List.length_pos_iff.2 q0)).2]; rfl
 | c :: l, 0, w, h => by simp at h
 | c :: l, n + 1, w, h => by
   have ih := cmp_sm (a := a) hq q0 j l n (pMul a w) (by simpa using h)
   have e : pMul (cmpP a (c :: l)) w = pAdd (pMul (cmpP a l) (pMul a w)) (pSc c w) := ev_inj (can_pMul _ _) (can_pAdd _ _) fun x => by
    rw [cmpP, ev_pMul, ev_pAdd, ev_pMul, ev_tr, ev_sing, ev_pAdd, ev_pMul, ev_pMul, ev_pSc]; grind
   have e1 : pSc c w = pSc c (pMul (pwr a 0) w) := ev_inj (can_pSc _ _) (can_pSc _ _) fun x => by
    rw [ev_pSc, ev_pSc, ev_pMul, ev_pwr, Rat.pow_zero]; grind
   rw [e, mod_add (can_pMul _ _) (can_pSc _ _) hq q0, cf_pAdd, ih, sm_first, cf_zero, e1, mod_sc c (can_pMul _ _) hq q0, cf_pSc]
   have e2 : sm n (fun k => cf l k * cf (pMod (pMul (pwr a k) (pMul a w)) q) j) = sm n (fun i => cf (c :: l) (i + 1) * cf (pMod (pMul (pwr a (i + 1)) w) q) j) := sm_congr fun k _ => by
    rw [cf_succ, show pMul (pwr a k) (pMul a w) = pMul (pwr a (k + 1)) w from ev_inj (can_pMul _ _) (can_pMul _ _) fun x => by
     rw [ev_pMul, ev_pMul, ev_pMul, ev_pwr, ev_pwr, Rat.pow_succ]; grind]
   rw [e2]; grind
theorem cmpP_sm {q a : List Rat} (hq : Can q) (q0 : q ≠ []) (i j : Nat) (l : List Rat) (n : Nat) (h : l.length ≤ n) : MA q (cmpP a l) i j = sm n (fun k => cf l k * MA q (pwr a k) i j) := by
 unfold MA
 rw [show xs i (cmpP a l) = pMul (cmpP a l) (mon 1 i) from pMul_com _ _, cmp_sm hq q0 j l n _ h]
 exact sm_congr fun k _ => by rw [show xs i (pwr a k) = pMul (pwr a k) (mon 1 i) from pMul_com _ _]
theorem Nm_num {q : List Rat} (c : Rat) (hq : Can q) (h2 : 2 ≤ q.length) : Nm q (tr [c]) = c ^ (q.length - 1) := by
 have q0 : q ≠ [] := fun e => by rw [e] at h2; simp at h2
 rw [Nm_MA]
 have e : det (q.length - 1) (MA q (tr [c])) = det (q.length - 1) (fun i j => c * one i j) := (det_ML _).congr fun i hi j _ => by
  have e1 : xs i (tr [c]) = pSc c (mon 1 i) := ev_inj (can_xs _ _) (can_pSc _ _) fun x => by
   rw [ev_xs, ev_tr, ev_sing, ev_pSc, ev_mon]; grind
  have e2 : cf (mon 1 i) j = one i j := by
   unfold one
   by_cases e : i = j
   ·rw [if_pos e, e, mon_top]
   ·rw [if_neg e, mon_low _ _ _ (fun h => e h.symm)]
  unfold MA
  rw [e1, mod_sc c (mon_can i (by decide)) hq q0, cf_pSc, (dm_small (mon_can i (by decide)) hq (by rw [mon_len]; omega)).2, e2]
 rw [e, det_sc, det_one, Rat.mul_one]
theorem chi_dvd {q a m : List Rat} (hq : Can q) (ha : Can a) (h2 : 2 ≤ q.length) (h : atm q a m = []) : pDvd (chi q a) (pwr m (q.length - 1)) := by
 have q0 : q ≠ [] := fun e => by rw [e] at h2; simp at h2
 obtain ⟨k, ck, hk⟩ := (atm_dvd hq h2).1 h
 have key : ∀ t, ev m t ^ (q.length - 1) = ev (chi q a) t * Nm q (cmpP a (sdv t m)) := fun t => by
  rw [← chi_norm t hq ha h2, ← Nm_mul hq (can_pSub _ _) (can_cmpP _ _) q0, ← Nm_num (ev m t) hq h2]
  refine Nm_res (tr_can _) (can_pMul _ _) hq q0 (mod_congr (tr_can _) (can_pMul _ _) hq q0 ⟨k, ck, fun x => ?_⟩)
  have h1 := sdv_ev t (ev a x) m
  have h3 := hk x
  rw [ev_cmpP] at h3
  rw [ev_tr, ev_sing, ev_pMul, ev_pSub, ev_tr, ev_sing, ev_cmpP]
  grind
 refine ⟨tr (dPl (q.length - 1) fun i j => smP m.length fun k => scL (MA q (pwr a k) i j) (sdP m k)), tr_can _, fun t => ?_⟩
 rw [ev_pwr, key t, ev_tr, dPl_ev, Nm_MA, Rat.mul_comm]
 congr 1
 refine (det_ML _).congr fun i hi j _ => ?_
 rw [cmpP_sm hq q0 i j (sdv t m) m.length (by rw [sdv_len]; omega), ev_smP]
 exact sm_congr fun k _ => by rw [ev_scL, sdP_ev, Rat.mul_comm]
theorem rad_dvd {q a m : List Rat} (hq : Can q) (ha : Can a) (h2 : 2 ≤ q.length) (hm : Can m) {l : Fac} (hl : Good l) (hc : ∀ x, ev (chi q a) x = ev (PwL l) x) (h : atm q a m = []) : pDvd (PiL l) m := by
 have hd := chi_dvd hq ha h2 h
 refine PiL_dvd hl (fun y hy => ?_) hm
 obtain ⟨h1, h3⟩ := hl.mem y hy
 refine h1.pow hm _ (pDvd_trans ?_ hd)
 have h4 : pDvd y.1 (PwL l) := by
  clear hc hl
  induction l with
  | nil => cases hy
  | cons z l ih =>
    rcases List.mem_cons.1 hy with e | e
    ·subst e
     obtain ⟨n, hn⟩ : ∃ n, y.2 = n + 1 := ⟨y.2 - 1, by omega⟩
     refine ⟨pMul (pwr y.1 n) (PwL l), can_pMul _ _, fun x => ?_⟩
     rw [PwL, ev_pMul, ev_pMul, hn, ev_pwr, ev_pwr, Rat.pow_succ]; grind
    ·obtain ⟨k, ck, hk⟩ := ih e
     refine ⟨pMul (pwr z.1 z.2) k, can_pMul _ _, fun x => ?_⟩
     rw [PwL, ev_pMul, hk x, ev_pMul, Rat.mul_assoc]
 obtain ⟨k, ck, hk⟩ := h4
 exact ⟨k, ck, fun x => by rw [hc x, hk x]⟩
end Go.Proofs.YtfbogelmgdojgaaGreat


/- Cramer's rule; inverses of residues. No program in sight. -/
namespace Go.Proofs.YtfbogelmgdojgaaGreat
set_option linter.unusedSimpArgs false
set_option linter.unusedVariables false

theorem cramer {n : Nat} {M : Mat} {x e : Nat → Rat} (h : ∀ i, i < n → sm n (fun j => M i j * x j) = e i) {k : Nat} (hk : k < n) : det n (fun i j => if j = k then e i else M i j) = x k * det n M := by
 rw [← det_tp n (fun i j => if j = k then e i else M i j), ← det_tp n M]
 have e1 : det n (tp fun i j => if j = k then e i else M i j) = det n (upd (tp M) k fun i => sm n fun j => x j * tp M j i) := (det_ML n).congr fun i hi j hj => by
  unfold tp upd
  by_cases c : i = k
  ·subst c
   rw [if_pos rfl]
   show (if i = i then e j else M j i) = _
   rw [if_pos rfl, ← h j hj]
   exact sm_congr fun l _ => Rat.mul_comm _ _
  ·rw [if_neg c]
   show (if i = k then e j else M j i) = M j i
   rw [if_neg c]
 rw [e1, (det_ML n).sum (tp M) hk (fun j => tp M j) x n, sm_one k hk fun j hj hne => ?_]
 ·rw [upd_self]
 ·rw [(det_ML n).alt' (upd (tp M) k (tp M j)) hj hk hne (by rw [upd_same, upd_ne _ hne]), Rat.mul_zero]
theorem inv_cramer {q a s : List Rat} (hq : Can q) (h2 : 2 ≤ q.length) (hs : s.length ≤ q.length - 1) (h : pMod (pMul s a) q = [1]) {k : Nat} (hk : k < q.length - 1) :
 det (q.length - 1) (fun i j => if j = k then (if i = 0 then 1 else 0) else MA q a j i) = cf s k * Nm q a := by
 have q0 : q ≠ [] := fun e => by rw [e] at h2; simp at h2
 have h1 := cramer (n := q.length - 1) (M := fun i j => MA q a j i) (x := fun j => cf s j) (e := fun i => if i = 0 then 1 else 0) (fun i hi => by
  have h3 := MA_row (b := a) hq q0 hs i
  rw [h] at h3
  have e1 : cf [1] i = if i = 0 then (1 : Rat) else 0 := by
   cases i with
   | zero => rfl
   | succ i => rfl
  rw [← e1, h3]
  exact sm_congr fun j _ => Rat.mul_comm _ _) hk
 rw [h1, Nm_MA]
 congr 1
 exact det_tp _ (MA q a)
theorem det_MAt (q a : List Rat) : det (q.length - 1) (fun i j => MA q a j i) = Nm q a := by rw [Nm_MA]; exact det_tp _ (MA q a)
theorem inv_list {s : List Rat} {n : Nat} (hs : Can s) (hl : s.length ≤ n) {d : Rat} (d0 : d ≠ 0) {f : Nat → Rat} (hf : ∀ k, k < n → f k = cf s k * d) : tr ((List.range n).map fun k => f k / d) = s := by
 refine can_ext (tr_can _) hs fun j => ?_
 have e := cf_lsF (fun k => f k / d) n j
 unfold lsF at e
 rw [e]
 split
 ·rename_i h
  rw [hf j h, Rat.div_def, Rat.mul_assoc, Rat.mul_inv_cancel _ d0, Rat.mul_one]
 ·rw [cf_ge (by omega)]
end Go.Proofs.YtfbogelmgdojgaaGreat

