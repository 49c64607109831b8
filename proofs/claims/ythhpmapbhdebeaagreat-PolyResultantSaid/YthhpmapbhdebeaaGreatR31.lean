/- Texts H11 H12 in one. -/
import Derived.Test.YthhpmapbhdebeaaGreatR30
import Derived.Test.YthhpmapbhdebeaaGreatR28
import Derived.Test.YthhpmapbhdebeaaGreatR20
/- Contracts: the determinant of the reference. -/
namespace Go.Proofs.YthhpmapbhdebeaaGreat
set_option linter.unusedSimpArgs false
set_option linter.unusedVariables false
open Go.RowKit

def eS (S : Nat) : Nat → Nat
  | 0 => S
  | k + 1 => 4 * eS S k + 2
def eT (S : Nat) : Nat → Nat
  | 0 => 1
  | k + 1 => eT S k + eS S k
def DetOk (M : List (List Rat)) : Prop := (M.length ≤ 100 ∧ ∀ i, i < M.length → (M.getD i []).length = M.length) ∧ ∃ S, (∀ i, PB (M.getD i []) S) ∧ eS S M.length ≤ 1000000000000 ∧ eT S M.length ≤ 1000000000000
def kRDet : Con := con1 pMt fun M => (DetOk M, .Q (det M.length (subM 0 M)))
attribute [go_sem ↓, go_sem] kRDet
structure DtS (M0 : List (List Rat)) (n S k : Nat) (M : List (List Rat)) (out : Rat) : Prop where
  len : M.length = n
  wid : ∀ i, i < n → (M.getD i []).length = n
  pb : ∀ i, PB (M.getD i []) (eS S k)
  po : qs out ≤ eT S k
  inv : out * det (n - k) (subM k M) = det n (subM 0 M0)
theorem eS_mono (S : Nat) {j : Nat} : ∀ {k}, j ≤ k → eS S j ≤ eS S k
  | 0, h => by rw [show j = 0 from by omega]; exact Nat.le_refl _
  | k + 1, h => by
    by_cases e : j = k + 1
    · rw [e]; exact Nat.le_refl _
    · have := eS_mono S (j := j) (k := k) (by omega)
      rw [eS]; omega
theorem eT_mono (S : Nat) {j : Nat} : ∀ {k}, j ≤ k → eT S j ≤ eT S k
  | 0, h => by rw [show j = 0 from by omega]; exact Nat.le_refl _
  | k + 1, h => by
    by_cases e : j = k + 1
    · rw [e]; exact Nat.le_refl _
    · have := eT_mono S (j := j) (k := k) (by omega)
      rw [eT]; omega
/-- The rows below the pivot, cleared up to row i. -/
structure ElS (N : List (List Rat)) (n S k i : Nat) (Z : List (List Rat)) : Prop where
  len : Z.length = n
  wid : ∀ j, j < n → (Z.getD j []).length = n
  piv : Z.getD k [] = N.getD k []
  zero : ∀ j, k < j → j < i → cf (Z.getD j []) k = 0
  rest : ∀ j, i ≤ j → Z.getD j [] = N.getD j []
  pb : ∀ j, PB (Z.getD j []) (4 * S + 2)
  dt : det (n - k) (subM k Z) = det (n - k) (subM k N)
theorem ElS.step {N : List (List Rat)} {n S k i : Nat} {Z : List (List Rat)} (h : ElS N n S k i Z) (hN : ∀ j, PB (N.getD j []) S) (hk : k < i) (hi : i < n) (h0 : cf (N.getD k []) k ≠ 0) : ElS N n S k (i + 1) (elS Z k n i) := by
  obtain ⟨h1, h2, h3, h4, h5, h6, h7⟩ := h
  have hiZ : i < Z.length := by omega
  have g : ∀ j, (elS Z k n i).getD j [] = if j = i then elR (elF Z k i) (Z.getD k []) (Z.getD i []) k (n - k) else Z.getD j [] := elS_get hiZ
  refine ⟨by rw [elS_len]; exact h1, fun j hj => ?_, ?_, fun j hj1 hj2 => ?_, fun j hj => ?_, fun j => ?_, ?_⟩
  · rw [g]
    split
    · rw [elR_len]; exact h2 i hi
    · exact h2 j hj
  · rw [g, if_neg (by omega), h3]
  · by_cases e : j = i
    · subst e
      exact el_zero (by omega) hiZ (Nat.le_of_eq (h2 j hi).symm) (by rw [h3]; exact h0)
    · rw [g, if_neg e]
      exact h4 j hj1 (by omega)
  · rw [g, if_neg (by omega)]
    exact h5 j (by omega)
  · rw [g]
    split
    · intro c
      rw [elR_cf _ _ _ _ _ (by rw [h2 i hi]; omega)]
      have a1 := hN i c
      have a2 := hN i k
      have a3 := hN k c
      have a4 := hN k k
      rw [h5 i (Nat.le_refl i), h3]
      split
      · unfold elF
        rw [h5 i (Nat.le_refl i), h3]
        have b1 := qs_inv1 (cf (N.getD k []) k) a4
        have b2 := qs_mul (cf (N.getD i []) k) (1 / cf (N.getD k []) k)
        have b3 := qs_mul (cf (N.getD i []) k * (1 / cf (N.getD k []) k)) (cf (N.getD k []) c)
        have b4 := qs_sub (cf (N.getD i []) c) (cf (N.getD i []) k * (1 / cf (N.getD k []) k) * cf (N.getD k []) c)
        omega
      · omega
    · exact h6 j
  · rw [← h7]
    exact sub_el (Nat.le_of_eq h1.symm) hk hi (Nat.le_of_eq (h2 i hi).symm)
def rhoX (b k p j : Nat) : Nat := if j = k then rid b p else if j = p then rid b k else rid b j
theorem rwI_swap {b w n k p : Nat} (hk : k < n) (hp : p < n) (hne : p ≠ k) : ((V.rwI b w n).set p (.sl (rid b k) 4 0 w)).set k (.sl (rid b p) 4 0 w) = V.rwG (rhoX b k p) w n := by
  refine List.ext_getElem? fun j => ?_
  rw [List.getElem?_set, List.getElem?_set, List.length_set, rwI_len]
  by_cases hj : j < n
  · rw [rwG_get hj]
    unfold rhoX
    by_cases h1 : k = j
    · have e1 : j = k := h1.symm
      rw [if_pos h1, if_pos hk, if_pos e1]
    · have e1 : ¬ j = k := fun e => h1 e.symm
      rw [if_neg h1, if_neg e1]
      by_cases h2 : p = j
      · have e2 : j = p := h2.symm
        rw [if_pos h2, if_pos hp, if_pos e2]
      · have e2 : ¬ j = p := fun e => h2 e.symm
        rw [if_neg h2, if_neg e2]
        exact rwG_get hj
  · rw [if_neg (show ¬ k = j by omega), if_neg (show ¬ p = j by omega), List.getElem?_eq_none (by rw [rwI_len]; omega), List.getElem?_eq_none (by rw [rwG_len]; omega)]
/-- New names for rows of which the last is k. -/
def rhoS (b i k : Nat) (j : Nat) : Nat := if j < i then rid b j else k
theorem rwI_snoc (b w i k : Nat) : V.rwI b w i ++ [.sl k 4 0 w] = V.rwG (rhoS b i k) w (i + 1) := by
  unfold V.rwI V.rwG
  rw [List.range_succ, List.map_append]
  congr 1
  · refine List.map_congr_left fun j hj => ?_
    rw [List.mem_range] at hj
    unfold rhoS
    rw [if_pos hj]
  · show _ = [V.sl (rhoS b i k i) 4 0 w]
    unfold rhoS
    rw [if_neg (Nat.lt_irrefl i)]
theorem thR_nodup {θ : List Nat} {ρ : Nat → Nat} {n : Nat} (h1 : θ.Nodup) (h2 : ∀ i j, i < n → j < n → ρ i = ρ j → i = j) (h3 : ∀ x ∈ θ, ∀ i, i < n → x ≠ ρ i) : (thR θ ρ n).Nodup := by
  unfold thR
  rw [List.nodup_append]
  refine ⟨h1, ?_, fun a ha b hb => ?_⟩
  · unfold List.Nodup
    rw [List.pairwise_map]
    refine List.Pairwise.imp_of_mem ?_ (List.nodup_range (n := n))
    intro a b ha hb hne he
    exact hne (h2 a b (List.mem_range.1 ha) (List.mem_range.1 hb) he)
  · obtain ⟨i, hi, rfl⟩ := List.mem_map.1 hb
    exact h3 a ha i (List.mem_range.1 hi)
set_option maxRecDepth 8000 in
set_option maxHeartbeats 4000000 in
theorem rDet_C : Ctr Tryz.prog 69 kRDet := Ctr.c1 (by kernel_rfl) fun M h => by
  obtain ⟨⟨hn, hw⟩, S, hS, hS1, hT1⟩ := h
  show PCall _ _ _ (.Q (det M.length (subM 0 M)))
  have T := (tabs mixed (tbl_cons rZero_C (tbl_cons rOne_C (tbl_cons r2Sign_C (tbl_cons r2Neg_C (tbl_cons r2Mul_C (tbl_cons r2Sub_C (tbl_cons rInv_C tbl_nil))))))))
  have mx : maxLen = 9223372036854775807 := by decide
  refine PCall.of_vc T Tryz.func69 rfl Tryz.ntmps69 Tryz.results69 (by simp) ?_
  obtain ⟨n, en⟩ : ∃ n, M.length = n := ⟨_, rfl⟩
  rw [en] at hn hw hS1 hT1 ⊢
  simp only [go_sem, en]
  have lt : ∀ i, i ≤ n → (M.take i).length = i := fun i hi => by rw [List.length_take, en]; omega
  refine AWp.loops (X := { i : Nat // i ≤ n }) (fun i => mkR 0 2 32 51 n [(0, .lst (V.mat M)), (2, .ptr 1 4 0 0), (3, .raw (.int .i64 (n : Nat))), (4, .sl 0 1 0 i.1), (5, .raw (.int .i64 (i.1 : Nat)))] [(1, true, ⟨51, 4, [z0]⟩)] (M.take i.1) 139) (fun i => n - i.1) ⟨0, Nat.zero_le _⟩ (Wk.ofR [4, 0] (fun _ => 0) rfl (by decide) (by simp) (thR_nodup (by decide) (fun i j hi => by simp at hi) (fun x hx i hi => by simp at hi)) ?_ ?_ ?_ ?_ ?_) ?_
  · simp only [go_sem]
  · simp only [go_sem]
  · simp only [go_sem]
    exact ⟨rfl, rfl⟩
  · have e0 : V.rwG (fun _ => 0) n 0 = [] := rfl
    simp only [go_sem, List.take_zero, e0]
  · intro i hi
    simp at hi
  rintro ⟨i, hi⟩
  refine vc_atR T ?_
  rw [lt i hi]
  by_cases hin : i < n
  · have c1 : (i : Int) < (n : Int) := by omega
    have c2 : (i : Int) + 1 = ((i + 1 : Nat) : Int) := by omega
    have c3 : 0 ≤ (i : Int) := by omega
    have hiM : i < M.length := by omega
    obtain ⟨r, er⟩ : ∃ r, M.getD i [] = r := ⟨_, rfl⟩
    have lr : r.length = n := by rw [← er]; exact hw i hin
    simp only [go_sem, c1, c2, c3, hiM, er, mx]
    refine ⟨by omega, ⟨by omega, by omega⟩, by omega, ⟨by omega, by omega⟩, ⟨by omega, by omega⟩, ⟨i + 1, hin⟩, Wk.ofR [rid 2 i + 11, 1] (rhoS 2 i (rid 2 i + 9)) rfl (by decide) (by simp) (thR_nodup (by simp [rid]) (fun a b ha hb e => ?_) (fun x hx a ha => ?_)) ?_ ?_ ?_ ?_ ?_, by simp only; omega⟩
    · simp only [lt (i + 1) hin] at ha hb
      unfold rhoS rid at e
      split at e <;> split at e <;> omega
    · simp only [lt (i + 1) hin] at ha
      unfold rhoS rid
      simp [rid] at hx
      split <;> omega
    · simp only [go_sem]
    · simp only [go_sem]
    · simp only [go_sem, rid_nn, matH_lo]
      exact rfl
    · have e1 : (V.rwI 2 n (min i M.length)).take i ++ [V.sl (rid 2 i + 9) 4 0 r.length] = V.rwG (rhoS 2 i (rid 2 i + 9)) n (min (i + 1) M.length) := by
        rw [Nat.min_eq_left (by omega), Nat.min_eq_left (by omega), List.take_of_length_le (by rw [rwI_len]; exact Nat.le_refl _), lr, rwI_snoc]
      simp only [go_sem, e1]
    · intro j hj
      simp only [lt (i + 1) hin] at hj
      have e1 : (M.take (i + 1)).getD j [] = M.getD j [] := by
        rw [List.getD_eq_getElem?_getD, List.getD_eq_getElem?_getD, List.getElem?_take, if_pos hj]
      by_cases hji : j < i
      · have e2 : (M.take i).getD j [] = M.getD j [] := by
          rw [List.getD_eq_getElem?_getD, List.getD_eq_getElem?_getD, List.getElem?_take, if_pos hji]
        have e3 : rhoS 2 i (rid 2 i + 9) j = rid 2 j := if_pos hji
        have e4 := matH_row (o := 0) (b := 2) (tO := 32) (t := 51) (w := n) (M := M.take i) (H := mkH [(1, true, ⟨51, 4, [z0]⟩)]) (i := j) (by decide) (by rw [lt i hi]; exact hji)
        rw [e2] at e4
        simp only [mkH] at e4
        simp only [go_sem, e1, e3, rid_rn, rid_rl, hji, e4]
      · obtain rfl : j = i := by omega
        have e3 : rhoS 2 j (rid 2 j + 9) j = rid 2 j + 9 := if_neg (Nat.lt_irrefl j)
        simp only [go_sem, e1, e3, rid_nl, rid_cc, er]
  · obtain rfl : n = i := by omega
    have c1 : ¬ (n : Int) < (n : Int) := by omega
    have tM : M.take n = M := List.take_of_length_le (by omega)
    simp only [go_sem, c1, tM]
    refine AWp.loops (X := { x : Nat × List (List Rat) × Rat // x.1 ≤ n ∧ DtS M n S x.1 x.2.1 x.2.2 }) (fun x => mkR 0 3 32 51 n [(2, .ptr 1 4 0 0), (3, .raw (.int .i64 (n : Nat))), (4, .sl 0 1 0 n), (6, .ptr 2 4 0 0), (7, .raw (.int .i64 (x.1.1 : Nat)))] [(1, true, ⟨51, 4, [z0]⟩), (2, true, ⟨51, 4, [.Q x.1.2.2]⟩)] x.1.2.1 139) (fun x => n - x.1.1) ⟨(0, M, 1), Nat.zero_le _, en, hw, hS, qs_1, by show (1 : Rat) * _ = _; rw [Nat.sub_zero]; grind⟩ (Wk.ofR [0, 1, rid 2 n + 4] (rid 2) rfl (by decide) (by simp) (thR_nodup (by simp [rid]) (fun a b ha hb e => by unfold rid at e; omega) (fun x hx a ha => by simp only [en] at ha; simp [rid] at hx ⊢; omega)) ?_ ?_ ?_ ?_ ?_) ?_
    · simp only [go_sem]
    · simp only [go_sem]
    · simp only [go_sem, rid_nn, matH_lo]
      exact rfl
    · simp only [go_sem, rid_nn, matH_o]
      exact rfl
    · intro j hj
      have hj' : j < n := by rw [← en]; exact hj
      have e4 := matH_row (o := 0) (b := 2) (tO := 32) (t := 51) (w := n) (M := M) (H := mkH [(1, true, ⟨51, 4, [z0]⟩)]) (i := j) (by decide) hj
      simp only [mkH] at e4
      simp only [go_sem, rid_rn, rid_rl, hj', e4]
    rintro ⟨⟨k, N, out⟩, hk, hD⟩
    simp only at hk hD
    obtain ⟨lN, wN, pN, po, inv⟩ := hD
    refine vc_atR T ?_
    have po5 : qs out ≤ 1000000000000 := Nat.le_trans po (Nat.le_trans (eT_mono S hk) hT1)
    have pN5 : ∀ i, PB (N.getD i []) 1000000000000 := fun i => (pN i).mono (Nat.le_trans (eS_mono S hk) hS1)
    have ho3 : (0 : Nat) < 3 := by decide
    by_cases hkn : k < n
    · have c1 : (k : Int) < (n : Int) := by omega
      simp only [go_sem, c1, lN]
      refine AWp.loops (X := { p : Nat // (k ≤ p ∧ p ≤ n) ∧ ∀ i, k ≤ i → i < p → cf (N.getD i []) k = 0 }) (fun p => mkR 0 3 32 51 n [(2, .ptr 1 4 0 0), (3, .raw (.int .i64 (n : Nat))), (4, .sl 0 1 0 n), (6, .ptr 2 4 0 0), (7, .raw (.int .i64 (k : Nat))), (8, .raw (.int .i64 (p.1 : Nat)))] [(1, true, ⟨51, 4, [z0]⟩), (2, true, ⟨51, 4, [.Q out]⟩)] N 139) (fun p => n - p.1) ⟨k, ⟨Nat.le_refl _, hk⟩, fun i h1 h2 => by omega⟩ (Wk.ofR [0, 1, 2] (rid 3) rfl (by decide) (by simp) (thR_nodup (by decide) (fun a b ha hb e => by unfold rid at e; omega) (fun x hx a ha => by simp [rid] at hx ⊢; omega)) ?_ ?_ ?_ ?_ ?_) ?_
      · simp only [go_sem]
      · simp only [go_sem]
      · simp only [go_sem, matH_lo]
        exact rfl
      · simp only [go_sem, matH_o]
        exact rfl
      · intro j hj
        exact matH_row ho3 hj
      rintro ⟨p, ⟨hkp, hpn⟩, hz⟩
      refine vc_atR T ?_
      simp only [lN]
      by_cases hp : p < n
      · have d1 : (p : Int) < (n : Int) := by omega
        have d2 : 0 ≤ (p : Int) := by omega
        have d3 : 0 ≤ (k : Int) := by omega
        have rp := matH_row (o := 0) (b := 3) (tO := 32) (t := 51) (w := n) (M := N) (H := mkH [(1, true, ⟨51, 4, [z0]⟩), (2, true, ⟨51, 4, [.Q out]⟩)]) (i := p) ho3 (by omega)
        simp only [mkH] at rp
        have lp := wN p hp
        obtain ⟨r, er⟩ : ∃ r, N.getD p [] = r := ⟨_, rfl⟩
        rw [er] at rp lp
        have lk : k < r.length := by omega
        by_cases hx : cf r k = 0
        · have s1 : (sgI (cf r k).num == 0) = true := by rw [sgn_numQ]; exact decide_eq_true hx
          have d4 : (p : Int) + 1 = ((p + 1 : Nat) : Int) := by omega
          simp only [go_sem, d1, d2, d3, d4, c1, hp, lN, rp, lk, s1]
          refine ⟨⟨by omega, by omega⟩, ⟨p + 1, ⟨by omega, hp⟩, fun i h1 h2 => ?_⟩, Wk.ofR [0, 1, 2] (rid 3) rfl (by decide) (by simp) (thR_nodup (by decide) (fun a b ha hb e => by unfold rid at e; omega) (fun x hx a ha => by simp [rid] at hx ⊢; omega)) ?_ ?_ ?_ ?_ ?_, by simp only; omega⟩
          · by_cases e : i = p
            · rw [e, er]; exact hx
            · exact hz i h1 (by omega)
          · simp only [go_sem]
          · simp only [go_sem]
          · simp only [go_sem, matH_lo]
            exact rfl
          · simp only [go_sem, matH_o]
            exact rfl
          · intro j hj
            exact matH_row ho3 hj
        · have s1 : (sgI (cf r k).num == 0) = false := by rw [sgn_numQ]; exact decide_eq_false hx
          have d5 : ((p : Int) == (n : Int)) = false := by simp; omega
          have q1 : qs out ≤ 5000000000000 := by omega
          have q2 : qs (cf r k) ≤ 5000000000000 := by have := pN5 p k; rw [er] at this; omega
          have q3 : qs out ≤ 12000000000000 := by omega
          have d6 : (k : Int) + 1 = ((k + 1 : Nat) : Int) := by omega
          -- the matrix with the pivot in its place
          obtain ⟨ρ, N2, o2, hρ, hρi, lN2, wN2, pN2, pv, po2, inv2, hsw⟩ : ∃ (ρ : Nat → Nat) (N2 : List (List Rat)) (o2 : Rat), (∀ i, i < n → ∃ j, j < n ∧ ρ i = rid 3 j ∧ N.getD j [] = N2.getD i []) ∧ (∀ i j, i < n → j < n → ρ i = ρ j → i = j) ∧ N2.length = n ∧ (∀ i, i < n → (N2.getD i []).length = n) ∧ (∀ i, PB (N2.getD i []) (eS S k)) ∧
              N2.getD k [] = r ∧ qs o2 ≤ eT S k ∧ o2 * det (n - k) (subM k N2) = det n (subM 0 M) ∧ ((p = k ∧ ρ = rid 3 ∧ o2 = out) ∨ (p ≠ k ∧ ρ = rhoX 3 k p ∧ o2 = -out)) := by
            by_cases hpk : p = k
            · exact ⟨rid 3, N, out, fun i hi => ⟨i, hi, rfl, rfl⟩, fun i j _ _ e => by unfold rid at e; omega, lN, wN, pN, by rw [← hpk]; exact er, po, inv, .inl ⟨hpk, rfl, rfl⟩⟩
            · have hs := sub_swap (M := N) (n := n) (Nat.le_of_eq lN.symm) (show k < p by omega) hp
              have g := swM_get (M := N) (k := k) (p := p) (by omega) (by omega)
              refine ⟨rhoX 3 k p, swM N k p, -out, fun i hi => ?_, fun i j _ _ e => ?_, by rw [swM_len]; exact lN, fun i hi => ?_, fun i => ?_, by rw [g, if_pos rfl]; exact er, by rw [qs_neg]; exact po, by rw [hs, ← inv]; grind, .inr ⟨hpk, rfl, rfl⟩⟩
              · unfold rhoX
                by_cases h1 : i = k
                · exact ⟨p, hp, by rw [if_pos h1], by rw [g, if_pos h1]⟩
                · by_cases h2 : i = p
                  · exact ⟨k, hkn, by rw [if_neg h1, if_pos h2], by rw [g, if_neg h1, if_pos h2]⟩
                  · exact ⟨i, hi, by rw [if_neg h1, if_neg h2], by rw [g, if_neg h1, if_neg h2]⟩
              · unfold rhoX rid at e
                split at e <;> split at e <;> (try split at e) <;> (try split at e) <;> omega
              · rw [g]
                split
                · exact wN p hp
                · split
                  · exact wN k hkn
                  · exact wN i hi
              · rw [g]
                split
                · exact pN p
                · split
                  · exact pN k
                  · exact pN i
          obtain ⟨c, ec⟩ : ∃ c, cf r k = c := ⟨_, rfl⟩
          rw [ec] at hx q2 s1
          have rN2 : ∀ i, i < n → N2.getD i [] = N2.getD i [] := fun _ _ => rfl
          have hO5 : qs (o2 * c) ≤ 2000000000000 := by
            have h1 := qs_mul o2 c
            have h2 := pN5 p k
            rw [er, ec] at h2
            have h3 := Nat.le_trans po2 (Nat.le_trans (eT_mono S hk) hT1)
            omega
          have E0 : ElS N2 n (eS S k) k (k + 1) N2 := ⟨lN2, wN2, rfl, fun j h1 h2 => by omega, fun _ _ => rfl, fun j => (pN2 j).mono (by omega), rfl⟩
          have pv0 : cf (N2.getD k []) k ≠ 0 := by rw [pv, ec]; exact hx
          rcases hsw with ⟨hpk, eρ, eo⟩ | ⟨hpk, eρ, eo⟩
          all_goals first
            | (have d7 : ((p : Int) != (k : Int)) = false := by rw [hpk]; simp
               have rk := rp
               rw [hpk] at rk
               simp only [go_sem, d1, d2, d3, d5, d6, d7, c1, hp, hkn, lN, rp, rk, lk, ec, s1, q1, q2, matH_lo]
               refine ⟨chk_map (rnm 3 n) (by simp only [List.map_cons, List.map_nil, mapF, rnm_row hkn, rnm_lo, Nat.reduceLT]; rfl), ⟨by omega, by omega⟩, ?_⟩)
            | (have d7 : ((p : Int) != (k : Int)) = true := by simp; omega
               have g1 : ((V.rwI 3 n n).set p (.sl (rid 3 k) 4 0 n))[k]? = some (.sl (rid 3 k) 4 0 n) := by
                 rw [List.getElem?_set_ne (by omega)]
                 exact rwG_get hkn
               have g2 := rwI_swap (b := 3) (w := n) hkn hp hpk
               have g3 : rhoX 3 k p k = rid 3 p := if_pos rfl
               have q4 : qs (-out) ≤ 5000000000000 := by rw [qs_neg]; omega
               simp only [go_sem, d1, d2, d3, d5, d6, d7, c1, hp, hkn, lN, rp, lk, ec, s1, q2, q3, q4, matH_lo, g1, g2, g3, rid_rl]
               refine ⟨chk_map (rnm 3 n) (by simp only [List.map_cons, List.map_nil, mapF, rnm_row hp, rnm_lo, Nat.reduceLT]; rfl), ⟨by omega, by omega⟩, ?_⟩)
          all_goals
            refine AWp.loops (X := { y : Nat × List (List Rat) // (k + 1 ≤ y.1 ∧ y.1 ≤ n) ∧ ElS N2 n (eS S k) k y.1 y.2 }) (fun y => mkR 0 3 32 51 n [(2, .ptr 1 4 0 0), (3, .raw (.int .i64 (n : Nat))), (4, .sl 0 1 0 n), (6, .ptr 2 4 0 0), (7, .raw (.int .i64 (k : Nat))), (10, .raw (.int .i64 (y.1.1 : Nat)))] [(1, true, ⟨51, 4, [z0]⟩), (2, true, ⟨51, 4, [.Q (o2 * c)]⟩)] y.1.2 139) (fun y => n - y.1.1) ⟨(k + 1, N2), ⟨Nat.le_refl _, hkn⟩, E0⟩ (Wk.ofR [0, 1, 2] ρ rfl (by decide) (by simp) (thR_nodup (by decide) (fun a b ha hb e => hρi a b (by rw [← lN2]; exact ha) (by rw [← lN2]; exact hb) e) (fun x hx' a ha => ?_)) ?_ ?_ ?_ ?_ ?_) ?_
            · obtain ⟨j', _, e1, _⟩ := hρ a (by rw [← lN2]; exact ha)
              rw [e1]
              simp [rid] at hx' ⊢; omega
            · simp only [go_sem]
            · simp only [go_sem]
            · simp only [go_sem, matH_lo, eo]
              exact rfl
            · simp only [go_sem, matH_o, eρ, lN, lN2]
              first | done | exact rfl
            · intro j hj
              obtain ⟨j', hj', e1, e2⟩ := hρ j (by rw [← lN2]; exact hj)
              have e4 := matH_row (o := 0) (b := 3) (tO := 32) (t := 51) (w := n) (M := N) (H := mkH [(1, true, ⟨51, 4, [z0]⟩), (2, true, ⟨51, 4, [.Q out]⟩)]) (i := j') ho3 (by omega)
              simp only [mkH] at e4
              rw [e1]
              simp only [go_sem, rid_rl, e4, e2]
            rintro ⟨⟨i, Z⟩, ⟨hki, hin⟩, hE⟩
            simp only at hki hin hE
            refine vc_atR T ?_
            simp only [hE.len]
            by_cases hil : i < n
            · have f1 : (i : Int) < (n : Int) := by omega
              have f2 : 0 ≤ (i : Int) := by omega
              have rI := matH_row (o := 0) (b := 3) (tO := 32) (t := 51) (w := n) (M := Z) (H := mkH [(1, true, ⟨51, 4, [z0]⟩), (2, true, ⟨51, 4, [.Q (o2 * c)]⟩)]) (i := i) ho3 (by rw [hE.len]; omega)
              have rK := matH_row (o := 0) (b := 3) (tO := 32) (t := 51) (w := n) (M := Z) (H := mkH [(1, true, ⟨51, 4, [z0]⟩), (2, true, ⟨51, 4, [.Q (o2 * c)]⟩)]) (i := k) ho3 (by rw [hE.len]; omega)
              simp only [mkH] at rI rK
              have pvZ : Z.getD k [] = r := by rw [hE.piv, pv]
              rw [pvZ] at rK
              have lI := hE.wid i hil
              have rest := hE.rest i (Nat.le_refl _)
              have bI : ∀ x, qs (cf (Z.getD i []) x) ≤ eS S k := fun x => by rw [rest]; exact pN2 i x
              have S12 : eS S k ≤ 1000000000000 := Nat.le_trans (eS_mono S hk) hS1
              have bC : qs c ≤ eS S k := by rw [← ec, ← pv]; exact pN2 k k
              have bR : ∀ x, qs (cf r x) ≤ eS S k := fun x => by rw [← pv]; exact pN2 k x
              obtain ⟨ri, eri⟩ : ∃ l, Z.getD i [] = l := ⟨_, rfl⟩
              rw [eri] at rI lI bI
              have lkI : k < ri.length := by omega
              have h1 := bI k
              have h2 := qs_inv1 c bC
              have u1 : qs (cf ri k) ≤ 5000000000000 := by omega
              have u2 : qs (1 / c) ≤ 5000000000000 := by omega
              have hf0 : cf ri k * (1 / c) = elF Z k i := by unfold elF; rw [eri, pvZ, ec]
              have hiZ : i < n := hil
              have rw5 : ∀ s, (elR (elF Z k i) r ri k s).length = n := fun s => by rw [elR_len]; exact lI
              have gZ : ∀ l j, (Z.set i l).getD j [] = if j = i then l else Z.getD j [] := fun l j => gd_set (by rw [hE.len]; exact hil) l j
              have lZ5 : ∀ l, (Z.set i l).length = n := fun l => by rw [List.length_set]; exact hE.len
              have ho4 : (0 : Nat) < 4 := by decide
              simp only [go_sem, f1, f2, c1, d3, hil, hkn, hE.len, rI, rK, lkI, lk, ec, q2, u1, u2, matH_lo]
              refine ⟨chk_map (rnm 3 n) (by simp only [List.map_cons, List.map_nil, mapF, rnm_row hkn, rnm_row hil, rnm_new, rnm_lo, Nat.reduceLT, Nat.reduceAdd]; rfl), ?_⟩
              refine AWp.loops (X := { s : Nat // s ≤ n - k }) (fun s => mkR 0 4 32 51 n [(2, .ptr 1 4 0 0), (3, .raw (.int .i64 (n : Nat))), (4, .sl 0 1 0 n), (6, .ptr 2 4 0 0), (7, .raw (.int .i64 (k : Nat))), (10, .raw (.int .i64 (i : Nat))), (11, .ptr 3 4 0 0), (12, .raw (.int .i64 ((k + s.1 : Nat) : Int)))] [(1, true, ⟨51, 4, [z0]⟩), (2, true, ⟨51, 4, [.Q (o2 * c)]⟩), (3, true, ⟨51, 4, [.Q (elF Z k i)]⟩)] (Z.set i (elR (elF Z k i) r ri k s.1)) 139) (fun s => n - k - s.1) ⟨0, Nat.zero_le _⟩ (Wk.ofR [0, 1, 2, rid 3 n + 19] (rid 3) rfl (by decide) (by simp) (thR_nodup (by simp [rid]) (fun a b ha hb e => by unfold rid at e; omega) (fun x hx' a ha => ?_)) ?_ ?_ ?_ ?_ ?_) ?_
              · rw [lZ5] at ha
                simp [rid] at hx' ⊢; omega
              · simp only [go_sem]
              · simp only [go_sem, Nat.add_zero]
              · simp only [go_sem, matH_lo, rid_nn, rid_nl, hf0]
                exact rfl
              · simp only [go_sem, matH_o, rid_nn, hE.len]
                exact rfl
              · intro j hj
                rw [lZ5] at hj
                have e4 := matH_row (o := 0) (b := 3) (tO := 32) (t := 51) (w := n) (M := Z) (H := mkH [(1, true, ⟨51, 4, [z0]⟩), (2, true, ⟨51, 4, [.Q (o2 * c)]⟩)]) (i := j) ho3 (by rw [hE.len]; omega)
                simp only [mkH] at e4
                have e5 : (Z.set i (elR (elF Z k i) r ri k 0)).getD j [] = Z.getD j [] := by
                  rw [gZ]
                  split
                  · rename_i e; rw [e, eri]; rfl
                  · rfl
                simp only [go_sem, rid_rn, rid_rl, hj, e4, e5]
              rintro ⟨s, hs⟩
              refine vc_atR T ?_
              simp only [lZ5]
              by_cases hsl : k + s < n
              · have e1 : ((k + s : Nat) : Int) < (n : Int) := by omega
                have e2 : 0 ≤ ((k + s : Nat) : Int) := by omega
                have e3 : ((k + s : Nat) : Int) + 1 = ((k + (s + 1) : Nat) : Int) := by omega
                obtain ⟨L, eL⟩ : ∃ L, elR (elF Z k i) r ri k s = L := ⟨_, rfl⟩
                have lL := rw5 s
                rw [eL] at lL
                have rI5 := matH_row (o := 0) (b := 4) (tO := 32) (t := 51) (w := n) (M := Z.set i L) (H := mkH [(1, true, ⟨51, 4, [z0]⟩), (2, true, ⟨51, 4, [.Q (o2 * c)]⟩), (3, true, ⟨51, 4, [.Q (elF Z k i)]⟩)]) (i := i) ho4 (by rw [lZ5]; exact hil)
                have rK5 := matH_row (o := 0) (b := 4) (tO := 32) (t := 51) (w := n) (M := Z.set i L) (H := mkH [(1, true, ⟨51, 4, [z0]⟩), (2, true, ⟨51, 4, [.Q (o2 * c)]⟩), (3, true, ⟨51, 4, [.Q (elF Z k i)]⟩)]) (i := k) ho4 (by rw [lZ5]; exact hkn)
                simp only [mkH] at rI5 rK5
                rw [gZ, if_pos rfl] at rI5
                rw [gZ, if_neg (by omega), pvZ] at rK5
                have lL2 : k + s < L.length := by omega
                have lr2 : k + s < r.length := by omega
                have cL : cf L (k + s) = cf ri (k + s) := by rw [← eL, elR_cf _ _ _ _ _ (by omega), if_neg (by omega)]
                have v1 : qs (cf L (k + s)) ≤ 5000000000000 := by rw [cL]; have := bI (k + s); omega
                have v2 : qs (elF Z k i) ≤ 5000000000000 := by
                  rw [← hf0]
                  have := qs_mul (cf ri k) (1 / c)
                  omega
                have v3 : qs (cf r (k + s)) ≤ 5000000000000 := by have := bR (k + s); omega
                have v4 : qs (elF Z k i * cf r (k + s)) ≤ 5000000000000 := by
                  have w1 := qs_mul (elF Z k i) (cf r (k + s))
                  have w2 := bR (k + s)
                  have w3 := qs_mul (cf ri k) (1 / c)
                  rw [hf0] at w3
                  omega
                have up5 : ∀ l, (matH 0 4 32 51 n (Z.set i L) ((((Hp.up (fun _ => none) 3 (some ⟨51, 4, [.Q (elF Z k i)]⟩)).up 2 (some ⟨51, 4, [.Q (o2 * c)]⟩)).up 1 (some ⟨51, 4, [z0]⟩)))).up (rid 4 i) (some ⟨51, 4, V.rats l⟩) = matH 0 4 32 51 n (Z.set i l) ((((Hp.up (fun _ => none) 3 (some ⟨51, 4, [.Q (elF Z k i)]⟩)).up 2 (some ⟨51, 4, [.Q (o2 * c)]⟩)).up 1 (some ⟨51, 4, [z0]⟩))) := fun l => by
                  rw [matH_up ho4 (by rw [lZ5]; exact hil), List.set_set]
                have e6 : elR (elF Z k i) r ri k (s + 1) = L.set (k + s) (cf L (k + s) - elF Z k i * cf r (k + s)) := by rw [elR, eL]
                simp only [go_sem, eL, e1, e2, e3, f2, d3, hil, hkn, c1, f1, lZ5, rI5, rK5, lL2, lr2, v1, v2, v3, v4, matH_lo, up5]
                refine ⟨chk_map (rnm 4 n) (by simp only [List.map_cons, List.map_nil, mapF, rnm_row hkn, rnm_row hil, rnm_new, rnm_lo, Nat.reduceLT, Nat.reduceAdd]; rfl), ⟨by omega, by omega⟩, ⟨s + 1, by omega⟩, Wk.ofR [0, 1, 2, 3] (rid 4) rfl (by decide) (by simp) (thR_nodup (by decide) (fun a b ha hb e => by unfold rid at e; omega) (fun x hx' a ha => ?_)) ?_ ?_ ?_ ?_ ?_, by simp only; omega⟩
                · simp [rid] at hx' ⊢; omega
                · simp only [go_sem]
                · simp only [go_sem]
                · simp only [go_sem, matH_lo]
                  exact rfl
                · simp only [go_sem, matH_o]
                  exact rfl
                · intro j hj
                  show matH _ _ _ _ _ _ _ (rid 4 j) = some ⟨_, 4, V.rats ((Z.set i (elR (elF Z k i) r ri k (s + 1))).getD j [])⟩
                  rw [e6]
                  exact matH_row ho4 (by rw [lZ5]; rw [lZ5] at hj; exact hj)
              · obtain rfl : s = n - k := by omega
                have e1 : ¬ ((k + (n - k) : Nat) : Int) < (n : Int) := by omega
                have d8 : (i : Int) + 1 = ((i + 1 : Nat) : Int) := by omega
                have eZ : Z.set i (elR (elF Z k i) r ri k (n - k)) = elS Z k n i := by unfold elS; rw [eri, pvZ]
                simp only [go_sem, e1, d8, eZ]
                refine ⟨⟨by omega, by omega⟩, ⟨(i + 1, elS Z k n i), ⟨by omega, hil⟩, hE.step pN2 (by omega) hil pv0⟩, Wk.ofR [0, 1, 2] (rid 4) rfl (by decide) (by simp) (thR_nodup (by decide) (fun a b ha hb e => by unfold rid at e; omega) (fun x hx' a ha => ?_)) ?_ ?_ ?_ ?_ ?_, by simp only; omega⟩
                · simp [rid] at hx' ⊢; omega
                · simp only [go_sem]
                · simp only [go_sem]
                · simp only [go_sem, matH_lo]
                  exact rfl
                · simp only [go_sem, matH_o]
                  exact rfl
                · intro j hj
                  exact matH_row ho4 hj
            · obtain rfl : n = i := by omega
              have f1 : ¬ (n : Int) < (n : Int) := by omega
              simp only [go_sem, f1, d6]
              have bC : qs c ≤ eS S k := by rw [← ec, ← pv]; exact pN2 k k
              refine ⟨⟨by omega, by omega⟩, ⟨(k + 1, Z, o2 * c), hkn, hE.len, hE.wid, hE.pb, ?_, ?_⟩, Wk.ofR [0, 1, 2] (rid 3) rfl (by decide) (by simp) (thR_nodup (by decide) (fun a b ha hb e => by unfold rid at e; omega) (fun x hx' a ha => ?_)) ?_ ?_ ?_ ?_ ?_, by simp only; omega⟩
              · have := qs_mul o2 c
                show qs (o2 * c) ≤ eT S k + eS S k
                omega
              · have h1 := sub_pivot hkn hE.zero
                rw [hE.dt, hE.piv, pv, ec] at h1
                rw [← inv2, h1]
                grind
              · simp [rid] at hx' ⊢; omega
              · simp only [go_sem]
              · simp only [go_sem]
              · simp only [go_sem, matH_lo]
                exact rfl
              · simp only [go_sem, matH_o]
                exact rfl
              · intro j hj
                exact matH_row ho3 hj
      · obtain rfl : n = p := by omega
        have d1 : ¬ (n : Int) < (n : Int) := by omega
        have d5 : ((n : Int) == (n : Int)) = true := by simp
        have h0 : det n (subM 0 M) = 0 := by rw [← inv, sub_none hkn hz]; grind
        have ez : z0 = .agg [.raw (.bool false), .raw (.slice none 0 0), .raw (.bool false), .raw (.slice none 0 0)] := rfl
        simp only [go_sem, d1, d5, matH_lo, h0, ez]
    · obtain rfl : n = k := by omega
      have c1 : ¬ (n : Int) < (n : Int) := by omega
      have h0 : det n (subM 0 M) = out := by
        rw [← inv, Nat.sub_self]
        show out * 1 = out
        grind
      have ez : z0 = .agg [.raw (.bool false), .raw (.slice none 0 0), .raw (.bool false), .raw (.slice none 0 0)] := rfl
      simp only [go_sem, c1, matH_lo, h0, ez]
end Go.Proofs.YthhpmapbhdebeaaGreat


/- Contracts: Sylvester's matrix and the resultant of the reference. -/
namespace Go.Proofs.YthhpmapbhdebeaaGreat
set_option linter.unusedSimpArgs false
set_option linter.unusedVariables false
open Go.RowKit

theorem frzs_snoc {H : Hp} {m : Nat} {x : V} : ∀ {L : List V} {kL : List V → List Nat → Prop}, frzOk L → frzs (frzE (argN H m)) (L ++ [x]) kL = frzs (frzE (argN H m)) [x] fun ys rs => kL (L ++ ys) rs
  | [], _, _ => rfl
  | y :: L, kL, h => by
    obtain ⟨h1, h2, h3⟩ := h y (by simp)
    have e : ∀ k, frzE (argN H m) y k = k y [] := fun k => by
      unfold frzE
      by_cases ha : y.isAgg = true
      · rw [if_pos ha, if_pos h1]
      · rw [if_neg ha]; exact argN_pure (by simpa using ha) h1 h2 h3
    show frzs _ (y :: (L ++ [x])) kL = _
    rw [frzs, e, frzs_snoc fun z hz => h z (by simp [hz])]
    rfl
theorem frz_mat_snoc {H : Hp} {m : Nat} {x : V} {l : List (List Rat)} {kL : List V → List Nat → Prop} : frzs (frzE (argN H m)) (V.mat l ++ [x]) kL = frzs (frzE (argN H m)) [x] fun ys rs => kL (V.mat l ++ ys) rs := frzs_snoc (of_eq_true (mat_frz l))
/-- An entry of Sylvester's matrix as the program reads it. -/
def atZ (p : List Rat) (z : Int) : Rat := if z < 0 then 0 else cf p z.toNat
def sylF (a b : List Rat) (m n : Nat) (i j : Nat) : Rat := if i < n then atZ a ((m : Int) - ((j : Int) - (i : Int))) else atZ b ((n : Int) - ((j : Int) - ((i : Int) - (n : Int))))
def sylM (a b : List Rat) (m n k : Nat) : List (List Rat) := (List.range k).map fun i => rg (sylF a b m n i) (m + n)
theorem sylM_len (a b : List Rat) (m n k : Nat) : (sylM a b m n k).length = k := by simp [sylM]
theorem sylM_snoc (a b : List Rat) (m n k : Nat) : sylM a b m n k ++ [rg (sylF a b m n k) (m + n)] = sylM a b m n (k + 1) := by unfold sylM; rw [List.range_succ, List.map_append]; rfl
theorem sylM_get {a b : List Rat} {m n k i : Nat} (h : i < k) : (sylM a b m n k).getD i [] = rg (sylF a b m n i) (m + n) := by
  unfold sylM
  rw [List.getD_eq_getElem?_getD, List.getElem?_map, List.getElem?_range h]; rfl
theorem sylM_ge {a b : List Rat} {m n k i : Nat} (h : k ≤ i) : (sylM a b m n k).getD i [] = [] := by
  rw [List.getD_eq_getElem?_getD, List.getElem?_eq_none (by rw [sylM_len]; exact h)]; rfl
theorem atZ_qs {p : List Rat} {S : Nat} (h : PB p S) (hS : 1 ≤ S) (z : Int) : qs (atZ p z) ≤ S := by
  unfold atZ
  split
  · have := qs_0
    omega
  · exact h _
theorem syl_PB {a b : List Rat} {m n k S : Nat} (ha : PB a S) (hb : PB b S) (hS : 1 ≤ S) (i : Nat) : PB ((sylM a b m n k).getD i []) S := by
  by_cases hi : i < k
  · rw [sylM_get hi]
    intro c
    rw [cf_rg]
    split
    · unfold sylF
      split
      · exact atZ_qs ha hS _
      · exact atZ_qs hb hS _
    · exact Nat.le_trans qs_0 hS
  · rw [sylM_ge (by omega)]
    intro c
    rw [show cf [] c = 0 from rfl]
    exact Nat.le_trans qs_0 hS
theorem syl_det {a b : List Rat} {m n : Nat} : det (m + n) (subM 0 (sylM a b m n (m + n))) = det (n + m) (GM n m a b) := by
  rw [Nat.add_comm n m]
  refine (det_ML _).congr fun i hi j hj => ?_
  unfold subM
  rw [Nat.zero_add, Nat.zero_add, sylM_get hi, cf_rg, if_pos hj]
  unfold GM HM sylF atZ sh
  simp only
  by_cases h1 : i < n
  · rw [if_pos h1, if_pos h1]
    by_cases h2 : m + i < j
    · rw [if_pos (by omega), if_pos (by omega)]
    · rw [if_neg (by omega), if_neg (by omega)]
      congr 1
      omega
  · rw [if_neg h1, if_neg h1]
    by_cases h2 : i < j
    · rw [if_pos (by omega), if_pos (by omega)]
    · rw [if_neg (by omega), if_neg (by omega)]
      congr 1
      omega
def kRSyl : Con := con2 pR pR fun a b => (a ≠ [] ∧ b ≠ [] ∧ a.length + b.length ≤ 1000, .lst (V.mat (sylM a b (a.length - 1) (b.length - 1) (a.length - 1 + (b.length - 1)))))
attribute [go_sem ↓, go_sem] kRSyl
set_option maxRecDepth 8000 in
theorem rSyl_C : Ctr Tryz.prog 70 kRSyl := Ctr.c2 (by kernel_rfl) fun a b h => by
  obtain ⟨ha, hb, hl⟩ := h
  show PCall _ _ _ (.lst (V.mat (sylM a b (a.length - 1) (b.length - 1) (a.length - 1 + (b.length - 1)))))
  have la := List.length_pos_iff.2 ha
  have lb := List.length_pos_iff.2 hb
  obtain ⟨m, em⟩ : ∃ m, a.length = m + 1 := ⟨a.length - 1, by omega⟩
  obtain ⟨n, en⟩ : ∃ n, b.length = n + 1 := ⟨b.length - 1, by omega⟩
  rw [em, en, Nat.add_sub_cancel, Nat.add_sub_cancel]
  have mx : maxLen = 9223372036854775807 := by decide
  have T := (tabs mixed (tbl_cons rAt_C tbl_nil))
  refine PCall.of_vc T Tryz.func70 rfl Tryz.ntmps70 Tryz.results70 (by simp) ?_
  have c0 : ((m + 1 : Nat) : Int) - 1 = (m : Int) := by omega
  have c1 : ((n + 1 : Nat) : Int) - 1 = (n : Int) := by omega
  have c2 : (m : Int) + (n : Int) = ((m + n : Nat) : Int) := by omega
  simp only [go_sem, em, en, c0, c1]
  refine ⟨⟨by omega, by omega⟩, ⟨by omega, by omega⟩, ?_⟩
  refine AWp.loops (X := { i : Nat // i ≤ m + n }) (fun i => mkSt [(0, .lst (V.rats a)), (1, .lst (V.rats b)), (4, .raw (.slice none 0 0)), (5, .raw (.int .i64 (m : Nat))), (6, .raw (.int .i64 (n : Nat))), (7, .sl 0 1 0 i.1), (8, .raw (.int .i64 (i.1 : Nat)))] [(0, true, ⟨32, 1, V.mat (sylM a b m n i.1)⟩)] 1 63) (fun i => m + n - i.1) ⟨0, Nat.zero_le _⟩ (Wk.of [9] (by decide) ?_) ?_
  · have e0 : V.mat (sylM a b m n 0) = [] := rfl
    simp only [go_sem, e0, Int.natCast_zero]

  rintro ⟨i, hi⟩
  refine AWp.endFrz 7 ?_
  refine vc_at T ?_
  have r2 : -9223372036854775808 ≤ ((m + n : Nat) : Int) ∧ ((m + n : Nat) : Int) ≤ 9223372036854775807 := by omega
  by_cases hin : i < m + n
  · have d1 : (i : Int) < ((m + n : Nat) : Int) := by omega
    have d2 : (i : Int) + 1 = ((i + 1 : Nat) : Int) := by omega
    simp only [go_sem, c2, r2, d1]
    refine AWp.loops (X := { j : Nat // j ≤ m + n }) (fun j => mkSt [(0, .lst (V.rats a)), (1, .lst (V.rats b)), (4, .raw (.slice none 0 0)), (5, .raw (.int .i64 (m : Nat))), (6, .raw (.int .i64 (n : Nat))), (7, .sl 0 1 0 i), (8, .raw (.int .i64 (i : Nat))), (9, .sl 1 4 0 j.1), (10, .raw (.int .i64 (j.1 : Nat)))] [(0, true, ⟨32, 1, V.mat (sylM a b m n i)⟩), (1, true, ⟨51, 4, V.rats (rg (sylF a b m n i) j.1)⟩)] 2 63) (fun j => m + n - j.1) ⟨0, Nat.zero_le _⟩ (Wk.of [0, 6] (by decide) ?_) ?_
    · simp only [go_sem, rg_0, rats_0, Int.natCast_zero]
    rintro ⟨j, hj⟩
    refine vc_at T ?_
    by_cases hjn : j < m + n
    · have d3 : (j : Int) < ((m + n : Nat) : Int) := by omega
      have d4 : (j : Int) + 1 = ((j + 1 : Nat) : Int) := by omega
      by_cases hir : i < n
      · have d5 : (i : Int) < (n : Int) := by omega
        have f1 : (if (m : Int) - ((j : Int) - (i : Int)) < 0 then 0 else cf a ((m : Int) - ((j : Int) - (i : Int))).toNat) = sylF a b m n i j := by unfold sylF; rw [if_pos hir]; rfl
        simp only [go_sem, c2, r2, d3, d4, d5, f1, rg_snoc, mx]
        refine ⟨⟨by omega, by omega⟩, ⟨by omega, by omega⟩, ⟨by omega, by omega⟩, ⟨by omega, by omega⟩, ⟨j + 1, hjn⟩, Wk.of [0, 19] (by decide) ?_, by simp only; omega⟩
        simp only [go_sem]
      · have d5 : ¬ (i : Int) < (n : Int) := by omega
        have f1 : (if (n : Int) - ((j : Int) - ((i : Int) - (n : Int))) < 0 then 0 else cf b ((n : Int) - ((j : Int) - ((i : Int) - (n : Int)))).toNat) = sylF a b m n i j := by unfold sylF; rw [if_neg hir]; rfl
        simp only [go_sem, c2, r2, d3, d4, d5, f1, rg_snoc, mx]
        refine ⟨⟨by omega, by omega⟩, ⟨by omega, by omega⟩, ⟨by omega, by omega⟩, ⟨by omega, by omega⟩, ⟨by omega, by omega⟩, ⟨j + 1, hjn⟩, Wk.of [0, 21] (by decide) ?_, by simp only; omega⟩

        simp only [go_sem]
    · obtain rfl : j = m + n := by omega
      have d3 : ¬ ((m + n : Nat) : Int) < ((m + n : Nat) : Int) := by omega
      have tk : (sylM a b m n i).take i = sylM a b m n i := List.take_of_length_le (by rw [sylM_len]; exact Nat.le_refl _)
      simp only [go_sem, c2, r2, d2, d3, ev_frzT_n, frz_mat_snoc, sylM_len, rg_len, mx, tk, mat_snoc, sylM_snoc]
      refine ⟨⟨by omega, by omega⟩, ⟨by omega, by omega⟩, ⟨i + 1, hin⟩, Wk.of [10] (by decide) ?_, by simp only; omega⟩
      simp only [go_sem]
  · obtain rfl : i = m + n := by omega
    have d1 : ¬ ((m + n : Nat) : Int) < ((m + n : Nat) : Int) := by omega
    have tk : (sylM a b m n (m + n)).take (m + n) = sylM a b m n (m + n) := List.take_of_length_le (by rw [sylM_len]; exact Nat.le_refl _)
    simp only [go_sem, c2, r2, d1, sylM_len, tk]
def RsOk (a b : List Rat) : Prop := (Can a ∧ Can b ∧ a.length + b.length ≤ 100) ∧ ∃ S, (1 ≤ S ∧ PB a S ∧ PB b S) ∧ eS S (a.length - 1 + (b.length - 1)) ≤ 1000000000000 ∧ eT S (a.length - 1 + (b.length - 1)) ≤ 1000000000000
def kRRes : Con := con2 pR pR fun a b => (RsOk a b, .Q (pRes a b))
attribute [go_sem ↓, go_sem] kRRes
theorem rRes_C : Ctr Tryz.prog 22 kRRes := Ctr.c2 (by kernel_rfl) fun a b h => by
  obtain ⟨⟨ca, cb, hl⟩, S, ⟨hS, pa, pb⟩, h1, h2⟩ := h
  show PCall _ _ _ (.Q (pRes a b))
  refine PCall.of_vc (tabs mixed (tbl_cons rZero_C (tbl_cons rSyl_C (tbl_cons rDet_C tbl_nil)))) Tryz.func22 rfl Tryz.ntmps22 Tryz.results22 (by simp) ?_
  have ez : z0 = .agg [.raw (.bool false), .raw (.slice none 0 0), .raw (.bool false), .raw (.slice none 0 0)] := rfl
  by_cases ha : a = []
  · have e0 : pRes a b = 0 := by rw [pRes_step ca cb, if_pos (.inl ha)]
    subst ha
    have b1 : (((0 : Nat) : Int) == 0) = true := rfl
    simp only [go_sem, List.length_nil, b1, e0, ez]
  · by_cases hb : b = []
    · have e0 : pRes a b = 0 := by rw [pRes_step ca cb, if_pos (.inr hb)]
      subst hb
      have la := List.length_pos_iff.2 ha
      have b1 : ((a.length : Int) == 0) = false := by simp; omega
      have b2 : (((0 : Nat) : Int) == 0) = true := rfl
      simp only [go_sem, List.length_nil, b1, b2, e0, ez]
    · have la := List.length_pos_iff.2 ha
      have lb := List.length_pos_iff.2 hb
      have b1 : ((a.length : Int) == 0) = false := by simp; omega
      have b2 : ((b.length : Int) == 0) = false := by simp; omega
      have e1 := pRes_syl _ a b ca cb (Nat.lt_succ_self _) ha hb
      rw [← syl_det] at e1
      obtain ⟨m, em⟩ : ∃ m, a.length - 1 = m := ⟨_, rfl⟩
      obtain ⟨n, en⟩ : ∃ m, b.length - 1 = m := ⟨_, rfl⟩
      rw [em, en] at e1 h1 h2
      have k1 : DetOk (sylM a b m n (m + n)) := by
        refine ⟨⟨by rw [sylM_len]; omega, fun i hi => ?_⟩, S, syl_PB pa pb hS, by rw [sylM_len]; exact h1, by rw [sylM_len]; exact h2⟩
        rw [sylM_len] at hi ⊢
        rw [sylM_get hi, rg_len]
      have k2 := eq_true ha
      have k3 := eq_true hb
      simp only [go_sem, b1, b2, k1, em, en, sylM_len, ← e1, ha, hb]
      omega
end Go.Proofs.YthhpmapbhdebeaaGreat

