/- Texts MR4 MR5 LM7 in one. -/
import Derived.Test.YtjjebokgckmnjaaGreatR33
import Derived.Test.YtjjebokgckmnjaaGreatR32
/- Contracts: Solve of the reference. -/
namespace Go.Proofs.YtjjebokgckmnjaaGreat
set_option linter.unusedSimpArgs false
set_option linter.unusedVariables false
open Go.RowKit

/-- A row of the extended matrix, before the unit row is complete. -/
def exP (r : List Rat) (y : Rat) (k : Nat) : List Rat := (r ++ [y]) ++ zrA k
theorem exP_len {r : List Rat} {w : Nat} (hr : r.length = w) (y : Rat) (k : Nat) : (exP r y k).length = w + 1 + k := by
  unfold exP zrA
  rw [List.length_append, List.length_append, mkr_len, hr]; rfl
theorem exP_snoc (r : List Rat) (y : Rat) (k : Nat) : exP r y k ++ [0] = exP r y (k + 1) := by
  unfold exP zrA
  rw [mkr_succ, List.append_assoc (r ++ [y])]
theorem exP_set' (r : List Rat) (y : Rat) (m i : Nat) : (exP r y m).set (r.length + 1 + i) 1 = r ++ ([y] ++ unR m i) := by
  unfold exP unR
  rw [zrA_eq, List.append_assoc, List.set_append_right _ _ (by omega), show r.length + 1 + i - r.length = i + 1 from by omega]
  rfl
theorem exP_set {M : List (List Rat)} {b : List Rat} {w i : Nat} (hr : (M.getD i []).length = w) : (exP (M.getD i []) (cf b i) M.length).set (w + 1 + i) 1 = exR M b i := by
  rw [← hr]
  exact exP_set' _ _ _ _
theorem cf_drop (l : List Rat) (n k : Nat) : cf (l.drop n) k = cf l (n + k) := by
  unfold cf
  rw [List.getD_eq_getElem?_getD, List.getD_eq_getElem?_getD, List.getElem?_drop]
theorem slW_eq {M : List (List Rat)} {b : List Rat} {w i : Nat} (hl : ((slE M b w).M.getD i []).length = w + 1 + M.length) : rw1 (((slE M b w).M.getD i []).drop (w + 1)) (1 / cf ((slE M b w).M.getD i []) w) = slW M b w i := by
  unfold rw1 slW
  rw [show (((slE M b w).M.getD i []).drop (w + 1)).length = M.length by rw [List.length_drop]; omega]
  refine mkr_congr fun k hk => ?_
  rw [cf_drop]
  show ent (slE M b w).M i (w + 1 + k) * (1 / ent (slE M b w).M i w) = _
  grind
def kSolve5 : Con := con2 pMt pR fun M b => (SolOk M b, solV M b)
attribute [go_sem ↓, go_sem] kSolve5
set_option maxRecDepth 8000 in
set_option maxHeartbeats 4000000 in
theorem solve5_C : Ctr Tryz.prog 12 kSolve5 := Ctr.c2 (by kernel_rfl) fun M b h => by
  obtain ⟨⟨hb, hm⟩, S, ⟨hW, hw⟩, hS, hS1, hd1⟩ := h
  show PCall _ _ [.lst (V.mat M), .lst (V.rats b)] (solV M b)
  have mx : maxLen = 9223372036854775807 := by decide
  have e1r : ((1 : Int) : Rat) = 1 := rfl
  have e0r : ((0 : Int) : Rat) = 0 := rfl
  have T := (tabs mixed (tbl_cons cols5_C (tbl_cons r2Whole_C (tbl_cons elim_C (tbl_cons r2Sign_C (tbl_cons scaled5_C tbl_nil))))))
  refine PCall.of_vc T Tryz.func12 rfl Tryz.ntmps12 Tryz.results12 (by simp) ?_
  have hm2 : M.length ≤ 1000000 := by omega
  obtain ⟨w, ew⟩ : ∃ w, wdt M = w := ⟨_, rfl⟩
  unfold solV
  rw [ew] at hW hw hS1 hd1 ⊢
  simp only [go_sem, hm2, ew]
  obtain ⟨F, eF⟩ : ∃ F : Nat → List Rat, F = exR M b := ⟨_, rfl⟩
  refine AWp.loops (X := { i : Nat // i ≤ M.length }) (fun i => mkSt [(0, .lst (V.mat M)), (1, .lst (V.rats b)), (4, .raw (.slice none 0 0)), (5, .raw (.slice none 0 0)), (6, .raw (.bool false)), (7, .raw (.int .i64 (w : Nat))), (8, .sl 0 1 0 i.1), (9, .raw (.int .i64 (i.1 : Nat)))] [(0, true, ⟨40, 1, V.mat (mkm F i.1)⟩)] 1 129) (fun i => M.length - i.1) ⟨0, Nat.zero_le _⟩ (Wk.of [5] (by decide) ?_) ?_
  · have e0 : V.mat (mkm F 0) = [] := rfl
    simp only [go_sem, e0, Int.natCast_zero]
  rintro ⟨i, hi⟩
  refine AWp.endFrz 8 ?_
  refine vc_at T ?_
  have lc : (mkm F i).length = i := mkm_len _ _
  by_cases hin : i < M.length
  · have d1 : (i : Int) < (M.length : Int) := by omega
    have d2 : (i : Int) + 1 = ((i + 1 : Nat) : Int) := by omega
    have d3 : 0 ≤ (i : Int) := by omega
    have hib : i < b.length := by omega
    have d4 : (i : Int) < (b.length : Int) := by omega
    obtain ⟨r, er⟩ : ∃ r, M.getD i [] = r := ⟨_, rfl⟩
    have lr : r.length = w := by rw [← er]; exact hW i hin
    obtain ⟨y, ey⟩ : ∃ y, cf b i = y := ⟨_, rfl⟩
    have tr : r.take w = r := List.take_of_length_le (by omega)
    have ww : w ≤ w := Nat.le_refl _
    simp only [go_sem, d1, d3, d4, hin, hib, er, ey, mx, lr, tr, ww, Nat.min_self]
    refine ⟨⟨by omega, by omega⟩, ⟨by omega, by omega⟩, ?_⟩
    refine AWp.loops (X := { k : Nat // k ≤ M.length }) (fun k => mkSt [(0, .lst (V.mat M)), (1, .lst (V.rats b)), (4, .raw (.slice none 0 0)), (5, .raw (.slice none 0 0)), (6, .raw (.bool false)), (7, .raw (.int .i64 (w : Nat))), (8, .sl 0 1 0 i), (9, .raw (.int .i64 (i : Nat))), (10, .sl 1 4 0 (w + 1 + k.1)), (11, .raw (.int .i64 (k.1 : Nat)))] [(0, true, ⟨40, 1, V.mat (mkm F i)⟩), (1, true, ⟨36, 4, V.rats (exP r y k.1)⟩)] 2 129) (fun k => M.length - k.1) ⟨0, Nat.zero_le _⟩ (Wk.of [0, 18] (by decide) ?_) ?_
    · have e0 : exP r y 0 = r ++ [y] := List.append_nil _
      simp only [go_sem, e0, Int.natCast_zero, Nat.add_zero]
    rintro ⟨k, hk⟩
    refine vc_at T ?_
    have lk := exP_len lr y k
    by_cases hkm : k < M.length
    · have k1 : (k : Int) < (M.length : Int) := by omega
      have k2 : (k : Int) + 1 = ((k + 1 : Nat) : Int) := by omega
      have f6 := exP_snoc r y k
      have tj : (exP r y k).take (w + 1 + k) = exP r y k := List.take_of_length_le (by omega)
      have l6 : w + 1 + k + 1 = w + 1 + (k + 1) := by omega
      simp only [go_sem, k1, k2, lk, mx, e0r, tj, f6, l6]
      refine ⟨⟨by omega, by omega⟩, ⟨by omega, by omega⟩, ⟨k + 1, hkm⟩, Wk.of [0, 9] (by decide) ?_, by simp only; omega⟩
      simp only [go_sem]
    · obtain rfl : k = M.length := by omega
      have k1 : ¬ (M.length : Int) < (M.length : Int) := by omega
      have k3 : (w : Int) + 1 = ((w + 1 : Nat) : Int) := by omega
      have k4 : ((w + 1 : Nat) : Int) + (i : Int) = ((w + 1 + i : Nat) : Int) := by omega
      have k5 : 0 ≤ ((w + 1 + i : Nat) : Int) := by omega
      have k6 : w + 1 + i < w + 1 + M.length := by omega
      have k7 : ((w + 1 + i : Nat) : Int) < ((w + 1 + M.length : Nat) : Int) := by omega
      have s1 : (exP r y M.length).set (w + 1 + i) 1 = F i := by rw [eF, ← er, ← ey]; exact exP_set (by rw [er]; exact lr)
      have lF : (F i).length = w + 1 + M.length := by rw [← s1, List.length_set, lk]
      have tF : (F i).take (w + 1 + M.length) = F i := List.take_of_length_le (by omega)
      have mm : w + 1 + M.length ≤ w + 1 + M.length := Nat.le_refl _
      have f3 : mkm F i ++ [F i] = mkm F (i + 1) := (mkm_succ F i).symm
      simp only [go_sem, k1, k3, k4, k5, k6, k7, lk, e1r, s1, lF, tF, mm, d2, mx, lc, ev_frzT_n, frz_mat_snocA, mat_snoc, mkm_take, f3]
      refine ⟨⟨by omega, by omega⟩, ⟨by omega, by omega⟩, ⟨by omega, by omega⟩, ⟨by omega, by omega⟩, ⟨i + 1, hin⟩, Wk.of [17] (by decide) ?_, by simp only; omega⟩
      simp only [go_sem]
  · obtain rfl : i = M.length := by omega
    have d1 : ¬ (M.length : Int) < (M.length : Int) := by omega
    have eE : mkm F M.length = exM M b := by rw [eF]; rfl
    have lE := exM_len M b
    have hred : RedOk (exM M b) ((w : Nat) : Int) = True := eq_true ⟨⟨by omega, by omega⟩, w + 1 + M.length, S, ⟨exM_wid hW b, by omega, by omega⟩, hS, hS1, hd1⟩
    have hE := elm_EI (exM_wid hW b) w
    obtain ⟨z1, z2⟩ := elm_sz (exM_wid hW b) hS w
    have mm : M.length ≤ M.length := Nat.le_refl _
    have tE : (exM M b).take M.length = exM M b := List.take_of_length_le (by omega)
    obtain ⟨X, ps, dd, es⟩ : ∃ X ps dd, elm (exM M b) w = ES.mk X ps dd := ⟨_, _, _, rfl⟩
    have esE : slE M b w = ES.mk X ps dd := es
    have wW := fun i => slW_eq (M := M) (b := b) (w := w) (i := i)
    unfold slF slX
    rw [esE] at wW ⊢
    rw [es] at hE z1
    obtain ⟨h1, h2, h3, h4, h5, _⟩ := hE
    rw [lE] at h1 h3
    simp only at h1 h2 h3 h4 h5 z1 wW
    simp only [go_sem, d1, eE, lE, hred, es, mm, tE, Int.toNat_natCast]
    refine AWp.loops (X := { j : Nat // (ps.length ≤ j ∧ j ≤ M.length) ∧ ∀ l, ps.length ≤ l → l < j → ent X l w = 0 }) (fun j => mkSt [(4, .raw (.slice none 0 0)), (5, .raw (.slice none 0 0)), (6, .raw (.bool false)), (7, .raw (.int .i64 (w : Nat))), (12, .lst (V.mat X)), (13, .lst (V.nats ps)), (14, .raw (.int .i64 (j.1 : Nat)))] [] 0 129) (fun j => M.length - j.1) ⟨ps.length, ⟨Nat.le_refl _, h3⟩, fun l a1 a2 => by omega⟩ (Wk.of [] (by decide) ?_) ?_
    · simp only [go_sem]
    rintro ⟨j, ⟨hj1, hj2⟩, inv⟩
    refine vc_at T ?_
    by_cases hjm : j < M.length
    · have g1 : (j : Int) < (M.length : Int) := by omega
      have g2 : (j : Int) + 1 = ((j + 1 : Nat) : Int) := by omega
      have g3 : 0 ≤ (j : Int) := by omega
      have g4 : 0 ≤ (w : Int) := by omega
      have hjX : j < X.length := by omega
      have lX : (X.getD j []).length = w + 1 + M.length := h2 j hjX
      have wWj := wW j lX
      have qX : ∀ k, qs (cf (X.getD j []) k) ≤ 1000000000000 := fun k => Nat.le_trans (z1 j k) hS1
      obtain ⟨x, ex⟩ : ∃ x, X.getD j [] = x := ⟨_, rfl⟩
      rw [ex] at lX wWj qX
      obtain ⟨q, eq⟩ : ∃ q, cf x w = q := ⟨_, rfl⟩
      rw [eq] at wWj
      have g5 : w < x.length := by omega
      have g6 : (w : Int) < (x.length : Int) := by omega
      by_cases h0 : q = 0
      · have g7 : (sgI q.num != 0) = false := by rw [sgI_z, h0]; rfl
        simp only [go_sem, g1, g2, g3, g4, g5, g6, g7, h1, hjX, hjm, ex, eq]
        refine ⟨⟨by omega, by omega⟩, ⟨j + 1, ⟨by omega, hjm⟩, fun l a1 a2 => ?_⟩, Wk.of [] (by decide) ?_, by simp only; omega⟩
        · by_cases e : l = j
          · rw [e]
            show cf (X.getD j []) w = 0
            rw [ex, eq, h0]
          · exact inv l a1 (by omega)
        · simp only [go_sem]
      · have g7 : (sgI q.num != 0) = true := by rw [sgI_z]; simp [h0]
        have eF : srF X ps.length w = some j := srF_is hj1 hjX (by show cf (X.getD j []) w ≠ 0; rw [ex, eq]; exact h0) inv
        have k3 : (w : Int) + 1 = ((w + 1 : Nat) : Int) := by omega
        have sk : (x.length - (w + 1) ≤ 1000000 ∧ q ≠ 0 ∧ qs q ≤ 1000000000000 ∧ ∀ k, qs (cf (x.drop (w + 1)) k) ≤ 1000000000000) = True := eq_true ⟨by omega, h0, by rw [← eq]; exact qX w, fun k => by
          rw [cf_drop]; exact qX _⟩
        have tx : (x.drop (w + 1)).take (x.length - (w + 1)) = x.drop (w + 1) := List.take_of_length_le (by rw [List.length_drop]; exact Nat.le_refl _)
        rw [eF]
        simp only [go_sem, g1, g2, g3, g4, g5, g6, g7, h1, hjX, hjm, ex, eq, k3, sk, wWj, tx]
        exact ⟨⟨by omega, by omega⟩, ⟨by omega, by omega, by omega⟩, fun y hy => by
          obtain ⟨z, _, rfl⟩ := List.mem_map.1 hy
          rfl, by rfl⟩
    · obtain rfl : j = M.length := by omega
      have g1 : ¬ (M.length : Int) < (M.length : Int) := by omega
      have eF : srF X ps.length w = none := srF_no fun l a1 a2 => inv l a1 (by omega)
      rw [eF]
      simp only [go_sem, g1, h1]
      refine AWp.loops (X := { j : Nat // j ≤ w }) (fun j => mkSt [(4, .raw (.slice none 0 0)), (5, .raw (.slice none 0 0)), (6, .raw (.bool false)), (7, .raw (.int .i64 (w : Nat))), (12, .lst (V.mat X)), (13, .lst (V.nats ps)), (15, .sl 0 4 0 j.1), (16, .raw (.int .i64 (j.1 : Nat)))] [(0, true, ⟨36, 4, V.rats (zrA j.1)⟩)] 1 129) (fun j => w - j.1) ⟨0, Nat.zero_le _⟩ (Wk.of [4] (by decide) ?_) ?_
      · have e0 : V.rats (zrA 0) = [] := rfl
        simp only [go_sem, e0, Int.natCast_zero]
      rintro ⟨j, hj⟩
      refine vc_at T ?_
      have lj : (zrA j).length = j := mkr_len _ _
      by_cases hjn : j < w
      · have k1 : (j : Int) < (w : Int) := by omega
        have k2 : (j : Int) + 1 = ((j + 1 : Nat) : Int) := by omega
        have f6 : zrA j ++ [0] = zrA (j + 1) := mkr_snoc' _ _
        have tj : (zrA j).take j = zrA j := List.take_of_length_le (by omega)
        simp only [go_sem, k1, k2, lj, mx, e0r, tj, f6]
        refine ⟨⟨by omega, by omega⟩, ⟨by omega, by omega⟩, ⟨j + 1, hjn⟩, Wk.of [7] (by decide) ?_, by simp only; omega⟩
        simp only [go_sem]
      · obtain rfl : j = w := by omega
        have k1 : ¬ (j : Int) < (j : Int) := by omega
        have s0 : zrA j = xS ps X j 0 := zrA_eq j
        simp only [go_sem, k1]
        refine AWp.loops (X := { i : Nat // i ≤ ps.length }) (fun i => mkSt [(4, .raw (.slice none 0 0)), (5, .raw (.slice none 0 0)), (6, .raw (.bool false)), (7, .raw (.int .i64 (j : Nat))), (12, .lst (V.mat X)), (13, .lst (V.nats ps)), (15, .sl 0 4 0 j), (17, .raw (.int .i64 (i.1 : Nat)))] [(0, true, ⟨36, 4, V.rats (xS ps X j i.1)⟩)] 1 129) (fun i => ps.length - i.1) ⟨0, Nat.zero_le _⟩ (Wk.of [0] (by decide) ?_) ?_
        · simp only [go_sem, Int.natCast_zero, s0]
        rintro ⟨i, hi⟩
        refine vc_at T ?_
        have li := xS_len ps X j i
        by_cases hip : i < ps.length
        · have m1 : (i : Int) < (ps.length : Int) := by omega
          have m2 : (i : Int) + 1 = ((i + 1 : Nat) : Int) := by omega
          have m3 : 0 ≤ (i : Int) := by omega
          have m4 : 0 ≤ ((pv ps i : Nat) : Int) := by omega
          have m5 : pv ps i < j := h4 i hip
          have m6 : ((pv ps i : Nat) : Int) < (j : Int) := by omega
          have m7 : i < X.length := by omega
          have lX : (X.getD i []).length = j + 1 + M.length := h2 i m7
          have m8 : (i : Int) < (X.length : Int) := by omega
          have m9 : j < (X.getD i []).length := by omega
          have m10 : (j : Int) < ((X.getD i []).length : Int) := by omega
          have m11 : 0 ≤ (j : Int) := by omega
          have s1 : (xS ps X j i).set (pv ps i) (cf (X.getD i []) j) = xS ps X j (i + 1) := rfl
          have m12 : (i : Int) < (M.length : Int) := by omega
          have m13 : i < M.length := by omega
          simp only [go_sem, m1, m2, m3, m4, m5, m6, m7, m8, m9, m10, m11, m12, m13, s1, hip, li, h1]
          refine ⟨by rfl, ⟨by omega, by omega⟩, ⟨i + 1, hip⟩, Wk.of [0] (by decide) ?_, by simp only; omega⟩
          simp only [go_sem]
        · obtain rfl : i = ps.length := by omega
          have m1 : ¬ (ps.length : Int) < (ps.length : Int) := by omega
          have tx : (xS ps X j ps.length).take j = xS ps X j ps.length := List.take_of_length_le (by omega)
          have jj : j ≤ j := Nat.le_refl _
          simp only [go_sem, m1, li, tx, jj]
end Go.Proofs.YtjjebokgckmnjaaGreat


/- Contracts: the determinant of the reference, by expansion. -/
namespace Go.Proofs.YtjjebokgckmnjaaGreat
set_option linter.unusedSimpArgs false
set_option linter.unusedVariables false
open Go.RowKit

/-- A row without column k. -/
def rmK (r : List Rat) (k : Nat) : List Rat := r.take k ++ r.drop (k + 1)
theorem rmK_len {r : List Rat} {k n : Nat} (hr : r.length = n + 1) (hk : k ≤ n) : (rmK r k).length = n := by
  unfold rmK
  rw [List.length_append, List.length_take, List.length_drop]; omega
theorem cf_rmK {r : List Rat} {k : Nat} (hk : k < r.length) (j : Nat) : cf (rmK r k) j = cf r (if j < k then j else j + 1) := by
  unfold rmK
  rw [cf_app, List.length_take, Nat.min_eq_left (by omega)]
  split
  · unfold cf
    rw [List.getD_eq_getElem?_getD, List.getD_eq_getElem?_getD, List.getElem?_take, if_pos (by assumption)]
  · unfold cf
    rw [List.getD_eq_getElem?_getD, List.getD_eq_getElem?_getD, List.getElem?_drop, show k + 1 + (j - k) = j + 1 from by omega]
/-- The matrix without row 0 and column k, of which the first i rows are made. -/
def mnK (M : List (List Rat)) (k i : Nat) : List (List Rat) := mkm (fun i => rmK (M.getD (i + 1) []) k) i
theorem mnK_len (M : List (List Rat)) (k i : Nat) : (mnK M k i).length = i := mkm_len _ _
theorem mnK_snoc (M : List (List Rat)) (k i : Nat) : mnK M k i ++ [rmK (M.getD (i + 1) []) k] = mnK M k (i + 1) := (mkm_succ _ _).symm
theorem mnK_wid {M : List (List Rat)} {n k : Nat} (hW : Wid (n + 1) M) (hl : M.length = n + 1) (hk : k ≤ n) : Wid n (mnK M k n) := fun i hi => by
  rw [mnK_len] at hi
  unfold mnK
  rw [gd_mkm, if_pos hi]
  exact rmK_len (hW (i + 1) (by omega)) hk
theorem mnK_det {M : List (List Rat)} {n k : Nat} (hW : Wid (n + 1) M) (hl : M.length = n + 1) (hk : k ≤ n) : det n (mtx (mnK M k n)) = det n (minor (mtx M) k) := (det_ML n).congr fun i hi j hj => by
  show cf ((mnK M k n).getD i []) j = cf (M.getD (i + 1) []) (if j < k then j else j + 1)
  unfold mnK
  rw [gd_mkm, if_pos hi, cf_rmK (by rw [hW (i + 1) (by omega)]; omega)]
theorem mnK_sz {M : List (List Rat)} {n k S : Nat} (hW : Wid (n + 1) M) (hl : M.length = n + 1) (hk : k ≤ n) (h1 : 1 ≤ S) (hS : ∀ i j, qs (ent M i j) ≤ S) (i j : Nat) : qs (ent (mnK M k n) i j) ≤ S := by
  show qs (cf _ _) ≤ S
  unfold mnK
  rw [gd_mkm]
  split
  · rename_i hi
    rw [cf_rmK (by rw [hW (i + 1) (by omega)]; omega)]
    exact hS _ _
  · exact Nat.le_trans qs_0 h1
/-- A bound of the sizes of determinants. -/
def dB (S : Nat) : Nat → Nat
  | 0 => 1
  | n + 1 => 1 + (n + 1) * (S + dB S n + 1)
def dtP (M : List (List Rat)) (n k : Nat) : Rat := sm k fun k => sg k * (ent M 0 k * det n (mtx (mnK M k n)))
theorem dtP_succ (M : List (List Rat)) (n k : Nat) : dtP M n (k + 1) = dtP M n k + sg k * (ent M 0 k * det n (mtx (mnK M k n))) := rfl
structure D5 (S n : Nat) (M : List (List Rat)) : Prop where
  l : M.length = n
  wid : Wid n M
  sz : ∀ i j, qs (ent M i j) ≤ S
theorem dtP_det {M : List (List Rat)} {n : Nat} (hW : Wid (n + 1) M) (hl : M.length = n + 1) : dtP M n (n + 1) = det (n + 1) (mtx M) := by
  unfold dtP
  rw [det]
  refine sm_congr fun k hk => ?_
  rw [mnK_det hW hl (by omega)]
  show _ = sg k * ent M 0 k * _
  grind
theorem sg_mod' : ∀ a : Nat, sg a = if a % 2 = 1 then -1 else 1
  | 0 => rfl
  | a + 1 => by
    rw [sg, sg_mod' a]
    by_cases e : a % 2 = 1
    · rw [if_pos e, if_neg (by omega)]; grind
    · rw [if_neg e, if_pos (by omega)]
theorem qs_sg' (k : Nat) (x : Rat) : qs (sg k * x) = qs x := by
  rw [sg_mod']
  split
  · rw [show (-1 : Rat) * x = -x by grind, qs_neg]
  · rw [Rat.one_mul]
theorem d5_sz {S : Nat} (h1 : 1 ≤ S) : ∀ {n : Nat} {M : List (List Rat)}, D5 S n M → qs (det n (mtx M)) ≤ dB S n
  | 0, M, _ => qs_1
  | n + 1, M, h => by
    rw [← dtP_det h.wid h.l]
    have : ∀ k, k ≤ n + 1 → qs (dtP M n k) ≤ 1 + k * (S + dB S n + 1) := fun k => by
      induction k with
      | zero => exact fun _ => by have := qs_0; show qs 0 ≤ _; omega
      | succ k ih =>
        intro hk
        have a1 := ih (by omega)
        have a2 := d5_sz h1 (n := n) (M := mnK M k n) ⟨mnK_len _ _ _, mnK_wid h.wid h.l (by omega), mnK_sz h.wid h.l (by omega) h1 h.sz⟩
        have a3 := qs_mul (ent M 0 k) (det n (mtx (mnK M k n)))
        have a4 := h.sz 0 k
        have a5 := qs_add (dtP M n k) (sg k * (ent M 0 k * det n (mtx (mnK M k n))))
        rw [qs_sg'] at a5
        rw [dtP_succ, Nat.add_mul]
        omega
    exact this (n + 1) (Nat.le_refl _)
/-- What Det gives. -/
def dtW (M : List (List Rat)) : V := if wdt M = M.length then .tup [.Q (det M.length (mtx M)), .raw (.int .i64 0)] else .tup [z0, .raw (.int .i64 1)]
def DetOk5 (N : Nat) (M : List (List Rat)) : Prop := (M.length ≤ N ∧ M.length ≤ 4) ∧ (wdt M = M.length → D5 1000 M.length M)
def kDet5 (N : Nat) : Con := con1 pMt fun M => (DetOk5 N M, dtW M)
attribute [go_sem ↓, go_sem] kDet5
theorem dB_mono (S : Nat) : ∀ n, dB S n ≤ dB S (n + 1) := fun n => by
  show _ ≤ 1 + (n + 1) * (S + dB S n + 1)
  rw [Nat.add_mul, Nat.one_mul]; omega
theorem dB_le {S a : Nat} : ∀ {b}, a ≤ b → dB S a ≤ dB S b
  | 0, h => by rw [show a = 0 from by omega]; exact Nat.le_refl _
  | b + 1, h => by
    by_cases e : a = b + 1
    · rw [e]; exact Nat.le_refl _
    · exact Nat.le_trans (dB_le (b := b) (by omega)) (dB_mono S b)
set_option maxRecDepth 8000 in
set_option maxHeartbeats 4000000 in
theorem det5_V (n : Nat) (ih : ∀ N, N + 1 = n → Ctr Tryz.prog 9 (kDet5 N)) (M : List (List Rat)) (hl : M.length = n) (h4 : n ≤ 4) (hD : wdt M = n → D5 1000 n M) : PCall Tryz.prog 9 [.lst (V.mat M)] (dtW M) := by
  have mx : maxLen = 9223372036854775807 := by decide
  have e1r : ((1 : Int) : Rat) = 1 := rfl
  have e0r : ((0 : Int) : Rat) = 0 := rfl
  unfold dtW
  rw [hl]
  cases n with
  | zero =>
    have hM : M = [] := List.eq_nil_of_length_eq_zero hl
    subst hM
    have ew : wdt [] = 0 := rfl
    have T := (tabs mixed (tbl_cons cols5_C (tbl_cons r2Whole_C tbl_nil)))
    refine PCall.of_vc T Tryz.func9 rfl Tryz.ntmps9 Tryz.results9 (by simp) ?_
    rw [if_pos ew]
    have c1 : ((0 : Int) != 0) = false := rfl
    have hm : (0 : Nat) ≤ 1000000 := by omega
    have c2 : ((0 : Int) == 0) = true := rfl
    have e5 : det 0 (mtx []) = 1 := rfl
    simp only [go_sem, hm, ew, c1, c2, e1r, e5, Int.natCast_zero, List.length_nil]
  | succ n =>
    have hm : n ≤ 999999 := by omega
    have c2 : (((n + 1 : Nat) : Int) == 0) = false := by rw [beq_eq_false_iff_ne]; omega
    by_cases hw : wdt M = n + 1
    · obtain ⟨_, hW, hS⟩ := hD hw
      have T := (tabs mixed (tbl_cons cols5_C (tbl_cons r2Whole_C (tbl_cons r2Mul_C (tbl_cons r2Neg_C (tbl_cons r2Add_C (tbl_cons (ih n rfl) tbl_nil)))))))
      have c1 : (((n + 1 : Nat) : Int) != ((n + 1 : Nat) : Int)) = false := by simp
      have d4 : dB 1000 n ≤ 1000000 := Nat.le_trans (dB_le (b := 3) (by omega)) (by decide)
      have hd4 : dB 1000 (n + 1) ≤ 1000000 := Nat.le_trans (dB_le (b := 4) (by omega)) (by decide)
      have pz : ∀ k, k ≤ n → qs (det n (mtx (mnK M k n))) ≤ 1000000 := fun k hk => Nat.le_trans (d5_sz (by decide) ⟨mnK_len _ _ _, mnK_wid hW hl hk, mnK_sz hW hl hk (by decide) hS⟩) d4
      have pP : ∀ k, k ≤ n + 1 → qs (dtP M n k) ≤ 1 + k * (1000 + 1000000 + 1) := fun k => by
        induction k with
        | zero => exact fun _ => by have := qs_0; show qs 0 ≤ _; omega
        | succ k ihk =>
          intro hk
          have a1 := ihk (by omega)
          have a2 := pz k (by omega)
          have a3 := qs_mul (ent M 0 k) (det n (mtx (mnK M k n)))
          have a4 := hS 0 k
          have a5 := qs_add (dtP M n k) (sg k * (ent M 0 k * det n (mtx (mnK M k n))))
          rw [qs_sg'] at a5
          rw [dtP_succ, Nat.add_mul]
          omega
      refine PCall.of_vc T Tryz.func9 rfl Tryz.ntmps9 Tryz.results9 (by simp) ?_
      rw [if_pos hw, ← dtP_det hW hl]
      simp only [go_sem, hm, hl, hw, c1, c2, e0r]
      refine AWp.loops (X := { k : Nat // k ≤ n + 1 }) (fun k => mkSt [(0, .lst (V.mat M)), (2, .ptr 0 4 0 0), (3, .raw (.int .i64 0)), (4, .ptr 1 4 0 0), (5, .raw (.int .i64 (k.1 : Nat)))] [(0, true, ⟨36, 4, [z0]⟩), (1, true, ⟨36, 4, [.Q (dtP M n k.1)]⟩)] 2 78) (fun k => n + 1 - k.1) ⟨0, Nat.zero_le _⟩ (Wk.of [0, 11] (by decide) ?_) ?_
      · have e5 : dtP M n 0 = 0 := rfl
        simp only [go_sem, e5, z0, Int.natCast_zero]
      rintro ⟨k, hk⟩
      refine vc_at T ?_
      have hPk := pP k hk
      obtain ⟨P, eP⟩ : ∃ P, dtP M n k = P := ⟨_, rfl⟩
      rw [eP] at hPk
      by_cases hkn : k < n + 1
      · have d1 : (k : Int) < ((n + 1 : Nat) : Int) := by omega
        have d2 : (k : Int) + 1 = ((k + 1 : Nat) : Int) := by omega
        have d3 : 0 ≤ (k : Int) := by omega
        simp only [go_sem, d1, hl, eP]
        refine AWp.loops (X := { i : Nat // i ≤ n }) (fun i => mkSt [(0, .lst (V.mat M)), (2, .ptr 0 4 0 0), (3, .raw (.int .i64 0)), (4, .ptr 1 4 0 0), (5, .raw (.int .i64 (k : Nat))), (6, .sl 2 1 0 i.1), (7, .raw (.int .i64 ((i.1 + 1 : Nat) : Int)))] [(0, true, ⟨36, 4, [z0]⟩), (1, true, ⟨36, 4, [.Q P]⟩), (2, true, ⟨40, 1, V.mat (mnK M k i.1)⟩)] 3 78) (fun i => n - i.1) ⟨0, Nat.zero_le _⟩ (Wk.of [0, 1, 6] (by decide) ?_) ?_
        · have e0 : V.mat (mnK M k 0) = [] := rfl
          have e1 : ((0 + 1 : Nat) : Int) = 1 := rfl
          simp only [go_sem, e0, e1, z0]
        rintro ⟨i, hi⟩
        refine AWp.endFrz 6 ?_
        refine vc_at T ?_
        have lm := mnK_len M k i
        by_cases hin : i < n
        · have g1 : ((i + 1 : Nat) : Int) < ((n + 1 : Nat) : Int) := by omega
          have g2 : ((i + 1 : Nat) : Int) + 1 = ((i + 1 + 1 : Nat) : Int) := by omega
          have g3 : 0 ≤ ((i + 1 : Nat) : Int) := by omega
          have g4 : i + 1 < n + 1 := by omega
          obtain ⟨r, er⟩ : ∃ r, M.getD (i + 1) [] = r := ⟨_, rfl⟩
          have lr : r.length = n + 1 := by rw [← er]; exact hW (i + 1) (by omega)
          have g5 : (k : Int) ≤ (r.length : Int) := by omega
          have g6 : ((k + 1 : Nat) : Int) ≤ (r.length : Int) := by omega
          have g7 : 0 ≤ ((k + 1 : Nat) : Int) := by omega
          have g8 : k ≤ n + 1 := by omega
          have ek : r.take k ++ r.drop (k + 1) = rmK r k := rfl
          have f3 : mnK M k i ++ [rmK r k] = mnK M k (i + 1) := by rw [← er]; exact mnK_snoc M k i
          have lk := rmK_len lr (show k ≤ n by omega)
          have l1 : (r.take k).length = k := by rw [List.length_take]; omega
          have l2 : (r.drop (k + 1)).length = n - k := by rw [List.length_drop]; omega
          have tm : (mnK M k i).take i = mnK M k i := List.take_of_length_le (by omega)
          have h5 : n + 1 - (k + 1) = n - k := by omega
          have h6 : k + (n - k) = n := by omega
          have h7 : (k : Int) ≤ ((n + 1 : Nat) : Int) := by omega
          have h8 : ((k + 1 : Nat) : Int) ≤ ((n + 1 : Nat) : Int) := by omega
          have h9 : k + 1 ≤ n + 1 := by omega
          have td : (r.drop (k + 1)).take (n - k) = r.drop (k + 1) := List.take_of_length_le (by omega)
          have tt : (r.take k).take k = r.take k := List.take_of_length_le (by omega)
          have tr : (rmK r k).take n = rmK r k := List.take_of_length_le (by omega)
          have hA : (∀ y, y ∈ V.rats r → y.atoms.length = 4) = True := eq_true fun y hy => by
            obtain ⟨z, _, rfl⟩ := List.mem_map.1 hy
            rfl
          have nn : n ≤ n := Nat.le_refl _
          have aa : ∀ x : Int, (x ≤ x) = True := fun x => eq_true (Int.le_refl _)
          simp only [go_sem, g1, g2, g3, g4, g5, g6, g7, g8, d2, d3, hl, er, ek, lr, lk, l1, l2, lm, tm, mx, h5, h6, h7, h8, h9, td, tt, tr, hA, nn, aa, Nat.min_self, ev_frzT_n, frz_mat_snocA, mat_snoc, f3]
          refine ⟨⟨by omega, by omega⟩, ⟨by omega, by omega⟩, ⟨by omega, by omega⟩, ⟨by omega, by omega⟩, ⟨by omega, by omega⟩, ⟨i + 1, hin⟩, Wk.of [0, 1, 27] (by decide) ?_, by simp only; omega⟩
          simp only [go_sem, z0]
        · obtain rfl : i = n := by omega
          have g1 : ¬ ((i + 1 : Nat) : Int) < ((i + 1 : Nat) : Int) := by omega
          have hD' : D5 1000 i (mnK M k i) := ⟨mnK_len _ _ _, mnK_wid hW hl (by omega), mnK_sz hW hl (by omega) (by decide) hS⟩
          have ww : wdt (mnK M k i) = i := by
            rw [wdt_of hD'.wid, lm]
            split <;> omega
          have ok : DetOk5 i (mnK M k i) = True := eq_true ⟨⟨by omega, by omega⟩, fun _ => by rw [lm]; exact hD'⟩
          have ew : dtW (mnK M k i) = .tup [.Q (det i (mtx (mnK M k i))), .raw (.int .i64 0)] := by
            unfold dtW
            rw [lm, if_pos ww]
          obtain ⟨r, er⟩ : ∃ r, M.getD 0 [] = r := ⟨_, rfl⟩
          have lr : r.length = i + 1 := by rw [← er]; exact hW 0 (by omega)
          have g5 : (k : Int) < (r.length : Int) := by omega
          have g6 : k < r.length := by omega
          have tm : (mnK M k i).take i = mnK M k i := List.take_of_length_le (by omega)
          have h0 : 0 < i + 1 := by omega
          have s1 : qs (cf r k) ≤ 1000 := by rw [← er]; exact hS 0 k
          have s2 := pz k (by omega)
          have enx : dtP M i (k + 1) = P + sg k * (cf r k * det i (mtx (mnK M k i))) := by
            rw [← eP, ← er]; rfl
          obtain ⟨D, eD⟩ : ∃ D, det i (mtx (mnK M k i)) = D := ⟨_, rfl⟩
          rw [eD] at ew s2 enx
          have s3 : qs (cf r k) ≤ 5000000000000 := by omega
          have s4 : qs D ≤ 5000000000000 := by omega
          have s5 := qs_mul (cf r k) D
          have s6 : qs (cf r k * D) ≤ 12000000000000 := by omega
          have s7 : qs (cf r k * D) ≤ 5000000000000 := by omega
          have s8 : qs (-(cf r k * D)) ≤ 5000000000000 := by rw [qs_neg]; exact s7
          have s9 : qs P ≤ 5000000000000 := by
            have : k * (1000 + 1000000 + 1) ≤ 4 * 1001001 := Nat.mul_le_mul (by omega) (by decide)
            omega
          have rm : (k : Int).tmod 2 = ((k % 2 : Nat) : Int) := by
            rw [Int.tmod_eq_emod_of_nonneg d3]; omega
          by_cases hk2 : k % 2 = 1
          · have g8 : (((k % 2 : Nat) : Int) == 1) = true := by rw [hk2]; rfl
            have enx : dtP M i (k + 1) = P + -(cf r k * D) := by
              rw [enx, sg_mod', if_pos hk2]; grind
            simp only [go_sem, g1, g5, g6, g8, h0, d2, d3, hl, er, lm, tm, ok, ew, rm, s3, s4, s6, s7, s8, s9, lr]
            refine ⟨by omega, by omega, by omega, by rfl, ⟨by omega, by omega⟩, ⟨k + 1, by omega⟩, Wk.of [0, 1] (by decide) ?_, by simp only; omega⟩
            simp only [go_sem, enx, z0]
          · have g8 : (((k % 2 : Nat) : Int) == 1) = false := by rw [beq_eq_false_iff_ne]; omega
            have enx : dtP M i (k + 1) = P + cf r k * D := by
              rw [enx, sg_mod', if_neg hk2]; grind
            simp only [go_sem, g1, g5, g6, g8, h0, d2, d3, hl, er, lm, tm, ok, ew, rm, s3, s4, s6, s7, s8, s9, lr]
            refine ⟨by omega, by omega, by omega, by rfl, ⟨by omega, by omega⟩, ⟨k + 1, by omega⟩, Wk.of [0, 1] (by decide) ?_, by simp only; omega⟩
            simp only [go_sem, enx, z0]
      · obtain rfl : k = n + 1 := by omega
        have d1 : ¬ ((n + 1 : Nat) : Int) < ((n + 1 : Nat) : Int) := by omega
        simp only [go_sem, d1, hl, eP, z0]
    · have c1 : ((wdt M : Int) != ((n + 1 : Nat) : Int)) = true := by rw [bne_iff_ne]; omega
      have T := (tabs mixed (tbl_cons cols5_C tbl_nil))
      refine PCall.of_vc T Tryz.func9 rfl Tryz.ntmps9 Tryz.results9 (by simp) ?_
      rw [if_neg hw]
      simp only [go_sem, hm, hl, c1, z0]
      exact OutEq.atoms rfl rfl rfl
theorem det5_S : ∀ N N', N' ≤ N → Ctr Tryz.prog 9 (kDet5 N')
  | 0, N', h => Ctr.c1 (by kernel_rfl) fun M hM => det5_V M.length (fun k e => by have := hM.1.1; omega) M rfl hM.1.2 hM.2
  | N + 1, N', h => Ctr.c1 (by kernel_rfl) fun M hM => det5_V M.length (fun k e => det5_S N k (by have := hM.1.1; omega)) M rfl hM.1.2 hM.2
theorem det5_C : Ctr Tryz.prog 9 (kDet5 4) := det5_S 4 4 (Nat.le_refl _)
end Go.Proofs.YtjjebokgckmnjaaGreat


/- The law of the reference. -/
namespace Go.Proofs.YtjjebokgckmnjaaGreat
set_option linter.unusedSimpArgs false
set_option linter.unusedVariables false
open Go.RowKit

theorem MB_of {M : List (List Rat)} {w S : Nat} (h : SmM M w S) (hS : S ≤ 5000000000000) : MB M := ⟨by have := h.l; omega, fun i => ⟨by have := h.row i; omega, fun k => Nat.le_trans (h.sz i k) hS⟩⟩
theorem rre_Sm {M : List (List Rat)} {w S : Nat} (h : SmM M w S) : SmM (rre M w) w (sS S w) := by
  have hE := elm_RE h.wid
  exact ⟨by rw [hE.len]; have := (elm_EI h.wid w).n; have := h.l; omega, hE.wid, h.w, rre_sz h⟩
/-- The value that Det gives beside an error. -/
def pZ0 : Pat Unit where
  p
    | .agg [.raw (.bool false), .raw (.slice none 0 0), .raw (.bool false), .raw (.slice none 0 0)] => some (True, ())
    | _ => none
  val _ := .agg [.I 0, .I 0]
  ok x c a h hc := by
    split at h
    · exact .inr (.inl ⟨rfl, rfl, rfl, ⟨rfl, rfl⟩, rfl, ⟨rfl, rfl⟩, trivial⟩)
    · cases h
@[go_sem ↓, go_sem] theorem ev_pZ0 : pZ0.p (.agg [.raw (.bool false), .raw (.slice none 0 0), .raw (.bool false), .raw (.slice none 0 0)]) = some (True, ()) := rfl
def kSameZ : Con := con2 pZ0 pZ0 fun _ _ => (True, .raw (.bool true))
attribute [go_sem ↓, go_sem] kSameZ
theorem r2SameZ_C : Ctr Tryz.prog 18 kSameZ := Ctr.c2 (by kernel_rfl) fun _ _ _ => by
  have h := r2Same_C.2 [.agg [.I 0, .I 0], .agg [.I 0, .I 0]] _ _ (show kR2Same [.agg [.I 0, .I 0], .agg [.I 0, .I 0]] = some (_, _) from rfl) ⟨⟨trivial, trivial⟩, ⟨trivial, trivial⟩, ⟨by decide, by decide⟩, by decide, by decide⟩
  exact h
set_option maxRecDepth 20000 in
set_option maxHeartbeats 4000000 in
theorem mat5_V (x : Raw5) (hx : x.Ok) (l : List Int) (hl : l.length ≤ 9223372036854775807 ∧ ∀ i, -32768 ≤ iz l i ∧ iz l i ≤ 32767) : PCall Tryz.prog 3 [x.v, .lst (V.i16s l)] (.raw (.bool true)) := by
  have TZ := (tabs mixed (tbl_cons sanity5_C (tbl_cons made5_C (tbl_cons rref_C (tbl_cons rref5_C (tbl_cons mdet_C (tbl_cons det5_C (tbl_cons vector_C (tbl_cons solve_C (tbl_cons solve5_C (tbl_cons rrows_C (tbl_cons ints_C (tbl_cons rank_C (tbl_cons null_C (tbl_cons null5_C (tbl_cons r2SameZ_C (tbl_cons rlist_C tbl_nil)))))))))))))))))
  have T := (tabs mixed (tbl_cons sanity5_C (tbl_cons made5_C (tbl_cons rref_C (tbl_cons rref5_C (tbl_cons mdet_C (tbl_cons det5_C (tbl_cons vector_C (tbl_cons solve_C (tbl_cons solve5_C (tbl_cons rrows_C (tbl_cons ints_C (tbl_cons rank_C (tbl_cons null_C (tbl_cons null5_C (tbl_cons r2Same_C (tbl_cons rlist_C tbl_nil)))))))))))))))))
  obtain ⟨R, C, W⟩ := x
  obtain ⟨r, c, M, er, ec, eM, hM, lM, hr, hc⟩ := raw_gen hx
  have hx' : (Raw5.mk R C W).Ok = True := eq_true hx
  have r1 : RedOk M ((wdt M : Nat) : Int) = True := eq_true (hM.red (by decide))
  have n1 := hM.nul (by decide)
  have n1' : NulOk M ((c : Nat) : Int) = True := eq_true n1
  obtain ⟨q1, q2, q3⟩ := nul_eq hM.wid
  have hN := nulM_Sm hM
  have hA := rre_Sm hM
  have s5 := sS5 hc
  have nq : (∀ i k, qs (ent (rre M c) i k) ≤ 1000000000000) = True := eq_true fun i k => by have := hA.sz i k; omega
  rw [q2, q3] at q1
  have pl : (elm M c).p.length ≤ 1000000 := by have := (elm_EI hM.wid c).n; omega
  have mA : MB (rre M c) = True := eq_true (MB_of hA (by omega))
  have rk1 : rk M (wdt M) = (elm M c).p.length := by unfold rk; rw [q2]
  have hMt := hM.to
  have hW := hMt.wid
  obtain ⟨N, eN⟩ : ∃ N, nulM (elm M c).p (rre M c) c = N := ⟨_, rfl⟩
  rw [eN] at q1 hN
  have mN : MB N = True := eq_true (MB_of hN (by omega))
  obtain ⟨p, ep⟩ : ∃ p, (elm M c).p = p := ⟨_, rfl⟩
  obtain ⟨A, eA⟩ : ∃ A, rre M c = A := ⟨_, rfl⟩
  rw [ep] at q1 q2 pl rk1
  rw [eA] at q1 q3 mA nq
  obtain ⟨b, eb⟩ : ∃ b, vecQ l r = b := ⟨_, rfl⟩
  have lb : b.length = M.length := by rw [← eb, vecQ_len, lM]
  have qb : ∀ k, qs (cf b k) ≤ 1 := fun k => by rw [← eb]; exact vecQ_sz l _ k
  have vk : VecOk l ((r : Nat) : Int) = True := eq_true ⟨hl, by omega, by omega⟩
  have so : SolOk M b = True := eq_true (solOk_of lb (by omega) hW hMt.w (Nat.le_refl _) hM.sz qb (by decide))
  have sw := sS5 hMt.w
  obtain ⟨u, y, t, es, lu⟩ : ∃ u y t, solV M b = .tup [.lst (V.rats u), .lst (V.rats y), .raw (.bool t)] ∧ LB u := by
    unfold solV
    rcases hF : slF M b (wdt M) with _ | i
    · exact ⟨_, [], true, rfl, by rw [slX_len]; have := hMt.w; omega, fun k => by have := slX_sz hMt (Nat.le_refl _) qb k; omega⟩
    · exact ⟨[], _, false, rfl, by simp, fun k => by rw [cf_hi (by simp)]; exact Nat.le_trans qs_0 (by decide)⟩
  have lu' : LB u = True := eq_true lu
  have c1 : ((p.length : Int) == (p.length : Int)) = true := by simp
  have c2 : (t == t) = true := by cases t <;> rfl
  have c3 : ((0 : Int) == 0) = true := rfl
  have c4 : ((1 : Int) == 1) = true := rfl
  have dc : DetC M = True := eq_true ⟨by omega, fun e => by rw [← e]; exact hM.red (by decide)⟩
  have dk : DetOk5 4 M = True := eq_true ⟨⟨by omega, by omega⟩, fun e => ⟨rfl, by rw [e] at hW; exact hW, fun i j => Nat.le_trans (hM.sz i j) (by decide)⟩⟩
  by_cases hw : wdt M = M.length
  · have hWs : Wid M.length M := by rw [hw] at hW; exact hW
    have ed : dtv M = det M.length (mtx M) := dtV_det hWs rfl
    have d1 : detV M = .tup [.Q (det M.length (mtx M)), .raw (.int .i64 0)] := by unfold detV; rw [if_pos hw, ed]
    have d2 : dtW M = .tup [.Q (det M.length (mtx M)), .raw (.int .i64 0)] := by unfold dtW; rw [if_pos hw]
    have dz : qs (det M.length (mtx M)) ≤ 1000000 := Nat.le_trans (d5_sz (S := 1) (by decide) ⟨rfl, hWs, hM.sz⟩) (Nat.le_trans (dB_le (b := 4) (by omega)) (by decide))
    obtain ⟨D, eD⟩ : ∃ D, det M.length (mtx M) = D := ⟨_, rfl⟩
    rw [eD] at d1 d2 dz
    have z1 : dl D.num.natAbs ≤ 30000000000000 := Nat.le_trans (sz_num dz) (by decide)
    have z2 : dl ((D.den : Int)).natAbs ≤ 30000000000000 := Nat.le_trans (sz_den dz) (by decide)
    refine PCall.of_vc T Tryz.func3 rfl Tryz.ntmps3 Tryz.results3 (by simp [Raw5.v]) ?_
    show vc _ _ _ _ _ (st0 [.agg [.raw (.int .u8 R), .raw (.int .u8 C), .lst (V.i16s W)], .lst (V.i16s l)] _)
    simp only [go_sem, hx', er, ec, eM, r1, n1', nq, q1, q2, q3, lM, pl, mA, mN, rk1, eb, vk, so, es, lu', c1, c2, c3, c4, dc, dk, d1, d2, z1, z2, qpair, Int.toNat_natCast]
  · have d1 : detV M = .tup [z0, .raw (.int .i64 1)] := by unfold detV; rw [if_neg hw]
    have d2 : dtW M = .tup [z0, .raw (.int .i64 1)] := by unfold dtW; rw [if_neg hw]
    refine PCall.of_vc TZ Tryz.func3 rfl Tryz.ntmps3 Tryz.results3 (by simp [Raw5.v]) ?_
    show vc _ _ _ _ _ (st0 [.agg [.raw (.int .u8 R), .raw (.int .u8 C), .lst (V.i16s W)], .lst (V.i16s l)] _)
    simp only [go_sem, hx', er, ec, eM, r1, n1', nq, q1, q2, q3, lM, pl, mA, mN, rk1, eb, vk, so, es, lu', c1, c2, c3, c4, dc, dk, d1, d2, z0, qpair, Int.toNat_natCast]
set_option maxRecDepth 20000 in
theorem lawMat5_F (X Y : V) (h : Fits Tryz.prog 6 24 X) (g : Fits Tryz.prog 6 22 Y) : PCall Tryz.prog 3 [X, Y] (.raw (.bool true)) := by
  obtain ⟨x, rfl, hx⟩ := fits_raw5 h
  obtain ⟨l, rfl, hl⟩ := fits_i16s g
  exact mat5_V x hx l hl
end Go.Proofs.YtjjebokgckmnjaaGreat

