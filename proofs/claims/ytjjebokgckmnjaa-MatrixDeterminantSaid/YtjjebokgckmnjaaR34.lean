/- Texts LM5 LM6 in one. -/
import Derived.Test.YtjjebokgckmnjaaR32
import Derived.Test.YtjjebokgckmnjaaR33
/- The law of the echelon form. -/
namespace Go.Proofs.Ytjjebokgckmnjaa
set_option linter.unusedSimpArgs false
set_option linter.unusedVariables false
open Go.RowKit

theorem rre_Sm5 {M : List (List Rat)} {w S : Nat} (h : SmM M w S) : SmM (rre M w) w (sS S w) := by
  have hE := elm_RE h.wid
  exact ⟨by rw [hE.len]; have := (elm_EI h.wid w).n; have := h.l; omega, hE.wid, h.w, rre_sz h⟩
theorem MB_of5 {M : List (List Rat)} {w S : Nat} (h : SmM M w S) (hS : S ≤ 5000000000000) : MB M := ⟨by have := h.l; omega, fun i => ⟨by have := h.row i; omega, fun k => Nat.le_trans (h.sz i k) hS⟩⟩
set_option maxRecDepth 20000 in
theorem fits_chg {X : V} {n : Nat} (h : Fits Try.prog (n + 4) 55 X) : ∃ x : Chg, X = x.v ∧ x.Ok := by
  have u3 : Try.prog.underlying 5 = some (.int .u8) := by kernel_rfl
  have u4 : Try.prog.underlying 53 = some (.int .i8) := by kernel_rfl
  obtain ⟨l, rfl, hl⟩ := fits_struct Try.underlying55 h
  obtain ⟨x1, m, rfl, g1, hl⟩ := fitL_cons hl
  obtain ⟨x2, m, rfl, g2, hl⟩ := fitL_cons hl
  obtain ⟨x3, m, rfl, g3, hl⟩ := fitL_cons hl
  obtain ⟨x4, m, rfl, g4, hl⟩ := fitL_cons hl
  have := fitL_nil hl
  subst this
  obtain ⟨a, ha, rfl⟩ := fits_int u3 g1
  obtain ⟨b, hb, rfl⟩ := fits_int u3 g2
  obtain ⟨c, hc, rfl⟩ := fits_int u3 g3
  obtain ⟨d, hd, rfl⟩ := fits_int u4 g4
  have a1 := wf_u8 ha
  have b1 := wf_u8 hb
  have c1 := wf_u8 hc
  have d1 := wf_i8 hd
  exact ⟨⟨a, b, c, d⟩, rfl, ⟨by simp only; omega, by simp only; omega⟩, ⟨by simp only; omega, by simp only; omega⟩, ⟨by simp only; omega, by simp only; omega⟩, ⟨by simp only; omega, by simp only; omega⟩⟩
theorem qs_i8 {z : Int} (h : -128 ≤ z ∧ z ≤ 127) : qs (z : Rat) ≤ 1 := by
  refine Nat.le_trans (qs_int z) (Nat.max_le.2 ⟨dl_le.2 ?_, Nat.le_refl _⟩)
  rw [Nat.pow_one]; omega
theorem chV_Sm {M : List (List Rat)} {w : Nat} (h : SmM M w 1) (hl : M.length ≤ 4) {x : Chg} (hx : x.Ok) : SmM (chV M x) w 4 ∧ ∀ S, Lin S → (AllS S (chV M x) ↔ AllS S M) := by
  have hz := qs_i8 hx.z
  unfold chV
  by_cases h0 : M.length = 0
  · rw [if_pos h0]
    exact ⟨h.mono (by decide), fun _ _ => Iff.rfl⟩
  · rw [if_neg h0]
    have hi : x.I.toNat % M.length < M.length := Nat.mod_lt _ (by omega)
    have hk : x.K.toNat % M.length < M.length := Nat.mod_lt _ (by omega)
    generalize x.I.toNat % M.length = i at hi ⊢
    generalize x.K.toNat % M.length = k at hk ⊢
    refine ⟨⟨?_, chM_wid h.wid hi hk, h.w, fun a b => ?_⟩, fun S hS => chM_same h.wid hi hk S hS⟩
    · unfold chM
      split
      · rw [swM_len]; omega
      · split
        · split
          · omega
          · rw [List.length_set]; omega
        · split
          · split
            · omega
            · rw [List.length_set]; omega
          · rw [List.length_append]; simp; omega
    · have hM : ∀ a b, qs (ent M a b) ≤ 4 := fun a b => Nat.le_trans (h.sz a b) (by decide)
      have hr : ∀ b, qs (cf (M.getD i []) b) ≤ 1 := h.sz i
      have hs : ∀ b, qs (cf (M.getD k []) b) ≤ 1 := h.sz k
      have q0 : qs 0 ≤ 4 := Nat.le_trans qs_0 (by decide)
      have m1 : ∀ b, qs (cf (M.getD i []) b * (x.Z : Rat)) ≤ 4 := fun b => by
        have := qs_mul (cf (M.getD i []) b) (x.Z : Rat)
        have := hr b
        omega
      have m2 : ∀ b, qs (cf (M.getD i []) b + (x.Z : Rat) * cf (M.getD k []) b) ≤ 4 := fun b => by
        have := qs_add (cf (M.getD i []) b) ((x.Z : Rat) * cf (M.getD k []) b)
        have := qs_mul (x.Z : Rat) (cf (M.getD k []) b)
        have := hr b
        have := hs b
        omega
      have m3 : ∀ b, qs (cf (M.getD i []) b - (x.Z : Rat) * cf (M.getD k []) b) ≤ 4 := fun b => by
        have := qs_sub (cf (M.getD i []) b) ((x.Z : Rat) * cf (M.getD k []) b)
        have := qs_mul (x.Z : Rat) (cf (M.getD k []) b)
        have := hr b
        have := hs b
        omega
      unfold chM
      split
      · exact Nat.le_trans (swM_sz hi hk h.sz a b) (by decide)
      · split
        · split
          · exact hM a b
          · show qs (cf _ _) ≤ 4
            rw [gd_set hi]
            split
            · unfold scR
              rw [cf_mkr]
              split
              · exact m1 b
              · exact q0
            · exact hM a b
        · split
          · split
            · exact hM a b
            · show qs (cf _ _) ≤ 4
              rw [gd_set hi]
              split
              · unfold adR
                rw [cf_mkr]
                split
                · exact m2 b
                · exact q0
              · exact hM a b
          · show qs (cf _ _) ≤ 4
            rw [gd_app]
            split
            · exact hM a b
            · split
              · unfold sbR
                rw [cf_mkr]
                split
                · exact m3 b
                · exact q0
              · rw [cf_hi (by simp)]; exact q0
set_option maxRecDepth 20000 in
set_option maxHeartbeats 4000000 in
theorem ech5_V (x : Raw5) (hx : x.Ok) (y : Chg) (hy : y.Ok) : PCall Try.prog 6 [x.v, y.v] (.raw (.bool true)) := by
  have T := (tabs mixed (tbl_cons sanity5_C (tbl_cons made5_C (tbl_cons rref_C (tbl_cons changed_C (tbl_cons even_C (tbl_cons rrows_C (tbl_cons ints_C (tbl_cons zerosB_C (tbl_cons r2Same_C (tbl_cons r2Whole_C tbl_nil)))))))))))
  obtain ⟨R, C, W⟩ := x
  obtain ⟨r, c, M, er, ec, eM, hM, lM, hr, hc⟩ := raw_gen hx
  have hx' : (Raw5.mk R C W).Ok = True := eq_true hx
  obtain ⟨yT, yI, yK, yZ⟩ := y
  have r1 : RedOk M ((wdt M : Nat) : Int) = True := eq_true (hM.red (by decide))
  refine PCall.of_vc T Try.func6 rfl Try.ntmps6 Try.results6 (by simp [Raw5.v, Chg.v]) ?_
  show vc _ _ _ _ _ (st0 [.agg [.raw (.int .u8 R), .raw (.int .u8 C), .lst (V.i16s W)], .agg [.raw (.int .u8 yT), .raw (.int .u8 yI), .raw (.int .u8 yK), .raw (.int .i8 yZ)]] _)
  obtain ⟨hN, sN⟩ := chV_Sm hM (by omega) hy
  have co : ChOk M ⟨yT, yI, yK, yZ⟩ = True := eq_true ⟨hy, by omega, c, ⟨hM.wid, by omega⟩, fun i k => Nat.le_trans (hM.sz i k) (by decide)⟩
  have r2 : RedOk (chV M ⟨yT, yI, yK, yZ⟩) ((wdt (chV M ⟨yT, yI, yK, yZ⟩) : Nat) : Int) = True := eq_true (hN.red (by decide))
  obtain ⟨_, u2, u3⟩ := nul_eq hM.wid
  obtain ⟨_, v2, v3⟩ := nul_eq hN.wid
  obtain ⟨s2, s3⟩ := rre_same hN.wid hM.wid sN
  have hE := elm_RE hM.wid
  have hA := rre_Sm5 hM
  have s5 := sS5 hc
  have r3 : RedOk (rre M c) ((wdt (rre M c) : Nat) : Int) = True := eq_true (hA.red (by omega))
  obtain ⟨_, w2, w3⟩ := nul_eq hA.wid
  obtain ⟨x2, x3⟩ := rre_self hE
  have mA : MB (rre M c) = True := eq_true (MB_of5 hA (by omega))
  rw [x2] at w2
  rw [x3] at w3
  rw [s2] at v2
  rw [s3] at v3
  have pl : (elm M c).p.length ≤ 1000000 := by have := (elm_EI hM.wid c).n; omega
  obtain ⟨p, ep⟩ : ∃ p, (elm M c).p = p := ⟨_, rfl⟩
  obtain ⟨A, eA⟩ : ∃ A, rre M c = A := ⟨_, rfl⟩
  rw [ep] at u2 v2 w2 pl hE
  rw [eA] at u3 v3 w2 w3 r3 mA hE hA
  obtain ⟨lA, wA, p1, p2, un, zr⟩ := hE
  have lA6 : A.length ≤ 1000000 := by omega
  have ev : evenB A ((c : Nat) : Int) = true := evenB_iff.2 fun i hi => by rw [wA i hi]
  have c1 : ((A.length : Int) != (p.length : Int)) = false := by rw [bne_eq_false_iff_eq]; omega
  simp only [go_sem, hx', er, ec, eM, r1, co, r2, r3, u2, u3, v2, v3, w2, w3, mA, lA6, pl, ev, c1, lM, Int.toNat_natCast]
  refine AWp.loops (X := { i : Nat // i ≤ p.length }) (fun i => mkSt [(5, .raw (.bool true)), (7, .raw (.int .i64 (c : Nat))), (8, .lst (V.mat A)), (9, .lst (V.nats p)), (14, .raw (.int .i64 (i.1 : Nat)))] [] 0 163) (fun i => p.length - i.1) ⟨0, Nat.zero_le _⟩ (Wk.of [] (by decide) ?_) ?_
  · simp only [go_sem, Int.natCast_zero]
  rintro ⟨i, hi⟩
  refine vc_at T ?_
  by_cases hin : i < p.length
  · have f1 : (i : Int) < (p.length : Int) := by omega
    have f2 : (i : Int) + 1 = ((i + 1 : Nat) : Int) := by omega
    have f3 : 0 ≤ (i : Int) := by omega
    have hiA : i < A.length := by omega
    have f4 : (i : Int) < (A.length : Int) := by omega
    have f5 : ¬ ((pv p i : Nat) : Int) < 0 := by omega
    have f6 : ¬ (c : Int) ≤ ((pv p i : Nat) : Int) := by have := p1 i hin; omega
    obtain ⟨row, erow⟩ : ∃ row, A.getD i [] = row := ⟨_, rfl⟩
    have lrow : row.length = c := by rw [← erow]; exact wA i hiA
    have f7 : ((c : Int) != (c : Int)) = false := by simp
    have f8 : 0 ≤ ((pv p i : Nat) : Int) := by omega
    have f9 : ((pv p i : Nat) : Int) ≤ (c : Int) := by have := p1 i hin; omega
    have f10 : pv p i ≤ c := by have := p1 i hin; omega
    have zt : zrB (row.take (pv p i)) = true := zrB_iff.2 fun k hk => by
      rw [List.length_take] at hk
      have : cf (row.take (pv p i)) k = cf row k := by
        unfold cf
        rw [List.getD_eq_getElem?_getD, List.getD_eq_getElem?_getD, List.getElem?_take, if_pos (by omega)]
      rw [this, ← erow]
      exact zr i k hin (by omega)
    have lt6 : (row.take (pv p i)).length ≤ 1000000 := by rw [List.length_take]; omega
    have hAt : (∀ y, y ∈ V.rats row → y.atoms.length = 4) = True := eq_true fun y hy => by
      obtain ⟨z, _, rfl⟩ := List.mem_map.1 hy
      rfl
    have aa : ∀ x : Int, (x ≤ x) = True := fun x => eq_true (Int.le_refl _)
    by_cases hi0 : i = 0
    all_goals
      first
      | (have g1 : ¬ (0 : Int) < (i : Int) := by omega
         simp only [go_sem, f1, f3, f4, f5, f6, f7, f8, f9, f10, zt, lt6, hAt, aa, g1, hin, hiA, erow, lrow]
         refine ⟨by omega, by rfl, ?_⟩)
      | (have g1 : (0 : Int) < (i : Int) := by omega
         have g2 : (i : Int) - 1 = ((i - 1 : Nat) : Int) := by omega
         have g3 : 0 ≤ ((i - 1 : Nat) : Int) := by omega
         have g4 : i - 1 < p.length := by omega
         have g5 : ((i - 1 : Nat) : Int) < (p.length : Int) := by omega
         have g6 : ¬ ((pv p i : Nat) : Int) ≤ ((pv p (i - 1) : Nat) : Int) := by have := p2 (i - 1) i (by omega) hin; omega
         simp only [go_sem, f1, f3, f4, f5, f6, f7, f8, f9, f10, zt, lt6, hAt, aa, g1, g2, g3, g4, g5, g6, hin, hiA, erow, lrow]
         refine ⟨⟨by omega, by omega⟩, by omega, by rfl, ?_⟩)
    all_goals
      refine AWp.loops (X := { k : Nat // k ≤ A.length }) (fun k => mkSt [(5, .raw (.bool true)), (7, .raw (.int .i64 (c : Nat))), (8, .lst (V.mat A)), (9, .lst (V.nats p)), (14, .raw (.int .i64 (i : Nat))), (15, .raw (.int .i64 (k.1 : Nat)))] [] 0 163) (fun k => A.length - k.1) ⟨0, Nat.zero_le _⟩ (Wk.of [] (by decide) ?_) ?_
      · simp only [go_sem, Int.natCast_zero]
      rintro ⟨k, hk⟩
      refine vc_at T ?_
      by_cases hkn : k < A.length
      · have k1 : (k : Int) < (A.length : Int) := by omega
        have k2 : (k : Int) + 1 = ((k + 1 : Nat) : Int) := by omega
        have k3 : 0 ≤ (k : Int) := by omega
        obtain ⟨rk, erk⟩ : ∃ rk, A.getD k [] = rk := ⟨_, rfl⟩
        have lrk : rk.length = c := by rw [← erk]; exact wA k hkn
        have k5 : pv p i < c := p1 i hin
        have k6 : ((pv p i : Nat) : Int) < (c : Int) := by omega
        have fe : cf rk (pv p i) = if k = i then 1 else 0 := by rw [← erk]; exact un k (by omega) i hin
        have s3 : dl (Rat.num 1).natAbs ≤ 30000000000000 := by decide
        have s4 : dl ((Rat.den 1 : Nat) : Int).natAbs ≤ 30000000000000 := by decide
        have s5 : dl (Rat.num 0).natAbs ≤ 30000000000000 := by decide
        have s6 : dl ((Rat.den 0 : Nat) : Int).natAbs ≤ 30000000000000 := by decide
        have z0r : ((0 : Int) : Rat) = 0 := rfl
        have z1r : ((1 : Int) : Rat) = 1 := rfl
        by_cases hki : i = k
        · have k7 : ((i : Int) == (k : Int)) = true := by rw [hki]; simp
          rw [if_pos hki.symm] at fe
          simp only [go_sem, f1, f3, f7, f8, k1, k2, k3, k5, k6, k7, fe, s3, s4, z1r, qpair, hin, hkn, erk, lrk]
          refine ⟨by rfl, ⟨by omega, by omega⟩, ⟨k + 1, hkn⟩, Wk.of [] (by decide) ?_, by simp only; omega⟩
          simp only [go_sem]
        · have k7 : ((i : Int) == (k : Int)) = false := by rw [beq_eq_false_iff_ne]; omega
          rw [if_neg (fun h => hki h.symm)] at fe
          simp only [go_sem, f1, f3, f7, f8, k1, k2, k3, k5, k6, k7, fe, s5, s6, z0r, qpair, hin, hkn, erk, lrk]
          refine ⟨by rfl, ⟨by omega, by omega⟩, ⟨k + 1, hkn⟩, Wk.of [] (by decide) ?_, by simp only; omega⟩
          simp only [go_sem]
      · obtain rfl : k = A.length := by omega
        have k1 : ¬ (A.length : Int) < (A.length : Int) := by omega
        simp only [go_sem, k1, f2]
        refine ⟨⟨by omega, by omega⟩, ⟨i + 1, hin⟩, Wk.of [] (by decide) ?_, by simp only; omega⟩
        simp only [go_sem]
  · obtain rfl : i = p.length := by omega
    have f1 : ¬ (p.length : Int) < (p.length : Int) := by omega
    simp only [go_sem, f1]
set_option maxRecDepth 20000 in
theorem lawEch5_F (X Y : V) (h : Fits Try.prog 6 24 X) (g : Fits Try.prog 6 55 Y) : PCall Try.prog 6 [X, Y] (.raw (.bool true)) := by
  obtain ⟨x, rfl, hx⟩ := fits_raw5 h
  obtain ⟨y, rfl, hy⟩ := fits_chg g
  exact ech5_V x hx y hy
end Go.Proofs.Ytjjebokgckmnjaa


/- The law of the determinant. -/
namespace Go.Proofs.Ytjjebokgckmnjaa
set_option linter.unusedSimpArgs false
set_option linter.unusedVariables false
open Go.RowKit

theorem dtv_sz {M : List (List Rat)} {n S : Nat} (h : SmM M n S) (hl : M.length ≤ 5) (hS : dS S 5 ≤ 1000000) : qs (dtv M) ≤ 1000000 := by
  have := (elm_sz h.wid h.sz M.length).2
  have := dS_mono S hl
  unfold dtv
  split
  · exact Nat.le_trans qs_0 (by decide)
  · omega
theorem sq_gen {R C : Int} {W : List Int} (hx : (Raw5.mk R C W).Ok) : ∃ r M, (Raw5.mk R C W).rows = r ∧ (Raw5.mk R C W).m r r = M ∧ SmM M r 1 ∧ M.length = r ∧ r ≤ 4 ∧ r = (R % 5).toNat :=
  ⟨_, _, rfl, rfl, ⟨by rw [xm_len]; have := rows_lt (Raw5.mk R C W); omega, xm_wid _ _ _, by have := rows_lt (Raw5.mk R C W); omega, xm_sz hx _ _⟩, xm_len _ _ _, rows_lt _, rfl⟩
theorem wdt_sq {M : List (List Rat)} {r : Nat} (hW : Wid r M) (hl : M.length = r) : wdt M = r := by
  rw [wdt_of hW]
  split <;> omega
theorem detV_sq {M : List (List Rat)} {r : Nat} (hW : Wid r M) (hl : M.length = r) : detV M = .tup [.Q (dtv M), .raw (.int .i64 0)] := by
  unfold detV
  rw [if_pos (by rw [wdt_sq hW hl, hl])]
theorem SmM.det {M : List (List Rat)} {r S : Nat} (h : SmM M r S) (hl : M.length = r) (hS : S ≤ 20000000) : DetC M = True := eq_true ⟨by have := h.l; omega, fun e => by rw [← e]; exact h.red hS⟩
theorem prM_Sm {A B : List (List Rat)} {r : Nat} (hA : SmM A r 1) (lA : A.length = r) (hB : SmM B r 1) (lB : B.length = r) : SmM (prM A B) r 16 := ⟨by rw [prM_len]; exact hA.l, by have := prM_wid A B; rwa [lB] at this, hA.w, fun i k => by
  by_cases hi : i < r
  · by_cases hk : k < r
    · rw [ent_prM hA.wid lA lB hi hk]
      have := dot_szS (a := A.getD i []) (b := (trM B r).getD k []) (S := 1) (fun j => hA.sz i j) (fun j => (hB.tr (Nat.le_refl _) (by have := hB.w; omega)).sz k j) r
      have e : (sm r fun j => ent A i j * ent B j k) = sm r fun j => cf (A.getD i []) j * cf ((trM B r).getD k []) j := sm_congr fun j hj => by
        have : cf ((trM B r).getD k []) j = ent B j k := ent_trM B hk j
        rw [this]
      rw [e]
      have h5 := hA.w
      have : r * (2 * 1 + 1) ≤ 5 * 3 := Nat.mul_le_mul_right _ h5
      omega
    · rw [ent_wide (w := r) (by have := prM_wid A B; rwa [lB] at this) i (by omega)]
      exact Nat.le_trans qs_0 (by decide)
  · rw [ent_ge (by rw [prM_len]; omega)]
    exact Nat.le_trans qs_0 (by decide)⟩
set_option maxRecDepth 20000 in
set_option maxHeartbeats 4000000 in
theorem dtm5_V (x y : Raw5) (hx : x.Ok) (hy : y.Ok) (z : Chg) (hz : z.Ok) : PCall Try.prog 8 [x.v, y.v, z.v] (.raw (.bool true)) := by
  have T := (tabs mixed (tbl_cons sanity5_C (tbl_cons square_C (tbl_cons mdet_C (tbl_cons product_C (tbl_cons turned_C (tbl_cons changed_C (tbl_cons null_C (tbl_cons r2Neg_C (tbl_cons r2Mul_C (tbl_cons r2Same_C (tbl_cons r2Sign_C tbl_nil))))))))))))
  obtain ⟨R, C, W⟩ := x
  obtain ⟨R', C', W'⟩ := y
  obtain ⟨zT, zI, zK, zZ⟩ := z
  have hy' : (Raw5.mk R C' W').Ok := ⟨hx.r, hy.c, hy.v, hy.l⟩
  have hz' : (Chg.mk 0 zI zK zZ).Ok := ⟨⟨by simp only; omega, by simp only; omega⟩, hz.i, hz.k, hz.z⟩
  obtain ⟨r, A, er, eA, hA, lA, hr, er2⟩ := sq_gen hx
  obtain ⟨r', B, er', eB, hB, lB, hr', er2'⟩ := sq_gen hy'
  obtain rfl : r' = r := by omega
  have hxO : (Raw5.mk R C W).Ok = True := eq_true hx
  have hyO : (Raw5.mk R C' W').Ok = True := eq_true hy'
  have wA := hA.wid
  have wB := hB.wid
  have hP := prM_Sm hA lA hB lB
  have lP : (prM A B).length = r' := by rw [prM_len, lA]
  have hT := hA.tr (Nat.le_refl _) (by omega)
  rw [lA] at hT
  have lT : (trM A r').length = r' := trM_len A r'
  obtain ⟨hN, _⟩ := chV_Sm hA (by omega) hz'
  have dA := detV_sq wA lA
  have dB' := detV_sq wB lB
  have dP := detV_sq hP.wid lP
  have dT := detV_sq hT.wid lT
  have kA := hA.det lA (by decide)
  have kB := hB.det lB (by decide)
  have kP := hP.det lP (by decide)
  have kT := hT.det lT (by decide)
  have mP : dtv (prM A B) = dtv A * dtv B := dtV_mul wA lA wB lB
  have mT : dtv (trM A r') = dtv A := dtV_tr wA lA
  have qA := dtv_sz hA (by omega) (by decide)
  have qB := dtv_sz hB (by omega) (by decide)
  rw [mP] at dP
  rw [mT] at dT
  have co : ChOk A ⟨0, zI, zK, zZ⟩ = True := eq_true ⟨hz', by omega, r', ⟨wA, by omega⟩, fun i k => Nat.le_trans (hA.sz i k) (by decide)⟩
  have pcd : ∀ i k, DotOk (A.getD i []) ((trM B r').getD k []) := fun i k => ⟨⟨by have := hA.row i; omega, by have := (hB.tr (Nat.le_refl _) (by omega)).row k; omega⟩, fun j => Nat.le_trans (hA.sz i j) (by decide), fun j => Nat.le_trans ((hB.tr (Nat.le_refl _) (by omega)).sz k j) (by decide)⟩
  have pcw : Wid r' B := wB
  have pc : ((r' ≤ 100 ∧ r' ≤ 100) ∧ Wid r' B ∧ ∀ i k, DotOk (A.getD i []) ((trM B r').getD k [])) = True := eq_true ⟨⟨by omega, by omega⟩, wB, fun i k => ⟨⟨by have := hA.row i; omega, by have := (hB.tr (Nat.le_refl _) (by omega)).row k; omega⟩, fun j => Nat.le_trans (hA.sz i j) (by decide), fun j => Nat.le_trans ((hB.tr (Nat.le_refl _) (by omega)).sz k j) (by decide)⟩⟩
  have tc : ((r' ≤ 1000 ∧ 0 ≤ (r' : Int) ∧ (r' : Int) ≤ 1000) ∧ ∀ i, i < r' → (r' : Int) ≤ ((A.getD i []).length : Nat)) = True := eq_true ⟨⟨by omega, by omega, by omega⟩, fun i hi => by rw [wA i (by omega)]; exact Int.le_refl _⟩
  have nO : NulOk A ((r' : Nat) : Int) = True := eq_true (hA.nul (by decide))
  obtain ⟨q1, q2, q3⟩ := nul_eq wA
  have lNn := nulM_len (elm A r').p (rre A r') r'
  have hE := elm_RE wA
  have full := frL_full hE.lt hE.inc
  have dz : dtv A = 0 ↔ rk A r' < r' := dtV_zero wA lA
  have pc2 : (elm A r').p.length ≤ r' := rk_cols wA
  have dz : dtv A = 0 ↔ (elm A r').p.length < r' := dz
  rw [q2, q3] at q1
  obtain ⟨N, eN⟩ : ∃ N, nulM (elm A r').p (rre A r') r' = N := ⟨_, rfl⟩
  rw [eN] at q1 lNn
  have dep : dtv A = 0 ↔ 0 < N.length := dz.trans ⟨fun h => by omega, fun h => by omega⟩
  have sw := fun i k => @dtV_sw A r' i k wA lA
  obtain ⟨D, eD⟩ : ∃ D, dtv A = D := ⟨_, rfl⟩
  obtain ⟨E, eE⟩ : ∃ E, dtv B = E := ⟨_, rfl⟩
  have eD2 : dtV A = D := eD
  rw [eD] at dA dP dT qA dep
  rw [eE] at dB' dP qB
  rw [eD2] at sw
  have s1 : qs D ≤ 5000000000000 := by omega
  have s2 : qs E ≤ 5000000000000 := by omega
  have s3 : qs D ≤ 12000000000000 := by omega
  have s4 := qs_mul D E
  have z1 : dl D.num.natAbs ≤ 30000000000000 := Nat.le_trans (sz_num s1) (by decide)
  have z2 : dl ((D.den : Int)).natAbs ≤ 30000000000000 := Nat.le_trans (sz_den s1) (by decide)
  have z3 : dl (D * E).num.natAbs ≤ 30000000000000 := Nat.le_trans (sz_num s4) (by omega)
  have z4 : dl (((D * E).den : Int)).natAbs ≤ 30000000000000 := Nat.le_trans (sz_den s4) (by omega)
  have c3 : ((0 : Int) == 0) = true := rfl
  have c4 : ((0 : Int) != 0) = false := rfl
  refine PCall.of_vc T Try.func8 rfl Try.ntmps8 Try.results8 (by simp [Raw5.v, Chg.v]) ?_
  show vc _ _ _ _ _ (st0 [.agg [.raw (.int .u8 R), .raw (.int .u8 C), .lst (V.i16s W)], .agg [.raw (.int .u8 R'), .raw (.int .u8 C'), .lst (V.i16s W')], .agg [.raw (.int .u8 zT), .raw (.int .u8 zI), .raw (.int .u8 zK), .raw (.int .i8 zZ)]] _)
  have w1 : IntKind.i64.wrap zI = zI := IntWalk.i64_in _ ⟨by have := hz.i; simp only at this; omega, by have := hz.i; simp only at this; omega⟩
  have w2 : IntKind.i64.wrap zK = zK := IntWalk.i64_in _ ⟨by have := hz.k; simp only at this; omega, by have := hz.k; simp only at this; omega⟩
  by_cases hr0 : r' = 0
  · have eN0 : chV A ⟨0, zI, zK, zZ⟩ = A := by unfold chV; rw [if_pos (by omega)]
    have kN : DetC (chV A ⟨0, zI, zK, zZ⟩) = True := by rw [eN0]; exact kA
    have dN : detV (chV A ⟨0, zI, zK, zZ⟩) = .tup [.Q D, .raw (.int .i64 0)] := by rw [eN0]; exact dA
    have r0 : ¬ (0 : Int) < (r' : Int) := by omega
    by_cases hd : D = 0
    · have hp : (0 : Int) < (N.length : Int) := by have := dep.1 hd; omega
      have sg : (sgI D.num == 0) = true := by rw [hd]; rfl
      have cc : (true == true) = true := rfl
      simp only [go_sem, hxO, hyO, er, er', eA, eB, dA, dB', dP, dT, kA, kB, kP, kT, mP, mT, co, pc, tc, nO, q1, q2, q3, lA, lB, lP, lT, s1, s2, s3, z1, z2, z3, z4, c3, c4, qpair, w1, w2, kN, dN, hp, sg, cc, r0, Int.toNat_natCast]
      exact ⟨by rfl, ⟨by omega, pcw, pcd⟩, by rfl, by rfl⟩
    · have hp : ¬ (0 : Int) < (N.length : Int) := fun h => hd (dep.2 (by omega))
      have sg : (sgI D.num == 0) = false := by
        have := sgI_z D
        rw [decide_eq_false hd] at this
        rw [beq_eq_false_iff_ne]
        exact bne_iff_ne.1 this
      have cc : (false == false) = true := rfl
      simp only [go_sem, hxO, hyO, er, er', eA, eB, dA, dB', dP, dT, kA, kB, kP, kT, mP, mT, co, pc, tc, nO, q1, q2, q3, lA, lB, lP, lT, s1, s2, s3, z1, z2, z3, z4, c3, c4, qpair, w1, w2, kN, dN, hp, sg, cc, r0, Int.toNat_natCast]
      exact ⟨by rfl, ⟨by omega, pcw, pcd⟩, by rfl, by rfl⟩
  · obtain ⟨i, ei⟩ : ∃ i, zI.toNat % r' = i := ⟨_, rfl⟩
    obtain ⟨k, ek⟩ : ∃ k, zK.toNat % r' = k := ⟨_, rfl⟩
    have hi : i < r' := by rw [← ei]; exact Nat.mod_lt _ (by omega)
    have hk : k < r' := by rw [← ek]; exact Nat.mod_lt _ (by omega)
    have eN1 : chV A ⟨0, zI, zK, zZ⟩ = swM A i k := by
      unfold chV
      rw [if_neg (by omega), lA, ei, ek]
      exact if_pos rfl
    have lN : (chV A ⟨0, zI, zK, zZ⟩).length = r' := by rw [eN1, swM_len, lA]
    have kN := hN.det lN (by decide)
    have dN' := detV_sq hN.wid lN
    have dv : dtv (chV A ⟨0, zI, zK, zZ⟩) = if k = i then D else -D := by rw [eN1]; exact sw i k hi hk
    have r0 : (0 : Int) < (r' : Int) := by omega
    have r1 : ((r' : Int) = 0) = False := eq_false (by omega)
    have t1 : zI.tmod (r' : Int) = (i : Int) := by
      rw [Int.tmod_eq_emod_of_nonneg hz.i.1, ← ei, Int.natCast_emod, Int.toNat_of_nonneg hz.i.1]
    have t2 : zK.tmod (r' : Int) = (k : Int) := by
      rw [Int.tmod_eq_emod_of_nonneg hz.k.1, ← ek, Int.natCast_emod, Int.toNat_of_nonneg hz.k.1]
    have r2 : (1 ≤ (r' : Int)) = True := eq_true (by omega)
    by_cases hik : k = i
    · have dN : detV (chV A ⟨0, zI, zK, zZ⟩) = .tup [.Q D, .raw (.int .i64 0)] := by rw [dN', dv, if_pos hik]
      have g1 : ((i : Int) != (k : Int)) = false := by rw [hik]; simp
      by_cases hd : D = 0
      · have hp : (0 : Int) < (N.length : Int) := by have := dep.1 hd; omega
        have sg : (sgI D.num == 0) = true := by rw [hd]; rfl
        have cc : (true == true) = true := rfl
        simp only [go_sem, hxO, hyO, er, er', eA, eB, dA, dB', dP, dT, kA, kB, kP, kT, mP, mT, co, pc, tc, nO, q1, q2, q3, lA, lB, lP, lT, s1, s2, s3, z1, z2, z3, z4, c3, c4, qpair, w1, w2, kN, dN, hp, sg, cc, r0, r1, r2, t1, t2, g1, Int.toNat_natCast]
        exact ⟨by rfl, ⟨by omega, pcw, pcd⟩, by rfl, by rfl⟩
      · have hp : ¬ (0 : Int) < (N.length : Int) := fun h => hd (dep.2 (by omega))
        have sg : (sgI D.num == 0) = false := by
          have := sgI_z D
          rw [decide_eq_false hd] at this
          rw [beq_eq_false_iff_ne]
          exact bne_iff_ne.1 this
        have cc : (false == false) = true := rfl
        simp only [go_sem, hxO, hyO, er, er', eA, eB, dA, dB', dP, dT, kA, kB, kP, kT, mP, mT, co, pc, tc, nO, q1, q2, q3, lA, lB, lP, lT, s1, s2, s3, z1, z2, z3, z4, c3, c4, qpair, w1, w2, kN, dN, hp, sg, cc, r0, r1, r2, t1, t2, g1, Int.toNat_natCast]
        exact ⟨by rfl, ⟨by omega, pcw, pcd⟩, by rfl, by rfl⟩
    · have dN : detV (chV A ⟨0, zI, zK, zZ⟩) = .tup [.Q (-D), .raw (.int .i64 0)] := by rw [dN', dv, if_neg hik]
      have g1 : ((i : Int) != (k : Int)) = true := by rw [bne_iff_ne]; omega
      have s5 : qs (-D) ≤ 12000000000000 := by rw [qs_neg]; exact s3
      have nn : - -D = D := by grind
      by_cases hd : D = 0
      · have hp : (0 : Int) < (N.length : Int) := by have := dep.1 hd; omega
        have sg : (sgI D.num == 0) = true := by rw [hd]; rfl
        have cc : (true == true) = true := rfl
        simp only [go_sem, hxO, hyO, er, er', eA, eB, dA, dB', dP, dT, kA, kB, kP, kT, mP, mT, co, pc, tc, nO, q1, q2, q3, lA, lB, lP, lT, s1, s2, s3, z1, z2, z3, z4, c3, c4, qpair, w1, w2, kN, dN, hp, sg, cc, r0, r1, r2, t1, t2, g1, s5, nn, Int.toNat_natCast]
        exact ⟨by rfl, ⟨by omega, pcw, pcd⟩, by rfl, by rfl⟩
      · have hp : ¬ (0 : Int) < (N.length : Int) := fun h => hd (dep.2 (by omega))
        have sg : (sgI D.num == 0) = false := by
          have := sgI_z D
          rw [decide_eq_false hd] at this
          rw [beq_eq_false_iff_ne]
          exact bne_iff_ne.1 this
        have cc : (false == false) = true := rfl
        simp only [go_sem, hxO, hyO, er, er', eA, eB, dA, dB', dP, dT, kA, kB, kP, kT, mP, mT, co, pc, tc, nO, q1, q2, q3, lA, lB, lP, lT, s1, s2, s3, z1, z2, z3, z4, c3, c4, qpair, w1, w2, kN, dN, hp, sg, cc, r0, r1, r2, t1, t2, g1, s5, nn, Int.toNat_natCast]
        exact ⟨by rfl, ⟨by omega, pcw, pcd⟩, by rfl, by rfl⟩
set_option maxRecDepth 20000 in
theorem lawDtm5_F (X Y Z : V) (h : Fits Try.prog 6 24 X) (g : Fits Try.prog 6 24 Y) (k : Fits Try.prog 6 55 Z) : PCall Try.prog 8 [X, Y, Z] (.raw (.bool true)) := by
  obtain ⟨x, rfl, hx⟩ := fits_raw5 h
  obtain ⟨y, rfl, hy⟩ := fits_raw5 g
  obtain ⟨z, rfl, hz⟩ := fits_chg k
  exact dtm5_V x y hx hy z hz
end Go.Proofs.Ytjjebokgckmnjaa

