/- Texts D6 in one. -/
import Derived.Test.YtilkleibnciloaaP16
/- Contracts: Read. -/
namespace Go.Proofs.Ytilkleibnciloaa
set_option linter.unusedSimpArgs false
set_option linter.unusedVariables false
open Go.RowKit

theorem eq_list (s t : ByteArray) : (s.toList == t.toList) = decide (sbL s = sbL t) := by
  have e : s.toList = t.toList ↔ sbL s = sbL t := by
    constructor
    · intro h
      rw [toListL, toListL] at h
      unfold sbL; rw [h]
    · intro h; rw [sbL_inj h]
  by_cases h : sbL s = sbL t
  · rw [decide_eq_true h]; simp [e.2 h]
  · rw [decide_eq_false h]; exact beq_eq_false_iff_ne.2 fun h' => h (e.1 h')
theorem sbL_e : sbL ({ data := #[] } : ByteArray) = [] := rfl
theorem sbL_0 : sbL ({ data := #[48] } : ByteArray) = [48] := rfl
theorem sbL_tail (s : ByteArray) : sbL (s.extract 1 s.size) = (sbL s).drop 1 := by
  rw [sbL_extract, List.take_of_length_le]
  rw [List.length_drop, sbL_length]; omega
theorem rd_big {S : List Nat} (h : 2000 < S.length) : rdV S = 0 ∧ rdC S = 2 := by
  unfold rdV rdC
  rw [if_neg (by omega), if_pos h]
  exact ⟨rfl, rfl⟩
theorem rd_bad {S : List Nat} (h : ¬ 2000 < S.length) (h' : ¬ (rdD S ≠ [] ∧ (at0 (rdD S) 0 = 48 → S = [48]) ∧ dgsL (rdD S) = true)) : rdV S = 0 ∧ rdC S = 4 := by
  unfold rdV rdC
  rw [if_neg (fun h2 => h' h2.2), if_neg h, if_neg h']
  exact ⟨rfl, rfl⟩
theorem rd_good {S : List Nat} (h : ¬ 2000 < S.length) (h' : rdD S ≠ [] ∧ (at0 (rdD S) 0 = 48 → S = [48]) ∧ dgsL (rdD S) = true) : rdV S = sgn (decide (at0 S 0 = 45)) (vl10 (rdD S)) ∧ rdC S = 0 := by
  unfold rdV rdC
  rw [if_pos ⟨by omega, h'⟩, if_neg h, if_pos h']
  exact ⟨rfl, rfl⟩
set_option maxRecDepth 2000 in
set_option maxHeartbeats 1000000 in
theorem read_V (s : ByteArray) :
    PCall Try.prog 48 [.raw (.string s)] (.tup [.I (rdV (sbL s)), .raw (.int .i64 (rdC (sbL s)))]) := by
  refine PCall.of_vc (tabs mixed (tbl_cons norm_C tbl_nil)) Try.func48 rfl Try.ntmps48 Try.results48 (by simp) ?_
  have hsz := sbL_length s
  obtain ⟨S, hS⟩ : ∃ S, S = sbL s := ⟨_, rfl⟩
  rw [← hS]
  rw [← hS] at hsz
  by_cases hbig : 2000 < s.size
  · have m1 : 2000 < (s.size : Int) := by omega
    obtain ⟨r1, r2⟩ := rd_big (S := S) (by omega)
    rw [r1, r2]
    simp only [go_sem, List.reduceReplicate, ↓reduceIte, Nat.reduceEqDiff, Nat.reduceLT, Nat.reduceLeDiff, Nat.reduceAdd, Nat.reduceSub, Nat.reduceMul, Int.reduceToNat, Int.reduceNeg, Int.reduceAdd, Int.reduceSub, Int.reduceMul, Int.reduceLT, Int.reduceLE, Int.reduceMod, Int.reducePow, Nat.reducePow, Int.reduceDiv, Nat.reduceBEq, Nat.reduceBNe, Int.reduceBEq, Int.reduceBNe, reduceCtorEq, m1]
    exact out_In rfl
  have m1 : ¬ 2000 < (s.size : Int) := by omega
  have hbig' : ¬ 2000 < S.length := by omega
  by_cases h0 : S = []
  · have t0 : (s.toList == ({ data := #[] } : ByteArray).toList) = true := by rw [eq_list, ← hS, sbL_e]; simpa using h0
    obtain ⟨r1, r2⟩ := rd_bad (S := S) hbig' (by subst h0; simp [rdD, at0])
    rw [r1, r2]
    have x1 : (!true) = false := rfl
    simp only [go_sem, List.reduceReplicate, ↓reduceIte, Nat.reduceEqDiff, Nat.reduceLT, Nat.reduceLeDiff, Nat.reduceAdd, Nat.reduceSub, Nat.reduceMul, Int.reduceToNat, Int.reduceNeg, Int.reduceAdd, Int.reduceSub, Int.reduceMul, Int.reduceLT, Int.reduceLE, Int.reduceMod, Int.reducePow, Nat.reducePow, Int.reduceDiv, Nat.reduceBEq, Nat.reduceBNe, Int.reduceBEq, Int.reduceBNe, reduceCtorEq, m1, t0, x1]
    exact out_In rfl
  have hpos : 0 < S.length := List.length_pos_iff.2 h0
  have t0 : (s.toList == ({ data := #[] } : ByteArray).toList) = false := by rw [eq_list, ← hS, sbL_e]; simpa using h0
  have x1 : (!false) = true := rfl
  have x2 : (!true) = false := rfl
  have p0 : 0 < s.size := by omega
  have p1 : 0 < (s.size : Int) := by omega
  have p2 : 1 ≤ (s.size : Int) := by omega
  have byt : ∀ (a : ByteArray) (i : Nat) (c : Nat), (byteAt a i == (c : Int)) = decide (at0 (sbL a) i = c) := fun a i c => by
    rw [byteAt_sbL]
    by_cases h : at0 (sbL a) i = c
    · rw [decide_eq_true h, h]; simp
    · rw [decide_eq_false h]; exact beq_eq_false_iff_ne.2 (by omega)
  obtain ⟨neg, hneg⟩ : ∃ b, b = decide (at0 S 0 = 45) := ⟨_, rfl⟩
  have n0 : (byteAt s 0 == 45) = neg := by rw [show (45 : Int) = ((45 : Nat) : Int) from rfl, byt, ← hS, hneg]
  obtain ⟨w, hw⟩ : ∃ b, b = decide (S = [48]) := ⟨_, rfl⟩
  have w0 : (s.toList == ({ data := #[48] } : ByteArray).toList) = w := by rw [eq_list, ← hS, sbL_0, hw]
  obtain ⟨D, hD⟩ : ∃ D, D = rdD S := ⟨_, rfl⟩
  have hcase : ∃ d : ByteArray, sbL d = D ∧ ((neg = true ∧ s.extract 1 s.size = d) ∨ (neg = false ∧ d = s ∧ s.size = s.size + 0)) := by
    by_cases hn : at0 S 0 = 45
    · exact ⟨_, by rw [sbL_tail, hD, ← hS]; unfold rdD; rw [if_pos hn], .inl ⟨by rw [hneg]; simpa using hn, rfl⟩⟩
    · exact ⟨s, by rw [hD, ← hS]; unfold rdD; rw [if_neg hn], .inr ⟨by rw [hneg]; simpa using hn, rfl, rfl⟩⟩
  obtain ⟨d, hd, hcase⟩ := hcase
  have hdl : d.size = D.length := by rw [← hd, sbL_length]
  have hds : d.size ≤ 2000 := by
    rw [hdl, hD]
    unfold rdD
    split
    · rw [List.length_drop]; omega
    · omega
  obtain ⟨z, hz⟩ : ∃ b, b = decide (at0 D 0 = 48) := ⟨_, rfl⟩
  have z0 : (byteAt d 0 == 48) = z := by rw [show (48 : Int) = ((48 : Nat) : Int) from rfl, byt, hd, hz]
  by_cases hD0 : D = []
  · -- nothing behind the sign
    have d0 : (d.toList == ({ data := #[] } : ByteArray).toList) = true := by rw [eq_list, hd, sbL_e]; simpa using hD0
    obtain ⟨r1, r2⟩ := rd_bad (S := S) hbig' (by rw [← hD]; simp [hD0])
    rw [r1, r2]
    rcases hcase with ⟨rfl, hX⟩ | ⟨rfl, rfl, -⟩
    · simp only [go_sem, List.reduceReplicate, ↓reduceIte, Nat.reduceEqDiff, Nat.reduceLT, Nat.reduceLeDiff, Nat.reduceAdd, Nat.reduceSub, Nat.reduceMul, Int.reduceToNat, Int.reduceNeg, Int.reduceAdd, Int.reduceSub, Int.reduceMul, Int.reduceLT, Int.reduceLE, Int.reduceMod, Int.reducePow, Nat.reducePow, Int.reduceDiv, Nat.reduceBEq, Nat.reduceBNe, Int.reduceBEq, Int.reduceBNe, reduceCtorEq, m1, t0, n0, hX, d0, x1, x2, p0, p1, p2]
      exact ⟨Int.le_refl _, out_In rfl⟩
    · rw [t0] at d0; cases d0
  have d0 : (d.toList == ({ data := #[] } : ByteArray).toList) = false := by rw [eq_list, hd, sbL_e]; simpa using hD0
  have q0 : 0 < D.length := List.length_pos_iff.2 hD0
  have q1 : 0 < d.size := by omega
  have q2 : 0 < (d.size : Int) := by omega
  by_cases hzw : z = true ∧ w = false
  · obtain ⟨rfl, rfl⟩ := hzw
    obtain ⟨r1, r2⟩ := rd_bad (S := S) hbig' (by
      rw [← hD]
      rintro ⟨_, h, _⟩
      have := h (by simpa using hz.symm)
      rw [this] at hw; simp at hw)
    rw [r1, r2]
    rcases hcase with ⟨rfl, hX⟩ | ⟨rfl, rfl, -⟩
    · simp only [go_sem, List.reduceReplicate, ↓reduceIte, Nat.reduceEqDiff, Nat.reduceLT, Nat.reduceLeDiff, Nat.reduceAdd, Nat.reduceSub, Nat.reduceMul, Int.reduceToNat, Int.reduceNeg, Int.reduceAdd, Int.reduceSub, Int.reduceMul, Int.reduceLT, Int.reduceLE, Int.reduceMod, Int.reducePow, Nat.reducePow, Int.reduceDiv, Nat.reduceBEq, Nat.reduceBNe, Int.reduceBEq, Int.reduceBNe, reduceCtorEq, m1, t0, n0, hX, d0, z0, w0, x1, x2, p0, p1, p2, q1, q2]
      exact ⟨Int.le_refl _, out_In rfl⟩
    · simp only [go_sem, List.reduceReplicate, ↓reduceIte, Nat.reduceEqDiff, Nat.reduceLT, Nat.reduceLeDiff, Nat.reduceAdd, Nat.reduceSub, Nat.reduceMul, Int.reduceToNat, Int.reduceNeg, Int.reduceAdd, Int.reduceSub, Int.reduceMul, Int.reduceLT, Int.reduceLE, Int.reduceMod, Int.reducePow, Nat.reducePow, Int.reduceDiv, Nat.reduceBEq, Nat.reduceBNe, Int.reduceBEq, Int.reduceBNe, reduceCtorEq, m1, t0, n0, d0, z0, w0, x1, x2, p0, p1, p2, q1, q2]
      exact out_In rfl
  have hok : at0 D 0 = 48 → S = [48] := fun h => by
    cases w with
    | true => simpa using hw
    | false => exact absurd ⟨by rw [hz]; simpa using h, rfl⟩ hzw
  have hM : (d.size : Int) / 9 + 2 = ((D.length / 9 + 2 : Nat) : Int) := by rw [hdl]; omega
  obtain ⟨M, hMM⟩ : ∃ M, M = D.length / 9 + 2 := ⟨_, rfl⟩
  rw [← hMM] at hM
  have hmx : IntKind.i64.max = 9223372036854775807 := by decide
  have hzz : z = false ∨ (z = true ∧ w = true) := by cases z <;> cases w <;> simp_all
  have hY : neg = false → d = s := fun h => by
    rcases hcase with ⟨h1, _⟩ | ⟨_, h2, _⟩
    · rw [h] at h1; cases h1
    · exact h2
  have hZ : neg = true → s.extract 1 s.size = d := fun h => by
    rcases hcase with ⟨_, h1⟩ | ⟨h1, _⟩
    · exact h1
    · rw [h] at h1; cases h1
  have hpw : ∀ i, i ≤ D.length → dgsL (D.take i) = true → vl10 (D.take i) < 4294967296 ^ M := fun i hi h => by
    have h1 := vl10_lt _ h
    have h2 := ten_pow (D.take i).length
    rw [List.length_take, Nat.min_eq_left hi] at h2 h1
    have h3 := pow_le' (m := i / 9 + 1) (n := M) (by omega)
    omega
  have hM0 : 0 < M := by omega
  have hDl : D.length ≤ 2000 := by omega
  cases neg
  · obtain rfl := hY rfl
    rcases hzz with rfl | ⟨rfl, rfl⟩
    all_goals simp only [go_sem, List.reduceReplicate, ↓reduceIte, Nat.reduceEqDiff, Nat.reduceLT, Nat.reduceLeDiff, Nat.reduceAdd, Nat.reduceSub, Nat.reduceMul, Int.reduceToNat, Int.reduceNeg, Int.reduceAdd, Int.reduceSub, Int.reduceMul, Int.reduceLT, Int.reduceLE, Int.reduceMod, Int.reducePow, Nat.reducePow, Int.reduceDiv, Nat.reduceBEq, Nat.reduceBNe, Int.reduceBEq, Int.reduceBNe, reduceCtorEq, m1, t0, n0, d0, z0, w0, x1, x2, p0, p1, p2, q1, q2, hM, hd, hmx]
    all_goals
      refine ⟨by omega, by omega, by omega, ?_⟩
      refine AWp.loops (X := { a : Nat × List Nat // a.1 ≤ D.length ∧ dgsL (D.take a.1) = true ∧ Lim a.2 ∧ a.2.length = M ∧ lv a.2 = vl10 (D.take a.1) })
        (fun a => mkSt [(2, .ptr 0 2 0 0), (3, .raw (.int .i64 0)), (5, .raw (.bool false)), (6, .sl 1 1 0 M), (44, .lst (V.bytes D)), (45, .raw (.int .i64 (D.length : Nat))), (46, .raw (.int .i64 (a.1.1 : Nat)))]
          [(0, true, ⟨27, 2, [.agg [.raw (.bool false), .raw (.slice none 0 0)]]⟩), (1, true, ⟨74, 1, V.limbs a.1.2⟩)] 2 85)
        (fun a => D.length - a.1.1) ⟨(0, List.replicate M 0), Nat.zero_le _, rfl, Lim.replicate _, by simp, by simp [lv_replicate, vl10]⟩ (Wk.of [0, 31] (by decide) ?_) ?_
      · simp only [go_sem, List.reduceReplicate, ↓reduceIte, Nat.reduceEqDiff, Nat.reduceLT, Nat.reduceLeDiff, Nat.reduceAdd, Nat.reduceSub, Nat.reduceMul, Int.reduceToNat, Int.reduceNeg, Int.reduceAdd, Int.reduceSub, Int.reduceMul, Int.reduceLT, Int.reduceLE, Int.reduceMod, Int.reducePow, Nat.reducePow, Int.reduceDiv, Nat.reduceBEq, Nat.reduceBNe, Int.reduceBEq, Int.reduceBNe, reduceCtorEq]
      · rintro ⟨⟨i, mag⟩, hi, hdg, hlm, hml, hlv⟩
        simp only at hi hdg hlm hml hlv
        refine vc_at (tabs mixed (tbl_cons norm_C tbl_nil)) ?_
        by_cases hin : i < D.length
        · have u1 : (i : Int) < (D.length : Nat) := by omega
          have u2 : (0 : Int) ≤ i := by omega
          have hb1 := sbL_lt d (at0 D i) (by rw [hd]; exact at0_mem hin)
          by_cases h48 : at0 D i < 48
          · have u3 : (at0 D i : Int) < 48 := by omega
            have hbad := dgsL_bad D i hin (by omega)
            obtain ⟨r1, r2⟩ := rd_bad (S := S) hbig' (by rw [← hD, hbad]; simp)
            rw [r1, r2]
            simp only [go_sem, List.reduceReplicate, ↓reduceIte, Nat.reduceEqDiff, Nat.reduceLT, Nat.reduceLeDiff, Nat.reduceAdd, Nat.reduceSub, Nat.reduceMul, Int.reduceToNat, Int.reduceNeg, Int.reduceAdd, Int.reduceSub, Int.reduceMul, Int.reduceLT, Int.reduceLE, Int.reduceMod, Int.reducePow, Nat.reducePow, Int.reduceDiv, Nat.reduceBEq, Nat.reduceBNe, Int.reduceBEq, Int.reduceBNe, reduceCtorEq, u1, u2, hin, u3]
            exact out_In rfl
          have u3 : ¬ (at0 D i : Int) < 48 := by omega
          by_cases h57 : 57 < at0 D i
          · have u4 : 57 < (at0 D i : Int) := by omega
            have hbad := dgsL_bad D i hin (by omega)
            obtain ⟨r1, r2⟩ := rd_bad (S := S) hbig' (by rw [← hD, hbad]; simp)
            rw [r1, r2]
            simp only [go_sem, List.reduceReplicate, ↓reduceIte, Nat.reduceEqDiff, Nat.reduceLT, Nat.reduceLeDiff, Nat.reduceAdd, Nat.reduceSub, Nat.reduceMul, Int.reduceToNat, Int.reduceNeg, Int.reduceAdd, Int.reduceSub, Int.reduceMul, Int.reduceLT, Int.reduceLE, Int.reduceMod, Int.reducePow, Nat.reducePow, Int.reduceDiv, Nat.reduceBEq, Nat.reduceBNe, Int.reduceBEq, Int.reduceBNe, reduceCtorEq, u1, u2, hin, u3, u4]
            exact out_In rfl
          have u4 : ¬ 57 < (at0 D i : Int) := by omega
          have u5 : ((at0 D i : Int) - 48) % 256 % 18446744073709551616 = ((at0 D i - 48 : Nat) : Int) := by omega
          have u6 : (i : Int) + 1 = ((i + 1 : Nat) : Int) := by omega
          have hdg' : dgsL (D.take (i + 1)) = true := by rw [dgsL_take D i hin, hdg, decide_eq_true (by omega)]; rfl
          have hv' := vl10_take D i hin
          have hlt' := hpw (i + 1) hin hdg'
          simp only [go_sem, List.reduceReplicate, ↓reduceIte, Nat.reduceEqDiff, Nat.reduceLT, Nat.reduceLeDiff, Nat.reduceAdd, Nat.reduceSub, Nat.reduceMul, Int.reduceToNat, Int.reduceNeg, Int.reduceAdd, Int.reduceSub, Int.reduceMul, Int.reduceLT, Int.reduceLE, Int.reduceMod, Int.reducePow, Nat.reducePow, Int.reduceDiv, Nat.reduceBEq, Nat.reduceBNe, Int.reduceBEq, Int.reduceBNe, reduceCtorEq, u1, u2, hin, u3, u4, u5]
          refine AWp.loops (X := { a : Nat × Nat × List Nat // a.1 ≤ M ∧ a.2.1 ≤ 10 ∧ Lim a.2.2 ∧ a.2.2.length = M ∧ lv a.2.2 + 4294967296 ^ a.1 * a.2.1 = lv mag + (at0 D i - 48) + 9 * lv (mag.take a.1) ∧ ∀ j, a.1 ≤ j → at0 a.2.2 j = at0 mag j })
            (fun a => mkSt [(2, .ptr 0 2 0 0), (3, .raw (.int .i64 0)), (5, .raw (.bool false)), (6, .sl 1 1 0 M), (9, .raw (.int .u64 (a.1.2.1 : Nat))), (44, .lst (V.bytes D)), (45, .raw (.int .i64 (D.length : Nat))), (46, .raw (.int .i64 (i : Nat))), (61, .raw (.int .i64 (M : Nat))), (62, .raw (.int .i64 (a.1.1 : Nat)))]
              [(0, true, ⟨27, 2, [.agg [.raw (.bool false), .raw (.slice none 0 0)]]⟩), (1, true, ⟨74, 1, V.limbs a.1.2.2⟩)] 2 85)
            (fun a => M - a.1.1) ⟨(0, at0 D i - 48, mag), Nat.zero_le _, by simp only; omega, hlm, hml, by simp [lv], fun j _ => rfl⟩ (Wk.of [0, 1] (by decide) ?_) ?_
          · simp only [go_sem, List.reduceReplicate, ↓reduceIte, Nat.reduceEqDiff, Nat.reduceLT, Nat.reduceLeDiff, Nat.reduceAdd, Nat.reduceSub, Nat.reduceMul, Int.reduceToNat, Int.reduceNeg, Int.reduceAdd, Int.reduceSub, Int.reduceMul, Int.reduceLT, Int.reduceLE, Int.reduceMod, Int.reducePow, Nat.reducePow, Int.reduceDiv, Nat.reduceBEq, Nat.reduceBNe, Int.reduceBEq, Int.reduceBNe, reduceCtorEq]
          · rintro ⟨⟨k, c, r⟩, hk, hc, hlr, hrl, hinv, hrest⟩
            simp only at hk hc hlr hrl hinv hrest
            refine vc_at (tabs mixed (tbl_cons norm_C tbl_nil)) ?_
            by_cases hkM : k < M
            · have v1 : (k : Int) < (M : Nat) := by omega
              have v2 : (0 : Int) ≤ k := by omega
              have v3 : (k : Int) + 1 = ((k + 1 : Nat) : Int) := by omega
              have hx := hlr.at0 k
              have hx' := hrest k (Nat.le_refl _)
              have v4 : (at0 r k : Int) % 18446744073709551616 = (at0 r k : Nat) := by omega
              have v5 : (c : Int) + (at0 r k : Int) * 10 = ((c + at0 r k * 10 : Nat) : Int) := by omega
              have v7 : (((c + at0 r k * 10 : Nat) : Int)) % 4294967296 = (((c + at0 r k * 10) % 4294967296 : Nat) : Int) := by omega
              have v8 : (((c + at0 r k * 10 : Nat) : Int)) / 4294967296 = (((c + at0 r k * 10) / 4294967296 : Nat) : Int) := by omega
              have hkr : k < r.length := by omega
              simp only [go_sem, List.reduceReplicate, ↓reduceIte, Nat.reduceEqDiff, Nat.reduceLT, Nat.reduceLeDiff, Nat.reduceAdd, Nat.reduceSub, Nat.reduceMul, Int.reduceToNat, Int.reduceNeg, Int.reduceAdd, Int.reduceSub, Int.reduceMul, Int.reduceLT, Int.reduceLE, Int.reduceMod, Int.reducePow, Nat.reducePow, Int.reduceDiv, Nat.reduceBEq, Nat.reduceBNe, Int.reduceBEq, Int.reduceBNe, reduceCtorEq, v1, v2, v3, v4, v5, v7, v8, hkr, hrl]
              refine ⟨by omega, by omega, by omega, by omega, by omega, ?_⟩
              refine ⟨⟨(k + 1, (c + at0 r k * 10) / 4294967296, r.set k ((c + at0 r k * 10) % 4294967296)), hkM, by simp only; omega, hlr.set k (Nat.mod_lt _ (by decide)), by simpa using hrl, ?_, fun j hj => ?_⟩, Wk.of [0, 1] (by decide) ?_, by simp only; omega⟩
              · have h1 := ten_step (P := 4294967296 ^ k) hinv rfl (lv_set (x := (c + at0 r k * 10) % 4294967296) hkr)
                have h2 := lv_take_succ' mag k
                have h3 : 4294967296 ^ k * at0 r k * 9 = 9 * (4294967296 ^ k * at0 mag k) := by rw [hx', Nat.mul_comm]
                simp only [Nat.pow_succ]
                omega
              · simp only at hj
                rw [at0_set hkr, if_neg (by omega)]
                exact hrest j (by omega)
              · simp only [go_sem, List.reduceReplicate, ↓reduceIte, Nat.reduceEqDiff, Nat.reduceLT, Nat.reduceLeDiff, Nat.reduceAdd, Nat.reduceSub, Nat.reduceMul, Int.reduceToNat, Int.reduceNeg, Int.reduceAdd, Int.reduceSub, Int.reduceMul, Int.reduceLT, Int.reduceLE, Int.reduceMod, Int.reducePow, Nat.reducePow, Int.reduceDiv, Nat.reduceBEq, Nat.reduceBNe, Int.reduceBEq, Int.reduceBNe, reduceCtorEq]
            · have v1 : ¬ (k : Int) < (M : Nat) := by omega
              simp only [go_sem, List.reduceReplicate, ↓reduceIte, Nat.reduceEqDiff, Nat.reduceLT, Nat.reduceLeDiff, Nat.reduceAdd, Nat.reduceSub, Nat.reduceMul, Int.reduceToNat, Int.reduceNeg, Int.reduceAdd, Int.reduceSub, Int.reduceMul, Int.reduceLT, Int.reduceLE, Int.reduceMod, Int.reducePow, Nat.reducePow, Int.reduceDiv, Nat.reduceBEq, Nat.reduceBNe, Int.reduceBEq, Int.reduceBNe, reduceCtorEq, v1, u6]
              obtain rfl : k = M := by omega
              rw [List.take_of_length_le (by omega)] at hinv
              have hc0 : c = 0 := by
                rcases Nat.eq_zero_or_pos c with h | h
                · exact h
                · have := Nat.mul_le_mul_left (4294967296 ^ k) h
                  rw [Nat.mul_succ] at this
                  omega
              subst hc0
              refine ⟨by omega, ⟨⟨(i + 1, r), hin, hdg', hlr, hrl, by simp only; omega⟩, Wk.of [0, 1] (by decide) ?_, by simp only; omega⟩⟩
              simp only [go_sem, List.reduceReplicate, ↓reduceIte, Nat.reduceEqDiff, Nat.reduceLT, Nat.reduceLeDiff, Nat.reduceAdd, Nat.reduceSub, Nat.reduceMul, Int.reduceToNat, Int.reduceNeg, Int.reduceAdd, Int.reduceSub, Int.reduceMul, Int.reduceLT, Int.reduceLE, Int.reduceMod, Int.reducePow, Nat.reducePow, Int.reduceDiv, Nat.reduceBEq, Nat.reduceBNe, Int.reduceBEq, Int.reduceBNe, reduceCtorEq]
        · have u1 : ¬ (i : Int) < (D.length : Nat) := by omega
          have hiD : i = D.length := by omega
          rw [hiD, List.take_length] at hlv hdg
          obtain ⟨r1, r2⟩ := rd_good (S := S) hbig' (by rw [← hD]; exact ⟨hD0, hok, hdg⟩)
          rw [r1, r2, ← hneg, ← hD]
          have e1 : mag.take M = mag := List.take_of_length_le (by omega)
          simp only [go_sem, List.reduceReplicate, ↓reduceIte, Nat.reduceEqDiff, Nat.reduceLT, Nat.reduceLeDiff, Nat.reduceAdd, Nat.reduceSub, Nat.reduceMul, Int.reduceToNat, Int.reduceNeg, Int.reduceAdd, Int.reduceSub, Int.reduceMul, Int.reduceLT, Int.reduceLE, Int.reduceMod, Int.reducePow, Nat.reducePow, Int.reduceDiv, Nat.reduceBEq, Nat.reduceBNe, Int.reduceBEq, Int.reduceBNe, reduceCtorEq, u1, hml, e1]
          refine ⟨⟨hlm, by omega⟩, out_II ?_⟩
          unfold sv sgn
          rw [hlv]
  · have hX := hZ rfl
    rcases hzz with rfl | ⟨rfl, rfl⟩
    rotate_left
    · exfalso
      have h1 : S = [48] := by simpa using hw
      rw [h1] at hneg
      simp [at0] at hneg
    all_goals simp only [go_sem, List.reduceReplicate, ↓reduceIte, Nat.reduceEqDiff, Nat.reduceLT, Nat.reduceLeDiff, Nat.reduceAdd, Nat.reduceSub, Nat.reduceMul, Int.reduceToNat, Int.reduceNeg, Int.reduceAdd, Int.reduceSub, Int.reduceMul, Int.reduceLT, Int.reduceLE, Int.reduceMod, Int.reducePow, Nat.reducePow, Int.reduceDiv, Nat.reduceBEq, Nat.reduceBNe, Int.reduceBEq, Int.reduceBNe, reduceCtorEq, m1, t0, n0, hX, d0, z0, w0, x1, x2, p0, p1, p2, q1, q2, hM, hd, hmx]
    all_goals
      refine ⟨by omega, by omega, by omega, by omega, ?_⟩
      refine AWp.loops (X := { a : Nat × List Nat // a.1 ≤ D.length ∧ dgsL (D.take a.1) = true ∧ Lim a.2 ∧ a.2.length = M ∧ lv a.2 = vl10 (D.take a.1) })
        (fun a => mkSt [(2, .ptr 0 2 0 0), (3, .raw (.int .i64 0)), (5, .raw (.bool true)), (6, .sl 1 1 0 M), (44, .lst (V.bytes D)), (45, .raw (.int .i64 (D.length : Nat))), (46, .raw (.int .i64 (a.1.1 : Nat)))]
          [(0, true, ⟨27, 2, [.agg [.raw (.bool false), .raw (.slice none 0 0)]]⟩), (1, true, ⟨74, 1, V.limbs a.1.2⟩)] 2 85)
        (fun a => D.length - a.1.1) ⟨(0, List.replicate M 0), Nat.zero_le _, rfl, Lim.replicate _, by simp, by simp [lv_replicate, vl10]⟩ (Wk.of [0, 34] (by decide) ?_) ?_
      · simp only [go_sem, List.reduceReplicate, ↓reduceIte, Nat.reduceEqDiff, Nat.reduceLT, Nat.reduceLeDiff, Nat.reduceAdd, Nat.reduceSub, Nat.reduceMul, Int.reduceToNat, Int.reduceNeg, Int.reduceAdd, Int.reduceSub, Int.reduceMul, Int.reduceLT, Int.reduceLE, Int.reduceMod, Int.reducePow, Nat.reducePow, Int.reduceDiv, Nat.reduceBEq, Nat.reduceBNe, Int.reduceBEq, Int.reduceBNe, reduceCtorEq]
      · rintro ⟨⟨i, mag⟩, hi, hdg, hlm, hml, hlv⟩
        simp only at hi hdg hlm hml hlv
        refine vc_at (tabs mixed (tbl_cons norm_C tbl_nil)) ?_
        by_cases hin : i < D.length
        · have u1 : (i : Int) < (D.length : Nat) := by omega
          have u2 : (0 : Int) ≤ i := by omega
          have hb1 := sbL_lt d (at0 D i) (by rw [hd]; exact at0_mem hin)
          by_cases h48 : at0 D i < 48
          · have u3 : (at0 D i : Int) < 48 := by omega
            have hbad := dgsL_bad D i hin (by omega)
            obtain ⟨r1, r2⟩ := rd_bad (S := S) hbig' (by rw [← hD, hbad]; simp)
            rw [r1, r2]
            simp only [go_sem, List.reduceReplicate, ↓reduceIte, Nat.reduceEqDiff, Nat.reduceLT, Nat.reduceLeDiff, Nat.reduceAdd, Nat.reduceSub, Nat.reduceMul, Int.reduceToNat, Int.reduceNeg, Int.reduceAdd, Int.reduceSub, Int.reduceMul, Int.reduceLT, Int.reduceLE, Int.reduceMod, Int.reducePow, Nat.reducePow, Int.reduceDiv, Nat.reduceBEq, Nat.reduceBNe, Int.reduceBEq, Int.reduceBNe, reduceCtorEq, u1, u2, hin, u3]
            exact out_In rfl
          have u3 : ¬ (at0 D i : Int) < 48 := by omega
          by_cases h57 : 57 < at0 D i
          · have u4 : 57 < (at0 D i : Int) := by omega
            have hbad := dgsL_bad D i hin (by omega)
            obtain ⟨r1, r2⟩ := rd_bad (S := S) hbig' (by rw [← hD, hbad]; simp)
            rw [r1, r2]
            simp only [go_sem, List.reduceReplicate, ↓reduceIte, Nat.reduceEqDiff, Nat.reduceLT, Nat.reduceLeDiff, Nat.reduceAdd, Nat.reduceSub, Nat.reduceMul, Int.reduceToNat, Int.reduceNeg, Int.reduceAdd, Int.reduceSub, Int.reduceMul, Int.reduceLT, Int.reduceLE, Int.reduceMod, Int.reducePow, Nat.reducePow, Int.reduceDiv, Nat.reduceBEq, Nat.reduceBNe, Int.reduceBEq, Int.reduceBNe, reduceCtorEq, u1, u2, hin, u3, u4]
            exact out_In rfl
          have u4 : ¬ 57 < (at0 D i : Int) := by omega
          have u5 : ((at0 D i : Int) - 48) % 256 % 18446744073709551616 = ((at0 D i - 48 : Nat) : Int) := by omega
          have u6 : (i : Int) + 1 = ((i + 1 : Nat) : Int) := by omega
          have hdg' : dgsL (D.take (i + 1)) = true := by rw [dgsL_take D i hin, hdg, decide_eq_true (by omega)]; rfl
          have hv' := vl10_take D i hin
          have hlt' := hpw (i + 1) hin hdg'
          simp only [go_sem, List.reduceReplicate, ↓reduceIte, Nat.reduceEqDiff, Nat.reduceLT, Nat.reduceLeDiff, Nat.reduceAdd, Nat.reduceSub, Nat.reduceMul, Int.reduceToNat, Int.reduceNeg, Int.reduceAdd, Int.reduceSub, Int.reduceMul, Int.reduceLT, Int.reduceLE, Int.reduceMod, Int.reducePow, Nat.reducePow, Int.reduceDiv, Nat.reduceBEq, Nat.reduceBNe, Int.reduceBEq, Int.reduceBNe, reduceCtorEq, u1, u2, hin, u3, u4, u5]
          refine AWp.loops (X := { a : Nat × Nat × List Nat // a.1 ≤ M ∧ a.2.1 ≤ 10 ∧ Lim a.2.2 ∧ a.2.2.length = M ∧ lv a.2.2 + 4294967296 ^ a.1 * a.2.1 = lv mag + (at0 D i - 48) + 9 * lv (mag.take a.1) ∧ ∀ j, a.1 ≤ j → at0 a.2.2 j = at0 mag j })
            (fun a => mkSt [(2, .ptr 0 2 0 0), (3, .raw (.int .i64 0)), (5, .raw (.bool true)), (6, .sl 1 1 0 M), (9, .raw (.int .u64 (a.1.2.1 : Nat))), (44, .lst (V.bytes D)), (45, .raw (.int .i64 (D.length : Nat))), (46, .raw (.int .i64 (i : Nat))), (61, .raw (.int .i64 (M : Nat))), (62, .raw (.int .i64 (a.1.1 : Nat)))]
              [(0, true, ⟨27, 2, [.agg [.raw (.bool false), .raw (.slice none 0 0)]]⟩), (1, true, ⟨74, 1, V.limbs a.1.2.2⟩)] 2 85)
            (fun a => M - a.1.1) ⟨(0, at0 D i - 48, mag), Nat.zero_le _, by simp only; omega, hlm, hml, by simp [lv], fun j _ => rfl⟩ (Wk.of [0, 1] (by decide) ?_) ?_
          · simp only [go_sem, List.reduceReplicate, ↓reduceIte, Nat.reduceEqDiff, Nat.reduceLT, Nat.reduceLeDiff, Nat.reduceAdd, Nat.reduceSub, Nat.reduceMul, Int.reduceToNat, Int.reduceNeg, Int.reduceAdd, Int.reduceSub, Int.reduceMul, Int.reduceLT, Int.reduceLE, Int.reduceMod, Int.reducePow, Nat.reducePow, Int.reduceDiv, Nat.reduceBEq, Nat.reduceBNe, Int.reduceBEq, Int.reduceBNe, reduceCtorEq]
          · rintro ⟨⟨k, c, r⟩, hk, hc, hlr, hrl, hinv, hrest⟩
            simp only at hk hc hlr hrl hinv hrest
            refine vc_at (tabs mixed (tbl_cons norm_C tbl_nil)) ?_
            by_cases hkM : k < M
            · have v1 : (k : Int) < (M : Nat) := by omega
              have v2 : (0 : Int) ≤ k := by omega
              have v3 : (k : Int) + 1 = ((k + 1 : Nat) : Int) := by omega
              have hx := hlr.at0 k
              have hx' := hrest k (Nat.le_refl _)
              have v4 : (at0 r k : Int) % 18446744073709551616 = (at0 r k : Nat) := by omega
              have v5 : (c : Int) + (at0 r k : Int) * 10 = ((c + at0 r k * 10 : Nat) : Int) := by omega
              have v7 : (((c + at0 r k * 10 : Nat) : Int)) % 4294967296 = (((c + at0 r k * 10) % 4294967296 : Nat) : Int) := by omega
              have v8 : (((c + at0 r k * 10 : Nat) : Int)) / 4294967296 = (((c + at0 r k * 10) / 4294967296 : Nat) : Int) := by omega
              have hkr : k < r.length := by omega
              simp only [go_sem, List.reduceReplicate, ↓reduceIte, Nat.reduceEqDiff, Nat.reduceLT, Nat.reduceLeDiff, Nat.reduceAdd, Nat.reduceSub, Nat.reduceMul, Int.reduceToNat, Int.reduceNeg, Int.reduceAdd, Int.reduceSub, Int.reduceMul, Int.reduceLT, Int.reduceLE, Int.reduceMod, Int.reducePow, Nat.reducePow, Int.reduceDiv, Nat.reduceBEq, Nat.reduceBNe, Int.reduceBEq, Int.reduceBNe, reduceCtorEq, v1, v2, v3, v4, v5, v7, v8, hkr, hrl]
              refine ⟨by omega, by omega, by omega, by omega, by omega, ?_⟩
              refine ⟨⟨(k + 1, (c + at0 r k * 10) / 4294967296, r.set k ((c + at0 r k * 10) % 4294967296)), hkM, by simp only; omega, hlr.set k (Nat.mod_lt _ (by decide)), by simpa using hrl, ?_, fun j hj => ?_⟩, Wk.of [0, 1] (by decide) ?_, by simp only; omega⟩
              · have h1 := ten_step (P := 4294967296 ^ k) hinv rfl (lv_set (x := (c + at0 r k * 10) % 4294967296) hkr)
                have h2 := lv_take_succ' mag k
                have h3 : 4294967296 ^ k * at0 r k * 9 = 9 * (4294967296 ^ k * at0 mag k) := by rw [hx', Nat.mul_comm]
                simp only [Nat.pow_succ]
                omega
              · simp only at hj
                rw [at0_set hkr, if_neg (by omega)]
                exact hrest j (by omega)
              · simp only [go_sem, List.reduceReplicate, ↓reduceIte, Nat.reduceEqDiff, Nat.reduceLT, Nat.reduceLeDiff, Nat.reduceAdd, Nat.reduceSub, Nat.reduceMul, Int.reduceToNat, Int.reduceNeg, Int.reduceAdd, Int.reduceSub, Int.reduceMul, Int.reduceLT, Int.reduceLE, Int.reduceMod, Int.reducePow, Nat.reducePow, Int.reduceDiv, Nat.reduceBEq, Nat.reduceBNe, Int.reduceBEq, Int.reduceBNe, reduceCtorEq]
            · have v1 : ¬ (k : Int) < (M : Nat) := by omega
              simp only [go_sem, List.reduceReplicate, ↓reduceIte, Nat.reduceEqDiff, Nat.reduceLT, Nat.reduceLeDiff, Nat.reduceAdd, Nat.reduceSub, Nat.reduceMul, Int.reduceToNat, Int.reduceNeg, Int.reduceAdd, Int.reduceSub, Int.reduceMul, Int.reduceLT, Int.reduceLE, Int.reduceMod, Int.reducePow, Nat.reducePow, Int.reduceDiv, Nat.reduceBEq, Nat.reduceBNe, Int.reduceBEq, Int.reduceBNe, reduceCtorEq, v1, u6]
              obtain rfl : k = M := by omega
              rw [List.take_of_length_le (by omega)] at hinv
              have hc0 : c = 0 := by
                rcases Nat.eq_zero_or_pos c with h | h
                · exact h
                · have := Nat.mul_le_mul_left (4294967296 ^ k) h
                  rw [Nat.mul_succ] at this
                  omega
              subst hc0
              refine ⟨by omega, ⟨⟨(i + 1, r), hin, hdg', hlr, hrl, by simp only; omega⟩, Wk.of [0, 1] (by decide) ?_, by simp only; omega⟩⟩
              simp only [go_sem, List.reduceReplicate, ↓reduceIte, Nat.reduceEqDiff, Nat.reduceLT, Nat.reduceLeDiff, Nat.reduceAdd, Nat.reduceSub, Nat.reduceMul, Int.reduceToNat, Int.reduceNeg, Int.reduceAdd, Int.reduceSub, Int.reduceMul, Int.reduceLT, Int.reduceLE, Int.reduceMod, Int.reducePow, Nat.reducePow, Int.reduceDiv, Nat.reduceBEq, Nat.reduceBNe, Int.reduceBEq, Int.reduceBNe, reduceCtorEq]
        · have u1 : ¬ (i : Int) < (D.length : Nat) := by omega
          have hiD : i = D.length := by omega
          rw [hiD, List.take_length] at hlv hdg
          obtain ⟨r1, r2⟩ := rd_good (S := S) hbig' (by rw [← hD]; exact ⟨hD0, hok, hdg⟩)
          rw [r1, r2, ← hneg, ← hD]
          have e1 : mag.take M = mag := List.take_of_length_le (by omega)
          simp only [go_sem, List.reduceReplicate, ↓reduceIte, Nat.reduceEqDiff, Nat.reduceLT, Nat.reduceLeDiff, Nat.reduceAdd, Nat.reduceSub, Nat.reduceMul, Int.reduceToNat, Int.reduceNeg, Int.reduceAdd, Int.reduceSub, Int.reduceMul, Int.reduceLT, Int.reduceLE, Int.reduceMod, Int.reducePow, Nat.reducePow, Int.reduceDiv, Nat.reduceBEq, Nat.reduceBNe, Int.reduceBEq, Int.reduceBNe, reduceCtorEq, u1, hml, e1]
          refine ⟨⟨hlm, by omega⟩, out_II ?_⟩
          unfold sv sgn
          rw [hlv]
def kRead : Con := con1 pS fun s => (True, .tup [.I (rdV (sbL s)), .raw (.int .i64 (rdC (sbL s)))])
attribute [go_sem ↓, go_sem] kRead
theorem read_C : Ctr Try.prog 48 kRead := Ctr.c1 rfl fun s _ => read_V s
end Go.Proofs.Ytilkleibnciloaa
