/- Texts E7 E8 in one. -/
import Derived.Test.YtilkleibnciloaaP25
/- Contracts of the reference: Text. -/
namespace Go.Proofs.Ytilkleibnciloaa
set_option linter.unusedSimpArgs false
set_option linter.unusedVariables false
open Go.RowKit

theorem cat45 (l : List Nat) : ({ data := #[45] } : ByteArray) ++ mkB l = mkB (45 :: l) := by
  apply ByteArray.ext
  simp [mkB]
theorem mkB_size (l : List Nat) : (mkB l).size = l.length := by simp [mkB, ByteArray.size]
theorem txN_of_sv {s : Bool} {l : List Nat} (hl : Canon l) (hs : s = true → l ≠ []) : txN (sv false l) = if lv l = 0 then [48] else dcm (lv l) := by
  by_cases h0 : l = []
  · subst h0; rfl
  · have hp := lv_pos hl h0
    have h1 : lv l ≠ 0 := by omega
    rw [txN_sv hl h0, if_neg h1]
    rfl
set_option maxRecDepth 2000 in
set_option maxHeartbeats 1000000 in
theorem rtext_V (x : Int) (hx : dl x.natAbs ≤ 100000000) :
    PCall Try.prog 55 [.I x] (.raw (.string (mkB (txN x)))) := by
  obtain ⟨s, l, hz, hl, hs, e1, e2, e3⟩ := sv_open x
  refine PCall.of_vc (tabs mixed (tbl_cons rmade_C (tbl_cons rof_C (tbl_cons rsign_C (tbl_cons (rdivMod_C rdivTo_one) (tbl_cons rsmall_C tbl_nil)))))) Try.func55 rfl Try.ntmps55 Try.results55 (by simp) ?_
  obtain ⟨Z, hZ⟩ : ∃ Z, Z = lv l := ⟨_, rfl⟩
  have m1 := hl.1
  have z1 : sv false l = ((Z : Nat) : Int) := by rw [sv_false, hZ]
  have hZd : dl Z ≤ 100000000 := by rw [hZ]; exact Nat.le_trans (dl_le_of_lim hl.1) (by omega)
  have hZb : (dcm Z).length ≤ 1000000000 := by rw [hZ]; exact Nat.le_trans (dcm_len_lv hl.1) (by omega)
  have hstart : (Z = 0 ∧ (([] : List Nat) = [] ∨ ([] : List Nat) = [48])) ∨ (0 < Z ∧ dcm Z = dcm Z ++ []) := by
    rcases Nat.eq_zero_or_pos Z with h | h
    · exact .inl ⟨h, .inl rfl⟩
    · exact .inr ⟨h, by simp⟩
  simp only [go_sem, List.reduceReplicate, ↓reduceIte, Nat.reduceEqDiff, Nat.reduceLT, Nat.reduceLeDiff, Nat.reduceAdd, Nat.reduceSub, Nat.reduceMul, Int.reduceToNat, Int.reduceNeg, Int.reduceAdd, Int.reduceSub, Int.reduceMul, Int.reduceLT, Int.reduceLE, Int.reduceMod, Int.reducePow, Nat.reducePow, Int.reduceDiv, Nat.reduceBEq, Nat.reduceBNe, Int.reduceBEq, Int.reduceBNe, reduceCtorEq, e1, e2, z1]
  refine ⟨⟨m1, by omega⟩, ?_⟩
  refine AWp.loops (X := { a : Nat × List Nat // a.1 ≤ Z ∧ ((Z = 0 ∧ (a.2 = [] ∨ a.2 = [48])) ∨ (0 < Z ∧ dcm Z = dcm a.1 ++ a.2)) })
    (fun a => mkSt [(1, .ptr 0 2 0 0), (3, .sl 1 1 0 a.1.2.length), (4, .ptr 2 2 0 0), (5, .ptr 3 2 0 0)]
      [(0, true, ⟨27, 2, [.I x]⟩), (1, true, ⟨5, 1, V.bytes a.1.2⟩), (2, true, ⟨27, 2, [.I (a.1.1 : Nat)]⟩), (3, true, ⟨27, 2, [.I 10]⟩)] 4 52)
    (fun a => 2 * a.1.1 + (if a.1.2 = [] then 1 else 0)) ⟨(Z, []), Nat.le_refl _, hstart⟩ (Wk.of [0, 2, 7, 8] (by decide) ?_) ?_
  · simp only [go_sem, List.reduceReplicate, ↓reduceIte, Nat.reduceEqDiff, Nat.reduceLT, Nat.reduceLeDiff, Nat.reduceAdd, Nat.reduceSub, Nat.reduceMul, Int.reduceToNat, Int.reduceNeg, Int.reduceAdd, Int.reduceSub, Int.reduceMul, Int.reduceLT, Int.reduceLE, Int.reduceMod, Int.reducePow, Nat.reducePow, Int.reduceDiv, Nat.reduceBEq, Nat.reduceBNe, Int.reduceBEq, Int.reduceBNe, reduceCtorEq, bytes_nil]
    rfl
  · rintro ⟨⟨T, out⟩, hT, hinv⟩
    simp only at hT hinv
    refine vc_at (tabs mixed (tbl_cons rmade_C (tbl_cons rof_C (tbl_cons rsign_C (tbl_cons (rdivMod_C rdivTo_one) (tbl_cons rsmall_C tbl_nil)))))) ?_
    have hdT : dl T ≤ 100000000 := Nat.le_trans (dl_mono hT) hZd
    have d10 : dl (Int.natAbs 10) ≤ 1 := (dl_le (k := 1)).2 (by decide)
    have r1 : dmR (T : Nat) 10 = .tup [.I (T / 10 : Nat), .I (T % 10 : Nat), .raw (.int .i64 0)] := by
      unfold dmR
      rw [if_neg (by decide)]
      rfl
    have r2 : smallB ((T % 10 : Nat) : Int) = true := by unfold smallB; simp; omega
    have r3 := rsmV_ok r2
    have r4 : (48 + ((T % 10 : Nat) : Int)) % 256 = ((48 + T % 10 : Nat) : Int) := by omega
    have hmx : maxLen = 9223372036854775807 := by decide
    have t1 : ([48 + T % 10] : List Nat).take 1 = [48 + T % 10] := rfl
    have t2 : out.take out.length = out := List.take_length
    have olen : out.length ≤ 1000000000 := by
      rcases hinv with ⟨_, h | h⟩ | ⟨_, h⟩
      · rw [h]; simp
      · rw [h]; simp
      · have := congrArg List.length h
        rw [List.length_append] at this
        omega
    have go : (0 < T ∨ out = []) → T / 10 ≤ Z ∧ ((Z = 0 ∧ ((48 + T % 10) :: out = [] ∨ (48 + T % 10) :: out = [48])) ∨ (0 < Z ∧ dcm Z = dcm (T / 10) ++ ((48 + T % 10) :: out))) ∧ 2 * (T / 10) < 2 * T + (if out = [] then 1 else 0) := fun h => by
      refine ⟨by omega, ?_, ?_⟩
      · rcases hinv with ⟨h0, h1⟩ | ⟨h0, h1⟩
        · obtain rfl : T = 0 := by omega
          have : out = [] := by
            rcases h with h | h
            · omega
            · exact h
          subst this
          exact .inl ⟨h0, .inr rfl⟩
        · refine .inr ⟨h0, ?_⟩
          have hT0 : T ≠ 0 := by
            rintro rfl
            have : out = [] := by
              rcases h with h | h
              · omega
              · exact h
            subst this
            have := dcm_pos (n := Z) (by omega)
            rw [h1, dcm_zero] at this
            simp at this
          have e9 : dcm T = dcm (T / 10) ++ [48 + T % 10] := dcm_step hT0
          rw [e9, List.append_assoc] at h1
          exact h1
      · rcases h with h | h
        · omega
        · rw [if_pos h]; omega
    by_cases p1 : 0 < T
    · have c1 : 0 < sgI ((T : Nat) : Int) := by rw [show sgI ((T : Nat) : Int) = 1 from cmpI_gt (by omega)]; decide
      obtain ⟨g1, g2, g3⟩ := go (.inl p1)
      have u1 : 1 + out.length = out.length + 1 := Nat.add_comm _ _
      simp only [go_sem, List.reduceReplicate, ↓reduceIte, Nat.reduceEqDiff, Nat.reduceLT, Nat.reduceLeDiff, Nat.reduceAdd, Nat.reduceSub, Nat.reduceMul, Int.reduceToNat, Int.reduceNeg, Int.reduceAdd, Int.reduceSub, Int.reduceMul, Int.reduceLT, Int.reduceLE, Int.reduceMod, Int.reducePow, Nat.reducePow, Int.reduceDiv, Nat.reduceBEq, Nat.reduceBNe, Int.reduceBEq, Int.reduceBNe, reduceCtorEq, c1, r1, r2, r3, r4, hmx, List.set_cons_zero, t1, t2, u1]
      refine ⟨⟨by rw [Int.natAbs_natCast]; omega, by omega, d10⟩, by omega, by omega, ?_⟩
      refine ⟨⟨(T / 10, (48 + T % 10) :: out), g1, g2⟩, Wk.of [0, 38, 2, 3] (by decide) ?_, by simpa using g3⟩
      simp only [go_sem, List.reduceReplicate, ↓reduceIte, Nat.reduceEqDiff, Nat.reduceLT, Nat.reduceLeDiff, Nat.reduceAdd, Nat.reduceSub, Nat.reduceMul, Int.reduceToNat, Int.reduceNeg, Int.reduceAdd, Int.reduceSub, Int.reduceMul, Int.reduceLT, Int.reduceLE, Int.reduceMod, Int.reducePow, Nat.reducePow, Int.reduceDiv, Nat.reduceBEq, Nat.reduceBNe, Int.reduceBEq, Int.reduceBNe, reduceCtorEq, List.length_cons, List.cons_append, List.nil_append]
    · have c1 : ¬ 0 < sgI ((T : Nat) : Int) := by
        obtain rfl : T = 0 := by omega
        decide
      by_cases p2 : out = []
      · obtain ⟨g1, g2, g3⟩ := go (.inr p2)
        subst p2
        have c2 : (((([] : List Nat).length : Nat) : Int) == 0) = true := rfl
        simp only [go_sem, List.reduceReplicate, ↓reduceIte, Nat.reduceEqDiff, Nat.reduceLT, Nat.reduceLeDiff, Nat.reduceAdd, Nat.reduceSub, Nat.reduceMul, Int.reduceToNat, Int.reduceNeg, Int.reduceAdd, Int.reduceSub, Int.reduceMul, Int.reduceLT, Int.reduceLE, Int.reduceMod, Int.reducePow, Nat.reducePow, Int.reduceDiv, Nat.reduceBEq, Nat.reduceBNe, Int.reduceBEq, Int.reduceBNe, reduceCtorEq, c1, c2, r1, r2, r3, r4, hmx, List.set_cons_zero, t1, t2]
        refine ⟨⟨by rw [Int.natAbs_natCast]; omega, by omega, d10⟩, by omega, ?_⟩
        refine ⟨⟨(T / 10, [48 + T % 10]), g1, g2⟩, Wk.of [0, 38, 2, 3] (by decide) ?_, by simpa using g3⟩
        simp only [go_sem, List.reduceReplicate, ↓reduceIte, Nat.reduceEqDiff, Nat.reduceLT, Nat.reduceLeDiff, Nat.reduceAdd, Nat.reduceSub, Nat.reduceMul, Int.reduceToNat, Int.reduceNeg, Int.reduceAdd, Int.reduceSub, Int.reduceMul, Int.reduceLT, Int.reduceLE, Int.reduceMod, Int.reducePow, Nat.reducePow, Int.reduceDiv, Nat.reduceBEq, Nat.reduceBNe, Int.reduceBEq, Int.reduceBNe, reduceCtorEq, List.length_cons, List.cons_append, List.nil_append, List.append_nil]
      · have c2 : ((out.length : Int) == 0) = false := by have := List.length_pos_iff.2 p2; simp; omega
        obtain rfl : T = 0 := by omega
        have c3 : ¬ 0 < sgI 0 := by decide
        have hout : out = if Z = 0 then [48] else dcm Z := by
          rcases hinv with ⟨h0, h | h⟩ | ⟨h0, h⟩
          · exact absurd h p2
          · rw [if_pos h0, h]
          · rw [if_neg (by omega), h, dcm_zero]
            rfl
        cases s
        · simp only [go_sem, List.reduceReplicate, ↓reduceIte, Nat.reduceEqDiff, Nat.reduceLT, Nat.reduceLeDiff, Nat.reduceAdd, Nat.reduceSub, Nat.reduceMul, Int.reduceToNat, Int.reduceNeg, Int.reduceAdd, Int.reduceSub, Int.reduceMul, Int.reduceLT, Int.reduceLE, Int.reduceMod, Int.reducePow, Nat.reducePow, Int.reduceDiv, Nat.reduceBEq, Nat.reduceBNe, Int.reduceBEq, Int.reduceBNe, reduceCtorEq, c3, c2, e1, e2, t2]
          rw [hout, hz, txN_of_sv hl hs, ← hZ]
          exact .refl _
        · simp only [go_sem, List.reduceReplicate, ↓reduceIte, Nat.reduceEqDiff, Nat.reduceLT, Nat.reduceLeDiff, Nat.reduceAdd, Nat.reduceSub, Nat.reduceMul, Int.reduceToNat, Int.reduceNeg, Int.reduceAdd, Int.reduceSub, Int.reduceMul, Int.reduceLT, Int.reduceLE, Int.reduceMod, Int.reducePow, Nat.reducePow, Int.reduceDiv, Nat.reduceBEq, Nat.reduceBNe, Int.reduceBEq, Int.reduceBNe, reduceCtorEq, c3, c2, e1, e2, t2]
          have hl0 := hs rfl
          have hp := lv_pos hl hl0
          refine ⟨by rw [mkB_size]; show 1 + _ ≤ _; omega, ?_⟩
          rw [cat45, hz, txN_sv hl hl0, ← hZ]
          have h0 : Z ≠ 0 := by omega
          rw [if_neg h0] at hout
          rw [hout]
          exact .refl _
end Go.Proofs.Ytilkleibnciloaa

/- Contracts of the reference: Read. -/
namespace Go.Proofs.Ytilkleibnciloaa
set_option linter.unusedSimpArgs false
set_option linter.unusedVariables false
open Go.RowKit

theorem sv_dg (b : Bool) (n : Nat) : sv b (dg n) = sgn b n := by unfold sv sgn; rw [lv_dg]
set_option maxRecDepth 2000 in
set_option maxHeartbeats 1000000 in
theorem rread_V (s : ByteArray) :
    PCall Try.prog 51 [.raw (.string s)] (.tup [.I (rdV (sbL s)), .raw (.int .i64 (rdC (sbL s)))]) := by
  refine PCall.of_vc (tabs mixed (tbl_cons rmade_C (tbl_cons rof_C (tbl_cons rmul_C (tbl_cons radd_C tbl_nil))))) Try.func51 rfl Try.ntmps51 Try.results51 (by simp) ?_
  have hsz := sbL_length s
  obtain ⟨S, hS⟩ : ∃ S, S = sbL s := ⟨_, rfl⟩
  rw [← hS]
  rw [← hS] at hsz
  by_cases hbig : 2000 < s.size
  · have m1 : 2000 < (s.size : Int) := by omega
    obtain ⟨r1, r2⟩ := rd_big (S := S) (by omega)
    rw [r1, r2]
    simp only [go_sem, List.reduceReplicate, ↓reduceIte, Nat.reduceEqDiff, Nat.reduceLT, Nat.reduceLeDiff, Nat.reduceAdd, Nat.reduceSub, Nat.reduceMul, Int.reduceToNat, Int.reduceNeg, Int.reduceAdd, Int.reduceSub, Int.reduceMul, Int.reduceLT, Int.reduceLE, Int.reduceMod, Int.reducePow, Nat.reducePow, Int.reduceDiv, Nat.reduceBEq, Nat.reduceBNe, Int.reduceBEq, Int.reduceBNe, reduceCtorEq, m1]
    exact out_In rfl
  have m1 : ¬ 2000 < (s.size : Int) := by omega
  have hbig' : ¬ 2000 < S.length := by omega
  by_cases h0 : S = []
  · have t0 : (s.toList == ({ data := #[] } : ByteArray).toList) = true := by rw [eq_list, ← hS, sbL_e]; simpa using h0
    have p1 : ¬ 0 < (s.size : Int) := by rw [h0] at hsz; simp at hsz; omega
    obtain ⟨r1, r2⟩ := rd_bad (S := S) hbig' (by subst h0; simp [rdD, at0])
    rw [r1, r2]
    simp only [go_sem, List.reduceReplicate, ↓reduceIte, Nat.reduceEqDiff, Nat.reduceLT, Nat.reduceLeDiff, Nat.reduceAdd, Nat.reduceSub, Nat.reduceMul, Int.reduceToNat, Int.reduceNeg, Int.reduceAdd, Int.reduceSub, Int.reduceMul, Int.reduceLT, Int.reduceLE, Int.reduceMod, Int.reducePow, Nat.reducePow, Int.reduceDiv, Nat.reduceBEq, Nat.reduceBNe, Int.reduceBEq, Int.reduceBNe, reduceCtorEq, m1, t0, p1]
    exact out_In rfl
  have hpos : 0 < S.length := List.length_pos_iff.2 h0
  have p0 : 0 < s.size := by omega
  have p1 : 0 < (s.size : Int) := by omega
  have p2 : 1 ≤ (s.size : Int) := by omega
  have byt : ∀ (a : ByteArray) (i : Nat) (c : Nat), (byteAt a i == (c : Int)) = decide (at0 (sbL a) i = c) := fun a i c => by
    rw [byteAt_sbL]
    by_cases h : at0 (sbL a) i = c
    · rw [decide_eq_true h, h]; simp
    · rw [decide_eq_false h]; exact beq_eq_false_iff_ne.2 (by omega)
  obtain ⟨neg, hneg⟩ : ∃ b, b = decide (at0 S 0 = 45) := ⟨_, rfl⟩
  have n0 : (byteAt s 0 == 45) = neg := by rw [show (45 : Int) = ((45 : Nat) : Int) from rfl, byt, ← hS, hneg]
  obtain ⟨D, hD⟩ : ∃ D, D = rdD S := ⟨_, rfl⟩
  have hcase : ∃ d : ByteArray, sbL d = D ∧ ((neg = true ∧ s.extract 1 s.size = d ∧ D = S.drop 1) ∨ (neg = false ∧ d = s ∧ D = S)) := by
    by_cases hn : at0 S 0 = 45
    · exact ⟨_, by rw [sbL_tail, hD, ← hS]; unfold rdD; rw [if_pos hn], .inl ⟨by rw [hneg]; simpa using hn, rfl, by rw [hD]; unfold rdD; rw [if_pos hn]⟩⟩
    · exact ⟨s, by rw [hD, ← hS]; unfold rdD; rw [if_neg hn], .inr ⟨by rw [hneg]; simpa using hn, rfl, by rw [hD]; unfold rdD; rw [if_neg hn]⟩⟩
  obtain ⟨d, hd, hcase⟩ := hcase
  have hdl : d.size = D.length := by rw [← hd, sbL_length]
  have hds : d.size ≤ 2000 := by
    rw [hdl, hD]
    unfold rdD
    split
    · rw [List.length_drop]; omega
    · omega
  obtain ⟨z, hz⟩ : ∃ b, b = decide (at0 D 0 = 48) := ⟨_, rfl⟩
  have z0 : (byteAt d 0 == 48) = z := by rw [show (48 : Int) = ((48 : Nat) : Int) from rfl, byt, hd, hz]
  by_cases hD0 : D = []
  · have d0 : (d.toList == ({ data := #[] } : ByteArray).toList) = true := by rw [eq_list, hd, sbL_e]; simpa using hD0
    obtain ⟨r1, r2⟩ := rd_bad (S := S) hbig' (by rw [← hD]; simp [hD0])
    rw [r1, r2]
    rcases hcase with ⟨rfl, hX, _⟩ | ⟨rfl, rfl, hX⟩
    · simp only [go_sem, List.reduceReplicate, ↓reduceIte, Nat.reduceEqDiff, Nat.reduceLT, Nat.reduceLeDiff, Nat.reduceAdd, Nat.reduceSub, Nat.reduceMul, Int.reduceToNat, Int.reduceNeg, Int.reduceAdd, Int.reduceSub, Int.reduceMul, Int.reduceLT, Int.reduceLE, Int.reduceMod, Int.reducePow, Nat.reducePow, Int.reduceDiv, Nat.reduceBEq, Nat.reduceBNe, Int.reduceBEq, Int.reduceBNe, reduceCtorEq, m1, n0, hX, d0, p0, p1, p2]
      exact ⟨Int.le_refl _, out_In rfl⟩
    · exact absurd (hX.symm.trans hD0) h0
  have d0 : (d.toList == ({ data := #[] } : ByteArray).toList) = false := by rw [eq_list, hd, sbL_e]; simpa using hD0
  have q0 : 0 < D.length := List.length_pos_iff.2 hD0
  have q1 : 0 < d.size := by omega
  have q2 : 0 < (d.size : Int) := by omega
  have hY : neg = false → d = s ∧ D = S := fun h => by
    rcases hcase with ⟨h1, _⟩ | ⟨_, h2⟩
    · rw [h] at h1; cases h1
    · exact h2
  have hZ : neg = true → s.extract 1 s.size = d ∧ D = S.drop 1 := fun h => by
    rcases hcase with ⟨_, h1⟩ | ⟨h1, _⟩
    · exact h1
    · rw [h] at h1; cases h1
  have hpw : ∀ i, i ≤ D.length → dgsL (D.take i) = true → dl (vl10 (D.take i)) ≤ 10000 := fun i hi h => by
    have h1 := vl10_lt _ h
    have h2 := ten_pow (D.take i).length
    rw [List.length_take, Nat.min_eq_left hi] at h2 h1
    have h3 := pow_le' (m := i / 9 + 1) (n := 10000) (by omega)
    exact dl_le.2 (by omega)
  have hDl : D.length ≤ 2000 := by omega
  have main : (z = false ∨ (neg = false ∧ ¬ 1 < (d.size : Int))) → (at0 D 0 = 48 → S = [48]) := fun h h48 => by
    rcases h with h | ⟨h, h'⟩
    · rw [hz] at h; simp [h48] at h
    · obtain ⟨_, h2⟩ := hY h
      rw [← h2]
      match D, q0, hdl with
      | [c], _, _ => simp [at0] at h48; rw [h48]
      | c :: c' :: r, _, hdl => simp at hdl; omega
  have bad : z = true → (neg = true ∨ 1 < (d.size : Int)) → rdV S = 0 ∧ rdC S = 4 := fun h h' => by
    refine rd_bad hbig' ?_
    rw [← hD]
    rintro ⟨_, h2, _⟩
    have h3 := h2 (by rw [hz] at h; simpa using h)
    rcases h' with h' | h'
    · rw [hneg, h3] at h'; simp [at0] at h'
    · have h4 : D = S := by rw [hD, h3]; rfl
      rw [hdl, h4, h3] at h'
      simp at h'
  have x1 : ∀ i, byteAt d i = (at0 D i : Nat) := fun i => by rw [byteAt_sbL, hd]
  cases neg
  · obtain ⟨rfl, _⟩ := hY rfl
    cases z
    · have hok := main (.inl rfl)
      simp only [go_sem, List.reduceReplicate, ↓reduceIte, Nat.reduceEqDiff, Nat.reduceLT, Nat.reduceLeDiff, Nat.reduceAdd, Nat.reduceSub, Nat.reduceMul, Int.reduceToNat, Int.reduceNeg, Int.reduceAdd, Int.reduceSub, Int.reduceMul, Int.reduceLT, Int.reduceLE, Int.reduceMod, Int.reducePow, Nat.reducePow, Int.reduceDiv, Nat.reduceBEq, Nat.reduceBNe, Int.reduceBEq, Int.reduceBNe, reduceCtorEq, m1, n0, d0, z0, p0, p1, p2, q1, q2]
      refine AWp.loops (X := { a : Nat × Bool // a.1 ≤ D.length ∧ dgsL (D.take a.1) = true ∧ (a.2 = false → a.1 = 0) })
        (fun a => mkSt [(2, .ptr 0 2 0 0), (3, .raw (.int .i64 0)), (4, .raw (.bool false)), (5, .raw (.string d)), (6, .ptr 1 2 0 0), (7, .ptr 2 2 0 0), (8, .raw (.int .i64 (a.1.1 : Nat)))]
          [(0, true, ⟨27, 2, [.agg [.raw (.bool false), .raw (.slice none 0 0)]]⟩), (1, true, ⟨27, 2, [if a.1.2 = true then .I (vl10 (D.take a.1.1) : Nat) else .agg [.raw (.bool false), .raw (.slice none 0 0)]]⟩), (2, true, ⟨27, 2, [.I 10]⟩)] 3 74)
        (fun a => D.length - a.1.1) ⟨(0, false), Nat.zero_le _, rfl, fun _ => rfl⟩ (Wk.of [0, 34, 35] (by decide) ?_) ?_
      · simp only [go_sem, List.reduceReplicate, ↓reduceIte, Nat.reduceEqDiff, Nat.reduceLT, Nat.reduceLeDiff, Nat.reduceAdd, Nat.reduceSub, Nat.reduceMul, Int.reduceToNat, Int.reduceNeg, Int.reduceAdd, Int.reduceSub, Int.reduceMul, Int.reduceLT, Int.reduceLE, Int.reduceMod, Int.reducePow, Nat.reducePow, Int.reduceDiv, Nat.reduceBEq, Nat.reduceBNe, Int.reduceBEq, Int.reduceBNe, reduceCtorEq]
      · rintro ⟨⟨i, b⟩, hi, hdg, hb0⟩
        simp only at hi hdg hb0
        refine vc_at (tabs mixed (tbl_cons rmade_C (tbl_cons rof_C (tbl_cons rmul_C (tbl_cons radd_C tbl_nil))))) ?_
        by_cases hin : i < D.length
        · have u1 : (i : Int) < (d.size : Nat) := by omega
          have u2 : (0 : Int) ≤ i := by omega
          have u0 : i < d.size := by omega
          have hb1 := sbL_lt d (at0 D i) (by rw [hd]; exact at0_mem hin)
          have y1 := x1 i
          by_cases h48 : at0 D i < 48
          · have u3 : (at0 D i : Int) < 48 := by omega
            have hbad := dgsL_bad D i hin (by omega)
            obtain ⟨r1, r2⟩ := rd_bad (S := S) hbig' (by rw [← hD, hbad]; simp)
            rw [r1, r2]
            simp only [go_sem, List.reduceReplicate, ↓reduceIte, Nat.reduceEqDiff, Nat.reduceLT, Nat.reduceLeDiff, Nat.reduceAdd, Nat.reduceSub, Nat.reduceMul, Int.reduceToNat, Int.reduceNeg, Int.reduceAdd, Int.reduceSub, Int.reduceMul, Int.reduceLT, Int.reduceLE, Int.reduceMod, Int.reducePow, Nat.reducePow, Int.reduceDiv, Nat.reduceBEq, Nat.reduceBNe, Int.reduceBEq, Int.reduceBNe, reduceCtorEq, u1, u2, u0, y1, u3]
            exact out_In rfl
          have u3 : ¬ (at0 D i : Int) < 48 := by omega
          by_cases h57 : 57 < at0 D i
          · have u4 : 57 < (at0 D i : Int) := by omega
            have hbad := dgsL_bad D i hin (by omega)
            obtain ⟨r1, r2⟩ := rd_bad (S := S) hbig' (by rw [← hD, hbad]; simp)
            rw [r1, r2]
            simp only [go_sem, List.reduceReplicate, ↓reduceIte, Nat.reduceEqDiff, Nat.reduceLT, Nat.reduceLeDiff, Nat.reduceAdd, Nat.reduceSub, Nat.reduceMul, Int.reduceToNat, Int.reduceNeg, Int.reduceAdd, Int.reduceSub, Int.reduceMul, Int.reduceLT, Int.reduceLE, Int.reduceMod, Int.reducePow, Nat.reducePow, Int.reduceDiv, Nat.reduceBEq, Nat.reduceBNe, Int.reduceBEq, Int.reduceBNe, reduceCtorEq, u1, u2, u0, y1, u3, u4]
            exact out_In rfl
          have u4 : ¬ 57 < (at0 D i : Int) := by omega
          have u5 : IntKind.i64.wrap (at0 D i : Nat) = (at0 D i : Nat) := IntWalk.i64_in _ (by omega)
          have u6 : (i : Int) + 1 = ((i + 1 : Nat) : Int) := by omega
          have hdg' : dgsL (D.take (i + 1)) = true := by rw [dgsL_take D i hin, hdg, decide_eq_true (by omega)]; rfl
          have hv' := vl10_take D i hin
          have u7 : ((vl10 (D.take i) : Nat) : Int) * 10 + ((at0 D i : Int) - 48) = ((vl10 (D.take (i + 1)) : Nat) : Int) := by omega
          have u8 : (0 : Int) * 10 + ((at0 D i : Int) - 48) = ((at0 D i - 48 : Nat) : Int) := by omega
          have hp1 := hpw i hi hdg
          have hp2 : dl ((vl10 (D.take i) : Nat) : Int).natAbs ≤ 10000 := by rw [Int.natAbs_natCast]; exact hp1
          have hp3 := dl_mulI ((vl10 (D.take i) : Nat) : Int) 10
          have hp4 : dl (Int.natAbs 10) ≤ 1 := (dl_le (k := 1)).2 (by decide)
          have hp5 : dl ((at0 D i : Int) - 48).natAbs ≤ 1 := (dl_le (k := 1)).2 (by omega)
          have hp6 := dl_mulI 0 10
          have hp7 : dl (Int.natAbs 0) = 0 := rfl
          cases b
          · obtain rfl := hb0 rfl
            have u9 : ((at0 D 0 - 48 : Nat) : Int) = ((vl10 (D.take (0 + 1)) : Nat) : Int) := by rw [hv']; simp [vl10]
            have u10 : (0 : Int) + ((at0 D 0 : Int) - 48) = ((vl10 (D.take 1) : Nat) : Int) := by rw [show D.take 1 = D.take (0 + 1) from rfl, ← u9]; omega
            have u11 : ((1 : Nat) : Int) = 1 := rfl
            simp only [go_sem, List.reduceReplicate, ↓reduceIte, Nat.reduceEqDiff, Nat.reduceLT, Nat.reduceLeDiff, Nat.reduceAdd, Nat.reduceSub, Nat.reduceMul, Int.reduceToNat, Int.reduceNeg, Int.reduceAdd, Int.reduceSub, Int.reduceMul, Int.reduceLT, Int.reduceLE, Int.reduceMod, Int.reducePow, Nat.reducePow, Int.reduceDiv, Nat.reduceBEq, Nat.reduceBNe, Int.reduceBEq, Int.reduceBNe, reduceCtorEq, q1, q2, u1, u2, u0, y1, u3, u4, u5, u6, u7, u8, u10]
            and_intros
            any_goals first | omega | rfl
            refine ⟨⟨(1, true), hin, hdg', fun h => by cases h⟩, Wk.of [0, 1, 2] (by decide) ?_, by simp only; omega⟩
            simp only [go_sem, List.reduceReplicate, ↓reduceIte, Nat.reduceEqDiff, Nat.reduceLT, Nat.reduceLeDiff, Nat.reduceAdd, Nat.reduceSub, Nat.reduceMul, Int.reduceToNat, Int.reduceNeg, Int.reduceAdd, Int.reduceSub, Int.reduceMul, Int.reduceLT, Int.reduceLE, Int.reduceMod, Int.reducePow, Nat.reducePow, Int.reduceDiv, Nat.reduceBEq, Nat.reduceBNe, Int.reduceBEq, Int.reduceBNe, reduceCtorEq, u11]
          · simp only [go_sem, List.reduceReplicate, ↓reduceIte, Nat.reduceEqDiff, Nat.reduceLT, Nat.reduceLeDiff, Nat.reduceAdd, Nat.reduceSub, Nat.reduceMul, Int.reduceToNat, Int.reduceNeg, Int.reduceAdd, Int.reduceSub, Int.reduceMul, Int.reduceLT, Int.reduceLE, Int.reduceMod, Int.reducePow, Nat.reducePow, Int.reduceDiv, Nat.reduceBEq, Nat.reduceBNe, Int.reduceBEq, Int.reduceBNe, reduceCtorEq, q1, q2, u1, u2, u0, y1, u3, u4, u5, u6, u7, u8]
            and_intros
            any_goals first | omega | rfl
            refine ⟨⟨(i + 1, true), hin, hdg', fun h => by cases h⟩, Wk.of [0, 1, 2] (by decide) ?_, by simp only; omega⟩
            simp only [go_sem, List.reduceReplicate, ↓reduceIte, Nat.reduceEqDiff, Nat.reduceLT, Nat.reduceLeDiff, Nat.reduceAdd, Nat.reduceSub, Nat.reduceMul, Int.reduceToNat, Int.reduceNeg, Int.reduceAdd, Int.reduceSub, Int.reduceMul, Int.reduceLT, Int.reduceLE, Int.reduceMod, Int.reducePow, Nat.reducePow, Int.reduceDiv, Nat.reduceBEq, Nat.reduceBNe, Int.reduceBEq, Int.reduceBNe, reduceCtorEq]
        · have u1 : ¬ (i : Int) < (d.size : Nat) := by omega
          have hiD : i = D.length := by omega
          have hbt : b = true := by
            cases b
            · have := hb0 rfl; omega
            · rfl
          subst hbt
          rw [hiD, List.take_length] at hdg
          obtain ⟨r1, r2⟩ := rd_good (S := S) hbig' (by rw [← hD]; exact ⟨hD0, hok, hdg⟩)
          rw [r1, r2, ← hneg, ← hD]
          have e1 : D.take i = D := by rw [hiD]; exact List.take_length
          have e2 := sv_dg false (vl10 D)
          have e3 := dg_lim (vl10 D)
          have e4 : (dg (vl10 D)).length ≤ 10000 := by
            have := hpw D.length (Nat.le_refl _) (by rw [List.take_length]; exact hdg)
            rw [List.take_length] at this
            exact this
          simp only [go_sem, List.reduceReplicate, ↓reduceIte, Nat.reduceEqDiff, Nat.reduceLT, Nat.reduceLeDiff, Nat.reduceAdd, Nat.reduceSub, Nat.reduceMul, Int.reduceToNat, Int.reduceNeg, Int.reduceAdd, Int.reduceSub, Int.reduceMul, Int.reduceLT, Int.reduceLE, Int.reduceMod, Int.reducePow, Nat.reducePow, Int.reduceDiv, Nat.reduceBEq, Nat.reduceBNe, Int.reduceBEq, Int.reduceBNe, reduceCtorEq, u1, e1, Int.natAbs_natCast, e2]
          exact ⟨e3, by omega⟩
    · by_cases w1 : 1 < (d.size : Int)
      · obtain ⟨r1, r2⟩ := bad rfl (.inr w1)
        rw [r1, r2]
        simp only [go_sem, List.reduceReplicate, ↓reduceIte, Nat.reduceEqDiff, Nat.reduceLT, Nat.reduceLeDiff, Nat.reduceAdd, Nat.reduceSub, Nat.reduceMul, Int.reduceToNat, Int.reduceNeg, Int.reduceAdd, Int.reduceSub, Int.reduceMul, Int.reduceLT, Int.reduceLE, Int.reduceMod, Int.reducePow, Nat.reducePow, Int.reduceDiv, Nat.reduceBEq, Nat.reduceBNe, Int.reduceBEq, Int.reduceBNe, reduceCtorEq, m1, n0, d0, z0, p0, p1, p2, q1, q2, w1]
        exact out_In rfl
      · have hok := main (.inr ⟨rfl, w1⟩)
        simp only [go_sem, List.reduceReplicate, ↓reduceIte, Nat.reduceEqDiff, Nat.reduceLT, Nat.reduceLeDiff, Nat.reduceAdd, Nat.reduceSub, Nat.reduceMul, Int.reduceToNat, Int.reduceNeg, Int.reduceAdd, Int.reduceSub, Int.reduceMul, Int.reduceLT, Int.reduceLE, Int.reduceMod, Int.reducePow, Nat.reducePow, Int.reduceDiv, Nat.reduceBEq, Nat.reduceBNe, Int.reduceBEq, Int.reduceBNe, reduceCtorEq, m1, n0, d0, z0, p0, p1, p2, q1, q2, w1]
        refine AWp.loops (X := { a : Nat × Bool // a.1 ≤ D.length ∧ dgsL (D.take a.1) = true ∧ (a.2 = false → a.1 = 0) })
          (fun a => mkSt [(2, .ptr 0 2 0 0), (3, .raw (.int .i64 0)), (4, .raw (.bool false)), (5, .raw (.string d)), (6, .ptr 1 2 0 0), (7, .ptr 2 2 0 0), (8, .raw (.int .i64 (a.1.1 : Nat)))]
            [(0, true, ⟨27, 2, [.agg [.raw (.bool false), .raw (.slice none 0 0)]]⟩), (1, true, ⟨27, 2, [if a.1.2 = true then .I (vl10 (D.take a.1.1) : Nat) else .agg [.raw (.bool false), .raw (.slice none 0 0)]]⟩), (2, true, ⟨27, 2, [.I 10]⟩)] 3 74)
          (fun a => D.length - a.1.1) ⟨(0, false), Nat.zero_le _, rfl, fun _ => rfl⟩ (Wk.of [0, 34, 35] (by decide) ?_) ?_
        · simp only [go_sem, List.reduceReplicate, ↓reduceIte, Nat.reduceEqDiff, Nat.reduceLT, Nat.reduceLeDiff, Nat.reduceAdd, Nat.reduceSub, Nat.reduceMul, Int.reduceToNat, Int.reduceNeg, Int.reduceAdd, Int.reduceSub, Int.reduceMul, Int.reduceLT, Int.reduceLE, Int.reduceMod, Int.reducePow, Nat.reducePow, Int.reduceDiv, Nat.reduceBEq, Nat.reduceBNe, Int.reduceBEq, Int.reduceBNe, reduceCtorEq]
        · rintro ⟨⟨i, b⟩, hi, hdg, hb0⟩
          simp only at hi hdg hb0
          refine vc_at (tabs mixed (tbl_cons rmade_C (tbl_cons rof_C (tbl_cons rmul_C (tbl_cons radd_C tbl_nil))))) ?_
          by_cases hin : i < D.length
          · have u1 : (i : Int) < (d.size : Nat) := by omega
            have u2 : (0 : Int) ≤ i := by omega
            have u0 : i < d.size := by omega
            have hb1 := sbL_lt d (at0 D i) (by rw [hd]; exact at0_mem hin)
            have y1 := x1 i
            by_cases h48 : at0 D i < 48
            · have u3 : (at0 D i : Int) < 48 := by omega
              have hbad := dgsL_bad D i hin (by omega)
              obtain ⟨r1, r2⟩ := rd_bad (S := S) hbig' (by rw [← hD, hbad]; simp)
              rw [r1, r2]
              simp only [go_sem, List.reduceReplicate, ↓reduceIte, Nat.reduceEqDiff, Nat.reduceLT, Nat.reduceLeDiff, Nat.reduceAdd, Nat.reduceSub, Nat.reduceMul, Int.reduceToNat, Int.reduceNeg, Int.reduceAdd, Int.reduceSub, Int.reduceMul, Int.reduceLT, Int.reduceLE, Int.reduceMod, Int.reducePow, Nat.reducePow, Int.reduceDiv, Nat.reduceBEq, Nat.reduceBNe, Int.reduceBEq, Int.reduceBNe, reduceCtorEq, u1, u2, u0, y1, u3]
              exact out_In rfl
            have u3 : ¬ (at0 D i : Int) < 48 := by omega
            by_cases h57 : 57 < at0 D i
            · have u4 : 57 < (at0 D i : Int) := by omega
              have hbad := dgsL_bad D i hin (by omega)
              obtain ⟨r1, r2⟩ := rd_bad (S := S) hbig' (by rw [← hD, hbad]; simp)
              rw [r1, r2]
              simp only [go_sem, List.reduceReplicate, ↓reduceIte, Nat.reduceEqDiff, Nat.reduceLT, Nat.reduceLeDiff, Nat.reduceAdd, Nat.reduceSub, Nat.reduceMul, Int.reduceToNat, Int.reduceNeg, Int.reduceAdd, Int.reduceSub, Int.reduceMul, Int.reduceLT, Int.reduceLE, Int.reduceMod, Int.reducePow, Nat.reducePow, Int.reduceDiv, Nat.reduceBEq, Nat.reduceBNe, Int.reduceBEq, Int.reduceBNe, reduceCtorEq, u1, u2, u0, y1, u3, u4]
              exact out_In rfl
            have u4 : ¬ 57 < (at0 D i : Int) := by omega
            have u5 : IntKind.i64.wrap (at0 D i : Nat) = (at0 D i : Nat) := IntWalk.i64_in _ (by omega)
            have u6 : (i : Int) + 1 = ((i + 1 : Nat) : Int) := by omega
            have hdg' : dgsL (D.take (i + 1)) = true := by rw [dgsL_take D i hin, hdg, decide_eq_true (by omega)]; rfl
            have hv' := vl10_take D i hin
            have u7 : ((vl10 (D.take i) : Nat) : Int) * 10 + ((at0 D i : Int) - 48) = ((vl10 (D.take (i + 1)) : Nat) : Int) := by omega
            have u8 : (0 : Int) * 10 + ((at0 D i : Int) - 48) = ((at0 D i - 48 : Nat) : Int) := by omega
            have hp1 := hpw i hi hdg
            have hp2 : dl ((vl10 (D.take i) : Nat) : Int).natAbs ≤ 10000 := by rw [Int.natAbs_natCast]; exact hp1
            have hp3 := dl_mulI ((vl10 (D.take i) : Nat) : Int) 10
            have hp4 : dl (Int.natAbs 10) ≤ 1 := (dl_le (k := 1)).2 (by decide)
            have hp5 : dl ((at0 D i : Int) - 48).natAbs ≤ 1 := (dl_le (k := 1)).2 (by omega)
            have hp6 := dl_mulI 0 10
            have hp7 : dl (Int.natAbs 0) = 0 := rfl
            cases b
            · obtain rfl := hb0 rfl
              have u9 : ((at0 D 0 - 48 : Nat) : Int) = ((vl10 (D.take (0 + 1)) : Nat) : Int) := by rw [hv']; simp [vl10]
              have u10 : (0 : Int) + ((at0 D 0 : Int) - 48) = ((vl10 (D.take 1) : Nat) : Int) := by rw [show D.take 1 = D.take (0 + 1) from rfl, ← u9]; omega
              have u11 : ((1 : Nat) : Int) = 1 := rfl
              simp only [go_sem, List.reduceReplicate, ↓reduceIte, Nat.reduceEqDiff, Nat.reduceLT, Nat.reduceLeDiff, Nat.reduceAdd, Nat.reduceSub, Nat.reduceMul, Int.reduceToNat, Int.reduceNeg, Int.reduceAdd, Int.reduceSub, Int.reduceMul, Int.reduceLT, Int.reduceLE, Int.reduceMod, Int.reducePow, Nat.reducePow, Int.reduceDiv, Nat.reduceBEq, Nat.reduceBNe, Int.reduceBEq, Int.reduceBNe, reduceCtorEq, q1, q2, u1, u2, u0, y1, u3, u4, u5, u6, u7, u8, u10]
              and_intros
              any_goals first | omega | rfl
              refine ⟨⟨(1, true), hin, hdg', fun h => by cases h⟩, Wk.of [0, 1, 2] (by decide) ?_, by simp only; omega⟩
              simp only [go_sem, List.reduceReplicate, ↓reduceIte, Nat.reduceEqDiff, Nat.reduceLT, Nat.reduceLeDiff, Nat.reduceAdd, Nat.reduceSub, Nat.reduceMul, Int.reduceToNat, Int.reduceNeg, Int.reduceAdd, Int.reduceSub, Int.reduceMul, Int.reduceLT, Int.reduceLE, Int.reduceMod, Int.reducePow, Nat.reducePow, Int.reduceDiv, Nat.reduceBEq, Nat.reduceBNe, Int.reduceBEq, Int.reduceBNe, reduceCtorEq, u11]
            · simp only [go_sem, List.reduceReplicate, ↓reduceIte, Nat.reduceEqDiff, Nat.reduceLT, Nat.reduceLeDiff, Nat.reduceAdd, Nat.reduceSub, Nat.reduceMul, Int.reduceToNat, Int.reduceNeg, Int.reduceAdd, Int.reduceSub, Int.reduceMul, Int.reduceLT, Int.reduceLE, Int.reduceMod, Int.reducePow, Nat.reducePow, Int.reduceDiv, Nat.reduceBEq, Nat.reduceBNe, Int.reduceBEq, Int.reduceBNe, reduceCtorEq, q1, q2, u1, u2, u0, y1, u3, u4, u5, u6, u7, u8]
              and_intros
              any_goals first | omega | rfl
              refine ⟨⟨(i + 1, true), hin, hdg', fun h => by cases h⟩, Wk.of [0, 1, 2] (by decide) ?_, by simp only; omega⟩
              simp only [go_sem, List.reduceReplicate, ↓reduceIte, Nat.reduceEqDiff, Nat.reduceLT, Nat.reduceLeDiff, Nat.reduceAdd, Nat.reduceSub, Nat.reduceMul, Int.reduceToNat, Int.reduceNeg, Int.reduceAdd, Int.reduceSub, Int.reduceMul, Int.reduceLT, Int.reduceLE, Int.reduceMod, Int.reducePow, Nat.reducePow, Int.reduceDiv, Nat.reduceBEq, Nat.reduceBNe, Int.reduceBEq, Int.reduceBNe, reduceCtorEq]
          · have u1 : ¬ (i : Int) < (d.size : Nat) := by omega
            have hiD : i = D.length := by omega
            have hbt : b = true := by
              cases b
              · have := hb0 rfl; omega
              · rfl
            subst hbt
            rw [hiD, List.take_length] at hdg
            obtain ⟨r1, r2⟩ := rd_good (S := S) hbig' (by rw [← hD]; exact ⟨hD0, hok, hdg⟩)
            rw [r1, r2, ← hneg, ← hD]
            have e1 : D.take i = D := by rw [hiD]; exact List.take_length
            have e2 := sv_dg false (vl10 D)
            have e3 := dg_lim (vl10 D)
            have e4 : (dg (vl10 D)).length ≤ 10000 := by
              have := hpw D.length (Nat.le_refl _) (by rw [List.take_length]; exact hdg)
              rw [List.take_length] at this
              exact this
            simp only [go_sem, List.reduceReplicate, ↓reduceIte, Nat.reduceEqDiff, Nat.reduceLT, Nat.reduceLeDiff, Nat.reduceAdd, Nat.reduceSub, Nat.reduceMul, Int.reduceToNat, Int.reduceNeg, Int.reduceAdd, Int.reduceSub, Int.reduceMul, Int.reduceLT, Int.reduceLE, Int.reduceMod, Int.reducePow, Nat.reducePow, Int.reduceDiv, Nat.reduceBEq, Nat.reduceBNe, Int.reduceBEq, Int.reduceBNe, reduceCtorEq, u1, e1, Int.natAbs_natCast, e2]
            exact ⟨e3, by omega⟩
  · obtain ⟨hX, _⟩ := hZ rfl
    cases z
    · have hok := main (.inl rfl)
      simp only [go_sem, List.reduceReplicate, ↓reduceIte, Nat.reduceEqDiff, Nat.reduceLT, Nat.reduceLeDiff, Nat.reduceAdd, Nat.reduceSub, Nat.reduceMul, Int.reduceToNat, Int.reduceNeg, Int.reduceAdd, Int.reduceSub, Int.reduceMul, Int.reduceLT, Int.reduceLE, Int.reduceMod, Int.reducePow, Nat.reducePow, Int.reduceDiv, Nat.reduceBEq, Nat.reduceBNe, Int.reduceBEq, Int.reduceBNe, reduceCtorEq, m1, n0, hX, d0, z0, p0, p1, p2, q1, q2]
      refine ⟨Int.le_refl _, ?_⟩
      refine AWp.loops (X := { a : Nat × Bool // a.1 ≤ D.length ∧ dgsL (D.take a.1) = true ∧ (a.2 = false → a.1 = 0) })
        (fun a => mkSt [(2, .ptr 0 2 0 0), (3, .raw (.int .i64 0)), (4, .raw (.bool true)), (5, .raw (.string d)), (6, .ptr 1 2 0 0), (7, .ptr 2 2 0 0), (8, .raw (.int .i64 (a.1.1 : Nat)))]
          [(0, true, ⟨27, 2, [.agg [.raw (.bool false), .raw (.slice none 0 0)]]⟩), (1, true, ⟨27, 2, [if a.1.2 = true then .I (vl10 (D.take a.1.1) : Nat) else .agg [.raw (.bool false), .raw (.slice none 0 0)]]⟩), (2, true, ⟨27, 2, [.I 10]⟩)] 3 74)
        (fun a => D.length - a.1.1) ⟨(0, false), Nat.zero_le _, rfl, fun _ => rfl⟩ (Wk.of [0, 37, 38] (by decide) ?_) ?_
      · simp only [go_sem, List.reduceReplicate, ↓reduceIte, Nat.reduceEqDiff, Nat.reduceLT, Nat.reduceLeDiff, Nat.reduceAdd, Nat.reduceSub, Nat.reduceMul, Int.reduceToNat, Int.reduceNeg, Int.reduceAdd, Int.reduceSub, Int.reduceMul, Int.reduceLT, Int.reduceLE, Int.reduceMod, Int.reducePow, Nat.reducePow, Int.reduceDiv, Nat.reduceBEq, Nat.reduceBNe, Int.reduceBEq, Int.reduceBNe, reduceCtorEq]
      · rintro ⟨⟨i, b⟩, hi, hdg, hb0⟩
        simp only at hi hdg hb0
        refine vc_at (tabs mixed (tbl_cons rmade_C (tbl_cons rof_C (tbl_cons rmul_C (tbl_cons radd_C tbl_nil))))) ?_
        by_cases hin : i < D.length
        · have u1 : (i : Int) < (d.size : Nat) := by omega
          have u2 : (0 : Int) ≤ i := by omega
          have u0 : i < d.size := by omega
          have hb1 := sbL_lt d (at0 D i) (by rw [hd]; exact at0_mem hin)
          have y1 := x1 i
          by_cases h48 : at0 D i < 48
          · have u3 : (at0 D i : Int) < 48 := by omega
            have hbad := dgsL_bad D i hin (by omega)
            obtain ⟨r1, r2⟩ := rd_bad (S := S) hbig' (by rw [← hD, hbad]; simp)
            rw [r1, r2]
            simp only [go_sem, List.reduceReplicate, ↓reduceIte, Nat.reduceEqDiff, Nat.reduceLT, Nat.reduceLeDiff, Nat.reduceAdd, Nat.reduceSub, Nat.reduceMul, Int.reduceToNat, Int.reduceNeg, Int.reduceAdd, Int.reduceSub, Int.reduceMul, Int.reduceLT, Int.reduceLE, Int.reduceMod, Int.reducePow, Nat.reducePow, Int.reduceDiv, Nat.reduceBEq, Nat.reduceBNe, Int.reduceBEq, Int.reduceBNe, reduceCtorEq, u1, u2, u0, y1, u3]
            exact out_In rfl
          have u3 : ¬ (at0 D i : Int) < 48 := by omega
          by_cases h57 : 57 < at0 D i
          · have u4 : 57 < (at0 D i : Int) := by omega
            have hbad := dgsL_bad D i hin (by omega)
            obtain ⟨r1, r2⟩ := rd_bad (S := S) hbig' (by rw [← hD, hbad]; simp)
            rw [r1, r2]
            simp only [go_sem, List.reduceReplicate, ↓reduceIte, Nat.reduceEqDiff, Nat.reduceLT, Nat.reduceLeDiff, Nat.reduceAdd, Nat.reduceSub, Nat.reduceMul, Int.reduceToNat, Int.reduceNeg, Int.reduceAdd, Int.reduceSub, Int.reduceMul, Int.reduceLT, Int.reduceLE, Int.reduceMod, Int.reducePow, Nat.reducePow, Int.reduceDiv, Nat.reduceBEq, Nat.reduceBNe, Int.reduceBEq, Int.reduceBNe, reduceCtorEq, u1, u2, u0, y1, u3, u4]
            exact out_In rfl
          have u4 : ¬ 57 < (at0 D i : Int) := by omega
          have u5 : IntKind.i64.wrap (at0 D i : Nat) = (at0 D i : Nat) := IntWalk.i64_in _ (by omega)
          have u6 : (i : Int) + 1 = ((i + 1 : Nat) : Int) := by omega
          have hdg' : dgsL (D.take (i + 1)) = true := by rw [dgsL_take D i hin, hdg, decide_eq_true (by omega)]; rfl
          have hv' := vl10_take D i hin
          have u7 : ((vl10 (D.take i) : Nat) : Int) * 10 + ((at0 D i : Int) - 48) = ((vl10 (D.take (i + 1)) : Nat) : Int) := by omega
          have u8 : (0 : Int) * 10 + ((at0 D i : Int) - 48) = ((at0 D i - 48 : Nat) : Int) := by omega
          have hp1 := hpw i hi hdg
          have hp2 : dl ((vl10 (D.take i) : Nat) : Int).natAbs ≤ 10000 := by rw [Int.natAbs_natCast]; exact hp1
          have hp3 := dl_mulI ((vl10 (D.take i) : Nat) : Int) 10
          have hp4 : dl (Int.natAbs 10) ≤ 1 := (dl_le (k := 1)).2 (by decide)
          have hp5 : dl ((at0 D i : Int) - 48).natAbs ≤ 1 := (dl_le (k := 1)).2 (by omega)
          have hp6 := dl_mulI 0 10
          have hp7 : dl (Int.natAbs 0) = 0 := rfl
          cases b
          · obtain rfl := hb0 rfl
            have u9 : ((at0 D 0 - 48 : Nat) : Int) = ((vl10 (D.take (0 + 1)) : Nat) : Int) := by rw [hv']; simp [vl10]
            have u10 : (0 : Int) + ((at0 D 0 : Int) - 48) = ((vl10 (D.take 1) : Nat) : Int) := by rw [show D.take 1 = D.take (0 + 1) from rfl, ← u9]; omega
            have u11 : ((1 : Nat) : Int) = 1 := rfl
            simp only [go_sem, List.reduceReplicate, ↓reduceIte, Nat.reduceEqDiff, Nat.reduceLT, Nat.reduceLeDiff, Nat.reduceAdd, Nat.reduceSub, Nat.reduceMul, Int.reduceToNat, Int.reduceNeg, Int.reduceAdd, Int.reduceSub, Int.reduceMul, Int.reduceLT, Int.reduceLE, Int.reduceMod, Int.reducePow, Nat.reducePow, Int.reduceDiv, Nat.reduceBEq, Nat.reduceBNe, Int.reduceBEq, Int.reduceBNe, reduceCtorEq, q1, q2, u1, u2, u0, y1, u3, u4, u5, u6, u7, u8, u10]
            and_intros
            any_goals first | omega | rfl
            refine ⟨⟨(1, true), hin, hdg', fun h => by cases h⟩, Wk.of [0, 1, 2] (by decide) ?_, by simp only; omega⟩
            simp only [go_sem, List.reduceReplicate, ↓reduceIte, Nat.reduceEqDiff, Nat.reduceLT, Nat.reduceLeDiff, Nat.reduceAdd, Nat.reduceSub, Nat.reduceMul, Int.reduceToNat, Int.reduceNeg, Int.reduceAdd, Int.reduceSub, Int.reduceMul, Int.reduceLT, Int.reduceLE, Int.reduceMod, Int.reducePow, Nat.reducePow, Int.reduceDiv, Nat.reduceBEq, Nat.reduceBNe, Int.reduceBEq, Int.reduceBNe, reduceCtorEq, u11]
          · simp only [go_sem, List.reduceReplicate, ↓reduceIte, Nat.reduceEqDiff, Nat.reduceLT, Nat.reduceLeDiff, Nat.reduceAdd, Nat.reduceSub, Nat.reduceMul, Int.reduceToNat, Int.reduceNeg, Int.reduceAdd, Int.reduceSub, Int.reduceMul, Int.reduceLT, Int.reduceLE, Int.reduceMod, Int.reducePow, Nat.reducePow, Int.reduceDiv, Nat.reduceBEq, Nat.reduceBNe, Int.reduceBEq, Int.reduceBNe, reduceCtorEq, q1, q2, u1, u2, u0, y1, u3, u4, u5, u6, u7, u8]
            and_intros
            any_goals first | omega | rfl
            refine ⟨⟨(i + 1, true), hin, hdg', fun h => by cases h⟩, Wk.of [0, 1, 2] (by decide) ?_, by simp only; omega⟩
            simp only [go_sem, List.reduceReplicate, ↓reduceIte, Nat.reduceEqDiff, Nat.reduceLT, Nat.reduceLeDiff, Nat.reduceAdd, Nat.reduceSub, Nat.reduceMul, Int.reduceToNat, Int.reduceNeg, Int.reduceAdd, Int.reduceSub, Int.reduceMul, Int.reduceLT, Int.reduceLE, Int.reduceMod, Int.reducePow, Nat.reducePow, Int.reduceDiv, Nat.reduceBEq, Nat.reduceBNe, Int.reduceBEq, Int.reduceBNe, reduceCtorEq]
        · have u1 : ¬ (i : Int) < (d.size : Nat) := by omega
          have hiD : i = D.length := by omega
          have hbt : b = true := by
            cases b
            · have := hb0 rfl; omega
            · rfl
          subst hbt
          rw [hiD, List.take_length] at hdg
          obtain ⟨r1, r2⟩ := rd_good (S := S) hbig' (by rw [← hD]; exact ⟨hD0, hok, hdg⟩)
          rw [r1, r2, ← hneg, ← hD]
          have e1 : D.take i = D := by rw [hiD]; exact List.take_length
          have e2 := sv_dg true (vl10 D)
          have e3 := dg_lim (vl10 D)
          have e4 : (dg (vl10 D)).length ≤ 10000 := by
            have := hpw D.length (Nat.le_refl _) (by rw [List.take_length]; exact hdg)
            rw [List.take_length] at this
            exact this
          simp only [go_sem, List.reduceReplicate, ↓reduceIte, Nat.reduceEqDiff, Nat.reduceLT, Nat.reduceLeDiff, Nat.reduceAdd, Nat.reduceSub, Nat.reduceMul, Int.reduceToNat, Int.reduceNeg, Int.reduceAdd, Int.reduceSub, Int.reduceMul, Int.reduceLT, Int.reduceLE, Int.reduceMod, Int.reducePow, Nat.reducePow, Int.reduceDiv, Nat.reduceBEq, Nat.reduceBNe, Int.reduceBEq, Int.reduceBNe, reduceCtorEq, u1, e1, Int.natAbs_natCast, e2]
          exact ⟨e3, by omega⟩
    · obtain ⟨r1, r2⟩ := bad rfl (.inl rfl)
      rw [r1, r2]
      simp only [go_sem, List.reduceReplicate, ↓reduceIte, Nat.reduceEqDiff, Nat.reduceLT, Nat.reduceLeDiff, Nat.reduceAdd, Nat.reduceSub, Nat.reduceMul, Int.reduceToNat, Int.reduceNeg, Int.reduceAdd, Int.reduceSub, Int.reduceMul, Int.reduceLT, Int.reduceLE, Int.reduceMod, Int.reducePow, Nat.reducePow, Int.reduceDiv, Nat.reduceBEq, Nat.reduceBNe, Int.reduceBEq, Int.reduceBNe, reduceCtorEq, m1, n0, hX, d0, z0, p0, p1, p2, q1, q2]
      exact ⟨Int.le_refl _, out_In rfl⟩
end Go.Proofs.Ytilkleibnciloaa
