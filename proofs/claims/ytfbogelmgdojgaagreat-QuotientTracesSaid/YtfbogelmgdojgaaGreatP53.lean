/- Texts G4 G5 in one. -/
import Derived.Test.YtfbogelmgdojgaaGreatP52
/- Contracts: slices.Repeat and slices.Clone of rational numbers; products. -/
namespace Go.Proofs.YtfbogelmgdojgaaGreat
set_option linter.unusedSimpArgs false
set_option linter.unusedVariables false
open Go.RowKit

theorem wraps_u64' {n : Int} (h0 : 0 ≤ n) (h1 : n < 2 ^ 64) : IntKind.u64.wrap n = n := by
  simp only [IntKind.wrap, IntKind.bits, IntKind.signed]
  simp
  omega
theorem wraps_i64x {n : Int} (h0 : -9223372036854775808 ≤ n) (h1 : n ≤ 9223372036854775807) : IntKind.i64.wrap n = n := by rw [IntKind.wrap_i64]; omega
theorem and_low (y : Int) (h0 : 0 ≤ y) (h1 : y < 4294967296) : bits BinOp.and IntKind.u64 y 4294967295 = y := by
  have := bits_mask .u64 64 (by decide) (fun n a b => wraps_u64' a b) 32 (by decide) y h0 (by omega)
  rw [show (2 : Int) ^ 32 - 1 = 4294967295 from by decide, show (2 : Int) ^ 32 = 4294967296 from by decide] at this
  rw [this]; omega
def kMul64 : Con := con2 (pN .u64) (pN .u64) fun x y => (x = 1 ∧ 0 ≤ y ∧ y < 4294967296, .tup [.raw (.int .u64 0), .raw (.int .u64 y)])
attribute [go_sem ↓, go_sem] kMul64
theorem mul64_C : Ctr Tryz.prog 142 kMul64 := Ctr.c2 (by kernel_rfl) fun x y h => by
  obtain ⟨rfl, h0, h1⟩ := h
  refine PCall.of_vc (tabs mixed tbl_nil) Tryz.func142 rfl Tryz.ntmps142 Tryz.results142 (by simp) ?_
  have a1 := and_low 1 (by decide) (by decide)
  have a2 := and_low y h0 h1
  have a3 : y / 4294967296 = 0 := by omega
  have a4 := and_low 0 (by decide) (by decide)
  have e1 : (2 : Int) ^ (Int.toNat 32) = 4294967296 := by decide
  have e2 : (1 : Int) / 4294967296 = 0 := by decide
  have e3 : (0 : Int) / 4294967296 = 0 := by decide
  simp only [go_sem, a1, a2, a3, a4, e1, e2, e3, Int.one_mul, Int.zero_mul, Int.mul_zero, Int.add_zero, Int.zero_add]
  omega
theorem mulU_C : Ctr Tryz.prog 123 kMul64 := Ctr.c2 (by kernel_rfl) fun x y h => by
  obtain ⟨rfl, h0, h1⟩ := h
  refine PCall.of_vc (tabs mixed (tbl_cons mul64_C tbl_nil)) Tryz.func123 rfl Tryz.ntmps123 Tryz.results123 (by simp) ?_
  simp only [go_sem]
  exact ⟨h0, h1⟩
theorem repeat_V (q : Rat) (N : Nat) (h0 : 0 < N) (hN : N ≤ 1000000) : FCall Tryz.prog 97 [.lst [.Q q], .raw (.int .i64 (N : Nat))] ⟨45, 4, V.rats (List.replicate N q)⟩ := by
  refine FCall.of_vc (tabs mixed (tbl_cons mulU_C tbl_nil)) Tryz.func97 rfl Tryz.ntmps97 Tryz.results97 (by simp) ?_
  have c1 : ¬ (N : Int) < 0 := by omega
  have c2 : ¬ (9223372036854775807 : Int) < (N : Nat) := by omega
  have w1 : ((N : Nat) : Int) % 18446744073709551616 = (N : Nat) := by omega
  have w3 : IntKind.i64.wrap ((N : Nat) : Int) = (N : Nat) := wraps_i64x (by omega) (by omega)
  have m1 : min 1 N = 1 := by omega
  simp only [go_sem, c1, c2, w1, w3, m1, Int.toNat_natCast]
  refine ⟨by omega, by omega, h0, ?_⟩
  refine AWp.loops (X := { p : Nat × List V // (1 ≤ p.1 ∧ p.1 ≤ N) ∧ p.2.length = N ∧ p.2.take p.1 = V.rats (List.replicate p.1 q) ∧ allPure p.2 ∧ allWid p.2 4 })
    (fun p => mkSt [(4, .raw (.slice none 0 0)), (7, .sl 0 4 0 N), (8, .raw (.int .i64 (p.1.1 : Nat)))] [(0, true, ⟨45, 4, p.1.2⟩)] 1 48)
    (fun p => N - p.1.1) ⟨(1, V.Q q :: (List.replicate N z0).drop 1), ⟨Nat.le_refl _, h0⟩, by simp; omega, rfl, ?_, ?_⟩ (Wk.of [22] (by decide) ?_) ?_
  · intro y hy
    rcases List.mem_cons.1 hy with rfl | hy
    · rfl
    · exact z0_pure N y (List.mem_of_mem_drop hy)
  · intro y hy
    rcases List.mem_cons.1 hy with rfl | hy
    · rfl
    · exact z0_wid N y (List.mem_of_mem_drop hy)
  · simp only [go_sem]
    exact ⟨rfl, fun y hy => z0_pure N y (List.mem_of_mem_drop hy)⟩
  · rintro ⟨⟨c, L⟩, ⟨hc1, hcN⟩, hl, hL, hp, hw⟩
    simp only at hc1 hcN hl hL hp hw
    refine vc_at (tabs mixed (tbl_cons mulU_C tbl_nil)) ?_
    by_cases hc : c < N
    · have d1 : (c : Int) < (N : Nat) := by omega
      obtain ⟨m, hm⟩ : ∃ m, min c (N - c) = m := ⟨_, rfl⟩
      have e1 : (c : Int) + (m : Nat) = ((c + m : Nat) : Int) := by omega
      have hrep : List.replicate c q ++ List.take m (List.replicate c q) = List.replicate (c + m) q := by
        rw [List.take_replicate, Nat.min_eq_left (by omega), List.replicate_append_replicate]
      have hp' : allPure (V.rats (List.replicate (c + m) q) ++ L.drop (c + m)) := fun y hy => by
        rcases List.mem_append.1 hy with hy | hy
        · exact of_eq_true (rats_pure _) y hy
        · exact hp y (List.mem_of_mem_drop hy)
      simp only [go_sem, d1, hl, hL, hm, e1, hc, hcN, hrep]
      refine ⟨by omega, by omega, by omega, by omega, by omega, by rfl, ⟨(c + m, V.rats (List.replicate (c + m) q) ++ L.drop (c + m)), by omega, ?_, ?_, ?_, ?_⟩, Wk.of [0] (by decide) ?_, by simp only; omega⟩
      · rw [List.length_append, rats_len, List.length_replicate, List.length_drop]; omega
      · simp only
        rw [List.take_append_of_le_length (by simp [V.rats]), List.take_of_length_le (by simp [V.rats])]
      · exact hp'
      · intro y hy
        rcases List.mem_append.1 hy with hy | hy
        · exact of_eq_true (rats_wid _) y hy
        · exact hw y (List.mem_of_mem_drop hy)
      · simp only [go_sem]
        exact hp'
    · have d1 : ¬ (c : Int) < (N : Nat) := by omega
      obtain rfl : c = N := by omega
      rw [List.take_of_length_le (by omega)] at hL
      subst hL
      simp only [go_sem, d1]
      exact ⟨0, rfl, rfl⟩
theorem one_list {l : List Rat} (h : l.length = 1) : l = [cf l 0] := by
  match l, h with
  | [q], _ => rfl
def kRepeat : FCon := con2 pR (pN .i64) fun l n => (l.length = 1 ∧ 0 < n ∧ n ≤ 1000000, ⟨45, 4, V.rats (List.replicate n.toNat (cf l 0))⟩)
attribute [go_sem ↓, go_sem] kRepeat
theorem repeat_C : FCtr Tryz.prog 97 kRepeat := FCtr.c2 (by kernel_rfl) fun l n h => by
  obtain ⟨h1, h2, h3⟩ := h
  have := repeat_V (cf l 0) n.toNat (by omega) (by omega)
  rw [show ((n.toNat : Nat) : Int) = n from by omega] at this
  have e : (.lst [.Q (cf l 0)] : V) = pR.val l := by
    show V.lst [.Q (cf l 0)] = .lst (V.rats l)
    rw [one_list h1]
    rfl
  rw [e] at this
  exact this
theorem qclone_V (x : Rat) (l : List Rat) (h1 : l.length ≤ 1000000) : FCall Tryz.prog 95 [.lst (V.rats (x :: l))] ⟨45, 4, V.rats (x :: l)⟩ := by
  refine FCall.of_vc (tabs mixed tbl_nil) Tryz.func95 rfl Tryz.ntmps95 Tryz.results95 (by simp) ?_
  have e1 : V.rats (x :: l) = .Q x :: V.rats l := rfl
  rw [e1]
  have e2 : maxLen = 9223372036854775807 := by decide
  simp only [go_sem, List.take_length, e2]
  exact ⟨⟨_, rfl⟩, by omega, ⟨5, rfl, rfl⟩⟩
def kQClone : FCon := con1 pR fun l => (l ≠ [] ∧ l.length ≤ 1000000, ⟨45, 4, V.rats l⟩)
attribute [go_sem ↓, go_sem] kQClone
theorem qclone_C : FCtr Tryz.prog 95 kQClone := FCtr.c1 (by kernel_rfl) fun l h => by
  obtain ⟨h1, h2⟩ := h
  cases l with
  | nil => exact absurd rfl h1
  | cons x l => exact qclone_V x l (by simp at h2; omega)
end Go.Proofs.YtfbogelmgdojgaaGreat

/- Contracts: products of polynomials. -/
namespace Go.Proofs.YtfbogelmgdojgaaGreat
set_option linter.unusedSimpArgs false
set_option linter.unusedVariables false
open Go.RowKit

theorem mulL_PB {b : List Rat} {j k : Nat} (hb : PB b k) : ∀ {a : List Rat}, PB a j → PB (mulL a b) (a.length * (j + k + 1) + 1)
  | [], _ => fun i => by rw [show mulL [] b = [] from rfl, cf_nil]; exact Nat.le_trans qs_0 (by omega)
  | x :: a, ha => fun i => by
    have hx : qs x ≤ j := ha 0
    have ih := mulL_PB (a := a) hb fun i => ha (i + 1)
    simp only [mulL, cf_addL, cf_scL, List.length_cons]
    have h1 : qs (x * cf b i) ≤ j + k := qsM hx (hb i)
    have h2 : qs (cf (0 :: mulL a b) i) ≤ a.length * (j + k + 1) + 1 := by
      cases i with
      | zero => exact Nat.le_trans qs_0 (by omega)
      | succ i => exact ih i
    have h3 := qsA h1 h2
    have : (a.length + 1) * (j + k + 1) = a.length * (j + k + 1) + (j + k + 1) := by rw [Nat.add_mul, Nat.one_mul]
    omega
theorem PB_take {a : List Rat} {j n : Nat} (h : PB a j) : PB (a.take n) j := fun i => by
  rw [cf_take]
  split
  · exact h i
  · exact Nat.le_trans qs_0 h.pos
theorem mp_qs {a b : List Rat} {j k : Nat} (ha : PB a j) (hb : PB b k) {i kk n : Nat} (hi : i < a.length) : qs (mp a b i kk n) ≤ a.length * (j + k + 1) + 1 := by
  have h1 := mulL_PB hb (PB_take (n := i) ha) n
  rw [List.length_take, Nat.min_eq_left (by omega)] at h1
  have h2 : (i + 1) * (j + k + 1) ≤ a.length * (j + k + 1) := Nat.mul_le_mul_right _ hi
  rw [Nat.add_mul, Nat.one_mul] at h2
  unfold mp
  split
  · have h3 : qs (cf a i * cf b (n - i)) ≤ j + k := qsM (ha i) (hb _)
    have := qsA h1 h3
    omega
  · have := qsA h1 qs_0
    have := (hb 0); have := qs_pos (cf b 0)
    omega
set_option maxRecDepth 2000 in
theorem mul_V (a b : List Rat) (j k : Nat) (a0 : a ≠ []) (b0 : b ≠ []) (hl : a.length + b.length ≤ 1000000) (ha : PB a j) (hb : PB b k) (hs : a.length * (j + k + 1) + 1 ≤ 10000000000) :
    PCall Tryz.prog 55 [.lst (V.rats a), .lst (V.rats b)] (.lst (V.rats (pMul a b))) := by
  refine PCall.of_vc (tabsX mixed (tbl_cons whole_C (tbl_cons qMul_C (tbl_cons qAdd_C (tbl_cons trim_C tbl_nil)))) (xtb_cons repeat_C xtb_nil)) Tryz.func55 rfl Tryz.ntmps55 Tryz.results55 (by simp) ?_
  have al := List.length_pos_iff.2 a0
  have bl := List.length_pos_iff.2 b0
  have c1 : ((a.length : Int) == 0) = false := beqF (by omega)
  have c2 : ((b.length : Int) == 0) = false := beqF (by omega)
  obtain ⟨T, hT⟩ : ∃ T, T = a.length + b.length - 1 := ⟨_, rfl⟩
  have e1 : (a.length : Int) + b.length - 1 = (T : Nat) := by omega
  simp only [go_sem, c1, c2, e1, Int.toNat_natCast]
  refine ⟨by omega, by omega, by omega, ?_⟩
  refine AWp.loops (X := { p : Nat × List Rat // p.1 ≤ a.length ∧ p.2.length = T ∧ ∀ n, n < T → cf p.2 n = mp a b p.1 0 n })
    (fun p => mkSt [(0, .lst (V.rats a)), (1, .lst (V.rats b)), (4, .raw (.slice none 0 0)), (5, .sl 0 4 0 T), (27, .lst (V.rats a)), (28, .raw (.int .i64 (a.length : Nat))), (29, .raw (.int .i64 (p.1.1 : Nat)))] [(0, true, ⟨45, 4, V.rats p.1.2⟩)] 1 60)
    (fun p => a.length - p.1.1) ⟨(0, List.replicate T 0), Nat.zero_le _, by simp, fun n hn => ?_⟩ (Wk.of [17] (by decide) ?_) ?_
  · rw [mp_zero, cf_lt (by simpa using hn)]
    simp
  · simp only [go_sem]
    rfl
  · rintro ⟨⟨i, out⟩, hi, hl', ho⟩
    simp only at hi hl' ho
    refine vc_at (tabsX mixed (tbl_cons whole_C (tbl_cons qMul_C (tbl_cons qAdd_C (tbl_cons trim_C tbl_nil)))) (xtb_cons repeat_C xtb_nil)) ?_
    by_cases hia : i < a.length
    · have d1 : (i : Int) < a.length := by omega
      have n1 : (i : Int) + 1 = ((i + 1 : Nat) : Int) := by omega
      simp only [go_sem, d1]
      refine ⟨by omega, hia, ?_⟩
      refine AWp.loops (X := { p : Nat × List Rat // p.1 ≤ b.length ∧ p.2.length = T ∧ ∀ n, n < T → cf p.2 n = mp a b i p.1 n })
        (fun p => mkSt [(0, .lst (V.rats a)), (1, .lst (V.rats b)), (4, .raw (.slice none 0 0)), (5, .sl 0 4 0 T), (6, .raw (.int .i64 (i : Nat))), (7, .ptr 1 4 0 0), (27, .lst (V.rats a)), (28, .raw (.int .i64 (a.length : Nat))), (29, .raw (.int .i64 (i : Nat))), (34, .lst (V.rats b)), (35, .raw (.int .i64 (b.length : Nat))), (36, .raw (.int .i64 (p.1.1 : Nat)))] [(0, true, ⟨45, 4, V.rats p.1.2⟩), (1, true, ⟨45, 4, [.Q (cf a i)]⟩)] 2 60)
        (fun p => b.length - p.1.1) ⟨(0, out), Nat.zero_le _, hl', ho⟩ (Wk.of [0, 5] (by decide) ?_) ?_
      · simp only [go_sem]
      · rintro ⟨⟨k', out⟩, hk, hl', ho⟩
        simp only at hk hl' ho
        refine vc_at (tabsX mixed (tbl_cons whole_C (tbl_cons qMul_C (tbl_cons qAdd_C (tbl_cons trim_C tbl_nil)))) (xtb_cons repeat_C xtb_nil)) ?_
        by_cases hkb : k' < b.length
        · have d2 : (k' : Int) < b.length := by omega
          have n2 : (k' : Int) + 1 = ((k' + 1 : Nat) : Int) := by omega
          have n3 : (i : Int) + (k' : Nat) = ((i + k' : Nat) : Int) := by omega
          simp only [go_sem, d2, n2, n3, hl']
          have q1 := ha i
          have q2 := hb k'
          have q3 : qs (cf out (i + k')) ≤ 10000000000 := by rw [ho _ (by omega)]; exact Nat.le_trans (mp_qs ha hb hia) hs
          have q4 := qsM q1 q2
          have q5 : j + k ≤ 10000000000 := by
            have : 1 * (j + k + 1) ≤ a.length * (j + k + 1) := Nat.mul_le_mul_right _ al
            omega
          refine ⟨by omega, hkb, by omega, by omega, by omega, by omega, by omega, by omega, by omega, by omega, by rfl, by omega, ⟨(k' + 1, out.set (i + k') (cf out (i + k') + cf a i * cf b k')), hkb, by rw [List.length_set]; exact hl', fun n hn => ?_⟩, Wk.of [0, 1] (by decide) ?_, by simp only; omega⟩
          · simp only [cf_set, mp_step]
            by_cases hn' : i + k' = n
            · rw [if_pos ⟨hn', by omega⟩, if_pos hn'.symm, ho _ (by omega), hn']
            · rw [if_neg fun h => hn' h.1, if_neg fun h => hn' h.symm, ho _ hn]
          · simp only [go_sem]
        · have d2 : ¬ (k' : Int) < b.length := by omega
          obtain rfl : k' = b.length := by omega
          simp only [go_sem, d2, n1]
          refine ⟨by omega, ⟨(i + 1, out), hia, hl', fun n hn => by rw [ho n hn, mp_row hia]⟩, Wk.of [0] (by decide) ?_, by simp only; omega⟩
          simp only [go_sem]
    · have d1 : ¬ (i : Int) < a.length := by omega
      obtain rfl : i = a.length := by omega
      have hle : T ≤ out.length := by omega
      have htk : List.take T out = out := List.take_of_length_le (by omega)
      have hR : tr out = pMul a b := tr_of_cf fun n => by
        by_cases hn : n < T
        · rw [ho n hn, mp_end]
        · rw [cf_ge (l := out) (by omega), cf_ge]
          rw [len_mulL a b b0, if_neg a0]; omega
      simp only [go_sem, d1, hle, htk, hR]
      omega
def kPMul : Con := con2 pR pR fun a b => (a.length + b.length ≤ 1000000 ∧ ∃ j k, (PB a j ∧ PB b k) ∧ a.length * (j + k + 1) + 1 ≤ 10000000000, .lst (V.rats (pMul a b)))
attribute [go_sem ↓, go_sem] kPMul
theorem pMul_C : Ctr Tryz.prog 55 kPMul := Ctr.c2 (by kernel_rfl) fun a b h => by
  obtain ⟨hl, j, k, ⟨ha, hb⟩, hs⟩ := h
  show PCall _ _ _ (.lst (V.rats (pMul a b)))
  by_cases a0 : a = []
  · subst a0
    rw [pMul_nil_l]
    refine PCall.of_vc (tabs mixed tbl_nil) Tryz.func55 rfl Tryz.ntmps55 Tryz.results55 (by simp) ?_
    have c1 : ((0 : Int) == 0) = true := rfl
    simp only [go_sem, rats_nil.symm, c1]
  · by_cases b0 : b = []
    · subst b0
      rw [pMul_nil_r]
      have al := List.length_pos_iff.2 a0
      refine PCall.of_vc (tabs mixed tbl_nil) Tryz.func55 rfl Tryz.ntmps55 Tryz.results55 (by simp) ?_
      have c1 : ((a.length : Int) == 0) = false := beqF (by omega)
      simp only [go_sem, rats_nil.symm, c1]
    · exact mul_V a b j k a0 b0 hl ha hb hs
end Go.Proofs.YtfbogelmgdojgaaGreat
