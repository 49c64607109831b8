/- Texts G4 G5 G6 G7 G8 G9 G10 G11 G12 in one. -/
import Derived.Test.YtfbogelmgdojgaaGreatR23
import Derived.Test.YtfbogelmgdojgaaGreatR19
/- Contracts: slices.Repeat and slices.Clone of rational numbers; products. -/
namespace Go.Proofs.YtfbogelmgdojgaaGreat
set_option linter.unusedSimpArgs false
set_option linter.unusedVariables false
open Go.RowKit

theorem wraps_u64' {n : Int} (h0 : 0 ≤ n) (h1 : n < 2 ^ 64) : IntKind.u64.wrap n = n := by
 simp only [IntKind.wrap, IntKind.bits, IntKind.signed]
 simp
 omega
theorem wraps_i64x {n : Int} (h0 : -9223372036854775808 ≤ n) (h1 : n ≤ 9223372036854775807) : IntKind.i64.wrap n = n := by rw [IntKind.wrap_i64]; omega
theorem and_low (y : Int) (h0 : 0 ≤ y) (h1 : y < 4294967296) : bits BinOp.and IntKind.u64 y 4294967295 = y := by
 have := bits_mask .u64 64 (by decide) (fun n a b => wraps_u64' a b) 32 (by decide) y h0 (by omega)
 rw [show (2 : Int) ^ 32 - 1 = 4294967295 from by decide, show (2 : Int) ^ 32 = 4294967296 from by decide] at this
 rw [this]; omega
def kMul64 : Con := con2 (pN .u64) (pN .u64) fun x y => (x = 1 ∧ 0 ≤ y ∧ y < 4294967296, .tup [.raw (.int .u64 0), .raw (.int .u64 y)])
attribute [go_sem ↓, go_sem] kMul64
theorem mul64_C : Ctr Tryz.prog 142 kMul64 := Ctr.c2 (by kernel_rfl) fun x y h => by
 obtain ⟨rfl, h0, h1⟩ := h
 refine PCall.of_vc (tabs mixed tbl_nil) Tryz.func142 rfl Tryz.ntmps142 Tryz.results142 (by simp) ?_
 have a1 := and_low 1 (by decide) (by decide)
 have a2 := and_low y h0 h1
 have a3 : y / 4294967296 = 0 := by omega
 have a4 := and_low 0 (by decide) (by decide)
 have e1 : (2 : Int) ^ (Int.toNat 32) = 4294967296 := by decide
 have e2 : (1 : Int) / 4294967296 = 0 := by decide
 have e3 : (0 : Int) / 4294967296 = 0 := by decide
 simp only [go_sem, a1, a2, a3, a4, e1, e2, e3, Int.one_mul, Int.zero_mul, Int.mul_zero, Int.add_zero, Int.zero_add]
 omega
theorem mulU_C : Ctr Tryz.prog 123 kMul64 := Ctr.c2 (by kernel_rfl) fun x y h => by
 obtain ⟨rfl, h0, h1⟩ := h
 refine PCall.of_vc (tabs mixed (tbl_cons mul64_C tbl_nil)) Tryz.func123 rfl Tryz.ntmps123 Tryz.results123 (by simp) ?_
 simp only [go_sem]
 exact ⟨h0, h1⟩
theorem repeat_V (q : Rat) (N : Nat) (h0 : 0 < N) (hN : N ≤ 1000000) : FCall Tryz.prog 97 [.lst [.Q q], .raw (.int .i64 (N : Nat))] ⟨45, 4, V.rats (List.replicate N q)⟩ := by
 refine FCall.of_vc (tabs mixed (tbl_cons mulU_C tbl_nil)) Tryz.func97 rfl Tryz.ntmps97 Tryz.results97 (by simp) ?_
 have c1 : ¬ (N : Int) < 0 := by omega
 have c2 : ¬ (9223372036854775807 : Int) < (N : Nat) := by omega
 have w1 : ((N : Nat) : Int) % 18446744073709551616 = (N : Nat) := by omega
 have w3 : IntKind.i64.wrap ((N : Nat) : Int) = (N : Nat) := wraps_i64x (by omega) (by omega)
 have m1 : min 1 N = 1 := by omega
 simp only [go_sem, c1, c2, w1, w3, m1, Int.toNat_natCast]
 refine ⟨by omega, by omega, h0, ?_⟩
 refine AWp.loops (X := { p : Nat × List V // (1 ≤ p.1 ∧ p.1 ≤ N) ∧ p.2.length = N ∧ p.2.take p.1 = V.rats (List.replicate p.1 q) ∧ allPure p.2 ∧ allWid p.2 4 })
  (fun p => mkSt [(4, .raw (.slice none 0 0)), (7, .sl 0 4 0 N), (8, .raw (.int .i64 (p.1.1 : Nat)))] [(0, true, ⟨45, 4, p.1.2⟩)] 1 48)
  (fun p => N - p.1.1) ⟨(1, V.Q q :: (List.replicate N z0).drop 1), ⟨Nat.le_refl _, h0⟩, by simp; omega, rfl, ?_, ?_⟩ (Wk.of [22] (by decide) ?_) ?_
 ·intro y hy
  rcases List.mem_cons.1 hy with rfl | hy
  ·rfl
  ·exact z0_pure N y (List.mem_of_mem_drop hy)
 ·intro y hy
  rcases List.mem_cons.1 hy with rfl | hy
  ·rfl
  ·exact z0_wid N y (List.mem_of_mem_drop hy)
 ·simp only [go_sem]
  exact ⟨rfl, fun y hy => z0_pure N y (List.mem_of_mem_drop hy)⟩
 ·rintro ⟨⟨c, L⟩, ⟨hc1, hcN⟩, hl, hL, hp, hw⟩
  simp only at hc1 hcN hl hL hp hw
  refine vc_at (tabs mixed (tbl_cons mulU_C tbl_nil)) ?_
  by_cases hc : c < N
  ·have d1 : (c : Int) < (N : Nat) := by omega
   obtain ⟨m, hm⟩ : ∃ m, min c (N - c) = m := ⟨_, rfl⟩
   have e1 : (c : Int) + (m : Nat) = ((c + m : Nat) : Int) := by omega
   have hrep : List.replicate c q ++ List.take m (List.replicate c q) = List.replicate (c + m) q := by
    rw [List.take_replicate, Nat.min_eq_left (by omega), List.replicate_append_replicate]
   have hp' : allPure (V.rats (List.replicate (c + m) q) ++ L.drop (c + m)) := fun y hy => by
    rcases List.mem_append.1 hy with hy | hy
    ·exact of_eq_true (rats_pure _) y hy
    ·exact hp y (List.mem_of_mem_drop hy)
   simp only [go_sem, d1, hl, hL, hm, e1, hc, hcN, hrep]
   refine ⟨by omega, by omega, by omega, by omega, by omega, by rfl, ⟨(c + m, V.rats (List.replicate (c + m) q) ++ L.drop (c + m)), by omega, ?_, ?_, ?_, ?_⟩, Wk.of [0] (by decide) ?_, by simp only; omega⟩
   ·rw [List.length_append, rats_len, List.length_replicate, List.length_drop]; omega
   ·simp only
    rw [List.take_append_of_le_length (by simp [V.rats]), List.take_of_length_le (by simp [V.rats])]
   ·exact hp'
   ·intro y hy
    rcases List.mem_append.1 hy with hy | hy
    ·exact of_eq_true (rats_wid _) y hy
    ·exact hw y (List.mem_of_mem_drop hy)
   ·simp only [go_sem]
    exact hp'
  ·have d1 : ¬ (c : Int) < (N : Nat) := by omega
   obtain rfl : c = N := by omega
   rw [List.take_of_length_le (by omega)] at hL
   subst hL
   simp only [go_sem, d1]
   exact ⟨0, rfl, rfl⟩
theorem one_list {l : List Rat} (h : l.length = 1) : l = [cf l 0] := by
 match l, h with
 | [q], _ => rfl
def kRepeat : FCon := con2 pR (pN .i64) fun l n => (l.length = 1 ∧ 0 < n ∧ n ≤ 1000000, ⟨45, 4, V.rats (List.replicate n.toNat (cf l 0))⟩)
attribute [go_sem ↓, go_sem] kRepeat
theorem repeat_C : FCtr Tryz.prog 97 kRepeat := FCtr.c2 (by kernel_rfl) fun l n h => by
 obtain ⟨h1, h2, h3⟩ := h
 have := repeat_V (cf l 0) n.toNat (by omega) (by omega)
 rw [show ((n.toNat : Nat) : Int) = n from by omega] at this
 have e : (.lst [.Q (cf l 0)] : V) = pR.val l := by
  show V.lst [.Q (cf l 0)] = .lst (V.rats l)
  rw [one_list h1]
  rfl
 rw [e] at this
 exact this
theorem qclone_V (x : Rat) (l : List Rat) (h1 : l.length ≤ 1000000) : FCall Tryz.prog 95 [.lst (V.rats (x :: l))] ⟨45, 4, V.rats (x :: l)⟩ := by
 refine FCall.of_vc (tabs mixed tbl_nil) Tryz.func95 rfl Tryz.ntmps95 Tryz.results95 (by simp) ?_
 have e1 : V.rats (x :: l) = .Q x :: V.rats l := rfl
 rw [e1]
 have e2 : maxLen = 9223372036854775807 := by decide
 simp only [go_sem, List.take_length, e2]
 exact ⟨⟨_, rfl⟩, by omega, ⟨5, rfl, rfl⟩⟩
def kQClone : FCon := con1 pR fun l => (l ≠ [] ∧ l.length ≤ 1000000, ⟨45, 4, V.rats l⟩)
attribute [go_sem ↓, go_sem] kQClone
theorem qclone_C : FCtr Tryz.prog 95 kQClone := FCtr.c1 (by kernel_rfl) fun l h => by
 obtain ⟨h1, h2⟩ := h
 cases l with
 | nil => exact absurd rfl h1
 | cons x l => exact qclone_V x l (by simp at h2; omega)
end Go.Proofs.YtfbogelmgdojgaaGreat


/- Contracts: products of polynomials. -/
namespace Go.Proofs.YtfbogelmgdojgaaGreat
set_option linter.unusedSimpArgs false
set_option linter.unusedVariables false
open Go.RowKit

theorem mulL_PB {b : List Rat} {j k : Nat} (hb : PB b k) : ∀ {a : List Rat}, PB a j → PB (mulL a b) (a.length * (j + k + 1) + 1)
 | [], _ => fun i => by rw [show mulL [] b = [] from rfl, cf_nil]; exact Nat.le_trans qs_0 (by omega)
 | x :: a, ha => fun i => by
   have hx : qs x ≤ j := ha 0
   have ih := mulL_PB (a := a) hb fun i => ha (i + 1)
   simp only [mulL, cf_addL, cf_scL, List.length_cons]
   have h1 : qs (x * cf b i) ≤ j + k := qsM hx (hb i)
   have h2 : qs (cf (0 :: mulL a b) i) ≤ a.length * (j + k + 1) + 1 := by
    cases i with
    | zero => exact Nat.le_trans qs_0 (by omega)
    | succ i => exact ih i
   have h3 := qsA h1 h2
   have : (a.length + 1) * (j + k + 1) = a.length * (j + k + 1) + (j + k + 1) := by rw [Nat.add_mul, Nat.one_mul]
   omega
theorem PB_take {a : List Rat} {j n : Nat} (h : PB a j) : PB (a.take n) j := fun i => by
 rw [cf_take]
 split
 ·exact h i
 ·exact Nat.le_trans qs_0 h.pos
theorem mp_qs {a b : List Rat} {j k : Nat} (ha : PB a j) (hb : PB b k) {i kk n : Nat} (hi : i < a.length) : qs (mp a b i kk n) ≤ a.length * (j + k + 1) + 1 := by
 have h1 := mulL_PB hb (PB_take (n := i) ha) n
 rw [List.length_take, Nat.min_eq_left (by omega)] at h1
 have h2 : (i + 1) * (j + k + 1) ≤ a.length * (j + k + 1) := Nat.mul_le_mul_right _ hi
 rw [Nat.add_mul, Nat.one_mul] at h2
 unfold mp
 split
 ·have h3 : qs (cf a i * cf b (n - i)) ≤ j + k := qsM (ha i) (hb _)
  have := qsA h1 h3
  omega
 ·have := qsA h1 qs_0
  have := (hb 0); have := qs_pos (cf b 0)
  omega
set_option maxRecDepth 2000 in
theorem mul_V (a b : List Rat) (j k : Nat) (a0 : a ≠ []) (b0 : b ≠ []) (hl : a.length + b.length ≤ 1000000) (ha : PB a j) (hb : PB b k) (hs : a.length * (j + k + 1) + 1 ≤ 5000000000000) :
 PCall Tryz.prog 55 [.lst (V.rats a), .lst (V.rats b)] (.lst (V.rats (pMul a b))) := by
 refine PCall.of_vc (tabsX mixed (tbl_cons whole_C (tbl_cons qMul_C (tbl_cons qAdd_C (tbl_cons trim_C tbl_nil)))) (xtb_cons repeat_C xtb_nil)) Tryz.func55 rfl Tryz.ntmps55 Tryz.results55 (by simp) ?_
 have al := List.length_pos_iff.2 a0
 have bl := List.length_pos_iff.2 b0
 have c1 : ((a.length : Int) == 0) = false := beqF (by omega)
 have c2 : ((b.length : Int) == 0) = false := beqF (by omega)
 obtain ⟨T, hT⟩ : ∃ T, T = a.length + b.length - 1 := ⟨_, rfl⟩
 have e1 : (a.length : Int) + b.length - 1 = (T : Nat) := by omega
 simp only [go_sem, c1, c2, e1, Int.toNat_natCast]
 refine ⟨by omega, by omega, by omega, ?_⟩
 refine AWp.loops (X := { p : Nat × List Rat // p.1 ≤ a.length ∧ p.2.length = T ∧ ∀ n, n < T → cf p.2 n = mp a b p.1 0 n })
  (fun p => mkSt [(0, .lst (V.rats a)), (1, .lst (V.rats b)), (4, .raw (.slice none 0 0)), (5, .sl 0 4 0 T), (27, .lst (V.rats a)), (28, .raw (.int .i64 (a.length : Nat))), (29, .raw (.int .i64 (p.1.1 : Nat)))] [(0, true, ⟨45, 4, V.rats p.1.2⟩)] 1 60)
  (fun p => a.length - p.1.1) ⟨(0, List.replicate T 0), Nat.zero_le _, by simp, fun n hn => ?_⟩ (Wk.of [17] (by decide) ?_) ?_
 ·rw [mp_zero, cf_lt (by simpa using hn)]
  simp
 ·simp only [go_sem]
  rfl
 ·rintro ⟨⟨i, out⟩, hi, hl', ho⟩
  simp only at hi hl' ho
  refine vc_at (tabsX mixed (tbl_cons whole_C (tbl_cons qMul_C (tbl_cons qAdd_C (tbl_cons trim_C tbl_nil)))) (xtb_cons repeat_C xtb_nil)) ?_
  by_cases hia : i < a.length
  ·have d1 : (i : Int) < a.length := by omega
   have n1 : (i : Int) + 1 = ((i + 1 : Nat) : Int) := by omega
   simp only [go_sem, d1]
   refine ⟨by omega, hia, ?_⟩
   refine AWp.loops (X := { p : Nat × List Rat // p.1 ≤ b.length ∧ p.2.length = T ∧ ∀ n, n < T → cf p.2 n = mp a b i p.1 n })
    (fun p => mkSt [(0, .lst (V.rats a)), (1, .lst (V.rats b)), (4, .raw (.slice none 0 0)), (5, .sl 0 4 0 T), (6, .raw (.int .i64 (i : Nat))), (7, .ptr 1 4 0 0), (27, .lst (V.rats a)), (28, .raw (.int .i64 (a.length : Nat))), (29, .raw (.int .i64 (i : Nat))), (34, .lst (V.rats b)), (35, .raw (.int .i64 (b.length : Nat))), (36, .raw (.int .i64 (p.1.1 : Nat)))] [(0, true, ⟨45, 4, V.rats p.1.2⟩), (1, true, ⟨45, 4, [.Q (cf a i)]⟩)] 2 60)
    (fun p => b.length - p.1.1) ⟨(0, out), Nat.zero_le _, hl', ho⟩ (Wk.of [0, 5] (by decide) ?_) ?_
   ·simp only [go_sem]
   ·rintro ⟨⟨k', out⟩, hk, hl', ho⟩
    simp only at hk hl' ho
    refine vc_at (tabsX mixed (tbl_cons whole_C (tbl_cons qMul_C (tbl_cons qAdd_C (tbl_cons trim_C tbl_nil)))) (xtb_cons repeat_C xtb_nil)) ?_
    by_cases hkb : k' < b.length
    ·have d2 : (k' : Int) < b.length := by omega
     have n2 : (k' : Int) + 1 = ((k' + 1 : Nat) : Int) := by omega
     have n3 : (i : Int) + (k' : Nat) = ((i + k' : Nat) : Int) := by omega
     simp only [go_sem, d2, n2, n3, hl']
     have q1 := ha i
     have q2 := hb k'
     have q3 : qs (cf out (i + k')) ≤ 5000000000000 := by rw [ho _ (by omega)]; exact Nat.le_trans (mp_qs ha hb hia) hs
     have q4 := qsM q1 q2
     have q5 : j + k ≤ 5000000000000 := by
      have : 1 * (j + k + 1) ≤ a.length * (j + k + 1) := Nat.mul_le_mul_right _ al
      omega
     refine ⟨by omega, hkb, by omega, by omega, by omega, by omega, by omega, by omega, by omega, by omega, by rfl, by omega, ⟨(k' + 1, out.set (i + k') (cf out (i + k') + cf a i * cf b k')), hkb, by rw [List.length_set]; exact hl', fun n hn => ?_⟩, Wk.of [0, 1] (by decide) ?_, by simp only; omega⟩
     ·simp only [cf_set, mp_step]
      by_cases hn' : i + k' = n
      ·rw [if_pos ⟨hn', by omega⟩, if_pos hn'.symm, ho _ (by omega), hn']
      ·rw [if_neg fun h => hn' h.1, if_neg fun h => hn' h.symm, ho _ hn]
     ·simp only [go_sem]
    ·have d2 : ¬ (k' : Int) < b.length := by omega
     obtain rfl : k' = b.length := by omega
     simp only [go_sem, d2, n1]
     refine ⟨by omega, ⟨(i + 1, out), hia, hl', fun n hn => by rw [ho n hn, mp_row hia]⟩, Wk.of [0] (by decide) ?_, by simp only; omega⟩
     simp only [go_sem]
  ·have d1 : ¬ (i : Int) < a.length := by omega
   obtain rfl : i = a.length := by omega
   have hle : T ≤ out.length := by omega
   have htk : List.take T out = out := List.take_of_length_le (by omega)
   have hR : tr out = pMul a b := tr_of_cf fun n => by
    by_cases hn : n < T
    ·rw [ho n hn, mp_end]
    ·rw [cf_ge (l := out) (by omega), cf_ge]
     rw [len_mulL a b b0, if_neg a0]; omega
   simp only [go_sem, d1, hle, htk, hR]
   omega
def kPMul : Con := con2 pR pR fun a b => (a.length + b.length ≤ 1000000 ∧ ∃ j k, (PB a j ∧ PB b k) ∧ a.length * (j + k + 1) + 1 ≤ 5000000000000, .lst (V.rats (pMul a b)))
attribute [go_sem ↓, go_sem] kPMul
theorem pMul_C : Ctr Tryz.prog 55 kPMul := Ctr.c2 (by kernel_rfl) fun a b h => by
 obtain ⟨hl, j, k, ⟨ha, hb⟩, hs⟩ := h
 show PCall _ _ _ (.lst (V.rats (pMul a b)))
 by_cases a0 : a = []
 ·subst a0
  rw [pMul_nil_l]
  refine PCall.of_vc (tabs mixed tbl_nil) Tryz.func55 rfl Tryz.ntmps55 Tryz.results55 (by simp) ?_
  have c1 : ((0 : Int) == 0) = true := rfl
  simp only [go_sem, rats_nil.symm, c1]
 ·by_cases b0 : b = []
  ·subst b0
   rw [pMul_nil_r]
   have al := List.length_pos_iff.2 a0
   refine PCall.of_vc (tabs mixed tbl_nil) Tryz.func55 rfl Tryz.ntmps55 Tryz.results55 (by simp) ?_
   have c1 : ((a.length : Int) == 0) = false := beqF (by omega)
   simp only [go_sem, rats_nil.symm, c1]
  ·exact mul_V a b j k a0 b0 hl ha hb hs
end Go.Proofs.YtfbogelmgdojgaaGreat


/- Contracts: division of polynomials. -/
namespace Go.Proofs.YtfbogelmgdojgaaGreat
set_option linter.unusedSimpArgs false
set_option linter.unusedVariables false
open Go.RowKit

def kLead : Con := con1 pR fun a => (a ≠ [] ∧ a.length ≤ 1000000, .Q (lead a))
attribute [go_sem ↓, go_sem] kLead
theorem lead_C : Ctr Tryz.prog 91 kLead := Ctr.c1 (by kernel_rfl) fun a h => by
 obtain ⟨h0, h1⟩ := h
 have hp := List.length_pos_iff.2 h0
 refine PCall.of_vc (tabs mixed tbl_nil) Tryz.func91 rfl Tryz.ntmps91 Tryz.results91 (by simp) ?_
 have e1 : (a.length : Int) - 1 = ((a.length - 1 : Nat) : Int) := by omega
 unfold lead
 simp only [go_sem, e1]
 exact ⟨by omega, by omega, by omega⟩
def kOver : Con := con2 pQ pQ fun a b => (b ≠ 0 ∧ qs a ≤ 5000000000000 ∧ qs b ≤ 5000000000000, .Q (a / b))
attribute [go_sem ↓, go_sem] kOver
theorem over_C : Ctr Tryz.prog 90 kOver := Ctr.c2 (by kernel_rfl) fun a b h => by
 obtain ⟨h0, h1, h2⟩ := h
 refine PCall.of_vc (tabs mixed (tbl_cons qDiv_C tbl_nil)) Tryz.func90 rfl Tryz.ntmps90 Tryz.results90 (by simp) ?_
 have r : divR a b = .tup [.Q (a / b), .raw (.int .i64 0)] := if_neg h0
 simp only [go_sem, r]
 exact ⟨h1, h2⟩
def kOne : Con := con0 (True, .Q 1)
attribute [go_sem ↓, go_sem] kOne
theorem one_C : Ctr Tryz.prog 88 kOne := Ctr.c0 (by kernel_rfl) fun _ => by
 refine PCall.of_vc (tabs mixed (tbl_cons whole_C tbl_nil)) Tryz.func88 rfl Tryz.ntmps88 Tryz.results88 (by simp) ?_
 simp only [go_sem]
 exact out_QQ rfl
def dmP (a b : List Rat) : V := if b = [] then .tup [.lst (V.rats []), .lst (V.rats []), .raw (.int .i64 3)] else .tup [.lst (V.rats (pDiv a b)), .lst (V.rats (pMod a b)), .raw (.int .i64 0)]
def DvOk (a b : List Rat) : Prop := (Can a ∧ Can b) ∧ a.length + b.length ≤ 1000000 ∧ ∃ s t, (PB a s ∧ PB b t) ∧ 2 ^ (a.length - b.length + 1) * (s + 2 * t + 1) ≤ 2500000000000
theorem zq_set (i : Nat) (c : Rat) (ql : List Rat) : (List.replicate (i + 1) z0 ++ V.rats ql).set i (.Q c) = List.replicate i z0 ++ V.rats (c :: ql) := by
 rw [List.set_append_left _ _ (by simp), List.replicate_succ', List.set_append_right _ _ (by simp)]
 simp [V.rats]
theorem zq_get (i : Nat) (c : Rat) (ql : List Rat) : (List.replicate i z0 ++ V.rats (c :: ql))[i]? = some (.Q c) := by
 rw [List.getElem?_append_right (by simp)]
 simp [V.rats]
theorem zq_at (i : Nat) (ql : List Rat) : (List.replicate (i + 1) z0 ++ V.rats ql)[i]? = some z0 := by
 rw [List.getElem?_append_left (by simp), List.getElem?_replicate, if_pos (by omega)]
theorem z0_w : z0.wid = 4 := rfl
theorem zq_pure (i : Nat) (ql : List Rat) : allPure (List.replicate i z0 ++ V.rats ql) := fun y hy => by
 rcases List.mem_append.1 hy with h | h
 ·exact z0_pure i y h
 ·exact of_eq_true (rats_pure ql) y h
set_option maxRecDepth 4000 in
theorem dm_V (a b : List Rat) (s t : Nat) (ca : Can a) (cb : Can b) (b0 : b ≠ []) (hab : b.length ≤ a.length) (hl : a.length + b.length ≤ 1000000) (ha : PB a s) (hb : PB b t) (hs : 2 ^ (a.length - b.length + 1) * (s + 2 * t + 1) ≤ 2500000000000) :
 PCall Tryz.prog 54 [.lst (V.rats a), .lst (V.rats b)] (.tup [.lst (V.rats (pDiv a b)), .lst (V.rats (pMod a b)), .raw (.int .i64 0)]) := by
 refine PCall.of_vc (tabsX mixed (tbl_cons over_C (tbl_cons lead_C (tbl_cons qMul_C (tbl_cons qSub_C (tbl_cons trim_C tbl_nil))))) (xtb_cons qclone_C xtb_nil)) Tryz.func54 rfl Tryz.ntmps54 Tryz.results54 (by simp) ?_
 have bl := List.length_pos_iff.2 b0
 have a0 : a ≠ [] := fun e => by rw [e, List.length_nil] at hab; omega
 have c1 : ((b.length : Int) == 0) = false := beqF (by omega)
 have c2 : ¬ (a.length : Int) < b.length := by omega
 obtain ⟨Q, hQ⟩ : ∃ Q, Q = a.length - b.length + 1 := ⟨_, rfl⟩
 have e1 : (a.length : Int) - b.length + 1 = (Q : Nat) := by omega
 rw [← hQ] at hs
 have lb := lead_ne cb b0
 have qlb : qs (lead b) ≤ t := hb _
 have t0 := hb.pos
 simp only [go_sem, c1, c2, e1, Int.toNat_natCast, a0]
 refine ⟨by omega, by omega, by omega, by omega, by omega, ?_⟩
 refine AWp.loops (X := { p : Nat × List Rat × List Rat // (p.1 ≤ Q ∧ p.2.1.length = a.length ∧ p.2.2.length = Q - p.1) ∧ (∀ x, ev (shl p.1 p.2.2) x * ev b x + ev p.2.1 x = ev a x) ∧ (∀ n, p.1 + b.length - 1 ≤ n → cf p.2.1 n = 0) ∧ ∃ z, PB p.2.1 z ∧ z + 2 * t + 1 ≤ 2 ^ (Q - p.1) * (s + 2 * t + 1) })
  (fun p => mkSt [(1, .lst (V.rats b)), (4, .raw (.slice none 0 0)), (5, .raw (.slice none 0 0)), (6, .raw (.int .i64 0)), (7, .sl 0 4 0 a.length), (8, .sl 1 4 0 Q), (9, .raw (.int .i64 ((p.1.1 : Nat) - 1)))] [(0, true, ⟨45, 4, V.rats p.1.2.1⟩), (1, true, ⟨45, 4, List.replicate p.1.1 z0 ++ V.rats p.1.2.2⟩)] 2 81)
  (fun p => p.1.1) ⟨(Q, a, []), ⟨Nat.le_refl _, rfl, by simp⟩, fun x => ?_, fun n hn => cf_ge (l := a) (by simp only at hn; omega), s, ha, by simp⟩ (Wk.of [12, 20] (by decide) ?_) ?_
 ·have : ev (shl Q []) x = 0 := by
   rw [← ev_tr, show tr (shl Q []) = [] from tr_at (n := 0) (Nat.zero_le _) (fun i _ => by rw [cf_shl]; split <;> rfl) (fun e => absurd rfl e)]
   rfl
  simp only [this]; grind
 ·simp only [go_sem]
  exact ⟨by rw [show V.rats [] = [] from rfl, List.append_nil]; rfl, zq_pure Q []⟩
 ·rintro ⟨⟨i, r, ql⟩, ⟨hi, hrl, hql⟩, hev, htop, z, hz, hzs⟩
  simp only at hi hrl hql hev htop hz hzs
  refine vc_at (tabsX mixed (tbl_cons over_C (tbl_cons lead_C (tbl_cons qMul_C (tbl_cons qSub_C (tbl_cons trim_C tbl_nil))))) (xtb_cons qclone_C xtb_nil)) ?_
  have hpow : 2 ^ (Q - i) * (s + 2 * t + 1) ≤ 2 ^ Q * (s + 2 * t + 1) := Nat.mul_le_mul_right _ (Nat.pow_le_pow_right (by decide) (by omega))
  rcases i with _ | i
  ·have d1 : ¬ (0 : Int) ≤ ((0 : Nat) : Int) - 1 := by decide
   have f1 : Q ≤ ql.length := by omega
   have f2 : ql.take Q = ql := List.take_of_length_le (by omega)
   have f3 : r.take a.length = r := List.take_of_length_le (by omega)
   obtain ⟨g1, g2⟩ := pdiv_end ca cb b0 hev fun n hn => htop n (by omega)
   rw [shl_zero] at g1
   simp only [go_sem, d1, f1, f2, f3, hrl, g1, g2]
   omega
  ·have d1 : ((i + 1 : Nat) : Int) - 1 = (i : Nat) := by omega
   have d2 : 0 ≤ (i : Int) := by omega
   have d3 : (i : Int) + b.length - 1 = ((i + b.length - 1 : Nat) : Int) := by omega
   have hp2 : 2 ^ (Q - (i + 1)) * (s + 2 * t + 1) * 2 = 2 ^ (Q - i) * (s + 2 * t + 1) := by
    rw [show Q - i = Q - (i + 1) + 1 from by omega, Nat.pow_succ]
    rw [Nat.mul_right_comm]
   have hp3 : 2 ^ (Q - i) * (s + 2 * t + 1) ≤ 2 ^ Q * (s + 2 * t + 1) := Nat.mul_le_mul_right _ (Nat.pow_le_pow_right (by decide) (by omega))
   have hz1 := hz (i + b.length - 1)
   simp only [go_sem, d1, d2, d3, zq_at, z0_w, zq_set, b0]
   refine ⟨by omega, by omega, by omega, by omega, by omega, ⟨lb, by omega, by omega⟩, by omega, by rfl, ?_⟩
   obtain ⟨c, hc⟩ : ∃ c, cf r (i + b.length - 1) / lead b = c := ⟨_, rfl⟩
   have qc : qs c ≤ z + t := by rw [← hc]; exact qsD hz1 qlb
   rw [hc]
   refine AWp.loops (X := { p : Nat × List Rat // p.1 ≤ b.length ∧ p.2.length = a.length ∧ ∀ n, cf p.2 n = cf r n - (if i ≤ n ∧ n < i + p.1 then c * cf b (n - i) else 0) })
    (fun p => mkSt [(1, .lst (V.rats b)), (4, .raw (.slice none 0 0)), (5, .raw (.slice none 0 0)), (6, .raw (.int .i64 0)), (7, .sl 0 4 0 a.length), (8, .sl 1 4 0 Q), (9, .raw (.int .i64 (i : Nat))), (51, .lst (V.rats b)), (52, .raw (.int .i64 (b.length : Nat))), (53, .raw (.int .i64 (p.1.1 : Nat)))] [(0, true, ⟨45, 4, V.rats p.1.2⟩), (1, true, ⟨45, 4, List.replicate i z0 ++ V.rats (c :: ql)⟩)] 2 81)
    (fun p => b.length - p.1.1) ⟨(0, r), Nat.zero_le _, hrl, fun n => by rw [if_neg (by simp only; omega)]; grind⟩ (Wk.of [0, 1] (by decide) ?_) ?_
   ·simp only [go_sem]
    exact zq_pure i (c :: ql)
   ·rintro ⟨⟨k, r'⟩, hk, hl', hr'⟩
    simp only at hk hl' hr'
    refine vc_at (tabsX mixed (tbl_cons over_C (tbl_cons lead_C (tbl_cons qMul_C (tbl_cons qSub_C (tbl_cons trim_C tbl_nil))))) (xtb_cons qclone_C xtb_nil)) ?_
    have hPB : PB r' (2 * z + 2 * t + 1) := fun n => by
     rw [hr']
     split
     ·exact Nat.le_trans (qsS (hz n) (qsM qc (hb _))) (by omega)
     ·exact Nat.le_trans (qsS (hz n) qs_0) (by omega)
    by_cases hkb : k < b.length
    ·have g1 : (k : Int) < b.length := by omega
     have g2 : (k : Int) + 1 = ((k + 1 : Nat) : Int) := by omega
     have g3 : (i : Int) + (k : Nat) = ((i + k : Nat) : Int) := by omega
     have g4 := hPB (i + k)
     have g5 := hb k
     have g6 := qsM qc g5
     simp only [go_sem, g1, g2, g3, zq_get, hl']
     refine ⟨by omega, hkb, by omega, by omega, by omega, by omega, by omega, by omega, by omega, by omega, by omega, by rfl, by omega, ⟨(k + 1, r'.set (i + k) (cf r' (i + k) - c * cf b k)), hkb, by rw [List.length_set]; exact hl', fun n => ?_⟩, Wk.of [0, 1] (by decide) ?_, by simp only; omega⟩
     ·simp only [cf_set]
      by_cases hn : i + k = n
      ·subst hn
       rw [if_pos ⟨rfl, by omega⟩, hr', if_neg (by omega), if_pos (by omega), show i + k - i = k from by omega]; grind
      ·rw [if_neg fun h => hn h.1, hr']
       by_cases h1 : i ≤ n ∧ n < i + k
       ·rw [if_pos h1, if_pos (by omega)]
       ·rw [if_neg h1, if_neg (by omega)]
     ·simp only [go_sem]
      exact zq_pure i (c :: ql)
    ·have g1 : ¬ (k : Int) < b.length := by omega
     obtain rfl : k = b.length := by omega
     have hr2 : ∀ n, cf r' n = cf r n - (if i ≤ n then c * cf b (n - i) else 0) := fun n => by
      rw [hr']
      by_cases h1 : i ≤ n
      ·by_cases h2 : n < i + b.length
       ·rw [if_pos ⟨h1, h2⟩, if_pos h1]
       ·rw [if_neg (by omega), if_pos h1, cf_ge (l := b) (by omega)]; grind
      ·rw [if_neg (by omega), if_neg h1]
     simp only [go_sem, g1]
     refine ⟨by omega, ⟨(i, r', c :: ql), ⟨by simp only; omega, hl', by simp only [List.length_cons]; omega⟩, pdiv_step hev hr2, pdiv_top cb b0 (fun n hn => htop n (by omega)) (by rw [hc]; exact hr2), 2 * z + 2 * t + 1, hPB, by simp only; omega⟩, Wk.of [0, 1] (by decide) ?_, by simp only; omega⟩
     simp only [go_sem]
     exact zq_pure i (c :: ql)
def kDM : Con := con2 pR pR fun a b => (DvOk a b, dmP a b)
attribute [go_sem ↓, go_sem] kDM
theorem pDM_C : Ctr Tryz.prog 54 kDM := Ctr.c2 (by kernel_rfl) fun a b h => by
 obtain ⟨⟨ca, cb⟩, hl, s, t, ⟨ha, hb⟩, hs⟩ := h
 show PCall _ _ _ (dmP a b)
 unfold dmP
 by_cases b0 : b = []
 ·subst b0
  rw [if_pos rfl]
  refine PCall.of_vc (tabs mixed tbl_nil) Tryz.func54 rfl Tryz.ntmps54 Tryz.results54 (by simp) ?_
  have c1 : ((0 : Int) == 0) = true := rfl
  simp only [go_sem, rats_nil.symm, c1]
 ·rw [if_neg b0]
  have bl := List.length_pos_iff.2 b0
  by_cases hab : a.length < b.length
  ·obtain ⟨g1, g2⟩ := dm_small ca cb hab
   rw [g1, g2]
   refine PCall.of_vc (tabs mixed tbl_nil) Tryz.func54 rfl Tryz.ntmps54 Tryz.results54 (by simp) ?_
   have c1 : ((b.length : Int) == 0) = false := beqF (by omega)
   have c2 : (a.length : Int) < b.length := by omega
   simp only [go_sem, rats_nil.symm, c1, c2]
  ·exact dm_V a b s t ca cb b0 (by omega) hl ha hb hs
end Go.Proofs.YtfbogelmgdojgaaGreat


/- Contracts: greatest common divisors. -/
namespace Go.Proofs.YtfbogelmgdojgaaGreat
set_option linter.unusedSimpArgs false
set_option linter.unusedVariables false
open Go.RowKit

def kMonic : Con := con1 pR fun a => (Can a ∧ a.length ≤ 1000000 ∧ ∃ s, PB a s ∧ s ≤ 2500000000000, .lst (V.rats (pMonic a)))
attribute [go_sem ↓, go_sem] kMonic
theorem qs_inv1 (x : Rat) {k : Nat} (h : qs x ≤ k) : qs (1 / x) ≤ 1 + k := qsD qs_1 h
theorem pMonic_C : Ctr Tryz.prog 61 kMonic := Ctr.c1 (by kernel_rfl) fun a h => by
 obtain ⟨ca, hl, s, ha, hs⟩ := h
 show PCall _ _ _ (.lst (V.rats (pMonic a)))
 by_cases a0 : a = []
 ·subst a0
  rw [pMonic_nil]
  refine PCall.of_vc (tabs mixed tbl_nil) Tryz.func61 rfl Tryz.ntmps61 Tryz.results61 (by simp) ?_
  have c1 : ((0 : Int) == 0) = true := rfl
  simp only [go_sem, rats_nil.symm, c1]
 ·have al := List.length_pos_iff.2 a0
  have e : pMonic a = pSc (1 / lead a) a := if_neg a0
  rw [e]
  refine PCall.of_vc (tabs mixed (tbl_cons one_C (tbl_cons lead_C (tbl_cons over_C (tbl_cons pSc_C tbl_nil))))) Tryz.func61 rfl Tryz.ntmps61 Tryz.results61 (by simp) ?_
  have c1 : ((a.length : Int) == 0) = false := beqF (by omega)
  have l0 := lead_ne ca a0
  have l1 : qs (lead a) ≤ s := ha _
  have l2 := qs_inv1 _ l1
  have l3 := qs_1
  simp only [go_sem, c1, a0, l0]
  exact ⟨hl, by omega, hl, ha.mono (by omega), by omega⟩
def GcOk : Nat → List Rat → List Rat → Prop
 | 0, _, _ => False
 | n + 1, a, b => DvOk a b ∧ (if b = [] then ∃ s, PB a s ∧ s ≤ 2500000000000 else GcOk n b (pMod a b))
def kPGcd : Con := con2 pR pR fun a b => (∃ n, GcOk n a b, .lst (V.rats (pGcd a b)))
attribute [go_sem ↓, go_sem] kPGcd
theorem pGcd_C : Ctr Tryz.prog 73 kPGcd := Ctr.c2 (by kernel_rfl) fun a b h => by
 obtain ⟨n, hn⟩ := h
 show PCall _ _ _ (.lst (V.rats (pGcd a b)))
 refine PCall.of_vc (tabs mixed (tbl_cons pDM_C (tbl_cons pMonic_C tbl_nil))) Tryz.func73 rfl Tryz.ntmps73 Tryz.results73 (by simp) ?_
 simp only [go_sem]
 refine AWp.loops (X := { p : Nat × List Rat × List Rat // GcOk p.1 p.2.1 p.2.2 ∧ pGcd p.2.1 p.2.2 = pGcd a b })
  (fun p => mkSt [(0, .lst (V.rats p.1.2.1)), (1, .lst (V.rats p.1.2.2)), (4, .raw (.slice none 0 0))] [] 0 22)
  (fun p => p.1.1) ⟨(n, a, b), hn, rfl⟩ (Wk.of [] (by decide) ?_) ?_
 ·simp only [go_sem]
 ·rintro ⟨⟨m, x, y⟩, hm, he⟩
  simp only at hm he
  refine vc_at (tabs mixed (tbl_cons pDM_C (tbl_cons pMonic_C tbl_nil))) ?_
  rcases m with _ | m
  ·exact hm.elim
  ·obtain ⟨hd, hm⟩ := hm
   by_cases y0 : y = []
   ·subst y0
    rw [if_pos rfl] at hm
    obtain ⟨s, h1, h2⟩ := hm
    have c1 : ¬ (0 : Int) < ((0 : Nat) : Int) := by decide
    have e1 : pMonic x = pGcd a b := by rw [← he]; rfl
    simp only [go_sem, c1, List.length_nil, e1]
    exact ⟨hd.1.1, by have := hd.2.1; omega, s, h1, h2⟩
   ·rw [if_neg y0] at hm
    have yl := List.length_pos_iff.2 y0
    have c1 : 0 < (y.length : Int) := by omega
    have r1 : dmP x y = .tup [.lst (V.rats (pDiv x y)), .lst (V.rats (pMod x y)), .raw (.int .i64 0)] := if_neg y0
    simp only [go_sem, c1, r1]
    refine ⟨hd, ⟨(m, y, pMod x y), hm, ?_⟩, Wk.of [] (by decide) ?_, Nat.lt_succ_self m⟩
    ·simp only
     rw [← he]
     unfold pGcd
     rw [pG_step hd.1.1 hd.1.2 y0]
    ·simp only [go_sem]
def kExact : Con := con2 pR pR fun a b => (DvOk a b ∧ b ≠ [], .lst (V.rats (pDiv a b)))
attribute [go_sem ↓, go_sem] kExact
theorem exact_C : Ctr Tryz.prog 106 kExact := Ctr.c2 (by kernel_rfl) fun a b h => by
 obtain ⟨hd, b0⟩ := h
 refine PCall.of_vc (tabs mixed (tbl_cons pDM_C tbl_nil)) Tryz.func106 rfl Tryz.ntmps106 Tryz.results106 (by simp) ?_
 have r1 : dmP a b = .tup [.lst (V.rats (pDiv a b)), .lst (V.rats (pMod a b)), .raw (.int .i64 0)] := if_neg b0
 simp only [go_sem, r1]
 exact hd
theorem qs_powN {x : Rat} {j : Nat} (h : qs x ≤ j) (n : Nat) : qs (x ^ n) ≤ n * j + 1 := by
 induction n with
 | zero => rw [Rat.pow_zero]; exact Nat.le_trans qs_1 (by omega)
 | succ n ih =>
   rw [Rat.pow_succ]
   refine Nat.le_trans (qsM ih h) ?_
   rw [Nat.add_mul, Nat.one_mul]; omega
def kPower : Con := con2 pQ (pN .i64) fun c n => (0 ≤ n ∧ n ≤ 1000000 ∧ n.toNat * qs c + 1 ≤ 2500000000000 ∧ qs c ≤ 2500000000000, .Q (c ^ n.toNat))
attribute [go_sem ↓, go_sem] kPower
theorem power_C : Ctr Tryz.prog 102 kPower := Ctr.c2 (by kernel_rfl) fun c n h => by
 obtain ⟨h0, h1, h2, h3⟩ := h
 obtain ⟨N, rfl⟩ : ∃ N : Nat, n = N := ⟨n.toNat, by omega⟩
 rw [Int.toNat_natCast] at h2
 show PCall _ _ _ (.Q (c ^ N))
 refine PCall.of_vc (tabs mixed (tbl_cons one_C (tbl_cons qMul_C tbl_nil))) Tryz.func102 rfl Tryz.ntmps102 Tryz.results102 (by simp) ?_
 simp only [go_sem]
 refine AWp.loops (X := { k : Nat // k ≤ N })
  (fun k => mkSt [(2, .ptr 0 4 0 0), (4, .ptr 1 4 0 0), (5, .ptr 2 4 0 0), (7, .raw (.int .i64 (N : Nat))), (8, .raw (.int .i64 (k.1 : Nat)))] [(0, true, ⟨45, 4, [.Q c]⟩), (1, true, ⟨45, 4, [.agg [.raw (.bool false), .raw (.slice none 0 0), .raw (.bool false), .raw (.slice none 0 0)]]⟩), (2, true, ⟨45, 4, [.Q (c ^ k.1)]⟩)] 3 15)
  (fun k => N - k.1) ⟨0, Nat.zero_le _⟩ (Wk.of [0, 1, 3] (by decide) ?_) ?_
 ·simp only [go_sem, Rat.pow_zero]
 ·rintro ⟨k, hk⟩
  refine vc_at (tabs mixed (tbl_cons one_C (tbl_cons qMul_C tbl_nil))) ?_
  by_cases hkN : k < N
  ·have c1 : (k : Int) < (N : Nat) := by omega
   have n1 : (k : Int) + 1 = ((k + 1 : Nat) : Int) := by omega
   have e1 := (Rat.pow_succ c k).symm
   have q1 := qs_powN (Nat.le_refl (qs c)) k
   have q2 : k * qs c ≤ N * qs c := Nat.mul_le_mul_right _ hk
   simp only [go_sem, c1, n1, e1]
   refine ⟨by omega, by omega, ⟨k + 1, hkN⟩, Wk.of [0, 1, 2] (by decide) ?_, by simp only; omega⟩
   simp only [go_sem]
  ·have c1 : ¬ (k : Int) < (N : Nat) := by omega
   obtain rfl : k = N := by omega
   simp only [go_sem, c1]
end Go.Proofs.YtfbogelmgdojgaaGreat


/- Contracts: cofactors. -/
namespace Go.Proofs.YtfbogelmgdojgaaGreat
set_option linter.unusedSimpArgs false
set_option linter.unusedVariables false
open Go.RowKit

theorem out_at {x : V} {l : List V} (h : OutEq x (.lst l)) : x.atoms = [x] ∧ atLe x (.lst l) := by
 rcases h with h | ⟨_, h, _⟩ | ⟨h1, _, h3⟩
 ·subst h; exact ⟨rfl, atLe.rfl' _⟩
 ·cases h
 ·exact ⟨V.atoms_single h1, h3⟩
theorem out_3 {x y z : V} {a b c : List V} (hx : OutEq x (.lst a)) (hy : OutEq y (.lst b)) (hz : OutEq z (.lst c)) : OutEq (.agg [x, y, z]) (.agg [.lst a, .lst b, .lst c]) := by
 obtain ⟨x1, x2⟩ := out_at hx
 obtain ⟨y1, y2⟩ := out_at hy
 obtain ⟨z1, z2⟩ := out_at hz
 refine .inr (.inl ⟨rfl, rfl, ?_⟩)
 show atsLe (x.atoms ++ (y.atoms ++ (z.atoms ++ []))) [.lst a, .lst b, .lst c]
 rw [x1, y1, z1]
 exact ⟨x2, y2, z2, trivial⟩
def pRow : Pat (List Rat × List Rat × List Rat) where
 p
  | .agg [x, y, z] => (pR.p x).bind fun a => (pR.p y).bind fun b => (pR.p z).map fun c => (a.1 ∧ b.1 ∧ c.1, (a.2, b.2, c.2))
  | _ => none
 val a := .agg [.lst (V.rats a.1), .lst (V.rats a.2.1), .lst (V.rats a.2.2)]
 ok x c a h hc := by
  split at h
  ·rename_i x y z
   rcases ha : pR.p x with _ | ⟨c1, a1⟩ <;> rw [ha] at h
   ·cases h
   ·rcases hb : pR.p y with _ | ⟨c2, a2⟩ <;> simp only [hb, bind_some] at h
    ·cases h
    ·rcases hz : pR.p z with _ | ⟨c3, a3⟩ <;> simp only [hz] at h
     ·cases h
     ·injection h with h; injection h with h1 h2; subst h1 h2
      exact out_3 (pR.ok _ _ _ ha hc.1) (pR.ok _ _ _ hb hc.2.1) (pR.ok _ _ _ hz hc.2.2)
  ·cases h
@[go_sem ↓, go_sem] theorem ev_pRow {x y z : V} : pRow.p (.agg [x, y, z]) = (pR.p x).bind fun a => (pR.p y).bind fun b => (pR.p z).map fun c => (a.1 ∧ b.1 ∧ c.1, (a.2, b.2, c.2)) := rfl
@[go_sem ↓, go_sem] theorem ev_pRow_val {a : List Rat × List Rat × List Rat} : pRow.val a = .agg [.lst (V.rats a.1), .lst (V.rats a.2.1), .lst (V.rats a.2.2)] := rfl
def LsOk (q x y : List Rat) : Prop := ((q.length + y.length ≤ 1000000 ∧ x.length ≤ 1000000) ∧ (∃ j k, (PB q j ∧ PB y k) ∧ q.length * (j + k + 1) ≤ 4999999999999)) ∧ PB x 5000000000000
theorem LsOk.PB {q x y : List Rat} (h : LsOk q x y) : PB (pMul q y) 5000000000000 := by
 obtain ⟨⟨_, j, k, ⟨h1, h2⟩, h3⟩, _⟩ := h
 intro i
 unfold pMul
 rw [cf_tr]
 exact Nat.le_trans (mulL_PB h2 h1 i) (by omega)
theorem len_pMul_le (q y : List Rat) : (pMul q y).length ≤ q.length + y.length := by
 refine Nat.le_trans (tr_len _) ?_
 by_cases h : y = []
 ·subst h
  have : ∀ l : List Rat, (mulL l []).length ≤ l.length := fun l => by
   induction l with
   | nil => simp [mulL]
   | cons x l ih => simp only [mulL, len_addL, len_scL, List.length_cons, List.length_nil]; omega
  have := this q
  simp only [List.length_nil]; omega
 ·rw [len_mulL q y h]
  split <;> omega
def kRowLess : Con := con3 pRow pR pRow fun x q y => (LsOk q x.1 y.1 ∧ LsOk q x.2.1 y.2.1 ∧ LsOk q x.2.2 y.2.2, .agg [.lst (V.rats (pSub x.1 (pMul q y.1))), .lst (V.rats (pSub x.2.1 (pMul q y.2.1))), .lst (V.rats (pSub x.2.2 (pMul q y.2.2)))])
attribute [go_sem ↓, go_sem] kRowLess
theorem rowLess_C : Ctr Tryz.prog 89 kRowLess := Ctr.c3 (by kernel_rfl) fun x q y h => by
 obtain ⟨h1, h2, h3⟩ := h
 have g1 := h1.PB
 have g2 := h2.PB
 have g3 := h3.PB
 have m1 := len_pMul_le q y.1
 have m2 := len_pMul_le q y.2.1
 have m3 := len_pMul_le q y.2.2
 obtain ⟨⟨⟨a1, a2⟩, a3⟩, a4⟩ := h1
 obtain ⟨⟨⟨b1, b2⟩, b3⟩, b4⟩ := h2
 obtain ⟨⟨⟨c1, c2⟩, c3⟩, c4⟩ := h3
 refine PCall.of_vc (tabs mixed (tbl_cons pMul_C (tbl_cons pSub_C tbl_nil))) Tryz.func89 rfl Tryz.ntmps89 Tryz.results89 (by simp) ?_
 simp only [go_sem]
 exact ⟨⟨a1, a3⟩, ⟨⟨a2, by omega⟩, a4, g1⟩, ⟨b1, b3⟩, ⟨⟨b2, by omega⟩, b4, g2⟩, ⟨c1, c3⟩, ⟨⟨c2, by omega⟩, c4, g3⟩, by rfl⟩
end Go.Proofs.YtfbogelmgdojgaaGreat


/- Contracts: the extended algorithm of Euclid. -/
namespace Go.Proofs.YtfbogelmgdojgaaGreat
set_option linter.unusedSimpArgs false
set_option linter.unusedVariables false
open Go.RowKit

theorem sub_div {a b : List Rat} (ha : Can a) (hb : Can b) (h0 : b ≠ []) : pSub a (pMul (pDiv a b) b) = pMod a b := by
 obtain ⟨g2, _, g3⟩ := dm_ok ha hb h0
 refine ev_inj (can_pSub _ _) g2.2 fun x => ?_
 have := g3 x
 rw [ev_pSub, ev_pMul]; grind
def ExOk : Nat → List Rat → List Rat → List Rat → List Rat → List Rat → List Rat → Prop
 | 0, _, _, _, _, _, _ => False
 | n + 1, a, b, s, u, t, v => (Can a ∧ Can b) ∧ (a.length ≤ 1000000 ∧ b.length ≤ 1000000) ∧ (if b = [] then ∃ k, (PB a k ∧ k ≤ 500000000000) ∧ (s.length ≤ 1000000 ∧ PB s 2500000000000) ∧ (t.length ≤ 1000000 ∧ PB t 2500000000000) else
  DvOk a b ∧ (LsOk (pDiv a b) a b ∧ LsOk (pDiv a b) s u ∧ LsOk (pDiv a b) t v) ∧ ExOk n b (pMod a b) u (pSub s (pMul (pDiv a b) u)) v (pSub t (pMul (pDiv a b) v)))
structure ExS where
 n : Nat
 a : List Rat
 b : List Rat
 s : List Rat
 u : List Rat
 t : List Rat
 v : List Rat
def kExt : Con := con2 pR pR fun a b => (∃ n, ExOk n a b [1] [] [] [1], .tup [.lst (V.rats (pExt a b).1), .lst (V.rats (pExt a b).2.1), .lst (V.rats (pExt a b).2.2)])
attribute [go_sem ↓, go_sem] kExt
theorem ext_C : Ctr Tryz.prog 50 kExt := Ctr.c2 (by kernel_rfl) fun A B h => by
 obtain ⟨n, hn⟩ := h
 refine PCall.of_vc (tabs mixed (tbl_cons pDM_C (tbl_cons one_C (tbl_cons rowLess_C (tbl_cons lead_C (tbl_cons over_C (tbl_cons pSc_C tbl_nil))))))) Tryz.func50 rfl Tryz.ntmps50 Tryz.results50 (by simp) ?_
 simp only [go_sem]
 refine AWp.frz 12 ?_
 simp only [go_sem]
 refine AWp.loops (X := { p : ExS // ExOk p.n p.a p.b p.s p.u p.t p.v ∧ exF (p.b.length + 1) p.a p.b p.s p.u p.t p.v = pX A B })
  (fun p => mkSt [(4, .raw (.slice none 0 0)), (5, .raw (.slice none 0 0)), (6, .raw (.slice none 0 0)), (7, .ptr 0 6 0 0)] [(0, false, ⟨98, 6, [.agg [.agg [.lst (V.rats p.1.a), .lst (V.rats p.1.s), .lst (V.rats p.1.t)], .agg [.lst (V.rats p.1.b), .lst (V.rats p.1.u), .lst (V.rats p.1.v)]]]⟩)] 1 76)
  (fun p => p.1.n) ⟨⟨n, A, B, [1], [], [], [1]⟩, hn, rfl⟩ (Wk.of [12] (by decide) ?_) ?_
 ·simp only [go_sem]
  exact ⟨rfl, .inr ⟨rfl, rfl, rfl⟩⟩
 ·rintro ⟨⟨m, a, b, s, u, t, v⟩, hm, he⟩
  simp only at hm he
  refine vc_at (tabs mixed (tbl_cons pDM_C (tbl_cons one_C (tbl_cons rowLess_C (tbl_cons lead_C (tbl_cons over_C (tbl_cons pSc_C tbl_nil))))))) ?_
  rcases m with _ | m
  ·exact hm.elim
  ·obtain ⟨⟨ca, cb⟩, ⟨la, lb⟩, hm⟩ := hm
   by_cases b0 : b = []
   ·subst b0
    rw [if_pos rfl] at hm
    obtain ⟨z, ⟨h1, h2⟩, ⟨h3, h4⟩, h5, h6⟩ := hm
    have c1 : ¬ (0 : Int) < ((0 : Nat) : Int) := by decide
    have e1 : pX A B = (a, s, t) := by rw [← he]; rfl
    have e2 : pExt A B = if a = [] then (a, s, t) else (pSc (1 / lead a) a, pSc (1 / lead a) s, pSc (1 / lead a) t) := by unfold pExt; rw [e1]
    by_cases a0 : a = []
    ·rw [if_pos a0] at e2
     subst a0
     have c2 : ((0 : Int) == 0) = true := rfl
     simp only [go_sem, c1, c2, List.length_nil, e2]
     rfl
    ·rw [if_neg a0] at e2
     have al := List.length_pos_iff.2 a0
     have c2 : ((a.length : Int) == 0) = false := beqF (by omega)
     have l0 := lead_ne ca a0
     have l1 : qs (lead a) ≤ z := h1 _
     have l2 := qs_inv1 _ l1
     have l3 := qs_1
     simp only [go_sem, c1, c2, List.length_nil, e2, a0, l0]
     exact ⟨la, ⟨by omega, by omega⟩, by rfl, ⟨la, h1.mono (by omega), by omega⟩, ⟨h3, h4.mono (by omega), by omega⟩, ⟨h5, h6.mono (by omega), by omega⟩, by rfl⟩
   ·rw [if_neg b0] at hm
    obtain ⟨hd, ⟨l1, l2, l3⟩, hm⟩ := hm
    have bl := List.length_pos_iff.2 b0
    have c1 : 0 < (b.length : Int) := by omega
    have r1 : dmP a b = .tup [.lst (V.rats (pDiv a b)), .lst (V.rats (pMod a b)), .raw (.int .i64 0)] := if_neg b0
    have r2 := sub_div ca cb b0
    simp only [go_sem, c1, r1, r2]
    refine ⟨hd, ⟨l1, l2, l3⟩, by rfl, ⟨⟨m, b, pMod a b, u, pSub s (pMul (pDiv a b) u), v, pSub t (pMul (pDiv a b) v)⟩, hm, ?_⟩, Wk.of [0] (by decide) ?_, Nat.lt_succ_self m⟩
    ·simp only
     rw [← he]
     obtain ⟨_, g2, _⟩ := dm_ok ca cb b0
     have hmc : Can (pMod a b) := (dm_ok ca cb b0).1.2
     rw [exF_fuel ((pMod a b).length + 1) b.length b (pMod a b) _ _ _ _ cb hmc (Nat.lt_succ_self _) g2]
     conv => rhs; unfold exF
     rw [if_neg b0]
    ·simp only [go_sem]
     exact renV_pure rfl
end Go.Proofs.YtfbogelmgdojgaaGreat


/- Contracts: the polynomial at x + c. -/
namespace Go.Proofs.YtfbogelmgdojgaaGreat
set_option linter.unusedSimpArgs false
set_option linter.unusedVariables false
open Go.RowKit

theorem cf_ext {l m : List Rat} (h : l.length = m.length) (hc : ∀ i, cf l i = cf m i) : l = m := by
 refine List.ext_getElem h fun i h1 h2 => ?_
 have := hc i
 unfold cf at this
 rw [List.getD_eq_getElem?_getD, List.getD_eq_getElem?_getD, List.getElem?_eq_getElem h1, List.getElem?_eq_getElem h2] at this
 exact this
theorem hd0_cf (l : List Rat) : hd0 l = cf l 0 := by cases l <;> rfl
def ShOk : Nat → Rat → List Rat → Prop
 | 0, _, _ => True
 | n + 1, c, l => (∃ s, (PB l s ∧ PB (syn c l) s) ∧ s ≤ 2000000000000) ∧ ShOk n c (tl0 (syn c l))
end Go.Proofs.YtfbogelmgdojgaaGreat


/- Contracts: equal polynomials. -/
namespace Go.Proofs.YtfbogelmgdojgaaGreat
set_option linter.unusedSimpArgs false
set_option linter.unusedVariables false
open Go.RowKit

def pF (g : FuncId) : Pat Unit where
 p
  | .clo (.func f) [] [] => if f = g then some (True, ()) else none
  | _ => none
 val _ := .clo (.func g) [] []
 ok x c a h hc := by
  split at h
  ·split at h
   ·rename_i e; subst e; exact .inl rfl
   ·cases h
  ·cases h
@[go_sem ↓, go_sem] theorem ev_pF {g : FuncId} : (pF g).p (.clo (.func g) [] []) = some (True, ()) := if_pos rfl
@[go_sem ↓, go_sem] theorem ev_pF_val {g : FuncId} {u : Unit} : (pF g).val u = .clo (.func g) [] [] := rfl
theorem cmpQ_eq0 (x y : Rat) : (cmpQ x y == 0) = decide (x = y) := by
 unfold cmpQ
 by_cases h : x = y
 ·subst h
  simp [Rat.lt_irrefl]
 ·rw [decide_eq_false h]
  by_cases h1 : x < y
  ·simp [h1]
  ·simp [h1, h]
def kPEq : Con := con2 pR pR fun a b => ((a.length ≤ 1000000 ∧ b.length ≤ 1000000) ∧ PB a 5000000000000 ∧ PB b 5000000000000, .raw (.bool (decide (a = b))))
attribute [go_sem ↓, go_sem] kPEq
end Go.Proofs.YtfbogelmgdojgaaGreat


/- Contracts: valid polynomials. -/
namespace Go.Proofs.YtfbogelmgdojgaaGreat
set_option linter.unusedSimpArgs false
set_option linter.unusedVariables false
open Go.RowKit

def kVal1 : Con := con1 pQ fun x => (qs x ≤ 5000000000000, .raw (.bool false))
attribute [go_sem ↓, go_sem] kVal1
theorem val1_C : Ctr Tryz.prog 110 kVal1 := Ctr.c1 (by kernel_rfl) fun x h => by
 refine PCall.of_vc (tabs mixed (tbl_cons qValid_C tbl_nil)) Tryz.func110 rfl Tryz.ntmps110 Tryz.results110 (by simp) ?_
 have e1 := validQ_Q x
 simp only [go_sem, e1]
 exact ⟨⟨dg_lim _, dg_lim _⟩, szLN h (by omega), szLD h (by omega)⟩
def kIdxF : Con := con2 pR (pF 110) fun a _ => (a.length ≤ 1000000 ∧ PB a 5000000000000, .raw (.int .i64 (-1)))
attribute [go_sem ↓, go_sem] kIdxF
theorem idxF_C : Ctr Tryz.prog 136 kIdxF := Ctr.c2 (by kernel_rfl) fun a _ h => by
 obtain ⟨la, ha⟩ := h
 refine PCall.of_vc (tabs mixed (tbl_cons val1_C tbl_nil)) Tryz.func136 rfl Tryz.ntmps136 Tryz.results136 (by simp) ?_
 simp only [go_sem]
 refine AWp.loops (X := { i : Nat // i ≤ a.length })
  (fun i => mkSt [(0, .lst (V.rats a)), (1, .clo (.func 110) [] []), (4, .raw (.int .i64 0)), (7, .raw (.int .i64 (a.length : Nat))), (8, .raw (.int .i64 (i.1 : Nat)))] [] 0 19)
  (fun i => a.length - i.1) ⟨0, Nat.zero_le _⟩ (Wk.of [] (by decide) ?_) ?_
 ·simp only [go_sem]
 ·rintro ⟨i, hi⟩
  refine vc_at (tabs mixed (tbl_cons val1_C tbl_nil)) ?_
  by_cases hin : i < a.length
  ·have c1 : (i : Int) < (a.length : Nat) := by omega
   have c2 : (i : Int) + 1 = ((i + 1 : Nat) : Int) := by omega
   have q1 := ha i
   simp only [go_sem, c1, c2]
   refine ⟨by omega, hin, q1, ⟨by omega, by omega⟩, ⟨i + 1, hin⟩, Wk.of [] (by decide) ?_, by simp only; omega⟩
   simp only [go_sem]
  ·have c1 : ¬ (i : Int) < (a.length : Nat) := by omega
   simp only [go_sem, c1]
def kContF : Con := con2 pR (pF 110) fun a _ => (a.length ≤ 1000000 ∧ PB a 5000000000000, .raw (.bool false))
attribute [go_sem ↓, go_sem] kContF
theorem contF_C : Ctr Tryz.prog 112 kContF := Ctr.c2 (by kernel_rfl) fun a _ h => by
 refine PCall.of_vc (tabs mixed (tbl_cons idxF_C tbl_nil)) Tryz.func112 rfl Tryz.ntmps112 Tryz.results112 (by simp) ?_
 have c1 : ¬ (0 : Int) ≤ -1 := by decide
 simp only [go_sem, c1]
 exact h
def kPValid : Con := con1 pR fun a => (a.length ≤ 1000000 ∧ PB a 5000000000000, .raw (.bool (((tr a).length : Int) == (a.length : Int))))
attribute [go_sem ↓, go_sem] kPValid
theorem pValid_C : Ctr Tryz.prog 72 kPValid := Ctr.c1 (by kernel_rfl) fun a h => by
 refine PCall.of_vc (tabs mixed (tbl_cons contF_C (tbl_cons trim_C tbl_nil))) Tryz.func72 rfl Tryz.ntmps72 Tryz.results72 (by simp) ?_
 simp only [go_sem]
 exact ⟨h, Nat.le_trans h.1 (by decide)⟩
end Go.Proofs.YtfbogelmgdojgaaGreat

