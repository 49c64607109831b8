/- Texts G3 G4 G5 G6 G7 in one. -/
import Derived.Test.YtfbogelmgdojgaaGreatR23
/- Contracts: package poly, lists that a function computes. -/
namespace Go.Proofs.YtfbogelmgdojgaaGreat
set_option linter.unusedSimpArgs false
set_option linter.unusedVariables false
open Go.RowKit

/-- A function value that computes coefficients. -/
def kFn (caps : List V) (N : Nat) (F : Nat → Rat) : Con
  | .raw (.int .i64 i) :: cs => some ((cs = caps ∧ 0 ≤ i ∧ i < N), .Q (F i.toNat))
  | _ => none
attribute [go_sem ↓, go_sem] kFn.eq_1
def z0 : V := .agg [.raw (.bool false), .raw (.slice none 0 0), .raw (.bool false), .raw (.slice none 0 0)]
theorem z0_wid (n : Nat) : allWid (List.replicate n z0) 4 := fun y hy => by rw [List.eq_of_mem_replicate hy]; rfl
theorem z0_pure (n : Nat) : allPure (List.replicate n z0) := fun y hy => by rw [List.eq_of_mem_replicate hy]; rfl
theorem range_snoc (F : Nat → Rat) (i : Nat) : (List.range i).map F ++ [F i] = (List.range (i + 1)).map F := by rw [List.range_succ, List.map_append]; rfl
set_option maxRecDepth 2000 in
theorem each_V (g : FuncId) (caps : List V) (n : Int) (N : Nat) (hn : n.toNat = N) (F : Nat → Rat) (hc : frzOk caps) (hb : (caps.all fun x => x.atoms.all pureB) = true) (hg : ¬ g = 69) (hg' : ¬ 69 = g) (hC : Ctr Tryz.prog g (kFn caps N F)) (hN : N ≤ 1000000) :
    PCall Tryz.prog 113 [.raw (.int .i64 n), .clo (.func g) [] caps] (.lst (V.rats (tr ((List.range N).map F)))) := by
  refine PCall.of_vc (tabs mixed (tbl_cons trim_C (tbl_cons hC tbl_nil))) Tryz.func113 rfl Tryz.ntmps113 Tryz.results113 (by simp) ?_
  have m1 : (if n < 0 then (0 : Int) else n) = (N : Nat) := by split <;> omega
  have hr : ∀ θ, RenCs θ caps caps := fun θ => renCs_pure hb
  have mx : maxLen = 9223372036854775807 := by decide
  simp only [go_sem, m1, Int.toNat_natCast]
  refine ⟨by omega, ?_⟩
  refine AWp.loops (X := { p : Nat × List V // (p.1 ≤ N ∧ p.1 ≤ p.2.length) ∧ p.2.take p.1 = V.rats ((List.range p.1).map F) ∧ allPure p.2 ∧ allWid p.2 4 })
    (fun p => mkSt [(0, .raw (.int .i64 n)), (1, .clo (.func g) [] caps), (4, .raw (.slice none 0 0)), (5, .sl 0 4 0 p.1.1), (10, .raw (.int .i64 n)), (11, .raw (.int .i64 (p.1.1 : Nat)))] [(0, true, ⟨45, 4, p.1.2⟩)] 1 23)
    (fun p => N - p.1.1) ⟨(0, List.replicate N z0), ⟨Nat.zero_le _, Nat.zero_le _⟩, rfl, z0_pure N, z0_wid N⟩ (Wk.of [3] (by decide) ?_) ?_
  · simp only [go_sem]
    exact ⟨hr _, rfl, z0_pure N⟩
  · rintro ⟨⟨i, L⟩, ⟨hi, hl⟩, hL, hp, hw⟩
    simp only at hi hl hL hp hw
    refine vc_at (tabs mixed (tbl_cons trim_C (tbl_cons hC tbl_nil))) ?_
    by_cases hiN : i < N
    · have c1 : (i : Int) < n := by omega
      have e1 : (i : Int) + 1 = ((i + 1 : Nat) : Int) := by omega
      simp only [go_sem, c1, e1, hL, hc, hg, hg', range_snoc]
      refine ⟨by omega, hl, by omega, by omega, ⟨(i + 1, V.rats ((List.range (i + 1)).map F)), ⟨hiN, by simp [V.rats]⟩, ?_, ?_, ?_⟩, Wk.of [9] (by decide) ?_, by simp only; omega⟩
      · exact List.take_of_length_le (by simp [V.rats])
      · exact of_eq_true (rats_pure _)
      · exact of_eq_true (rats_wid _)
      · simp only [go_sem]
        exact hr _
    · have c1 : ¬ (i : Int) < n := by omega
      obtain rfl : i = N := by omega
      simp only [go_sem, c1, hL, hg, hg', hl]
      rw [List.length_map, List.length_range]
      omega
theorem Ctr.fn {P : Program} {g : FuncId} {caps : List V} {N : Nat} {F : Nat → Rat} (hc : callable P g = true) (h : ∀ i, i < N → PCall P g (.raw (.int .i64 (i : Nat)) :: caps) (.Q (F i))) : Ctr P g (kFn caps N F) := ⟨hc, fun args p r e hp => by
  unfold kFn at e
  split at e
  · rename_i i cs
    injection e with e; injection e with e1 e2; subst e1 e2
    obtain ⟨rfl, h0, h1⟩ := hp
    have := h i.toNat (by omega)
    rw [Int.toNat_of_nonneg h0] at this
    exact this
  · cases e⟩
/-- A list that a known function computes. -/
def kEach (g : FuncId) (caps : List V) (N : Nat) (R : List Rat) : Con
  | [.raw (.int .i64 n), .clo (.func f) [] cs] => some (n.toNat = N ∧ f = g ∧ cs = caps, .lst (V.rats R))
  | _ => none
attribute [go_sem ↓, go_sem] kEach.eq_1
theorem each_C (g : FuncId) (caps : List V) (N : Nat) (F : Nat → Rat) (hc : frzOk caps) (hb : (caps.all fun x => x.atoms.all pureB) = true) (hg : ¬ g = 69) (hg' : ¬ 69 = g) (hC : Ctr Tryz.prog g (kFn caps N F)) (hN : N ≤ 1000000) :
    Ctr Tryz.prog 113 (kEach g caps N (tr ((List.range N).map F))) := ⟨by kernel_rfl, fun args p r e hp => by
  unfold kEach at e
  split at e
  · injection e with e; injection e with e1 e2; subst e1 e2
    obtain ⟨h0, rfl, rfl⟩ := hp
    exact each_V _ _ _ N h0 F hc hb hg hg' hC hN
  · cases e⟩
def kAt : Con := con2 pR (pN .i64) fun p i => (0 ≤ i, .Q (cf p i.toNat))
attribute [go_sem ↓, go_sem] kAt
theorem at_C : Ctr Tryz.prog 134 kAt := Ctr.c2 (by kernel_rfl) fun p i h => by
  have h : 0 ≤ i := h
  obtain ⟨n, rfl⟩ : ∃ n : Nat, i = n := ⟨i.toNat, by omega⟩
  show PCall _ _ _ (.Q (cf p n))
  refine PCall.of_vc (tabs mixed (tbl_cons whole_C tbl_nil)) Tryz.func134 rfl Tryz.ntmps134 Tryz.results134 (by simp) ?_
  by_cases hn : n < p.length
  · have c1 : (n : Int) < p.length := by omega
    simp only [go_sem, c1]
    exact ⟨h, hn⟩
  · have c1 : ¬ (n : Int) < p.length := by omega
    simp only [go_sem, c1, cf_ge (Nat.le_of_not_lt hn)]
    exact out_QQ rfl
theorem subFn_C (a b : List Rat) (N : Nat) (j k : Nat) (ha : PB a j) (hb : PB b k) (hj : j ≤ 5000000000000) (hk : k ≤ 5000000000000) : Ctr Tryz.prog 133 (kFn [.pel (.lst (V.rats a)), .pel (.lst (V.rats b))] N fun i => cf a i - cf b i) := Ctr.fn (by kernel_rfl) fun i hi => by
  refine PCall.of_vc (tabs mixed (tbl_cons at_C (tbl_cons qSub_C tbl_nil))) Tryz.func133 rfl Tryz.ntmps133 Tryz.results133 (by simp) ?_
  have h1 := ha i
  have h2 := hb i
  simp only [go_sem]
  exact ⟨by omega, by omega, by omega, by rfl⟩
theorem scFn_C (a : List Rat) (c : Rat) (N : Nat) (j k : Nat) (ha : PB a j) (hc : qs c ≤ k) (hj : j ≤ 5000000000000) (hk : k ≤ 5000000000000) (hN : N ≤ a.length) : Ctr Tryz.prog 121 (kFn [.pel (.lst (V.rats a)), .pel (.Q c)] N fun i => cf a i * c) := Ctr.fn (by kernel_rfl) fun i hi => by
  refine PCall.of_vc (tabs mixed (tbl_cons qMul_C tbl_nil)) Tryz.func121 rfl Tryz.ntmps121 Tryz.results121 (by simp) ?_
  have h1 := ha i
  simp only [go_sem]
  exact ⟨by omega, by omega, by omega, by rfl⟩
theorem diffFn_C (a : List Rat) (N : Nat) (j : Nat) (ha : PB a j) (hj : j ≤ 5000000000000) (hN : N + 1 ≤ a.length) (hl : a.length ≤ 1000000) : Ctr Tryz.prog 114 (kFn [.pel (.lst (V.rats a))] N fun i => cf a (i + 1) * (((i + 1 : Nat) : Int) : Rat)) := Ctr.fn (by kernel_rfl) fun i hi => by
  refine PCall.of_vc (tabs mixed (tbl_cons qMul_C (tbl_cons whole_C tbl_nil))) Tryz.func114 rfl Tryz.ntmps114 Tryz.results114 (by simp) ?_
  have h1 := ha (i + 1)
  have e1 : (i : Int) + 1 = ((i + 1 : Nat) : Int) := by omega
  have h2 : qs ((((i + 1 : Nat) : Int)) : Rat) ≤ 3 := qsZ (dl_i64 (by omega))
  simp only [go_sem, e1]
  exact ⟨by omega, by omega, by omega, by omega, by omega, by omega, by rfl⟩
theorem frzOk_2 (x y : V) : frzOk [.pel x, .pel y] := fun z hz => by
  rcases List.mem_cons.1 hz with rfl | hz
  · exact ⟨rfl, by simp, by simp⟩
  · simp at hz; subst hz; exact ⟨rfl, by simp, by simp⟩
theorem add_list (a b : List Rat) : tr ((List.range (max a.length b.length)).map fun i => cf a i + cf b i) = pAdd a b := tr_of_cf fun i => by
  rw [cf_map_range, cf_addL]
  split
  · rfl
  · rw [cf_ge (l := a) (by omega), cf_ge (l := b) (by omega)]; grind
def kPAdd : Con := con2 pR pR fun a b => ((a.length ≤ 1000000 ∧ b.length ≤ 1000000) ∧ PB a 5000000000000 ∧ PB b 5000000000000, .lst (V.rats (pAdd a b)))
attribute [go_sem ↓, go_sem] kPAdd
theorem sub_list (a b : List Rat) : tr ((List.range (max a.length b.length)).map fun i => cf a i - cf b i) = pSub a b := tr_of_cf fun i => by
  rw [cf_map_range, cf_addL, cf_scL]
  split
  · grind
  · rw [cf_ge (l := a) (by omega), cf_ge (l := b) (by omega)]; grind
def kPSub : Con := con2 pR pR fun a b => ((a.length ≤ 1000000 ∧ b.length ≤ 1000000) ∧ PB a 5000000000000 ∧ PB b 5000000000000, .lst (V.rats (pSub a b)))
attribute [go_sem ↓, go_sem] kPSub
theorem pSub_C : Ctr Tryz.prog 107 kPSub := Ctr.c2 (by kernel_rfl) fun a b h => by
  obtain ⟨⟨h1, h2⟩, h3, h4⟩ := h
  show PCall _ _ _ (.lst (V.rats (pSub a b)))
  rw [← sub_list]
  refine PCall.of_vc (tabs mixed (tbl_cons (each_C 133 _ (max a.length b.length) _ (frzOk_2 _ _) rfl (by decide) (by decide) (subFn_C a b (max a.length b.length) _ _ h3 h4 (Nat.le_refl _) (Nat.le_refl _)) (by omega)) tbl_nil)) Tryz.func107 rfl Tryz.ntmps107 Tryz.results107 (by simp) ?_
  simp only [go_sem]
  split <;> omega
theorem sc_list (a : List Rat) (c : Rat) : tr ((List.range a.length).map fun i => cf a i * c) = pSc c a := tr_of_cf fun i => by
  rw [cf_map_range, cf_scL]
  split
  · grind
  · rw [cf_ge (l := a) (by omega)]; grind
def kPSc : Con := con2 pR pQ fun a c => (a.length ≤ 1000000 ∧ PB a 5000000000000 ∧ qs c ≤ 5000000000000, .lst (V.rats (pSc c a)))
attribute [go_sem ↓, go_sem] kPSc
theorem pSc_C : Ctr Tryz.prog 92 kPSc := Ctr.c2 (by kernel_rfl) fun a c h => by
  obtain ⟨h1, h2, h3⟩ := h
  show PCall _ _ _ (.lst (V.rats (pSc c a)))
  rw [← sc_list]
  refine PCall.of_vc (tabs mixed (tbl_cons (each_C 121 _ a.length _ (frzOk_2 _ _) rfl (by decide) (by decide) (scFn_C a c a.length _ _ h2 h3 (Nat.le_refl _) (Nat.le_refl _) (Nat.le_refl _)) (by omega)) tbl_nil)) Tryz.func92 rfl Tryz.ntmps92 Tryz.results92 (by simp) ?_
  simp only [go_sem]
theorem diff_list (a : List Rat) : tr ((List.range (a.length - 1)).map fun i => cf a (i + 1) * (((i + 1 : Nat) : Int) : Rat)) = pDiff a := tr_of_cf fun i => by
  have e : ((((i + 1 : Nat) : Int)) : Rat) = ((i + 1 : Nat) : Rat) := rfl
  rw [cf_map_range, cf_dL, e]
  split
  · grind
  · rw [cf_ge (l := a) (by omega)]; grind
def kPDiff : Con := con1 pR fun a => (a.length ≤ 1000000 ∧ PB a 5000000000000, .lst (V.rats (pDiff a)))
attribute [go_sem ↓, go_sem] kPDiff
theorem frzOk_1 (x : V) : frzOk [.pel x] := fun z hz => by simp at hz; subst hz; exact ⟨rfl, by simp, by simp⟩
theorem diffFn0_C (a : List Rat) : Ctr Tryz.prog 114 (kFn [.pel (.lst (V.rats a))] 0 fun i => cf a (i + 1) * (((i + 1 : Nat) : Int) : Rat)) := Ctr.fn (by kernel_rfl) fun i hi => by omega
theorem pDiff_C : Ctr Tryz.prog 74 kPDiff := Ctr.c1 (by kernel_rfl) fun a h => by
  obtain ⟨h1, h2⟩ := h
  show PCall _ _ _ (.lst (V.rats (pDiff a)))
  rw [← diff_list]
  have hC : Ctr Tryz.prog 114 (kFn [.pel (.lst (V.rats a))] (a.length - 1) fun i => cf a (i + 1) * (((i + 1 : Nat) : Int) : Rat)) := by
    rcases Nat.eq_zero_or_pos (a.length - 1) with h0 | h0
    · rw [h0]; exact diffFn0_C a
    · exact diffFn_C a _ _ h2 (Nat.le_refl _) (by omega) h1
  refine PCall.of_vc (tabs mixed (tbl_cons (each_C 114 _ (a.length - 1) _ (frzOk_1 _) rfl (by decide) (by decide) hC (by omega)) tbl_nil)) Tryz.func74 rfl Tryz.ntmps74 Tryz.results74 (by simp) ?_
  simp only [go_sem]
  exact ⟨by omega, by omega⟩
end Go.Proofs.YtfbogelmgdojgaaGreat


/- Contracts: slices.Repeat and slices.Clone of rational numbers; products. -/
namespace Go.Proofs.YtfbogelmgdojgaaGreat
set_option linter.unusedSimpArgs false
set_option linter.unusedVariables false
open Go.RowKit

theorem wraps_u64' {n : Int} (h0 : 0 ≤ n) (h1 : n < 2 ^ 64) : IntKind.u64.wrap n = n := by
  simp only [IntKind.wrap, IntKind.bits, IntKind.signed]
  simp
  omega
theorem wraps_i64x {n : Int} (h0 : -9223372036854775808 ≤ n) (h1 : n ≤ 9223372036854775807) : IntKind.i64.wrap n = n := by rw [IntKind.wrap_i64]; omega
theorem and_low (y : Int) (h0 : 0 ≤ y) (h1 : y < 4294967296) : bits BinOp.and IntKind.u64 y 4294967295 = y := by
  have := bits_mask .u64 64 (by decide) (fun n a b => wraps_u64' a b) 32 (by decide) y h0 (by omega)
  rw [show (2 : Int) ^ 32 - 1 = 4294967295 from by decide, show (2 : Int) ^ 32 = 4294967296 from by decide] at this
  rw [this]; omega
def kMul64 : Con := con2 (pN .u64) (pN .u64) fun x y => (x = 1 ∧ 0 ≤ y ∧ y < 4294967296, .tup [.raw (.int .u64 0), .raw (.int .u64 y)])
attribute [go_sem ↓, go_sem] kMul64
theorem mul64_C : Ctr Tryz.prog 142 kMul64 := Ctr.c2 (by kernel_rfl) fun x y h => by
  obtain ⟨rfl, h0, h1⟩ := h
  refine PCall.of_vc (tabs mixed tbl_nil) Tryz.func142 rfl Tryz.ntmps142 Tryz.results142 (by simp) ?_
  have a1 := and_low 1 (by decide) (by decide)
  have a2 := and_low y h0 h1
  have a3 : y / 4294967296 = 0 := by omega
  have a4 := and_low 0 (by decide) (by decide)
  have e1 : (2 : Int) ^ (Int.toNat 32) = 4294967296 := by decide
  have e2 : (1 : Int) / 4294967296 = 0 := by decide
  have e3 : (0 : Int) / 4294967296 = 0 := by decide
  simp only [go_sem, a1, a2, a3, a4, e1, e2, e3, Int.one_mul, Int.zero_mul, Int.mul_zero, Int.add_zero, Int.zero_add]
  omega
theorem mulU_C : Ctr Tryz.prog 123 kMul64 := Ctr.c2 (by kernel_rfl) fun x y h => by
  obtain ⟨rfl, h0, h1⟩ := h
  refine PCall.of_vc (tabs mixed (tbl_cons mul64_C tbl_nil)) Tryz.func123 rfl Tryz.ntmps123 Tryz.results123 (by simp) ?_
  simp only [go_sem]
  exact ⟨h0, h1⟩
theorem repeat_V (q : Rat) (N : Nat) (h0 : 0 < N) (hN : N ≤ 1000000) : FCall Tryz.prog 97 [.lst [.Q q], .raw (.int .i64 (N : Nat))] ⟨45, 4, V.rats (List.replicate N q)⟩ := by
  refine FCall.of_vc (tabs mixed (tbl_cons mulU_C tbl_nil)) Tryz.func97 rfl Tryz.ntmps97 Tryz.results97 (by simp) ?_
  have c1 : ¬ (N : Int) < 0 := by omega
  have c2 : ¬ (9223372036854775807 : Int) < (N : Nat) := by omega
  have w1 : ((N : Nat) : Int) % 18446744073709551616 = (N : Nat) := by omega
  have w3 : IntKind.i64.wrap ((N : Nat) : Int) = (N : Nat) := wraps_i64x (by omega) (by omega)
  have m1 : min 1 N = 1 := by omega
  simp only [go_sem, c1, c2, w1, w3, m1, Int.toNat_natCast]
  refine ⟨by omega, by omega, h0, ?_⟩
  refine AWp.loops (X := { p : Nat × List V // (1 ≤ p.1 ∧ p.1 ≤ N) ∧ p.2.length = N ∧ p.2.take p.1 = V.rats (List.replicate p.1 q) ∧ allPure p.2 ∧ allWid p.2 4 })
    (fun p => mkSt [(4, .raw (.slice none 0 0)), (7, .sl 0 4 0 N), (8, .raw (.int .i64 (p.1.1 : Nat)))] [(0, true, ⟨45, 4, p.1.2⟩)] 1 48)
    (fun p => N - p.1.1) ⟨(1, V.Q q :: (List.replicate N z0).drop 1), ⟨Nat.le_refl _, h0⟩, by simp; omega, rfl, ?_, ?_⟩ (Wk.of [22] (by decide) ?_) ?_
  · intro y hy
    rcases List.mem_cons.1 hy with rfl | hy
    · rfl
    · exact z0_pure N y (List.mem_of_mem_drop hy)
  · intro y hy
    rcases List.mem_cons.1 hy with rfl | hy
    · rfl
    · exact z0_wid N y (List.mem_of_mem_drop hy)
  · simp only [go_sem]
    exact ⟨rfl, fun y hy => z0_pure N y (List.mem_of_mem_drop hy)⟩
  · rintro ⟨⟨c, L⟩, ⟨hc1, hcN⟩, hl, hL, hp, hw⟩
    simp only at hc1 hcN hl hL hp hw
    refine vc_at (tabs mixed (tbl_cons mulU_C tbl_nil)) ?_
    by_cases hc : c < N
    · have d1 : (c : Int) < (N : Nat) := by omega
      obtain ⟨m, hm⟩ : ∃ m, min c (N - c) = m := ⟨_, rfl⟩
      have e1 : (c : Int) + (m : Nat) = ((c + m : Nat) : Int) := by omega
      have hrep : List.replicate c q ++ List.take m (List.replicate c q) = List.replicate (c + m) q := by
        rw [List.take_replicate, Nat.min_eq_left (by omega), List.replicate_append_replicate]
      have hp' : allPure (V.rats (List.replicate (c + m) q) ++ L.drop (c + m)) := fun y hy => by
        rcases List.mem_append.1 hy with hy | hy
        · exact of_eq_true (rats_pure _) y hy
        · exact hp y (List.mem_of_mem_drop hy)
      simp only [go_sem, d1, hl, hL, hm, e1, hc, hcN, hrep]
      refine ⟨by omega, by omega, by omega, by omega, by omega, by rfl, ⟨(c + m, V.rats (List.replicate (c + m) q) ++ L.drop (c + m)), by omega, ?_, ?_, ?_, ?_⟩, Wk.of [0] (by decide) ?_, by simp only; omega⟩
      · rw [List.length_append, rats_len, List.length_replicate, List.length_drop]; omega
      · simp only
        rw [List.take_append_of_le_length (by simp [V.rats]), List.take_of_length_le (by simp [V.rats])]
      · exact hp'
      · intro y hy
        rcases List.mem_append.1 hy with hy | hy
        · exact of_eq_true (rats_wid _) y hy
        · exact hw y (List.mem_of_mem_drop hy)
      · simp only [go_sem]
        exact hp'
    · have d1 : ¬ (c : Int) < (N : Nat) := by omega
      obtain rfl : c = N := by omega
      rw [List.take_of_length_le (by omega)] at hL
      subst hL
      simp only [go_sem, d1]
      exact ⟨0, rfl, rfl⟩
theorem one_list {l : List Rat} (h : l.length = 1) : l = [cf l 0] := by
  match l, h with
  | [q], _ => rfl
def kRepeat : FCon := con2 pR (pN .i64) fun l n => (l.length = 1 ∧ 0 < n ∧ n ≤ 1000000, ⟨45, 4, V.rats (List.replicate n.toNat (cf l 0))⟩)
attribute [go_sem ↓, go_sem] kRepeat
theorem repeat_C : FCtr Tryz.prog 97 kRepeat := FCtr.c2 (by kernel_rfl) fun l n h => by
  obtain ⟨h1, h2, h3⟩ := h
  have := repeat_V (cf l 0) n.toNat (by omega) (by omega)
  rw [show ((n.toNat : Nat) : Int) = n from by omega] at this
  have e : (.lst [.Q (cf l 0)] : V) = pR.val l := by
    show V.lst [.Q (cf l 0)] = .lst (V.rats l)
    rw [one_list h1]
    rfl
  rw [e] at this
  exact this
theorem qclone_V (x : Rat) (l : List Rat) (h1 : l.length ≤ 1000000) : FCall Tryz.prog 95 [.lst (V.rats (x :: l))] ⟨45, 4, V.rats (x :: l)⟩ := by
  refine FCall.of_vc (tabs mixed tbl_nil) Tryz.func95 rfl Tryz.ntmps95 Tryz.results95 (by simp) ?_
  have e1 : V.rats (x :: l) = .Q x :: V.rats l := rfl
  rw [e1]
  have e2 : maxLen = 9223372036854775807 := by decide
  simp only [go_sem, List.take_length, e2]
  exact ⟨⟨_, rfl⟩, by omega, ⟨5, rfl, rfl⟩⟩
def kQClone : FCon := con1 pR fun l => (l ≠ [] ∧ l.length ≤ 1000000, ⟨45, 4, V.rats l⟩)
attribute [go_sem ↓, go_sem] kQClone
theorem qclone_C : FCtr Tryz.prog 95 kQClone := FCtr.c1 (by kernel_rfl) fun l h => by
  obtain ⟨h1, h2⟩ := h
  cases l with
  | nil => exact absurd rfl h1
  | cons x l => exact qclone_V x l (by simp at h2; omega)
end Go.Proofs.YtfbogelmgdojgaaGreat


/- Contracts: products of polynomials. -/
namespace Go.Proofs.YtfbogelmgdojgaaGreat
set_option linter.unusedSimpArgs false
set_option linter.unusedVariables false
open Go.RowKit

theorem mulL_PB {b : List Rat} {j k : Nat} (hb : PB b k) : ∀ {a : List Rat}, PB a j → PB (mulL a b) (a.length * (j + k + 1) + 1)
  | [], _ => fun i => by rw [show mulL [] b = [] from rfl, cf_nil]; exact Nat.le_trans qs_0 (by omega)
  | x :: a, ha => fun i => by
    have hx : qs x ≤ j := ha 0
    have ih := mulL_PB (a := a) hb fun i => ha (i + 1)
    simp only [mulL, cf_addL, cf_scL, List.length_cons]
    have h1 : qs (x * cf b i) ≤ j + k := qsM hx (hb i)
    have h2 : qs (cf (0 :: mulL a b) i) ≤ a.length * (j + k + 1) + 1 := by
      cases i with
      | zero => exact Nat.le_trans qs_0 (by omega)
      | succ i => exact ih i
    have h3 := qsA h1 h2
    have : (a.length + 1) * (j + k + 1) = a.length * (j + k + 1) + (j + k + 1) := by rw [Nat.add_mul, Nat.one_mul]
    omega
theorem PB_take {a : List Rat} {j n : Nat} (h : PB a j) : PB (a.take n) j := fun i => by
  rw [cf_take]
  split
  · exact h i
  · exact Nat.le_trans qs_0 h.pos
theorem mp_qs {a b : List Rat} {j k : Nat} (ha : PB a j) (hb : PB b k) {i kk n : Nat} (hi : i < a.length) : qs (mp a b i kk n) ≤ a.length * (j + k + 1) + 1 := by
  have h1 := mulL_PB hb (PB_take (n := i) ha) n
  rw [List.length_take, Nat.min_eq_left (by omega)] at h1
  have h2 : (i + 1) * (j + k + 1) ≤ a.length * (j + k + 1) := Nat.mul_le_mul_right _ hi
  rw [Nat.add_mul, Nat.one_mul] at h2
  unfold mp
  split
  · have h3 : qs (cf a i * cf b (n - i)) ≤ j + k := qsM (ha i) (hb _)
    have := qsA h1 h3
    omega
  · have := qsA h1 qs_0
    have := (hb 0); have := qs_pos (cf b 0)
    omega
set_option maxRecDepth 2000 in
theorem mul_V (a b : List Rat) (j k : Nat) (a0 : a ≠ []) (b0 : b ≠ []) (hl : a.length + b.length ≤ 1000000) (ha : PB a j) (hb : PB b k) (hs : a.length * (j + k + 1) + 1 ≤ 5000000000000) :
    PCall Tryz.prog 55 [.lst (V.rats a), .lst (V.rats b)] (.lst (V.rats (pMul a b))) := by
  refine PCall.of_vc (tabsX mixed (tbl_cons whole_C (tbl_cons qMul_C (tbl_cons qAdd_C (tbl_cons trim_C tbl_nil)))) (xtb_cons repeat_C xtb_nil)) Tryz.func55 rfl Tryz.ntmps55 Tryz.results55 (by simp) ?_
  have al := List.length_pos_iff.2 a0
  have bl := List.length_pos_iff.2 b0
  have c1 : ((a.length : Int) == 0) = false := beqF (by omega)
  have c2 : ((b.length : Int) == 0) = false := beqF (by omega)
  obtain ⟨T, hT⟩ : ∃ T, T = a.length + b.length - 1 := ⟨_, rfl⟩
  have e1 : (a.length : Int) + b.length - 1 = (T : Nat) := by omega
  simp only [go_sem, c1, c2, e1, Int.toNat_natCast]
  refine ⟨by omega, by omega, by omega, ?_⟩
  refine AWp.loops (X := { p : Nat × List Rat // p.1 ≤ a.length ∧ p.2.length = T ∧ ∀ n, n < T → cf p.2 n = mp a b p.1 0 n })
    (fun p => mkSt [(0, .lst (V.rats a)), (1, .lst (V.rats b)), (4, .raw (.slice none 0 0)), (5, .sl 0 4 0 T), (27, .lst (V.rats a)), (28, .raw (.int .i64 (a.length : Nat))), (29, .raw (.int .i64 (p.1.1 : Nat)))] [(0, true, ⟨45, 4, V.rats p.1.2⟩)] 1 60)
    (fun p => a.length - p.1.1) ⟨(0, List.replicate T 0), Nat.zero_le _, by simp, fun n hn => ?_⟩ (Wk.of [17] (by decide) ?_) ?_
  · rw [mp_zero, cf_lt (by simpa using hn)]
    simp
  · simp only [go_sem]
    rfl
  · rintro ⟨⟨i, out⟩, hi, hl', ho⟩
    simp only at hi hl' ho
    refine vc_at (tabsX mixed (tbl_cons whole_C (tbl_cons qMul_C (tbl_cons qAdd_C (tbl_cons trim_C tbl_nil)))) (xtb_cons repeat_C xtb_nil)) ?_
    by_cases hia : i < a.length
    · have d1 : (i : Int) < a.length := by omega
      have n1 : (i : Int) + 1 = ((i + 1 : Nat) : Int) := by omega
      simp only [go_sem, d1]
      refine ⟨by omega, hia, ?_⟩
      refine AWp.loops (X := { p : Nat × List Rat // p.1 ≤ b.length ∧ p.2.length = T ∧ ∀ n, n < T → cf p.2 n = mp a b i p.1 n })
        (fun p => mkSt [(0, .lst (V.rats a)), (1, .lst (V.rats b)), (4, .raw (.slice none 0 0)), (5, .sl 0 4 0 T), (6, .raw (.int .i64 (i : Nat))), (7, .ptr 1 4 0 0), (27, .lst (V.rats a)), (28, .raw (.int .i64 (a.length : Nat))), (29, .raw (.int .i64 (i : Nat))), (34, .lst (V.rats b)), (35, .raw (.int .i64 (b.length : Nat))), (36, .raw (.int .i64 (p.1.1 : Nat)))] [(0, true, ⟨45, 4, V.rats p.1.2⟩), (1, true, ⟨45, 4, [.Q (cf a i)]⟩)] 2 60)
        (fun p => b.length - p.1.1) ⟨(0, out), Nat.zero_le _, hl', ho⟩ (Wk.of [0, 5] (by decide) ?_) ?_
      · simp only [go_sem]
      · rintro ⟨⟨k', out⟩, hk, hl', ho⟩
        simp only at hk hl' ho
        refine vc_at (tabsX mixed (tbl_cons whole_C (tbl_cons qMul_C (tbl_cons qAdd_C (tbl_cons trim_C tbl_nil)))) (xtb_cons repeat_C xtb_nil)) ?_
        by_cases hkb : k' < b.length
        · have d2 : (k' : Int) < b.length := by omega
          have n2 : (k' : Int) + 1 = ((k' + 1 : Nat) : Int) := by omega
          have n3 : (i : Int) + (k' : Nat) = ((i + k' : Nat) : Int) := by omega
          simp only [go_sem, d2, n2, n3, hl']
          have q1 := ha i
          have q2 := hb k'
          have q3 : qs (cf out (i + k')) ≤ 5000000000000 := by rw [ho _ (by omega)]; exact Nat.le_trans (mp_qs ha hb hia) hs
          have q4 := qsM q1 q2
          have q5 : j + k ≤ 5000000000000 := by
            have : 1 * (j + k + 1) ≤ a.length * (j + k + 1) := Nat.mul_le_mul_right _ al
            omega
          refine ⟨by omega, hkb, by omega, by omega, by omega, by omega, by omega, by omega, by omega, by omega, by rfl, by omega, ⟨(k' + 1, out.set (i + k') (cf out (i + k') + cf a i * cf b k')), hkb, by rw [List.length_set]; exact hl', fun n hn => ?_⟩, Wk.of [0, 1] (by decide) ?_, by simp only; omega⟩
          · simp only [cf_set, mp_step]
            by_cases hn' : i + k' = n
            · rw [if_pos ⟨hn', by omega⟩, if_pos hn'.symm, ho _ (by omega), hn']
            · rw [if_neg fun h => hn' h.1, if_neg fun h => hn' h.symm, ho _ hn]
          · simp only [go_sem]
        · have d2 : ¬ (k' : Int) < b.length := by omega
          obtain rfl : k' = b.length := by omega
          simp only [go_sem, d2, n1]
          refine ⟨by omega, ⟨(i + 1, out), hia, hl', fun n hn => by rw [ho n hn, mp_row hia]⟩, Wk.of [0] (by decide) ?_, by simp only; omega⟩
          simp only [go_sem]
    · have d1 : ¬ (i : Int) < a.length := by omega
      obtain rfl : i = a.length := by omega
      have hle : T ≤ out.length := by omega
      have htk : List.take T out = out := List.take_of_length_le (by omega)
      have hR : tr out = pMul a b := tr_of_cf fun n => by
        by_cases hn : n < T
        · rw [ho n hn, mp_end]
        · rw [cf_ge (l := out) (by omega), cf_ge]
          rw [len_mulL a b b0, if_neg a0]; omega
      simp only [go_sem, d1, hle, htk, hR]
      omega
def kPMul : Con := con2 pR pR fun a b => (a.length + b.length ≤ 1000000 ∧ ∃ j k, (PB a j ∧ PB b k) ∧ a.length * (j + k + 1) + 1 ≤ 5000000000000, .lst (V.rats (pMul a b)))
attribute [go_sem ↓, go_sem] kPMul
theorem pMul_C : Ctr Tryz.prog 55 kPMul := Ctr.c2 (by kernel_rfl) fun a b h => by
  obtain ⟨hl, j, k, ⟨ha, hb⟩, hs⟩ := h
  show PCall _ _ _ (.lst (V.rats (pMul a b)))
  by_cases a0 : a = []
  · subst a0
    rw [pMul_nil_l]
    refine PCall.of_vc (tabs mixed tbl_nil) Tryz.func55 rfl Tryz.ntmps55 Tryz.results55 (by simp) ?_
    have c1 : ((0 : Int) == 0) = true := rfl
    simp only [go_sem, rats_nil.symm, c1]
  · by_cases b0 : b = []
    · subst b0
      rw [pMul_nil_r]
      have al := List.length_pos_iff.2 a0
      refine PCall.of_vc (tabs mixed tbl_nil) Tryz.func55 rfl Tryz.ntmps55 Tryz.results55 (by simp) ?_
      have c1 : ((a.length : Int) == 0) = false := beqF (by omega)
      simp only [go_sem, rats_nil.symm, c1]
    · exact mul_V a b j k a0 b0 hl ha hb hs
end Go.Proofs.YtfbogelmgdojgaaGreat


/- Contracts: division of polynomials. -/
namespace Go.Proofs.YtfbogelmgdojgaaGreat
set_option linter.unusedSimpArgs false
set_option linter.unusedVariables false
open Go.RowKit

def kLead : Con := con1 pR fun a => (a ≠ [] ∧ a.length ≤ 1000000, .Q (lead a))
attribute [go_sem ↓, go_sem] kLead
theorem lead_C : Ctr Tryz.prog 91 kLead := Ctr.c1 (by kernel_rfl) fun a h => by
  obtain ⟨h0, h1⟩ := h
  have hp := List.length_pos_iff.2 h0
  refine PCall.of_vc (tabs mixed tbl_nil) Tryz.func91 rfl Tryz.ntmps91 Tryz.results91 (by simp) ?_
  have e1 : (a.length : Int) - 1 = ((a.length - 1 : Nat) : Int) := by omega
  unfold lead
  simp only [go_sem, e1]
  exact ⟨by omega, by omega, by omega⟩
def kOver : Con := con2 pQ pQ fun a b => (b ≠ 0 ∧ qs a ≤ 5000000000000 ∧ qs b ≤ 5000000000000, .Q (a / b))
attribute [go_sem ↓, go_sem] kOver
theorem over_C : Ctr Tryz.prog 90 kOver := Ctr.c2 (by kernel_rfl) fun a b h => by
  obtain ⟨h0, h1, h2⟩ := h
  refine PCall.of_vc (tabs mixed (tbl_cons qDiv_C tbl_nil)) Tryz.func90 rfl Tryz.ntmps90 Tryz.results90 (by simp) ?_
  have r : divR a b = .tup [.Q (a / b), .raw (.int .i64 0)] := if_neg h0
  simp only [go_sem, r]
  exact ⟨h1, h2⟩
def kOne : Con := con0 (True, .Q 1)
attribute [go_sem ↓, go_sem] kOne
theorem one_C : Ctr Tryz.prog 88 kOne := Ctr.c0 (by kernel_rfl) fun _ => by
  refine PCall.of_vc (tabs mixed (tbl_cons whole_C tbl_nil)) Tryz.func88 rfl Tryz.ntmps88 Tryz.results88 (by simp) ?_
  simp only [go_sem]
  exact out_QQ rfl
/-- What DivMod returns. -/
def dmP (a b : List Rat) : V := if b = [] then .tup [.lst (V.rats []), .lst (V.rats []), .raw (.int .i64 3)] else .tup [.lst (V.rats (pDiv a b)), .lst (V.rats (pMod a b)), .raw (.int .i64 0)]
/-- The sizes within a division. -/
def DvOk (a b : List Rat) : Prop := (Can a ∧ Can b) ∧ a.length + b.length ≤ 1000000 ∧ ∃ s t, (PB a s ∧ PB b t) ∧ 2 ^ (a.length - b.length + 1) * (s + 2 * t + 1) ≤ 2500000000000
theorem zq_set (i : Nat) (c : Rat) (ql : List Rat) : (List.replicate (i + 1) z0 ++ V.rats ql).set i (.Q c) = List.replicate i z0 ++ V.rats (c :: ql) := by
  rw [List.set_append_left _ _ (by simp), List.replicate_succ', List.set_append_right _ _ (by simp)]
  simp [V.rats]
theorem zq_get (i : Nat) (c : Rat) (ql : List Rat) : (List.replicate i z0 ++ V.rats (c :: ql))[i]? = some (.Q c) := by
  rw [List.getElem?_append_right (by simp)]
  simp [V.rats]
theorem zq_at (i : Nat) (ql : List Rat) : (List.replicate (i + 1) z0 ++ V.rats ql)[i]? = some z0 := by
  rw [List.getElem?_append_left (by simp), List.getElem?_replicate, if_pos (by omega)]
theorem z0_w : z0.wid = 4 := rfl
theorem zq_pure (i : Nat) (ql : List Rat) : allPure (List.replicate i z0 ++ V.rats ql) := fun y hy => by
  rcases List.mem_append.1 hy with h | h
  · exact z0_pure i y h
  · exact of_eq_true (rats_pure ql) y h
set_option maxRecDepth 4000 in
theorem dm_V (a b : List Rat) (s t : Nat) (ca : Can a) (cb : Can b) (b0 : b ≠ []) (hab : b.length ≤ a.length) (hl : a.length + b.length ≤ 1000000) (ha : PB a s) (hb : PB b t) (hs : 2 ^ (a.length - b.length + 1) * (s + 2 * t + 1) ≤ 2500000000000) :
    PCall Tryz.prog 54 [.lst (V.rats a), .lst (V.rats b)] (.tup [.lst (V.rats (pDiv a b)), .lst (V.rats (pMod a b)), .raw (.int .i64 0)]) := by
  refine PCall.of_vc (tabsX mixed (tbl_cons over_C (tbl_cons lead_C (tbl_cons qMul_C (tbl_cons qSub_C (tbl_cons trim_C tbl_nil))))) (xtb_cons qclone_C xtb_nil)) Tryz.func54 rfl Tryz.ntmps54 Tryz.results54 (by simp) ?_
  have bl := List.length_pos_iff.2 b0
  have a0 : a ≠ [] := fun e => by rw [e, List.length_nil] at hab; omega
  have c1 : ((b.length : Int) == 0) = false := beqF (by omega)
  have c2 : ¬ (a.length : Int) < b.length := by omega
  obtain ⟨Q, hQ⟩ : ∃ Q, Q = a.length - b.length + 1 := ⟨_, rfl⟩
  have e1 : (a.length : Int) - b.length + 1 = (Q : Nat) := by omega
  rw [← hQ] at hs
  have lb := lead_ne cb b0
  have qlb : qs (lead b) ≤ t := hb _
  have t0 := hb.pos
  simp only [go_sem, c1, c2, e1, Int.toNat_natCast, a0]
  refine ⟨by omega, by omega, by omega, by omega, by omega, ?_⟩
  refine AWp.loops (X := { p : Nat × List Rat × List Rat // (p.1 ≤ Q ∧ p.2.1.length = a.length ∧ p.2.2.length = Q - p.1) ∧ (∀ x, ev (shl p.1 p.2.2) x * ev b x + ev p.2.1 x = ev a x) ∧ (∀ n, p.1 + b.length - 1 ≤ n → cf p.2.1 n = 0) ∧ ∃ z, PB p.2.1 z ∧ z + 2 * t + 1 ≤ 2 ^ (Q - p.1) * (s + 2 * t + 1) })
    (fun p => mkSt [(1, .lst (V.rats b)), (4, .raw (.slice none 0 0)), (5, .raw (.slice none 0 0)), (6, .raw (.int .i64 0)), (7, .sl 0 4 0 a.length), (8, .sl 1 4 0 Q), (9, .raw (.int .i64 ((p.1.1 : Nat) - 1)))] [(0, true, ⟨45, 4, V.rats p.1.2.1⟩), (1, true, ⟨45, 4, List.replicate p.1.1 z0 ++ V.rats p.1.2.2⟩)] 2 81)
    (fun p => p.1.1) ⟨(Q, a, []), ⟨Nat.le_refl _, rfl, by simp⟩, fun x => ?_, fun n hn => cf_ge (l := a) (by simp only at hn; omega), s, ha, by simp⟩ (Wk.of [12, 20] (by decide) ?_) ?_
  · have : ev (shl Q []) x = 0 := by
      rw [← ev_tr, show tr (shl Q []) = [] from tr_at (n := 0) (Nat.zero_le _) (fun i _ => by rw [cf_shl]; split <;> rfl) (fun e => absurd rfl e)]
      rfl
    simp only [this]; grind
  · simp only [go_sem]
    exact ⟨by rw [show V.rats [] = [] from rfl, List.append_nil]; rfl, zq_pure Q []⟩
  · rintro ⟨⟨i, r, ql⟩, ⟨hi, hrl, hql⟩, hev, htop, z, hz, hzs⟩
    simp only at hi hrl hql hev htop hz hzs
    refine vc_at (tabsX mixed (tbl_cons over_C (tbl_cons lead_C (tbl_cons qMul_C (tbl_cons qSub_C (tbl_cons trim_C tbl_nil))))) (xtb_cons qclone_C xtb_nil)) ?_
    have hpow : 2 ^ (Q - i) * (s + 2 * t + 1) ≤ 2 ^ Q * (s + 2 * t + 1) := Nat.mul_le_mul_right _ (Nat.pow_le_pow_right (by decide) (by omega))
    rcases i with _ | i
    · have d1 : ¬ (0 : Int) ≤ ((0 : Nat) : Int) - 1 := by decide
      have f1 : Q ≤ ql.length := by omega
      have f2 : ql.take Q = ql := List.take_of_length_le (by omega)
      have f3 : r.take a.length = r := List.take_of_length_le (by omega)
      obtain ⟨g1, g2⟩ := pdiv_end ca cb b0 hev fun n hn => htop n (by omega)
      rw [shl_zero] at g1
      simp only [go_sem, d1, f1, f2, f3, hrl, g1, g2]
      omega
    · have d1 : ((i + 1 : Nat) : Int) - 1 = (i : Nat) := by omega
      have d2 : 0 ≤ (i : Int) := by omega
      have d3 : (i : Int) + b.length - 1 = ((i + b.length - 1 : Nat) : Int) := by omega
      have hp2 : 2 ^ (Q - (i + 1)) * (s + 2 * t + 1) * 2 = 2 ^ (Q - i) * (s + 2 * t + 1) := by
        rw [show Q - i = Q - (i + 1) + 1 from by omega, Nat.pow_succ]
        rw [Nat.mul_right_comm]
      have hp3 : 2 ^ (Q - i) * (s + 2 * t + 1) ≤ 2 ^ Q * (s + 2 * t + 1) := Nat.mul_le_mul_right _ (Nat.pow_le_pow_right (by decide) (by omega))
      have hz1 := hz (i + b.length - 1)
      simp only [go_sem, d1, d2, d3, zq_at, z0_w, zq_set, b0]
      refine ⟨by omega, by omega, by omega, by omega, by omega, ⟨lb, by omega, by omega⟩, by omega, by rfl, ?_⟩
      obtain ⟨c, hc⟩ : ∃ c, cf r (i + b.length - 1) / lead b = c := ⟨_, rfl⟩
      have qc : qs c ≤ z + t := by rw [← hc]; exact qsD hz1 qlb
      rw [hc]
      refine AWp.loops (X := { p : Nat × List Rat // p.1 ≤ b.length ∧ p.2.length = a.length ∧ ∀ n, cf p.2 n = cf r n - (if i ≤ n ∧ n < i + p.1 then c * cf b (n - i) else 0) })
        (fun p => mkSt [(1, .lst (V.rats b)), (4, .raw (.slice none 0 0)), (5, .raw (.slice none 0 0)), (6, .raw (.int .i64 0)), (7, .sl 0 4 0 a.length), (8, .sl 1 4 0 Q), (9, .raw (.int .i64 (i : Nat))), (51, .lst (V.rats b)), (52, .raw (.int .i64 (b.length : Nat))), (53, .raw (.int .i64 (p.1.1 : Nat)))] [(0, true, ⟨45, 4, V.rats p.1.2⟩), (1, true, ⟨45, 4, List.replicate i z0 ++ V.rats (c :: ql)⟩)] 2 81)
        (fun p => b.length - p.1.1) ⟨(0, r), Nat.zero_le _, hrl, fun n => by rw [if_neg (by simp only; omega)]; grind⟩ (Wk.of [0, 1] (by decide) ?_) ?_
      · simp only [go_sem]
        exact zq_pure i (c :: ql)
      · rintro ⟨⟨k, r'⟩, hk, hl', hr'⟩
        simp only at hk hl' hr'
        refine vc_at (tabsX mixed (tbl_cons over_C (tbl_cons lead_C (tbl_cons qMul_C (tbl_cons qSub_C (tbl_cons trim_C tbl_nil))))) (xtb_cons qclone_C xtb_nil)) ?_
        have hPB : PB r' (2 * z + 2 * t + 1) := fun n => by
          rw [hr']
          split
          · exact Nat.le_trans (qsS (hz n) (qsM qc (hb _))) (by omega)
          · exact Nat.le_trans (qsS (hz n) qs_0) (by omega)
        by_cases hkb : k < b.length
        · have g1 : (k : Int) < b.length := by omega
          have g2 : (k : Int) + 1 = ((k + 1 : Nat) : Int) := by omega
          have g3 : (i : Int) + (k : Nat) = ((i + k : Nat) : Int) := by omega
          have g4 := hPB (i + k)
          have g5 := hb k
          have g6 := qsM qc g5
          simp only [go_sem, g1, g2, g3, zq_get, hl']
          refine ⟨by omega, hkb, by omega, by omega, by omega, by omega, by omega, by omega, by omega, by omega, by omega, by rfl, by omega, ⟨(k + 1, r'.set (i + k) (cf r' (i + k) - c * cf b k)), hkb, by rw [List.length_set]; exact hl', fun n => ?_⟩, Wk.of [0, 1] (by decide) ?_, by simp only; omega⟩
          · simp only [cf_set]
            by_cases hn : i + k = n
            · subst hn
              rw [if_pos ⟨rfl, by omega⟩, hr', if_neg (by omega), if_pos (by omega), show i + k - i = k from by omega]; grind
            · rw [if_neg fun h => hn h.1, hr']
              by_cases h1 : i ≤ n ∧ n < i + k
              · rw [if_pos h1, if_pos (by omega)]
              · rw [if_neg h1, if_neg (by omega)]
          · simp only [go_sem]
            exact zq_pure i (c :: ql)
        · have g1 : ¬ (k : Int) < b.length := by omega
          obtain rfl : k = b.length := by omega
          have hr2 : ∀ n, cf r' n = cf r n - (if i ≤ n then c * cf b (n - i) else 0) := fun n => by
            rw [hr']
            by_cases h1 : i ≤ n
            · by_cases h2 : n < i + b.length
              · rw [if_pos ⟨h1, h2⟩, if_pos h1]
              · rw [if_neg (by omega), if_pos h1, cf_ge (l := b) (by omega)]; grind
            · rw [if_neg (by omega), if_neg h1]
          simp only [go_sem, g1]
          refine ⟨by omega, ⟨(i, r', c :: ql), ⟨by simp only; omega, hl', by simp only [List.length_cons]; omega⟩, pdiv_step hev hr2, pdiv_top cb b0 (fun n hn => htop n (by omega)) (by rw [hc]; exact hr2), 2 * z + 2 * t + 1, hPB, by simp only; omega⟩, Wk.of [0, 1] (by decide) ?_, by simp only; omega⟩
          simp only [go_sem]
          exact zq_pure i (c :: ql)
def kDM : Con := con2 pR pR fun a b => (DvOk a b, dmP a b)
attribute [go_sem ↓, go_sem] kDM
theorem pDM_C : Ctr Tryz.prog 54 kDM := Ctr.c2 (by kernel_rfl) fun a b h => by
  obtain ⟨⟨ca, cb⟩, hl, s, t, ⟨ha, hb⟩, hs⟩ := h
  show PCall _ _ _ (dmP a b)
  unfold dmP
  by_cases b0 : b = []
  · subst b0
    rw [if_pos rfl]
    refine PCall.of_vc (tabs mixed tbl_nil) Tryz.func54 rfl Tryz.ntmps54 Tryz.results54 (by simp) ?_
    have c1 : ((0 : Int) == 0) = true := rfl
    simp only [go_sem, rats_nil.symm, c1]
  · rw [if_neg b0]
    have bl := List.length_pos_iff.2 b0
    by_cases hab : a.length < b.length
    · obtain ⟨g1, g2⟩ := dm_small ca cb hab
      rw [g1, g2]
      refine PCall.of_vc (tabs mixed tbl_nil) Tryz.func54 rfl Tryz.ntmps54 Tryz.results54 (by simp) ?_
      have c1 : ((b.length : Int) == 0) = false := beqF (by omega)
      have c2 : (a.length : Int) < b.length := by omega
      simp only [go_sem, rats_nil.symm, c1, c2]
    · exact dm_V a b s t ca cb b0 (by omega) hl ha hb hs
end Go.Proofs.YtfbogelmgdojgaaGreat


/- Contracts: greatest common divisors. -/
namespace Go.Proofs.YtfbogelmgdojgaaGreat
set_option linter.unusedSimpArgs false
set_option linter.unusedVariables false
open Go.RowKit

def kMonic : Con := con1 pR fun a => (Can a ∧ a.length ≤ 1000000 ∧ ∃ s, PB a s ∧ s ≤ 2500000000000, .lst (V.rats (pMonic a)))
attribute [go_sem ↓, go_sem] kMonic
theorem qs_inv1 (x : Rat) {k : Nat} (h : qs x ≤ k) : qs (1 / x) ≤ 1 + k := qsD qs_1 h
theorem pMonic_C : Ctr Tryz.prog 61 kMonic := Ctr.c1 (by kernel_rfl) fun a h => by
  obtain ⟨ca, hl, s, ha, hs⟩ := h
  show PCall _ _ _ (.lst (V.rats (pMonic a)))
  by_cases a0 : a = []
  · subst a0
    rw [pMonic_nil]
    refine PCall.of_vc (tabs mixed tbl_nil) Tryz.func61 rfl Tryz.ntmps61 Tryz.results61 (by simp) ?_
    have c1 : ((0 : Int) == 0) = true := rfl
    simp only [go_sem, rats_nil.symm, c1]
  · have al := List.length_pos_iff.2 a0
    have e : pMonic a = pSc (1 / lead a) a := if_neg a0
    rw [e]
    refine PCall.of_vc (tabs mixed (tbl_cons one_C (tbl_cons lead_C (tbl_cons over_C (tbl_cons pSc_C tbl_nil))))) Tryz.func61 rfl Tryz.ntmps61 Tryz.results61 (by simp) ?_
    have c1 : ((a.length : Int) == 0) = false := beqF (by omega)
    have l0 := lead_ne ca a0
    have l1 : qs (lead a) ≤ s := ha _
    have l2 := qs_inv1 _ l1
    have l3 := qs_1
    simp only [go_sem, c1, a0, l0]
    exact ⟨hl, by omega, hl, ha.mono (by omega), by omega⟩
/-- The sizes within Euclid's algorithm. -/
def GcOk : Nat → List Rat → List Rat → Prop
  | 0, _, _ => False
  | n + 1, a, b => DvOk a b ∧ (if b = [] then ∃ s, PB a s ∧ s ≤ 2500000000000 else GcOk n b (pMod a b))
def kPGcd : Con := con2 pR pR fun a b => (∃ n, GcOk n a b, .lst (V.rats (pGcd a b)))
attribute [go_sem ↓, go_sem] kPGcd
theorem pGcd_C : Ctr Tryz.prog 73 kPGcd := Ctr.c2 (by kernel_rfl) fun a b h => by
  obtain ⟨n, hn⟩ := h
  show PCall _ _ _ (.lst (V.rats (pGcd a b)))
  refine PCall.of_vc (tabs mixed (tbl_cons pDM_C (tbl_cons pMonic_C tbl_nil))) Tryz.func73 rfl Tryz.ntmps73 Tryz.results73 (by simp) ?_
  simp only [go_sem]
  refine AWp.loops (X := { p : Nat × List Rat × List Rat // GcOk p.1 p.2.1 p.2.2 ∧ pGcd p.2.1 p.2.2 = pGcd a b })
    (fun p => mkSt [(0, .lst (V.rats p.1.2.1)), (1, .lst (V.rats p.1.2.2)), (4, .raw (.slice none 0 0))] [] 0 22)
    (fun p => p.1.1) ⟨(n, a, b), hn, rfl⟩ (Wk.of [] (by decide) ?_) ?_
  · simp only [go_sem]
  · rintro ⟨⟨m, x, y⟩, hm, he⟩
    simp only at hm he
    refine vc_at (tabs mixed (tbl_cons pDM_C (tbl_cons pMonic_C tbl_nil))) ?_
    rcases m with _ | m
    · exact hm.elim
    · obtain ⟨hd, hm⟩ := hm
      by_cases y0 : y = []
      · subst y0
        rw [if_pos rfl] at hm
        obtain ⟨s, h1, h2⟩ := hm
        have c1 : ¬ (0 : Int) < ((0 : Nat) : Int) := by decide
        have e1 : pMonic x = pGcd a b := by rw [← he]; rfl
        simp only [go_sem, c1, List.length_nil, e1]
        exact ⟨hd.1.1, by have := hd.2.1; omega, s, h1, h2⟩
      · rw [if_neg y0] at hm
        have yl := List.length_pos_iff.2 y0
        have c1 : 0 < (y.length : Int) := by omega
        have r1 : dmP x y = .tup [.lst (V.rats (pDiv x y)), .lst (V.rats (pMod x y)), .raw (.int .i64 0)] := if_neg y0
        simp only [go_sem, c1, r1]
        refine ⟨hd, ⟨(m, y, pMod x y), hm, ?_⟩, Wk.of [] (by decide) ?_, Nat.lt_succ_self m⟩
        · simp only
          rw [← he]
          unfold pGcd
          rw [pG_step hd.1.1 hd.1.2 y0]
        · simp only [go_sem]
def kExact : Con := con2 pR pR fun a b => (DvOk a b ∧ b ≠ [], .lst (V.rats (pDiv a b)))
attribute [go_sem ↓, go_sem] kExact
theorem exact_C : Ctr Tryz.prog 106 kExact := Ctr.c2 (by kernel_rfl) fun a b h => by
  obtain ⟨hd, b0⟩ := h
  refine PCall.of_vc (tabs mixed (tbl_cons pDM_C tbl_nil)) Tryz.func106 rfl Tryz.ntmps106 Tryz.results106 (by simp) ?_
  have r1 : dmP a b = .tup [.lst (V.rats (pDiv a b)), .lst (V.rats (pMod a b)), .raw (.int .i64 0)] := if_neg b0
  simp only [go_sem, r1]
  exact hd
theorem qs_powN {x : Rat} {j : Nat} (h : qs x ≤ j) (n : Nat) : qs (x ^ n) ≤ n * j + 1 := by
  induction n with
  | zero => rw [Rat.pow_zero]; exact Nat.le_trans qs_1 (by omega)
  | succ n ih =>
    rw [Rat.pow_succ]
    refine Nat.le_trans (qsM ih h) ?_
    rw [Nat.add_mul, Nat.one_mul]; omega
def kPower : Con := con2 pQ (pN .i64) fun c n => (0 ≤ n ∧ n ≤ 1000000 ∧ n.toNat * qs c + 1 ≤ 2500000000000 ∧ qs c ≤ 2500000000000, .Q (c ^ n.toNat))
attribute [go_sem ↓, go_sem] kPower
theorem power_C : Ctr Tryz.prog 102 kPower := Ctr.c2 (by kernel_rfl) fun c n h => by
  obtain ⟨h0, h1, h2, h3⟩ := h
  obtain ⟨N, rfl⟩ : ∃ N : Nat, n = N := ⟨n.toNat, by omega⟩
  rw [Int.toNat_natCast] at h2
  show PCall _ _ _ (.Q (c ^ N))
  refine PCall.of_vc (tabs mixed (tbl_cons one_C (tbl_cons qMul_C tbl_nil))) Tryz.func102 rfl Tryz.ntmps102 Tryz.results102 (by simp) ?_
  simp only [go_sem]
  refine AWp.loops (X := { k : Nat // k ≤ N })
    (fun k => mkSt [(2, .ptr 0 4 0 0), (4, .ptr 1 4 0 0), (5, .ptr 2 4 0 0), (7, .raw (.int .i64 (N : Nat))), (8, .raw (.int .i64 (k.1 : Nat)))] [(0, true, ⟨45, 4, [.Q c]⟩), (1, true, ⟨45, 4, [.agg [.raw (.bool false), .raw (.slice none 0 0), .raw (.bool false), .raw (.slice none 0 0)]]⟩), (2, true, ⟨45, 4, [.Q (c ^ k.1)]⟩)] 3 15)
    (fun k => N - k.1) ⟨0, Nat.zero_le _⟩ (Wk.of [0, 1, 3] (by decide) ?_) ?_
  · simp only [go_sem, Rat.pow_zero]
  · rintro ⟨k, hk⟩
    refine vc_at (tabs mixed (tbl_cons one_C (tbl_cons qMul_C tbl_nil))) ?_
    by_cases hkN : k < N
    · have c1 : (k : Int) < (N : Nat) := by omega
      have n1 : (k : Int) + 1 = ((k + 1 : Nat) : Int) := by omega
      have e1 := (Rat.pow_succ c k).symm
      have q1 := qs_powN (Nat.le_refl (qs c)) k
      have q2 : k * qs c ≤ N * qs c := Nat.mul_le_mul_right _ hk
      simp only [go_sem, c1, n1, e1]
      refine ⟨by omega, by omega, ⟨k + 1, hkN⟩, Wk.of [0, 1, 2] (by decide) ?_, by simp only; omega⟩
      simp only [go_sem]
    · have c1 : ¬ (k : Int) < (N : Nat) := by omega
      obtain rfl : k = N := by omega
      simp only [go_sem, c1]
end Go.Proofs.YtfbogelmgdojgaaGreat

