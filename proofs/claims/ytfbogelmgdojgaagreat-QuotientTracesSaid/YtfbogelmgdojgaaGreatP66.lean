/- Texts A32 H6 H7 in one. -/
import Derived.Test.YtfbogelmgdojgaaGreatP44
import Derived.Test.YtfbogelmgdojgaaGreatP64
/- A slot's row is let go: it becomes a plain value. No program in sight. -/
namespace Go.Proofs.YtfbogelmgdojgaaGreat
set_option linter.unusedSimpArgs false
set_option linter.unusedVariables false
open Go.RowKit

@[go_sem] theorem drops_nil (H : Hp) : H.drops [] = H := by funext j; simp [Hp.drops]
@[go_sem] theorem drops_cons (H : Hp) (k : Nat) (l : List Nat) : H.drops (k :: l) = (H.up k none).drops l := by
  funext j
  unfold Hp.drops Hp.up
  by_cases h : j ∈ l
  · simp [h]
  · by_cases e : j = k
    · simp [e]
    · simp [h, e]
theorem AWp.frzS (t : Nat) {P : Program} {c : Code} {Q : Exit → St → Prop} {σ : St} (h : argsP σ.H [σ.s t] fun ys ids => optC ys[0]? fun y => AWp P c Q { σ with s := upS σ.s t y, H := σ.H.drops ids }) : AWp P c Q σ := by
  intro B A W st a w ρ hs r _
  have hv := hs.slots t
  obtain ⟨ys, ids, h1, h2, h3⟩ := argsP_ok hs.heap (hs.hfar st) [σ.s t] [a.tmps.getD t undef] _ rfl (fun j x v hj hv' => by
    cases j with
    | zero =>
      have e1 := Option.some.inj (show some (σ.s t) = some x from hj)
      have e2 := Option.some.inj (show some (a.tmps.getD t undef) = some v from hv')
      rw [← e1, ← e2]; exact hv
    | succ j => simp at hj) h
  match ys, h2 with
  | [y], _ =>
    have hy := h3 ids (fun _ h => h) 0 y _ rfl rfl
    obtain ⟨hD, _⟩ := hs.heap.drops ids
    have hx := drops_ext (w := w) (B := B) (ρ := ρ) σ.H ids
    have live : ∀ i q, (σ.H.drops ids) i = some q → σ.H i = some q := fun i q hi => by
      unfold Hp.drops at hi
      split at hi
      · cases hi
      · exact hi
    refine h1 B A W st a w ρ ⟨hs.defers, hs.size, fun u => ?_, hD, hs.fresh, fun i q b h4 h5 => hs.mine i q b (live i q h4) h5, hs.os, hs.tape, hs.output, hs.grow, hs.same, hs.row, hs.pins, hs.marks⟩
    show RepV w (own B ρ (σ.H.drops ids)) ρ (upS σ.s t y u) _
    unfold upS
    split
    · rename_i e
      subst e
      have hy' := hy.mono ((Ext.refl w (own B ρ (σ.H.drops ids)) (fun _ => none)).into ρ)
      exact RepV.of_W hy' hy'.notTup
    · exact (hs.slots u).mono hx
end Go.Proofs.YtfbogelmgdojgaaGreat

/- Contracts: the reference of package poly, lists that are computed value by value. -/
namespace Go.Proofs.YtfbogelmgdojgaaGreat
set_option linter.unusedSimpArgs false
set_option linter.unusedVariables false
open Go.RowKit

theorem lt0 (n : Nat) : ¬ ((n : Nat) : Int) < 0 := by omega
theorem rAdd_C : Ctr Tryz.prog 31 kPAdd := Ctr.c2 (by kernel_rfl) fun a b h => by
  obtain ⟨⟨la, lb⟩, ha, hb⟩ := h
  show PCall _ _ _ (.lst (V.rats (pAdd a b)))
  rw [← add_list]
  show PCall _ _ _ (.lst (V.rats (tr (rg (fun i => cf a i + cf b i) (max a.length b.length)))))
  obtain ⟨F, hF⟩ : ∃ F : Nat → Rat, F = fun i => cf a i + cf b i := ⟨_, rfl⟩
  rw [← hF]
  have mx : maxLen = 9223372036854775807 := by decide
  refine PCall.of_vc (tabs mixed (tbl_cons rTrim_C (tbl_cons rAt_C (tbl_cons r2Add_C tbl_nil)))) Tryz.func31 rfl Tryz.ntmps31 Tryz.results31 (by simp) ?_
  simp only [go_sem]
  refine AWp.loops (X := { i : Nat // i ≤ max a.length b.length }) (fun i => mkSt [(0, .lst (V.rats a)), (1, .lst (V.rats b)), (4, .raw (.slice none 0 0)), (5, .sl 0 4 0 i.1), (6, .raw (.int .i64 (i.1 : Nat)))] [(0, true, ⟨45, 4, V.rats (rg F i.1)⟩)] 1 29) (fun i => max a.length b.length - i.1) ⟨0, Nat.zero_le _⟩ (Wk.of [1] (by decide) ?_) ?_
  · simp only [go_sem, rg_0, rats_0, Int.natCast_zero]
  · rintro ⟨i, hi⟩
    refine vc_at (tabs mixed (tbl_cons rTrim_C (tbl_cons rAt_C (tbl_cons r2Add_C tbl_nil)))) ?_
    have c3 : (i : Int) + 1 = ((i + 1 : Nat) : Int) := by omega
    have c4 := lt0 i
    have m1 : (if (a.length : Int) < (b.length : Int) then (b.length : Int) else (a.length : Int)) = ((max a.length b.length : Nat) : Int) := by split <;> omega
    have f1 : cf a i + cf b i = F i := by rw [hF]
    have q1 := ha i
    have q2 := hb i
    by_cases hin : i < max a.length b.length
    · have c1 : (i : Int) < ((max a.length b.length : Nat) : Int) := by omega
      simp only [go_sem, m1, c1, c3, c4, f1, rg_snoc, mx, Int.toNat_natCast, q1, q2]
      refine ⟨⟨by omega, by omega⟩, ⟨by omega, by omega⟩, ⟨i + 1, hin⟩, Wk.of [17] (by decide) ?_, by simp only; omega⟩
      simp only [go_sem]
    · obtain rfl : i = max a.length b.length := by omega
      have c1 : ¬ ((max a.length b.length : Nat) : Int) < ((max a.length b.length : Nat) : Int) := by omega
      simp only [go_sem, m1, c1]
      omega
theorem rSc_C : Ctr Tryz.prog 40 kPSc := Ctr.c2 (by kernel_rfl) fun a c h => by
  obtain ⟨la, ha, hc⟩ := h
  show PCall _ _ _ (.lst (V.rats (pSc c a)))
  rw [← sc_list]
  show PCall _ _ _ (.lst (V.rats (tr (rg (fun i => cf a i * c) a.length))))
  obtain ⟨F, hF⟩ : ∃ F : Nat → Rat, F = fun i => cf a i * c := ⟨_, rfl⟩
  rw [← hF]
  have mx : maxLen = 9223372036854775807 := by decide
  refine PCall.of_vc (tabs mixed (tbl_cons rTrim_C (tbl_cons r2Mul_C tbl_nil))) Tryz.func40 rfl Tryz.ntmps40 Tryz.results40 (by simp) ?_
  simp only [go_sem]
  refine AWp.loops (X := { i : Nat // i ≤ a.length }) (fun i => mkSt [(0, .lst (V.rats a)), (3, .ptr 0 4 0 0), (4, .raw (.slice none 0 0)), (5, .sl 1 4 0 i.1), (6, .raw (.int .i64 (i.1 : Nat)))] [(0, false, ⟨45, 4, [.Q c]⟩), (1, true, ⟨45, 4, V.rats (rg F i.1)⟩)] 2 25) (fun i => a.length - i.1) ⟨0, Nat.zero_le _⟩ (Wk.of [0, 2] (by decide) ?_) ?_
  · simp only [go_sem, rg_0, rats_0, Int.natCast_zero]
    exact renV_pure rfl
  · rintro ⟨i, hi⟩
    refine vc_at (tabs mixed (tbl_cons rTrim_C (tbl_cons r2Mul_C tbl_nil))) ?_
    have c3 : (i : Int) + 1 = ((i + 1 : Nat) : Int) := by omega
    have f1 : cf a i * c = F i := by rw [hF]
    have q1 := ha i
    by_cases hin : i < a.length
    · have c1 : (i : Int) < (a.length : Int) := by omega
      simp only [go_sem, c1, c3, f1, rg_snoc, mx, q1, hc]
      refine ⟨by omega, hin, ⟨by omega, by omega⟩, by rfl, ⟨by omega, by omega⟩, ⟨i + 1, hin⟩, Wk.of [0, 14] (by decide) ?_, by simp only; omega⟩
      simp only [go_sem]
      exact renV_pure rfl
    · obtain rfl : i = a.length := by omega
      have c1 : ¬ (a.length : Int) < (a.length : Int) := by omega
      simp only [go_sem, c1]
      omega
theorem rDiff_C : Ctr Tryz.prog 47 kPDiff := Ctr.c1 (by kernel_rfl) fun a h => by
  obtain ⟨la, ha⟩ := h
  show PCall _ _ _ (.lst (V.rats (pDiff a)))
  rw [← diff_list]
  show PCall _ _ _ (.lst (V.rats (tr (rg (fun i => cf a (i + 1) * (((i + 1 : Nat) : Int) : Rat)) (a.length - 1)))))
  obtain ⟨F, hF⟩ : ∃ F : Nat → Rat, F = fun i => cf a (i + 1) * (((i + 1 : Nat) : Int) : Rat) := ⟨_, rfl⟩
  rw [← hF]
  have mx : maxLen = 9223372036854775807 := by decide
  refine PCall.of_vc (tabs mixed (tbl_cons rTrim_C (tbl_cons r2Whole_C (tbl_cons r2Mul_C tbl_nil)))) Tryz.func47 rfl Tryz.ntmps47 Tryz.results47 (by simp) ?_
  simp only [go_sem]
  refine AWp.loops (X := { i : Nat // i ≤ a.length - 1 }) (fun i => mkSt [(0, .lst (V.rats a)), (2, .raw (.slice none 0 0)), (3, .sl 0 4 0 i.1), (4, .raw (.int .i64 ((i.1 + 1 : Nat) : Int)))] [(0, true, ⟨45, 4, V.rats (rg F i.1)⟩)] 1 24) (fun i => a.length - i.1) ⟨0, Nat.zero_le _⟩ (Wk.of [1] (by decide) ?_) ?_
  · simp only [go_sem, rg_0, rats_0, Int.natCast_zero, Nat.zero_add]
  · rintro ⟨i, hi⟩
    refine vc_at (tabs mixed (tbl_cons rTrim_C (tbl_cons r2Whole_C (tbl_cons r2Mul_C tbl_nil)))) ?_
    have c3 : ((i + 1 : Nat) : Int) + 1 = ((i + 1 + 1 : Nat) : Int) := by omega
    have f1 : cf a (i + 1) * (((i + 1 : Nat) : Int) : Rat) = F i := by rw [hF]
    have q1 := ha (i + 1)
    have q2 : i + 1 < a.length → qs (((i + 1 : Nat) : Int) : Rat) ≤ 10000000000 := fun h => Nat.le_trans (qs_nat (z := i + 1) (by omega)) (by decide)
    by_cases hin : i + 1 < a.length
    · have c1 : ((i + 1 : Nat) : Int) < (a.length : Int) := by omega
      have q2 := q2 hin
      simp only [go_sem, c1, c3, f1, rg_snoc, mx, q1, q2]
      refine ⟨by omega, hin, ⟨by omega, by omega⟩, ⟨by omega, by omega⟩, by rfl, ⟨by omega, by omega⟩, ⟨i + 1, by omega⟩, Wk.of [14] (by decide) ?_, by simp only; omega⟩
      simp only [go_sem]
    · obtain rfl : i = a.length - 1 := by omega
      have c1 : ¬ ((a.length - 1 + 1 : Nat) : Int) < (a.length : Int) := by omega
      simp only [go_sem, c1]
      omega
end Go.Proofs.YtfbogelmgdojgaaGreat

/- Contracts: the reference of package poly, single values and small functions. -/
namespace Go.Proofs.YtfbogelmgdojgaaGreat
set_option linter.unusedSimpArgs false
set_option linter.unusedVariables false
open Go.RowKit

def kPRNeg : Con := con1 pR fun a => (a.length ≤ 1000000 ∧ PB a 10000000000, .lst (V.rats (pSc ((-1 : Int) : Rat) a)))
attribute [go_sem ↓, go_sem] kPRNeg
theorem qm1 : qs ((-1 : Int) : Rat) ≤ 1 := smq_ok (by decide +kernel) (Nat.le_refl _)
theorem rPNeg_C : Ctr Tryz.prog 109 kPRNeg := Ctr.c1 (by kernel_rfl) fun a h => by
  obtain ⟨la, ha⟩ := h
  show PCall _ _ _ (.lst (V.rats (pSc ((-1 : Int) : Rat) a)))
  refine PCall.of_vc (tabs mixed (tbl_cons r2Whole_C (tbl_cons rSc_C tbl_nil))) Tryz.func109 rfl Tryz.ntmps109 Tryz.results109 (by simp) ?_
  have q1 : qs ((-1 : Int) : Rat) ≤ 10000000000 := Nat.le_trans qm1 (by decide)
  simp only [go_sem, la, ha, q1]
theorem PB_neg {a : List Rat} {k : Nat} (h : PB a k) : PB (pSc ((-1 : Int) : Rat) a) k := fun i => by
  rw [cf_pSc]
  have e : ((-1 : Int) : Rat) * cf a i = -cf a i := by
    have : ((-1 : Int) : Rat) = -1 := by decide +kernel
    rw [this]; grind
  rw [e, qs_neg]
  exact h i
theorem rSub_C : Ctr Tryz.prog 70 kPSub := Ctr.c2 (by kernel_rfl) fun a b h => by
  obtain ⟨⟨la, lb⟩, ha, hb⟩ := h
  show PCall _ _ _ (.lst (V.rats (pSub a b)))
  have e : pAdd a (pSc ((-1 : Int) : Rat) b) = pSub a b := ev_inj (can_pAdd _ _) (can_pSub _ _) fun x => by
    have : ((-1 : Int) : Rat) = -1 := by decide +kernel
    rw [ev_pAdd, ev_pSub, ev_pSc, this]; grind
  have h1 := PB_neg hb
  have h2 : (pSc ((-1 : Int) : Rat) b).length ≤ 1000000 := Nat.le_trans (len_pSc _ _) lb
  refine PCall.of_vc (tabs mixed (tbl_cons rPNeg_C (tbl_cons rAdd_C tbl_nil))) Tryz.func70 rfl Tryz.ntmps70 Tryz.results70 (by simp) ?_
  simp only [go_sem, la, lb, ha, hb, h1, h2, e]
def kRLead : Con := con1 pR fun a => (a.length ≤ 1000000, .Q (lead a))
attribute [go_sem ↓, go_sem] kRLead
theorem rLead_C : Ctr Tryz.prog 86 kRLead := Ctr.c1 (by kernel_rfl) fun a la => by
  show PCall _ _ _ (.Q (lead a))
  have la : a.length ≤ 1000000 := la
  refine PCall.of_vc (tabs mixed (tbl_cons rAt_C tbl_nil)) Tryz.func86 rfl Tryz.ntmps86 Tryz.results86 (by simp) ?_
  have e : (if (a.length : Int) - 1 < 0 then (0 : Rat) else cf a ((a.length : Int) - 1).toNat) = lead a := by
    unfold lead
    split
    · rw [cf_ge (by omega)]
    · rw [show ((a.length : Int) - 1).toNat = a.length - 1 from by omega]
  simp only [go_sem, e]
  exact ⟨by omega, by omega⟩
def kRInv : Con := con1 pQ fun c => (qs c ≤ 10000000000, .Q (1 / c))
attribute [go_sem ↓, go_sem] kRInv
theorem rInv_C : Ctr Tryz.prog 85 kRInv := Ctr.c1 (by kernel_rfl) fun c hc => by
  have hc : qs c ≤ 10000000000 := hc
  show PCall _ _ _ (.Q (1 / c))
  have q1 : qs 1 ≤ 10000000000 := Nat.le_trans qs_1 (by decide)
  refine PCall.of_vc (tabs mixed (tbl_cons rOne_C (tbl_cons r2Div_C (tbl_cons r2Sign_C (tbl_cons rZero_C tbl_nil))))) Tryz.func85 rfl Tryz.ntmps85 Tryz.results85 (by simp) ?_
  by_cases c0 : c = 0
  · have e1 : divR 1 c = .tup [.agg [.I 0, .I 0], .raw (.int .i64 3)] := if_pos c0
    have e2 : (sgI c.num == 0) = true := by rw [sgn_numQ]; exact decide_eq_true c0
    have e3 : 1 / c = 0 := by rw [c0]; decide +kernel
    simp only [go_sem, e1, e2, e3, hc, q1]
    rfl
  · have e1 : divR 1 c = .tup [.Q (1 / c), .raw (.int .i64 0)] := if_neg c0
    have e2 : (sgI c.num == 0) = false := by rw [sgn_numQ]; exact decide_eq_false c0
    simp only [go_sem, e1, e2, hc, q1]
    rfl
theorem rMonic_C : Ctr Tryz.prog 46 kMonic := Ctr.c1 (by kernel_rfl) fun a h => by
  obtain ⟨ca, la, s, pa, hs⟩ := h
  show PCall _ _ _ (.lst (V.rats (pMonic a)))
  have e : pSc (1 / lead a) a = pMonic a := by
    by_cases a0 : a = []
    · subst a0; rfl
    · exact (if_neg a0).symm
  have l1 : qs (lead a) ≤ s := pa _
  have l2 := qs_inv1 _ l1
  have l3 : qs (lead a) ≤ 10000000000 := by omega
  have l4 : qs (1 / lead a) ≤ 10000000000 := by omega
  have l5 : PB a 10000000000 := pa.mono (by omega)
  refine PCall.of_vc (tabs mixed (tbl_cons rLead_C (tbl_cons rInv_C (tbl_cons rSc_C tbl_nil)))) Tryz.func46 rfl Tryz.ntmps46 Tryz.results46 (by simp) ?_
  simp only [go_sem, la, l3, l4, l5, e]
def kRPower : Con := con2 pQ (pN .i64) fun c n => (0 ≤ n ∧ n ≤ 1000000, .lst (V.rats (tr (mon c n.toNat))))
attribute [go_sem ↓, go_sem] kRPower
theorem rg_zeros (n : Nat) (c : Rat) : rg (fun _ => 0) n ++ [c] = mon c n := by
  unfold rg mon
  congr 1
  induction n with
  | zero => rfl
  | succ n ih => rw [List.range_succ, List.map_append, ih, List.replicate_succ']; rfl
theorem rPower_C : Ctr Tryz.prog 41 kRPower := Ctr.c2 (by kernel_rfl) fun c z h => by
  obtain ⟨h1, h2⟩ := h
  obtain ⟨n, rfl⟩ : ∃ n : Nat, z = n := ⟨z.toNat, by omega⟩
  show PCall _ _ _ (.lst (V.rats (tr (mon c (n : Int).toNat))))
  rw [Int.toNat_natCast]
  have mx : maxLen = 9223372036854775807 := by decide
  refine PCall.of_vc (tabs mixed (tbl_cons rTrim_C (tbl_cons rZero_C tbl_nil))) Tryz.func41 rfl Tryz.ntmps41 Tryz.results41 (by simp) ?_
  simp only [go_sem]
  refine AWp.loops (X := { i : Nat // i ≤ n }) (fun i => mkSt [(1, .raw (.int .i64 (n : Nat))), (2, .ptr 0 4 0 0), (4, .raw (.slice none 0 0)), (5, .sl 1 4 0 i.1), (6, .raw (.int .i64 (i.1 : Nat)))] [(0, false, ⟨45, 4, [.Q c]⟩), (1, true, ⟨45, 4, V.rats (rg (fun _ => 0) i.1)⟩)] 2 23) (fun i => n - i.1) ⟨0, Nat.zero_le _⟩ (Wk.of [0, 2] (by decide) ?_) ?_
  · simp only [go_sem, rg_0, rats_0, Int.natCast_zero]
    exact renV_pure rfl
  · rintro ⟨i, hi⟩
    refine vc_at (tabs mixed (tbl_cons rTrim_C (tbl_cons rZero_C tbl_nil))) ?_
    have c3 : (i : Int) + 1 = ((i + 1 : Nat) : Int) := by omega
    have f1 := rg_snoc (fun _ => (0 : Rat)) i
    by_cases hin : i < n
    · have c1 : (i : Int) < (n : Int) := by omega
      simp only [go_sem, c1, c3, f1, mx]
      refine ⟨⟨by omega, by omega⟩, ⟨by omega, by omega⟩, ⟨i + 1, hin⟩, Wk.of [0, 8] (by decide) ?_, by simp only; omega⟩
      simp only [go_sem]
      exact renV_pure rfl
    · obtain rfl : i = n := by omega
      have c1 : ¬ (i : Int) < (i : Int) := by omega
      simp only [go_sem, c1, rg_zeros, mx, mon_len]
      refine ⟨⟨by omega, by omega⟩, by omega, ?_⟩
      rw [List.take_of_length_le (by rw [mon_len]; exact Nat.le_refl _)]
      exact .refl _
end Go.Proofs.YtfbogelmgdojgaaGreat
