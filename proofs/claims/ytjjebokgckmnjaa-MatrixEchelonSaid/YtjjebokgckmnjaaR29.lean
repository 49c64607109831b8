/- Texts MC6 A37 A38 MC7 MX6 in one. -/
import Derived.Test.YtjjebokgckmnjaaR28
import Derived.Test.YtjjebokgckmnjaaR25
import Derived.Lib.AppendZerosOnto
/- Contracts: Rref, Rank, Det, Null. -/
namespace Go.Proofs.Ytjjebokgckmnjaa
set_option linter.unusedSimpArgs false
set_option linter.unusedVariables false
open Go.RowKit

def kRref : Con := con1 pMt fun M => (RedOk M (wdt M : Nat), .tup [.lst (V.mat (rre M (wdt M))), .lst (V.nats (elm M (wdt M)).p)])
attribute [go_sem ↓, go_sem] kRref
theorem red_p {M : List (List Rat)} {n : Nat} (h : RedOk M (n : Nat)) : (elm M n).p.length ≤ 1000 ∧ (elm M n).p.length ≤ (elm M n).M.length ∧ M.length ≤ 1000 := by
  obtain ⟨⟨h1, _⟩, w, S, ⟨hW, _⟩, _⟩ := h
  have hE := elm_EI hW n
  have := hE.n
  have := hE.len
  omega
theorem rref_C : Ctr Try.prog 11 kRref := Ctr.c1 (by kernel_rfl) fun M h => by
  have h : RedOk M (wdt M : Nat) := h
  obtain ⟨r1, r2, r3⟩ := red_p h
  have r4 : M.length ≤ 1000000 := by omega
  refine PCall.of_vc (tabs mixed (tbl_cons width_C (tbl_cons reduce_C tbl_nil))) Try.func11 rfl Try.ntmps11 Try.results11 (by simp) ?_
  simp only [go_sem, h, r4, redV, Int.toNat_natCast]
  exact ⟨⟨by omega, by omega⟩, by rfl, .refl _⟩
def kRank : Con := con1 pMt fun M => (RedOk M (wdt M : Nat), .raw (.int .i64 ((rk M (wdt M) : Nat) : Int)))
attribute [go_sem ↓, go_sem] kRank
theorem rank_C : Ctr Try.prog 23 kRank := Ctr.c1 (by kernel_rfl) fun M h => by
  have h : RedOk M (wdt M : Nat) := h
  obtain ⟨r1, r2, r3⟩ := red_p h
  have r4 : M.length ≤ 1000000 := by omega
  refine PCall.of_vc (tabs mixed (tbl_cons width_C (tbl_cons reduce_C tbl_nil))) Try.func23 rfl Try.ntmps23 Try.results23 (by simp) ?_
  simp only [go_sem, h, r4, redV, Int.toNat_natCast, rk]
/-- The determinant. -/
def dtv (M : List (List Rat)) : Rat := if (elm M M.length).p.length < M.length then 0 else (elm M M.length).d
def DetC (M : List (List Rat)) : Prop := M.length ≤ 1000 ∧ (wdt M = M.length → RedOk M (M.length : Nat))
def detV (M : List (List Rat)) : V := if wdt M = M.length then .tup [.Q (dtv M), .raw (.int .i64 0)] else .tup [z0, .raw (.int .i64 1)]
def kDet : Con := con1 pMt fun M => (DetC M, detV M)
attribute [go_sem ↓, go_sem] kDet
theorem mdet_C : Ctr Try.prog 29 kDet := Ctr.c1 (by kernel_rfl) fun M h => by
  obtain ⟨r5, h⟩ := h
  have r4 : M.length ≤ 1000000 := by omega
  have e0 : ((0 : Int) : Rat) = 0 := rfl
  show PCall _ _ _ (detV M)
  refine PCall.of_vc (tabs mixed (tbl_cons width_C (tbl_cons reduce_C (tbl_cons whole_C tbl_nil)))) Try.func29 rfl Try.ntmps29 Try.results29 (by simp) ?_
  by_cases hw : wdt M = M.length
  · have h := h hw
    obtain ⟨r1, r2, r3⟩ := red_p h
    have d0 : (((wdt M : Nat) : Int) != (M.length : Int)) = false := by rw [hw]; simp
    unfold detV
    rw [if_pos hw]
    by_cases hr : (elm M M.length).p.length < M.length
    · have d1 : ((elm M M.length).p.length : Int) < (M.length : Int) := by omega
      have e1 : dtv M = 0 := if_pos hr
      simp only [go_sem, h, r4, redV, Int.toNat_natCast, d0, d1, e0, e1]
    · have d1 : ¬ ((elm M M.length).p.length : Int) < (M.length : Int) := by omega
      have e1 : dtv M = (elm M M.length).d := if_neg hr
      simp only [go_sem, h, r4, redV, Int.toNat_natCast, d0, d1, e0, e1]
  · have d0 : (((wdt M : Nat) : Int) != (M.length : Int)) = true := by simp; omega
    unfold detV z0
    rw [if_neg hw]
    simp only [go_sem, r4, d0]
    exact OutEq.atoms rfl rfl rfl
/-- The condition of Null. -/
def NulOk (M : List (List Rat)) (z : Int) : Prop := (RedOk M (wdt M : Nat) ∧ 0 ≤ z ∧ z ≤ 1000) ∧ (M ≠ [] → z = (wdt M : Nat))
def kNull : Con := con2 pMt (pN .i64) fun M z => (NulOk M z, .lst (V.mat (nulP (elm M (wdt M)).p (rre M (wdt M)) z.toNat z.toNat)))
attribute [go_sem ↓, go_sem] kNull
def nlV (N : List (List Rat)) : V := if N = [] then .raw (.slice none 0 0) else .sl 0 1 0 N.length
/-- The state of the loop. -/
def nlS (M A : List (List Rat)) (p : List Nat) (n c : Nat) (N : List (List Rat)) : St :=
  { s := mkS [(0, .lst (V.mat M)), (1, .raw (.int .i64 (n : Nat))), (5, .lst (V.mat A)), (6, .lst (V.nats p)), (7, nlV N), (17, .raw (.int .i64 (n : Nat))), (18, .raw (.int .i64 (c : Nat)))], H := (if N = [] then fun _ => none else mkH [(0, true, ⟨33, 1, V.mat N⟩)]), n := (if N = [] then 0 else 1), N := 55 }
theorem nlS_cons {M A N : List (List Rat)} {p : List Nat} {n c : Nat} (h : N ≠ []) : nlS M A p n c N = mkSt [(0, .lst (V.mat M)), (1, .raw (.int .i64 (n : Nat))), (5, .lst (V.mat A)), (6, .lst (V.nats p)), (7, .sl 0 1 0 N.length), (17, .raw (.int .i64 (n : Nat))), (18, .raw (.int .i64 (c : Nat)))] [(0, true, ⟨33, 1, V.mat N⟩)] 1 55 := by
  unfold nlS nlV mkSt
  rw [if_neg h, if_neg h, if_neg h]
theorem nlS_nil {M A : List (List Rat)} {p : List Nat} {n c : Nat} : nlS M A p n c [] = mkSt [(0, .lst (V.mat M)), (1, .raw (.int .i64 (n : Nat))), (5, .lst (V.mat A)), (6, .lst (V.nats p)), (7, .raw (.slice none 0 0)), (17, .raw (.int .i64 (n : Nat))), (18, .raw (.int .i64 (c : Nat)))] [] 0 55 := rfl
set_option maxRecDepth 8000 in
set_option maxHeartbeats 4000000 in
theorem null_C : Ctr Try.prog 12 kNull := Ctr.c2 (by kernel_rfl) fun M z h => by
  obtain ⟨⟨h1, hz, hz2⟩, hzw⟩ := h
  obtain ⟨n, rfl⟩ : ∃ n : Nat, z = n := ⟨z.toNat, by omega⟩
  show PCall _ _ [.lst (V.mat M), .raw (.int .i64 (n : Nat))] (.lst (V.mat (nulP (elm M (wdt M)).p (rre M (wdt M)) n n)))
  obtain ⟨r1, r2, r3⟩ := red_p h1
  have mx : maxLen = 9223372036854775807 := by decide
  have e1r : ((1 : Int) : Rat) = 1 := rfl
  have T := (tabsX mixed (tbl_cons rref_C (tbl_cons contains_C (tbl_cons whole_C (tbl_cons qNeg_C tbl_nil)))) (xtb_cons zeros_C xtb_nil))
  have hp : ∀ i, i < (elm M (wdt M)).p.length → pv (elm M (wdt M)).p i < n := fun i hi => by
    have h1 := h1
    obtain ⟨_, w, S, ⟨hW, _⟩, _⟩ := h1
    have hE := elm_EI hW (wdt M)
    have l1 := hE.lt i hi
    have l2 := hE.n
    by_cases hM : M = []
    · have l0 : M.length = 0 := by rw [hM]; rfl
      omega
    · have := hzw hM; omega
  have hA : ∀ i, i < (elm M (wdt M)).p.length → i < (rre M (wdt M)).length ∧ ∀ c, c < n → c < ((rre M (wdt M)).getD i []).length := fun i hi => by
    have h1 := h1
    obtain ⟨_, w, S, ⟨hW, _, hwz⟩, _⟩ := h1
    have hE := elm_EI hW (wdt M)
    have l2 := hE.n
    have l3 := hE.len
    have hll : (rre M (wdt M)).length = (elm M (wdt M)).p.length := by unfold rre; rw [List.length_take]; omega
    refine ⟨by omega, fun c hc => ?_⟩
    unfold rre
    rw [gd_take, if_pos hi, hE.wid i (by omega)]
    by_cases hM : M = []
    · have l0 : M.length = 0 := by rw [hM]; rfl
      omega
    · have := hzw hM; omega
  refine PCall.of_vc T Try.func12 rfl Try.ntmps12 Try.results12 (by simp) ?_
  simp only [go_sem, h1]
  generalize rre M (wdt M) = A at hA ⊢
  generalize (elm M (wdt M)).p = p at hp hA r1 ⊢
  have lp : p.length ≤ 1000000 := by omega
  refine AWp.loops (X := { c : Nat // c ≤ n }) (fun c => nlS M A p n c.1 (nulP p A n c.1)) (fun c => n - c.1) ⟨0, Nat.zero_le _⟩ ?_ ?_
  · refine (Wk.of (ss := [(0, .lst (V.mat M)), (1, .raw (.int .i64 (n : Nat))), (5, .lst (V.mat A)), (6, .lst (V.nats p)), (7, .raw (.slice none 0 0)), (17, .raw (.int .i64 (n : Nat))), (18, .raw (.int .i64 0))]) (hs := []) (n := 0) (N := 55) [] (by decide) ?_)
    simp only [go_sem]
  rintro ⟨c, hc⟩
  refine AWp.endFrzU 7 ?_
  refine vc_ok T _ _ _ ?_
  obtain ⟨N, eN⟩ : ∃ N, nulP p A n c = N := ⟨_, rfl⟩
  have lN : N.length ≤ c := by rw [← eN]; exact nulP_len p A n c
  rw [eN]
  unfold nlS
  by_cases hcn : c < n
  · have d1 : (c : Int) < (n : Int) := by omega
    have d2 : (c : Int) + 1 = ((c + 1 : Nat) : Int) := by omega
    have d3 : 0 ≤ (c : Int) := by omega
    by_cases hcp : c ∈ p
    · have d4 : (0 ≤ idxZ (c : Int) p 0) = True := eq_true ((idxZ_ge p 0 (by decide)).2 ⟨c, hcp, rfl⟩)
      have enx : nulP p A n (c + 1) = N := by rw [nulP, if_pos hcp, eN]
      by_cases hN : N = []
      · have e7 : nlV N = .raw (.slice none 0 0) := if_pos hN
        rw [e7, if_pos hN, if_pos hN]
        simp only [go_sem, d1, d2, d3, d4, lp]
        refine ⟨⟨by omega, by omega⟩, ?_⟩
        simp only [go_sem, ev_frzU_n]
        refine ⟨⟨c + 1, hcn⟩, ?_, by simp only; omega⟩
        show Wk _ (nlS M A p n (c + 1) (nulP p A n (c + 1)))
        rw [enx, hN, nlS_nil]
        refine Wk.of [] (by decide) ?_
        simp only [go_sem]
      · have e7 : nlV N = .sl 0 1 0 N.length := if_neg hN
        rw [e7, if_neg hN, if_neg hN]
        simp only [go_sem, d1, d2, d3, d4, lp]
        refine ⟨⟨by omega, by omega⟩, ?_⟩
        simp only [go_sem, ev_frzU_n]
        refine ⟨⟨c + 1, hcn⟩, ?_, by simp only; omega⟩
        show Wk _ (nlS M A p n (c + 1) (nulP p A n (c + 1)))
        rw [enx, nlS_cons hN]
        refine Wk.of [0] (by decide) ?_
        simp only [go_sem]
    · have d4 : (0 ≤ idxZ (c : Int) p 0) = False := eq_false fun h => hcp (by
        obtain ⟨k, k1, k2⟩ := (idxZ_ge p 0 (by decide)).1 h
        have : k = c := by omega
        rw [← this]; exact k1)
      have enx : nulP p A n (c + 1) = N ++ [nulR p A n c] := by rw [nulP, if_neg hcp, eN]
      by_cases hN : N = []
      · have e7 : nlV N = .raw (.slice none 0 0) := if_pos hN
        rw [e7, if_pos hN, if_pos hN]
        simp only [go_sem, d1, d2, d3, d4, lp]
        refine ⟨⟨by omega, by omega⟩, hcn, ?_⟩
        refine AWp.loops (X := { i : Nat // i ≤ p.length }) (fun i => mkSt [(0, .lst (V.mat M)), (1, .raw (.int .i64 (n : Nat))), (5, .lst (V.mat A)), (6, .lst (V.nats p)), (7, V.raw (.slice none 0 0)), (8, .raw (.int .i64 (c : Nat))), (9, .sl 0 4 0 n), (17, .raw (.int .i64 (n : Nat))), (18, .raw (.int .i64 (c : Nat))), (30, .lst (V.nats p)), (31, .raw (.int .i64 (p.length : Nat))), (32, .raw (.int .i64 (i.1 : Nat)))] [(0, true, ⟨41, 4, V.rats (nrS p A n c i.1)⟩)] (0 + 1) 55) (fun i => p.length - i.1) ⟨0, Nat.zero_le _⟩ (Wk.of [7] (by decide) ?_) ?_
        · have e0 : nrS p A n c 0 = (List.replicate n 0).set c 1 := rfl
          simp only [go_sem, e0, e1r, Int.natCast_zero]
          trace_state
        rintro ⟨i, hi⟩
        refine vc_at T ?_
        by_cases hip : i < p.length
        · have f1 : (i : Int) < (p.length : Int) := by omega
          have f2 : (i : Int) + 1 = ((i + 1 : Nat) : Int) := by omega
          have f3 : 0 ≤ (i : Int) := by omega
          have f4 := hp i hip
          obtain ⟨f5, f6⟩ := hA i hip
          have f6 := f6 c hcn
          have f7 : 0 ≤ ((pv p i : Nat) : Int) := by omega
          have f8 : (nrS p A n c i).length = n := nrS_len _ _ _ _ _
          have f9 : nrS p A n c (i + 1) = (nrS p A n c i).set (pv p i) (- ent A i c) := rfl
          simp only [go_sem, f1, f2, f3, f4, f5, f6, f7, f8, d3, hip]
          refine ⟨by omega, by omega, by omega, ⟨by omega, by omega⟩, ⟨i + 1, hip⟩, Wk.of [0] (by decide) ?_, by simp only; omega⟩
          simp only [go_sem, f9]
        · obtain rfl : i = p.length := by omega
          have f1 : ¬ (p.length : Int) < (p.length : Int) := by omega
          have f8 : (nrS p A n c p.length).length = n := nrS_len _ _ _ _ _
          simp only [go_sem, f1, d2, mx, f8]
          refine ⟨⟨by omega, by omega⟩, ?_⟩
          have tk : (V.rats (nrS p A n c p.length)).take n = V.rats (nrS p A n c p.length) := List.take_of_length_le (by rw [rats_len, f8]; exact Nat.le_refl _)
          simp only [go_sem, ev_frzU_n, f8, tk]
          refine ⟨⟨c + 1, hcn⟩, ?_, by simp only; omega⟩
          show Wk _ (nlS M A p n (c + 1) (nulP p A n (c + 1)))
          rw [enx, nlS_cons (by simp)]
          refine Wk.of [5] (by decide) ?_
          have e9 : V.mat (N ++ [nulR p A n c]) = [.lst (V.rats (nrS p A n c p.length))] := by rw [hN]; rfl
          have e8 : (N ++ [nulR p A n c]).length = 1 := by rw [hN]; rfl
          simp only [go_sem, e8, e9]
      · have e7 : nlV N = .sl 0 1 0 N.length := if_neg hN
        rw [e7, if_neg hN, if_neg hN]
        simp only [go_sem, d1, d2, d3, d4, lp]
        refine ⟨⟨by omega, by omega⟩, hcn, ?_⟩
        refine AWp.loops (X := { i : Nat // i ≤ p.length }) (fun i => mkSt [(0, .lst (V.mat M)), (1, .raw (.int .i64 (n : Nat))), (5, .lst (V.mat A)), (6, .lst (V.nats p)), (7, V.sl 0 1 0 N.length), (8, .raw (.int .i64 (c : Nat))), (9, .sl 1 4 0 n), (17, .raw (.int .i64 (n : Nat))), (18, .raw (.int .i64 (c : Nat))), (30, .lst (V.nats p)), (31, .raw (.int .i64 (p.length : Nat))), (32, .raw (.int .i64 (i.1 : Nat)))] [(0, true, ⟨33, 1, V.mat N⟩), (1, true, ⟨41, 4, V.rats (nrS p A n c i.1)⟩)] (1 + 1) 55) (fun i => p.length - i.1) ⟨0, Nat.zero_le _⟩ (Wk.of [0, 8] (by decide) ?_) ?_
        · have e0 : nrS p A n c 0 = (List.replicate n 0).set c 1 := rfl
          simp only [go_sem, e0, e1r, Int.natCast_zero]
          trace_state
        rintro ⟨i, hi⟩
        refine vc_at T ?_
        by_cases hip : i < p.length
        · have f1 : (i : Int) < (p.length : Int) := by omega
          have f2 : (i : Int) + 1 = ((i + 1 : Nat) : Int) := by omega
          have f3 : 0 ≤ (i : Int) := by omega
          have f4 := hp i hip
          obtain ⟨f5, f6⟩ := hA i hip
          have f6 := f6 c hcn
          have f7 : 0 ≤ ((pv p i : Nat) : Int) := by omega
          have f8 : (nrS p A n c i).length = n := nrS_len _ _ _ _ _
          have f9 : nrS p A n c (i + 1) = (nrS p A n c i).set (pv p i) (- ent A i c) := rfl
          simp only [go_sem, f1, f2, f3, f4, f5, f6, f7, f8, d3, hip]
          refine ⟨by omega, by omega, by omega, ⟨by omega, by omega⟩, ⟨i + 1, hip⟩, Wk.of [0, 1] (by decide) ?_, by simp only; omega⟩
          simp only [go_sem, f9]
        · obtain rfl : i = p.length := by omega
          have f1 : ¬ (p.length : Int) < (p.length : Int) := by omega
          have f8 : (nrS p A n c p.length).length = n := nrS_len _ _ _ _ _
          simp only [go_sem, f1, d2, mx, f8]
          refine ⟨⟨by omega, by omega⟩, ⟨by omega, by omega⟩, ?_⟩
          have tk : (V.rats (nrS p A n c p.length)).take n = V.rats (nrS p A n c p.length) := List.take_of_length_le (by rw [rats_len, f8]; exact Nat.le_refl _)
          have tk2 : N.take N.length = N := List.take_of_length_le (Nat.le_refl _)
          have e9 : N ++ [nrS p A n c p.length] = N ++ [nulR p A n c] := rfl
          simp only [go_sem, ev_frzU_n, frz_mat_snocA, f8, tk, tk2, mat_snoc, e9]
          refine ⟨⟨c + 1, hcn⟩, ?_, by simp only; omega⟩
          show Wk _ (nlS M A p n (c + 1) (nulP p A n (c + 1)))
          rw [enx, nlS_cons (by simp)]
          refine Wk.of [6] (by decide) ?_
          have e8 : (N ++ [nulR p A n c]).length = N.length + 1 := by simp
          simp only [go_sem, e8]
  · obtain rfl : n = c := by omega
    have d1 : ¬ (n : Int) < (n : Int) := by omega
    rw [eN]
    by_cases hN : N = []
    · have e7 : nlV N = .raw (.slice none 0 0) := if_pos hN
      rw [e7, if_pos hN, if_pos hN]
      simp only [go_sem, d1]
      rw [hN]
      exact .refl _
    · have e7 : nlV N = .sl 0 1 0 N.length := if_neg hN
      rw [e7, if_neg hN, if_neg hN]
      have tk2 : N.take N.length = N := List.take_of_length_le (Nat.le_refl _)
      simp only [go_sem, d1, tk2]
end Go.Proofs.Ytjjebokgckmnjaa


/- Operations outside the abstract run: the capacity of nil, appending zeros to nil. No program in sight. -/
namespace Go.Proofs.Ytjjebokgckmnjaa
set_option linter.unusedSimpArgs false
set_option linter.unusedVariables false
open Go.RowKit

theorem FCall.of_awp {P : Program} {f : FuncId} {fn : Func} {c : Code} {args : List V} {R : FRes} (hf : P.funcs[f]? = some fn) (hb : fn.body = some c) {N : Nat} (hn : fn.ntmps = N) {rs : Array ResultVar} (hrs : fn.results = rs) (hN : args.length ≤ N)
    (h : AWp P c (retF P rs.toList R) (st0 args N)) : FCall P f args R := by
  subst hn hrs
  intro B w vs hl hr hB
  refine callsIn_wide.1 (callsIn_of_wp_marks (F := Fence.wide) (n := 0) hf hb trivial ?_)
  have st : Stat B (fun _ => none) w := ⟨hB, fun _ _ h => by cases h⟩
  have hown : ∀ b, own B (fun _ => none) (fun _ => none) b → B b := fun b hb => by
    rcases hb with hb | ⟨k, x, h1, _⟩
    · exact hb
    · cases h1
  have hx : Ext w B (fun _ => none) w (own B (fun _ => none) (fun _ => none)) (fun _ => none) := Ext.less hown
  have hs : Sim B (fun _ => none) w (st0 args fn.ntmps) { tmps := vs.toArray ++ Array.replicate (fn.ntmps - vs.toArray.size) undef, defers := [] } w (fun _ => none) := sim0 hl hr hN
  refine wpIn_mono (h B (fun _ => none) w st _ w _ hs (r := none)) fun e a' w' hq => ?_
  obtain ⟨σ', ρ', hq, hs'⟩ := hq
  have fin : (aResL P σ' fn.results.toList fun xs => ∃ k, xs = [.sl k R.e 0 R.l.length] ∧ σ'.H k = some ⟨R.t, R.e, R.l⟩ ∧ allPure R.l) → LeavesInM Fence.wide 0 P fn a'.tmps (fun e w' =>
      ∃ (b c : Nat) (arr : Array Value), e = .returned (.slice (some ⟨b, 0, none⟩) R.l.length c) ∧ R.l.length ≤ c ∧ c * R.e ≤ arr.size ∧ w.heap.size ≤ b ∧ w'.heap[b]? = some (.cells arr R.t (0, 0)) ∧
      (∀ y ∈ R.l, y.wid = R.e) ∧ (V.atomsL R.l).length ≤ arr.size ∧ (∀ (j : Nat) (y : V) (u : Value), (V.atomsL R.l)[j]? = some y → arr[j]? = some u → RepA w' (fun b' => B b' ∨ b' = b) (fun _ => none) y u) ∧ Below w.heap.size w w') a'.defers .returning w' := fun hq => leaves_of _ _ hs' fun w' hs' => by
    obtain ⟨xs, us, h1, h2, h3, h4⟩ := res_ok (P := P) hs' _ _ hq
    obtain ⟨k, rfl, hk, hpure⟩ := h1
    match us, h3 with
    | [u], _ =>
      have h5 := h4 0 _ _ rfl rfl
      have h6 : RepA w' (own B ρ' σ'.H) ρ' (.sl k R.e 0 R.l.length) u := RepW.atom h5 rfl
      obtain ⟨b, arr, q1, q2, q3, q4, q5⟩ := hs'.heap.row k _ hk
      refine ⟨_, results_run h2, ?_⟩
      cases h6 with
      | sl _ _ _ _ _ b' c arr' t' fr' e1 e2 e3 e4 =>
        rw [q1] at e1; injection e1 with e1; subst e1
        rw [q2] at e2; injection e2 with e2; injection e2 with e2 e5 e6; subst e2 e5 e6
        refine ⟨b, c, arr, by simp, e3, by simpa using e4, ?_, q2, q3, q4, fun j y u hy hu => ?_, hs'.below⟩
        · rcases hs'.mine k _ b hk q1 with ⟨_, hh⟩ | hh
          · cases hh
          · exact hh
        · have hp : pureA y = true := by
            have : ∀ (l : List V), allPure l → ∀ y ∈ V.atomsL l, pureA y = true := by
              intro l
              induction l with
              | nil => intro _ y hy; simp [V.atomsL] at hy
              | cons x l ih =>
                intro hl y hy
                simp only [V.atomsL, List.mem_append] at hy
                rcases hy with hy | hy
                · have := hl x (by simp)
                  unfold V.pure at this
                  exact List.all_eq_true.1 this y hy
                · exact ih (fun z hz => hl z (by simp [hz])) y hy
            exact this _ hpure y (List.mem_of_getElem? hy)
          refine ((q5 j y u hy hu).pureA hp).mono (Ext.less ?_)
          rintro b0 (h0 | rfl)
          · exact .inl h0
          · exact .inr ⟨k, _, hk, q1⟩
  cases e with
  | normal => exact fin hq
  | ret => exact fin hq
  | exit id => exact hq.elim
  | goto l => exact hq.elim
  | panic c => exact hq.elim
  | outgrown => exact hq.elim

/-- One operation of a statement, shown by hand. -/
theorem RegI.op {P : Program} {ops : Array Oper} {Q : Exit → St → Prop} {σ : St} (i : Nat) {o : Oper} (ho : ops[i]? = some o) (hg : o.guard = none) (hnd : ∀ c, o.op ≠ .defer c) (z : V) (ws : List (Nat × Option Blk)) {dst : Option Tmp} (hd : o.dst = dst) (hdst : dstOk o σ.N)
    (hop : ∀ (B : Nat → Prop) (A : Nat → Option Nat) (W : World) (a : Act) (w : World) (ρ : Nat → Option Nat), Stat B A W → Sim B A W σ a w ρ → OpOk P B σ.H w ρ σ.n a o z ws) (hk : RegI P ops (i + 1) Q (σ.put dst z ws)) : RegI P ops i Q σ := by
  subst hd
  intro B A W st a w ρ hs r0 hr0
  have hil : i < ops.toList.length := by
    have := (Array.getElem?_eq_some_iff.1 ho).1
    simpa using this
  have hlen : (ops.toList.drop i).length = (ops.toList.drop (i + 1)).length + 1 := by
    rw [List.length_drop, List.length_drop]; omega
  rw [hlen, List.range'_succ]
  simp only [wpOpsIn, ho]
  rw [if_pos (by simp [Region.wanted, hg])]
  exact wp_rd hnd (hop B A W a w ρ st hs _ _ fun v w' ρ' h1 h2 h3 h4 => hk B A W st _ w' ρ' (hs.put (dstOk_lt hdst) h1 h2 h3 h4) (r := r0))
theorem append_zeros_ok {P : Program} {B : Nat → Prop} {H : Hp} {w : World} {ρ : Nat → Option Nat} {n : Nat} {a : Act} {o : Oper} {t tn ty e : TypeId} {i : TypeInfo} {z : Value} {kn : IntKind} {s k : Nat} (hH : HRep w (own B ρ H) ρ H) (hf : ρ n = none)
    (ht : P.underlying t = some (.slice e)) (htn : P.underlying tn = some (.int kn)) (hi : P.info? e = some i) (hz : i.zero = some z) (hsz : i.size = s) (hzs : z.cells.size = s) (h0 : 0 < k) (hs : 0 < s) (hmx : k ≤ 1000000) (hby : i.bytes ≤ 1000)
    (he : ∀ r w1, (Builtin.append_ #[t, tn] ty #[.slice none 0 0, .int .i64 k]).run P w = .ok r w1 → (execOp a.eval o).run P w = .ok (.value r) w1) :
    OpOk P B H w ρ n a o (.sl n s 0 k) [(n, some ⟨e, s, []⟩)] := by
  have hg : 0 < 0 + k := by omega
  have hb : (0 + k) * i.bytes ≤ 140737488355328 := by
    have := Nat.mul_le_mul (show 0 + k ≤ 1000000 by omega) hby
    omega
  have hrun := Lib.run_append_grow_zeros (P := P) w t tn ty e i z .i64 kn ht htn hi hz none 0 0 [] (run_firstCells_none w.drew i.size 0 0 0) k h0 (by omega) hg (by omega) (by have := Nat.mul_le_mul (show k ≤ 1000000 by omega) hby; omega) (growslice_fits hg hb)
  have hge := grownCap_ge w (0 + k) 0 e
  refine OpOk.push (l := []) (e := s) hH hf (he _ _ hrun) rfl rfl rfl rfl (fun y hy => by cases hy) (Nat.zero_le _) (fun j y u hy => by simp [V.atomsL] at hy) ?_
  intro O ρ' hn
  refine RepW.of_atom ?_ rfl rfl
  have := RepA.sl (w := w.drew.alloc (.cells (([] : List Value).toArray ++ Builtin.zeroCells z.cells k ++ Builtin.zeroCells z.cells (grownCap w (0 + k) 0 e - (0 + k))) e)) (O := O) ρ' n s 0 k w.heap.size (grownCap w (0 + k) 0 e) _ e (0, 0) hn (heap_alloc_new w.drew _) (by omega) (by
    simp only [Nat.zero_add, Array.size_append, List.size_toArray, List.length_nil, size_zeroCells, hzs, ← Nat.add_mul]
    have hge' : k ≤ grownCap w k 0 e := by have := hge; rwa [Nat.zero_add] at this
    refine Nat.le_of_eq ?_
    congr 1
    omega)
  simpa using this
theorem cap_nil_ok {P : Program} {B : Nat → Prop} {H : Hp} {w : World} {ρ : Nat → Option Nat} {n : Nat} {a : Act} {o : Oper} (hH : HRep w (own B ρ H) ρ H) (hf : ρ n = none) {x : Operand} {t : TypeId} (hop : o.op = .call { callee := .builtin .cap, args := #[x], argTypes := #[t] }) (hx : a.eval x = .slice none 0 0) {e : TypeId} (ht : P.underlying t = some (.slice e)) :
    OpOk P B H w ρ n a o (.raw (.int .i64 0)) [] := by
  refine OpOk.value hH hf (v := .int .i64 0) ?_ (RepW.raw rfl)
  simp only [execOp, hop, resolve, Sem.run_bind, Sem.run_pure, Result.andThen_ok, invoke]
  simp [hx, builtin, Builtin.cap_, run_underlying ht]
  rfl
/-- Copying into an empty row. -/
theorem copy0_ok {P : Program} {B : Nat → Prop} {A : Nat → Option Nat} {W : World} {σ : St} {w : World} {ρ : Nat → Option Nat} {a : Act} {o : Oper} (hs : Sim B A W σ a w ρ) {x y : Operand} {t t' : TypeId} (hop : o.op = .call { callee := .builtin .copy, args := #[x, y], argTypes := #[t, t'] }) {k e0 : Nat} {l : List V} (hx : σ.ev x = .sl k e0 0 0) (hy : σ.ev y = .lst l) {e : TypeId} (ht : P.underlying t = some (.slice e)) {i : TypeInfo} (hi : P.info? e = some i) :
    OpOk P B σ.H w ρ σ.n a o (.raw (.int .i64 0)) [] := by
  refine OpOk.value hs.heap (hs.fresh _ (Nat.le_refl _)) (v := .int .i64 0) ?_ (RepW.raw rfl)
  have h1 := hs.ev x
  rw [hx] at h1
  have h1 := RepW.atom (show RepW w (own B ρ σ.H) ρ (.sl k e0 0 0) (a.eval x) from h1) rfl
  have h2 := hs.ev y
  rw [hy] at h2
  have h2 := RepW.atom (show RepW w (own B ρ σ.H) ρ (.lst l) (a.eval y) from h2) rfl
  generalize hu : a.eval x = u at h1
  generalize hv : a.eval y = v at h2
  cases h1 with
  | sl _ _ _ _ _ b c arr t1 fr g1 g2 g3 g4 =>
    cases h2 with
    | nil _ A c2 =>
      cases A with
      | none =>
        simp [execOp, hop, resolve, invoke, builtin, hu, hv, Builtin.copy_, run_underlying ht, sizeOf, typeInfo, hi, Builtin.lenOf, Builtin.firstCells, loadCells, storeCells]
        rfl
      | some A =>
        simp [execOp, hop, resolve, invoke, builtin, hu, hv, Builtin.copy_, run_underlying ht, sizeOf, typeInfo, hi, Builtin.lenOf, Builtin.firstCells, loadCells, storeCells]
        rfl
    | lst _ _ b2 off c2 vs q0 q1 q2 q3 q4 q5 q6 q7 =>
      simp [execOp, hop, resolve, invoke, builtin, hu, hv, Builtin.copy_, run_underlying ht, sizeOf, typeInfo, hi, Builtin.lenOf, Builtin.firstCells, loadCells, storeCells]
      rfl
end Go.Proofs.Ytjjebokgckmnjaa


/- Rules for what is handed over, with proofs that are no plain unfolding: the kernel compares less. -/
namespace Go.Proofs.Ytjjebokgckmnjaa
set_option linter.unusedSimpArgs false
set_option linter.unusedVariables false
open Go.RowKit

section
variable {H : Hp} {m : Nat} {F : V → (V → List Nat → Prop) → Prop} {kA : V → List Nat → Prop} {kL : List V → List Nat → Prop}
theorem viaT {p : Prop} (h : p) : p := by
  by_cases t : True
  · exact h
  · exact h
@[go_sem ↓ high, go_sem high] theorem frzs_cons' {x : V} {xs : List V} : frzs F (x :: xs) kL = F x fun y r => frzs F xs fun ys rs => kL (y :: ys) (r ++ rs) := viaT rfl
@[go_sem ↓ high, go_sem high] theorem frzs_nil' : frzs F [] kL = kL [] [] := viaT rfl
@[go_sem ↓ high, go_sem high] theorem frzE_I' {z : Int} : frzE F (.I z) kA = kA (.I z) [] := viaT rfl
@[go_sem ↓ high, go_sem high] theorem frzE_Q' {z : Rat} : frzE F (.Q z) kA = kA (.Q z) [] := viaT rfl
@[go_sem ↓ high, go_sem high] theorem frzE_agg' {l : List V} : frzE F (.agg l) kA = if (V.agg l).pure = true then kA (.agg l) [] else (V.agg l).good = true ∧ frzs F (V.agg l).atoms fun ys rs => kA (.agg ys) rs := viaT rfl
@[go_sem ↓ high, go_sem high] theorem frzE_raw' {v : Value} : frzE F (.raw v) kA = F (.raw v) kA := viaT rfl
@[go_sem ↓ high, go_sem high] theorem frzE_lst' {l : List V} : frzE F (.lst l) kA = F (.lst l) kA := viaT rfl
@[go_sem ↓ high, go_sem high] theorem frzE_sl' {b e o n : Nat} : frzE F (.sl b e o n) kA = F (.sl b e o n) kA := viaT rfl
@[go_sem ↓ high, go_sem high] theorem frzE_ptr' {b e o n : Nat} : frzE F (.ptr b e o n) kA = F (.ptr b e o n) kA := viaT rfl
@[go_sem ↓ high, go_sem high] theorem frzE_emp' : frzE F .emp kA = F .emp kA := viaT rfl
@[go_sem ↓ high, go_sem high] theorem frzE_pel' {x : V} : frzE F (.pel x) kA = F (.pel x) kA := viaT rfl
@[go_sem ↓ high, go_sem high] theorem argN_nil' : argN H (m + 1) (.raw (.slice none 0 0)) kA = kA (.lst []) [] := viaT rfl
@[go_sem ↓ high, go_sem high] theorem argN_emp' : argN H (m + 1) .emp kA = kA (.lst []) [] := viaT rfl
@[go_sem ↓ high, go_sem high] theorem arg_ptr' {b e i off : Nat} : arg1 H (.ptr b e i off) kA = argA H (.ptr b e i off) kA := viaT rfl
end
end Go.Proofs.Ytjjebokgckmnjaa


/- Contracts: slices.Grow of nil, slices.Concat. -/
namespace Go.Proofs.Ytjjebokgckmnjaa
set_option linter.unusedSimpArgs false
set_option linter.unusedVariables false
open Go.RowKit

set_option maxRecDepth 8000 in
theorem grow_V (n : Nat) (h0 : 0 < n) (hn : n ≤ 1000000) : FCall Try.prog 61 [.raw (.slice none 0 0), .raw (.int .i64 (n : Nat))] ⟨41, 4, []⟩ := by
  have T := (tabs mixed tbl_nil)
  refine FCall.of_awp Try.func61 rfl Try.ntmps61 Try.results61 (by simp) ?_
  refine AWp.seq (vc_ok T _ _ _ ?_)
  have c1 : ¬ (n : Int) < 0 := by omega
  simp only [go_sem, c1]
  refine AWp.seq (vc_ok T _ _ _ ?_)
  simp only [go_sem, c1]
  have w1 : IntKind.i64.wrap (0 : Int) = 0 := by decide
  refine AWp.seq (AWp.seq (AWp.regs ?_))
  refine RegI.cut T 0 2 rfl rfl (by decide) ?_
  simp only [go_sem]
  refine ⟨_, Wk.refl _, ?_⟩
  refine RegI.op (dst := some 10) 2 rfl rfl (fun c h => by cases h) (.raw (.int .i64 0)) [] rfl (by show (10 : Nat) < 27; decide) (fun B A W a w ρ st hs => cap_nil_ok hs.heap (hs.fresh _ (Nat.le_refl _)) rfl (RepW.raw_inv (hs.ev (.tmp 9))) rfl) ?_
  refine RegI.fin T 3 rfl ?_
  simp only [go_sem]
  have w2 : (0 : Int) - 0 = 0 := by decide
  have w3 : (n : Int) - 0 = n := by omega
  have c2 : (0 : Int) < (n : Int) := by omega
  have mx : maxLen = 9223372036854775807 := by decide
  refine ⟨⟨by omega, by omega⟩, AWp.seq (vc_ok T _ _ _ ?_)⟩
  simp only [go_sem, w2, w3, c2]
  refine AWp.cond (t := true) rfl ⟨fun _ => AWp.regs ?_, fun h => by cases h⟩
  refine RegI.cut T 0 2 rfl rfl (by decide) ?_
  simp only [go_sem]
  refine ⟨_, Wk.refl _, ?_⟩
  refine RegI.op (dst := some 19) 2 rfl rfl (fun c h => by cases h) (.raw (.int .i64 0)) [] rfl (by show (19 : Nat) < 27; decide) (fun B A W a w ρ st hs => cap_nil_ok hs.heap (hs.fresh _ (Nat.le_refl _)) rfl (RepW.raw_inv (hs.ev (.tmp 18))) rfl) ?_
  refine RegI.cut T 3 5 rfl rfl (by decide) ?_
  simp only [go_sem]
  refine ⟨_, Wk.refl _, ?_⟩
  obtain ⟨i, zv, g1, g2, g3⟩ := tyZero_inv (P := Try.prog) tyZ41
  have g4 : i.size = 4 := by
    have := tyS41
    unfold tySize at this
    rw [g1] at this
    simpa using this
  have g5 : i.bytes ≤ 1000 := by
    have := tyB41
    unfold tyBytes at this
    rw [g1] at this
    simp at this
    omega
  have g6 : zv.cells.size = 4 := by rw [← cst_wid, ← g3]; rfl
  refine RegI.op (dst := some 22) 5 rfl rfl (fun c h => by cases h) (.sl _ 4 0 n) [(_, some ⟨41, 4, []⟩)] rfl (by show (22 : Nat) < 27; decide) (fun B A W a w ρ st hs => append_zeros_ok (t := 33) (tn := 3) (ty := 33) (k := n) (kn := .i64) hs.heap (hs.fresh _ (Nat.le_refl _)) rfl rfl g1 g2 g4 g6 h0 (by decide) hn g5 fun r w1 hr => ?_) ?_
  · have x1 : a.eval (.tmp 20) = .slice none 0 0 := RepW.raw_inv (hs.ev (.tmp 20))
    have x2 : a.eval (.tmp 21) = .int .i64 n := RepW.raw_inv (hs.ev (.tmp 21))
    simp [execOp, resolve, invoke, builtin, x1, x2, hr]
  refine RegI.fin T 6 rfl ?_
  simp only [go_sem]
  refine ⟨by omega, vc_ok T _ _ _ ?_⟩
  simp only [go_sem]
  exact ⟨_, rfl, rfl⟩
def kGrow : FCon
  | [.raw (.slice none 0 0), .raw (.int .i64 z)] => some ((0 < z ∧ z ≤ 1000000), ⟨41, 4, []⟩)
  | _ => none
@[go_sem ↓, go_sem] theorem kGrow_ev {z : Int} : kGrow [.raw (.slice none 0 0), .raw (.int .i64 z)] = some ((0 < z ∧ z ≤ 1000000), ⟨41, 4, []⟩) := rfl
theorem grow_C : FCtr Try.prog 61 kGrow := ⟨by kernel_rfl, fun args p R h hp => by
  unfold kGrow at h
  split at h
  · rename_i z
    injection h with h
    injection h with h1 h2
    subst h1 h2
    obtain ⟨n, rfl⟩ : ∃ n : Nat, z = n := ⟨z.toNat, by omega⟩
    exact grow_V n (by omega) (by omega)
  · cases h⟩
theorem flat_succ {L : List (List Rat)} {i : Nat} (h : i < L.length) : (L.take (i + 1)).flatten = (L.take i).flatten ++ L.getD i [] := by
  rw [List.take_add_one, List.getElem?_eq_getElem h, List.flatten_append, List.getD_eq_getElem?_getD, List.getElem?_eq_getElem h]
  simp
def CatOk (L : List (List Rat)) : Prop := (0 < L.flatten.length ∧ L.flatten.length ≤ 1000000) ∧ L.length ≤ 1000
def kConcat : FCon := con1 pMt fun L => (CatOk L, ⟨41, 4, V.rats L.flatten⟩)
attribute [go_sem ↓, go_sem] kConcat
theorem flat_le (L : List (List Rat)) (i : Nat) : (L.take i).flatten.length ≤ L.flatten.length := by
  have : L.flatten.length = (L.take i).flatten.length + (L.drop i).flatten.length := by
    rw [← List.length_append, ← List.flatten_append, List.take_append_drop]
  omega
set_option maxRecDepth 8000 in
theorem concat_C : FCtr Try.prog 44 kConcat := FCtr.c1 (by kernel_rfl) fun L h => by
  obtain ⟨⟨h0, h1⟩, h2⟩ := h
  show FCall _ _ [.lst (V.mat L)] ⟨41, 4, V.rats L.flatten⟩
  have T := (tabsX mixed tbl_nil (xtb_cons grow_C xtb_nil))
  have mx : maxLen = 9223372036854775807 := by decide
  refine FCall.of_vc T Try.func44 rfl Try.ntmps44 Try.results44 (by simp) ?_
  simp only [go_sem]
  refine AWp.loops (X := { i : Nat // i ≤ L.length }) (fun i => mkSt [(0, .lst (V.mat L)), (2, .raw (.slice none 0 0)), (3, .raw (.int .i64 ((L.take i.1).flatten.length : Nat))), (9, .lst (V.mat L)), (10, .raw (.int .i64 (L.length : Nat))), (11, .raw (.int .i64 (i.1 : Nat)))] [] 0 36) (fun i => L.length - i.1) ⟨0, Nat.zero_le _⟩ (Wk.of [] (by decide) ?_) ?_
  · simp only [go_sem]
    exact rfl
  rintro ⟨i, hi⟩
  refine vc_at T ?_
  by_cases hin : i < L.length
  · have d1 : (i : Int) < (L.length : Int) := by omega
    have d2 : (i : Int) + 1 = ((i + 1 : Nat) : Int) := by omega
    have d3 : ((L.take i).flatten.length : Int) + ((L.getD i []).length : Int) = ((L.take (i + 1)).flatten.length : Int) := by rw [flat_succ hin, List.length_append]; omega
    have d4 : ¬ ((L.take (i + 1)).flatten.length : Int) < 0 := by omega
    have d5 := flat_le L (i + 1)
    simp only [go_sem, d1, d2, d3, d4, hin]
    refine ⟨by omega, ⟨by omega, by omega⟩, ⟨by omega, by omega⟩, ⟨i + 1, hin⟩, Wk.of [] (by decide) ?_, by simp only; omega⟩
    simp only [go_sem]
  · obtain rfl : i = L.length := by omega
    have d1 : ¬ (L.length : Int) < (L.length : Int) := by omega
    have tk : L.take L.length = L := List.take_of_length_le (Nat.le_refl _)
    simp only [go_sem, d1, tk]
    refine ⟨⟨by omega, by omega⟩, ?_⟩
    refine AWp.loops (X := { i : Nat // i ≤ L.length }) (fun i => mkSt [(0, .lst (V.mat L)), (2, .raw (.slice none 0 0)), (6, .sl 0 4 0 (L.take i.1).flatten.length), (25, .lst (V.mat L)), (26, .raw (.int .i64 (L.length : Nat))), (27, .raw (.int .i64 (i.1 : Nat)))] [(0, true, ⟨41, 4, V.rats (L.take i.1).flatten⟩)] 1 36) (fun i => L.length - i.1) ⟨0, Nat.zero_le _⟩ (Wk.of [2] (by decide) ?_) ?_
    · simp only [go_sem]
      exact ⟨rfl, rfl⟩
    rintro ⟨j, hj⟩
    refine vc_at T ?_
    by_cases hjn : j < L.length
    · have f1 : (j : Int) < (L.length : Int) := by omega
      have f2 : (j : Int) + 1 = ((j + 1 : Nat) : Int) := by omega
      have f5 := flat_le L (j + 1)
      have f6 : (L.take (j + 1)).flatten.length = (L.take j).flatten.length + (L.getD j []).length := by rw [flat_succ hjn, List.length_append]
      have tk2 : (L.take j).flatten.take (L.take j).flatten.length = (L.take j).flatten := List.take_of_length_le (Nat.le_refl _)
      have e7 : V.rats (L.take j).flatten ++ V.rats (L.getD j []) = V.rats (L.take (j + 1)).flatten := by
        rw [flat_succ hjn]
        simp [V.rats]
      simp only [go_sem, f1, f2, hjn, mx, tk2]
      refine ⟨by omega, ⟨by omega, by omega⟩, ⟨by omega, by omega⟩, ⟨j + 1, hjn⟩, Wk.of [7] (by decide) ?_, by simp only; omega⟩
      simp only [go_sem, f6, e7]
      rw [flat_succ hjn]
    · obtain rfl : j = L.length := by omega
      simp only [go_sem, d1, tk]
      exact ⟨0, rfl, rfl⟩
end Go.Proofs.Ytjjebokgckmnjaa


/- Systems of equations: the extended matrix. No program in sight. -/
namespace Go.Proofs.Ytjjebokgckmnjaa
set_option linter.unusedSimpArgs false
set_option linter.unusedVariables false

def unR (m i : Nat) : List Rat := (List.replicate m 0).set i 1
theorem unR_len (m i : Nat) : (unR m i).length = m := by simp [unR]
theorem cf_unR {m i : Nat} (hi : i < m) (k : Nat) : cf (unR m i) k = if k = i then 1 else 0 := by
  unfold unR
  rw [cf_setL (by simp; exact hi)]
  have : cf (List.replicate m (0 : Rat)) k = 0 := by
    unfold cf
    rw [List.getD_eq_getElem?_getD, List.getElem?_replicate]
    split <;> rfl
  rw [this]
/-- A row of the extended matrix. -/
def exR (M : List (List Rat)) (b : List Rat) (i : Nat) : List Rat := M.getD i [] ++ ([cf b i] ++ unR M.length i)
def exM (M : List (List Rat)) (b : List Rat) : List (List Rat) := mkm (exR M b) M.length
theorem exM_len (M : List (List Rat)) (b : List Rat) : (exM M b).length = M.length := mkm_len _ _
theorem exM_wid {M : List (List Rat)} {w : Nat} (hW : Wid w M) (b : List Rat) : Wid (w + 1 + M.length) (exM M b) := fun i hi => by
  rw [exM_len] at hi
  unfold exM
  rw [gd_mkm, if_pos hi]
  unfold exR
  rw [List.length_append, List.length_append, hW i hi, unR_len]
  simp; omega
theorem cf_app (a b : List Rat) (k : Nat) : cf (a ++ b) k = if k < a.length then cf a k else cf b (k - a.length) := by
  unfold cf
  rw [List.getD_eq_getElem?_getD, List.getD_eq_getElem?_getD, List.getD_eq_getElem?_getD]
  split
  · rename_i h; rw [List.getElem?_append_left h]
  · rename_i h; rw [List.getElem?_append_right (by omega)]
theorem ent_exM {M : List (List Rat)} {w : Nat} (hW : Wid w M) (b : List Rat) {i : Nat} (hi : i < M.length) (k : Nat) : ent (exM M b) i k = if k < w then ent M i k else if k = w then cf b i else if k = w + 1 + i then 1 else 0 := by
  show cf ((exM M b).getD i []) k = _
  unfold exM
  rw [gd_mkm, if_pos hi]
  unfold exR
  rw [cf_app, hW i hi]
  split
  · rfl
  · rename_i h
    rw [cf_app]
    by_cases e : k = w
    · rw [if_pos e, if_pos (by simp; omega), e, Nat.sub_self]; rfl
    · rw [if_neg e, if_neg (by simp; omega), cf_unR hi]
      simp only [List.length_cons, List.length_nil]
      by_cases e2 : k = w + 1 + i
      · rw [if_pos e2, if_pos (by omega)]
      · rw [if_neg e2, if_neg (by omega)]
/-- The elimination of the extended matrix. -/
def slE (M : List (List Rat)) (b : List Rat) (w : Nat) : ES := elm (exM M b) w
/-- The combination of the equations. -/
def slW (M : List (List Rat)) (b : List Rat) (w i : Nat) : List Rat := mkr (fun k => ent (slE M b w).M i (w + 1 + k) / ent (slE M b w).M i w) M.length
def xS (p : List Nat) (E : List (List Rat)) (w : Nat) : Nat → List Rat
  | 0 => List.replicate w 0
  | i + 1 => (xS p E w i).set (pv p i) (ent E i w)
theorem xS_len (p : List Nat) (E : List (List Rat)) (w : Nat) : ∀ i, (xS p E w i).length = w
  | 0 => by simp [xS]
  | i + 1 => by rw [xS, List.length_set, xS_len p E w i]
def slX (M : List (List Rat)) (b : List Rat) (w : Nat) : List Rat := xS (slE M b w).p (slE M b w).M w (slE M b w).p.length
def slF (M : List (List Rat)) (b : List Rat) (w : Nat) : Option Nat := srF (slE M b w).M (slE M b w).p.length w
end Go.Proofs.Ytjjebokgckmnjaa

