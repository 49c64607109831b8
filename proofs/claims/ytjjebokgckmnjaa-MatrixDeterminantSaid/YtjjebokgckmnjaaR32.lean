/- Texts MC13 MC11a MC11 in one. -/
import Derived.Test.YtjjebokgckmnjaaR31
import Derived.Test.YtjjebokgckmnjaaR29
/- Contracts: lists of numbers, square matrices, products. -/
namespace Go.Proofs.Ytjjebokgckmnjaa
set_option linter.unusedSimpArgs false
set_option linter.unusedVariables false
open Go.RowKit

def evenB (M : List (List Rat)) (z : Int) : Bool := M.all fun r => decide ((r.length : Int) = z)
theorem evenB_iff {M : List (List Rat)} {z : Int} : evenB M z = true ↔ ∀ i, i < M.length → ((M.getD i []).length : Int) = z := by
  unfold evenB
  rw [List.all_eq_true]
  constructor
  · intro h i hi
    have := h M[i] (List.getElem_mem hi)
    rw [gd_lt hi]
    simpa using this
  · intro h q hq
    obtain ⟨i, hi, rfl⟩ := List.mem_iff_getElem.1 hq
    have := h i hi
    rw [gd_lt hi] at this
    simpa using this
def kEven : Con := con2 pMt (pN .i64) fun M z => (M.length ≤ 1000000, .raw (.bool (evenB M z)))
attribute [go_sem ↓, go_sem] kEven
theorem even_C : Ctr Try.prog 22 kEven := Ctr.c2 (by kernel_rfl) fun M z h => by
  have h : M.length ≤ 1000000 := h
  have T := (tabs mixed tbl_nil)
  show PCall _ _ _ (.raw (.bool (evenB M z)))
  refine PCall.of_vc T Try.func22 rfl Try.ntmps22 Try.results22 (by simp) ?_
  simp only [go_sem]
  refine AWp.loops (X := { i : Nat // i ≤ M.length ∧ ∀ j, j < i → ((M.getD j []).length : Int) = z }) (fun i => mkSt [(0, .lst (V.mat M)), (1, .raw (.int .i64 z)), (4, .raw (.bool false)), (5, .raw (.int .i64 (i.1 : Nat)))] [] 0 19) (fun i => M.length - i.1) ⟨0, Nat.zero_le _, fun j h => absurd h (Nat.not_lt_zero _)⟩ (Wk.of [] (by decide) ?_) ?_
  · simp only [go_sem, Int.natCast_zero]
  rintro ⟨i, hi, inv⟩
  refine vc_at T ?_
  by_cases hin : i < M.length
  · have d1 : (i : Int) < (M.length : Int) := by omega
    have d2 : (i : Int) + 1 = ((i + 1 : Nat) : Int) := by omega
    have d3 : 0 ≤ (i : Int) := by omega
    by_cases h0 : ((M.getD i []).length : Int) = z
    · have d4 : (((M.getD i []).length : Int) != z) = false := by rw [h0]; simp
      simp only [go_sem, d1, d2, d3, d4, hin]
      refine ⟨⟨by omega, by omega⟩, ⟨i + 1, hin, fun j hj => ?_⟩, Wk.of [] (by decide) ?_, by simp only; omega⟩
      · by_cases e : j = i
        · rw [e]; exact h0
        · exact inv j (by omega)
      · simp only [go_sem]
    · have d4 : (((M.getD i []).length : Int) != z) = true := by rw [bne_iff_ne]; exact h0
      have e1 : evenB M z = false := by
        rcases hz : evenB M z with _ | _
        · rfl
        · exact absurd (evenB_iff.1 hz i hin) h0
      simp only [go_sem, d1, d2, d3, d4, hin, e1]
  · obtain rfl : i = M.length := by omega
    have d1 : ¬ (M.length : Int) < (M.length : Int) := by omega
    have e1 : evenB M z = true := evenB_iff.2 inv
    simp only [go_sem, d1, e1]
def kSquare : Con := con1 pRaw5 fun x => (x.Ok, .lst (V.mat (x.m x.rows x.rows)))
attribute [go_sem ↓, go_sem] kSquare
theorem square_C : Ctr Try.prog 28 kSquare := Ctr.c1 (by kernel_rfl) fun x h => by
  obtain ⟨hr, hc, hv, hl⟩ := h
  have T := (tabs mixed (tbl_cons made5_C tbl_nil))
  have t1 : x.R.tmod 5 = ((x.rows : Nat) : Int) := by
    unfold Raw5.rows
    rw [Int.tmod_eq_emod_of_nonneg hr.1]
    omega
  have k1 : (Raw5.mk (x.R % 5) (x.R % 5) x.W).rows = x.rows := by show ((x.R % 5) % 5).toNat = (x.R % 5).toNat; omega
  have k2 : (Raw5.mk (x.R % 5) (x.R % 5) x.W).cols = x.rows := by show ((x.R % 5) % 6).toNat = (x.R % 5).toNat; omega
  have k3 : (Raw5.mk (x.R % 5) (x.R % 5) x.W).m x.rows x.rows = x.m x.rows x.rows := rfl
  have ok : (Raw5.mk (x.R % 5) (x.R % 5) x.W).Ok := ⟨⟨by simp only; omega, by simp only; omega⟩, ⟨by simp only; omega, by simp only; omega⟩, hv, hl⟩
  show PCall _ _ [.agg [.raw (.int .u8 x.R), .raw (.int .u8 x.C), .lst (V.i16s x.W)]] (.lst (V.mat (x.m x.rows x.rows)))
  refine PCall.of_vc T Try.func28 rfl Try.ntmps28 Try.results28 (by simp) ?_
  simp only [go_sem]
  refine ⟨hr.1, ok, ?_⟩
  rw [k1, k2, k3]
  exact .refl _
def kProduct : Con := con2 pMt pMt fun A B => ((A.length ≤ 100 ∧ B.length ≤ 100) ∧ Wid B.length B ∧ ∀ i k, DotOk (A.getD i []) ((trM B B.length).getD k []), .lst (V.mat (prM A B)))
attribute [go_sem ↓, go_sem] kProduct
set_option maxRecDepth 4000 in
theorem product_C : Ctr Try.prog 30 kProduct := Ctr.c2 (by kernel_rfl) fun A B h => by
  obtain ⟨⟨lA, lB⟩, hW, hd⟩ := h
  have T := (tabs mixed (tbl_cons turned_C (tbl_cons dot_C tbl_nil)))
  have mx : maxLen = 9223372036854775807 := by decide
  show PCall _ _ _ (.lst (V.mat (prM A B)))
  refine PCall.of_vc T Try.func30 rfl Try.ntmps30 Try.results30 (by simp) ?_
  unfold prM
  obtain ⟨D, eD⟩ : ∃ D, trM B B.length = D := ⟨_, rfl⟩
  have lD : D.length = B.length := by rw [← eD, trM_len]
  rw [eD] at hd ⊢
  rw [← lD]
  obtain ⟨F, eF⟩ : ∃ F : Nat → List Rat, F = fun i => mkr (fun k => dotL (A.getD i []) (D.getD k [])) D.length := ⟨_, rfl⟩
  rw [← eF]
  have tc : ((B.length ≤ 1000 ∧ 0 ≤ (B.length : Int) ∧ (B.length : Int) ≤ 1000) ∧ ∀ i, i < B.length → (B.length : Int) ≤ ((B.getD i []).length : Nat)) = True := eq_true ⟨⟨by omega, by omega, by omega⟩, fun i hi => by rw [hW i hi]; exact Int.le_refl _⟩
  simp only [go_sem, tc, eD, Int.toNat_natCast]
  refine AWp.loops (X := { i : Nat // i ≤ A.length }) (fun i => mkSt [(0, .lst (V.mat A)), (4, .raw (.slice none 0 0)), (5, .lst (V.mat D)), (6, .sl 0 1 0 i.1), (7, .raw (.int .i64 (i.1 : Nat)))] [(0, true, ⟨33, 1, V.mat (mkm F i.1)⟩)] 1 45) (fun i => A.length - i.1) ⟨0, Nat.zero_le _⟩ (Wk.of [5] (by decide) ?_) ?_
  · have e0 : V.mat (mkm F 0) = [] := rfl
    simp only [go_sem, e0, Int.natCast_zero]
  rintro ⟨i, hi⟩
  refine AWp.endFrz 6 ?_
  refine vc_at T ?_
  by_cases hin : i < A.length
  · have d1 : (i : Int) < (A.length : Int) := by omega
    have d2 : (i : Int) + 1 = ((i + 1 : Nat) : Int) := by omega
    have d3 : 0 ≤ (i : Int) := by omega
    have lc : (mkm F i).length = i := mkm_len _ _
    simp only [go_sem, d1]
    refine AWp.loops (X := { k : Nat // k ≤ D.length }) (fun k => mkSt [(0, .lst (V.mat A)), (4, .raw (.slice none 0 0)), (5, .lst (V.mat D)), (6, .sl 0 1 0 i), (7, .raw (.int .i64 (i : Nat))), (8, .sl 1 4 0 k.1), (9, .raw (.int .i64 (k.1 : Nat)))] [(0, true, ⟨33, 1, V.mat (mkm F i)⟩), (1, true, ⟨41, 4, V.rats (mkr (fun k => dotL (A.getD i []) (D.getD k [])) k.1)⟩)] 2 45) (fun k => D.length - k.1) ⟨0, Nat.zero_le _⟩ (Wk.of [0, 5] (by decide) ?_) ?_
    · have e0 : V.rats (mkr (fun k => dotL (A.getD i []) (D.getD k [])) 0) = [] := rfl
      simp only [go_sem, e0, Int.natCast_zero]
    rintro ⟨k, hk⟩
    refine vc_at T ?_
    obtain ⟨G, eG⟩ : ∃ G : Nat → Rat, G = fun k => dotL (A.getD i []) (D.getD k []) := ⟨_, rfl⟩
    rw [← eG]
    have lk : (mkr G k).length = k := mkr_len _ _
    by_cases hkc : k < D.length
    · have f1 : (k : Int) < (D.length : Int) := by omega
      have f2 : (k : Int) + 1 = ((k + 1 : Nat) : Int) := by omega
      have f3 : 0 ≤ (k : Int) := by omega
      have f5 : V.rats (mkr G k) ++ [.Q (G k)] = V.rats (mkr G (k + 1)) := mkr_snoc _ _
      have f6 : mkr G k ++ [G k] = mkr G (k + 1) := mkr_snoc' _ _
      have f7 : dotL (A.getD i []) (D.getD k []) = G k := by rw [eG]
      have f8 := hd i k
      simp only [go_sem, f1, f2, f3, f5, f6, f7, f8, d3, hin, hkc, lk, mx, mkr_take]
      refine ⟨by omega, ⟨by omega, by omega⟩, by rfl, ⟨by omega, by omega⟩, ⟨k + 1, hkc⟩, Wk.of [0, 17] (by decide) ?_, by simp only; omega⟩
      simp only [go_sem]
    · obtain rfl : k = D.length := by omega
      have f1 : ¬ (D.length : Int) < (D.length : Int) := by omega
      have f2 : mkr G D.length = F i := by rw [eF, eG]
      have f3 : mkm F i ++ [F i] = mkm F (i + 1) := (mkm_succ F i).symm
      have lF : (F i).length = D.length := by rw [← f2]; exact lk
      have tF : (F i).take D.length = F i := List.take_of_length_le (by omega)
      have mm : D.length ≤ D.length := Nat.le_refl _
      simp only [go_sem, f1, f2, d2, mx, lk, lc, lF, tF, mm, ev_frzT_n, frz_mat_snocA, mat_snoc, mkm_take, f3]
      refine ⟨⟨by omega, by omega⟩, ⟨by omega, by omega⟩, ⟨i + 1, hin⟩, Wk.of [9] (by decide) ?_, by simp only; omega⟩
      simp only [go_sem]
  · obtain rfl : i = A.length := by omega
    have d1 : ¬ (A.length : Int) < (A.length : Int) := by omega
    have lc : (mkm F A.length).length = A.length := mkm_len _ _
    have mm : A.length ≤ A.length := Nat.le_refl _
    simp only [go_sem, d1, lc, mkm_take, mm]
end Go.Proofs.Ytjjebokgckmnjaa


/- Sizes of small matrices. -/
namespace Go.Proofs.Ytjjebokgckmnjaa
set_option linter.unusedSimpArgs false
set_option linter.unusedVariables false
open Go.RowKit

def qsB (q : Rat) : Bool := decide (q.num.natAbs < 4294967296) && decide (q.den < 4294967296)
theorem qsB_ok {q : Rat} (h : qsB q = true) : qs q ≤ 1 := by
  simp only [qsB, Bool.and_eq_true, decide_eq_true_eq] at h
  exact Nat.max_le.2 ⟨(dl_le (k := 1)).2 (by simpa using h.1), (dl_le (k := 1)).2 (by simpa using h.2)⟩
theorem sS_le {S k : Nat} (hS : S ≤ 20000000) (hk : k ≤ 5) : sS S k ≤ 1000000000000 ∧ dS S k ≤ 100000000000 := by
  have h1 := sS_mono S hk
  have h2 := dS_mono S hk
  have e1 : sS S 5 = 4 * (4 * (4 * (4 * (4 * S + 2) + 2) + 2) + 2) + 2 := rfl
  have e2 : dS S 5 = ((((1 + S) + (4 * S + 2)) + (4 * (4 * S + 2) + 2)) + (4 * (4 * (4 * S + 2) + 2) + 2)) + (4 * (4 * (4 * (4 * S + 2) + 2) + 2) + 2) := rfl
  omega
theorem redOk_of {M : List (List Rat)} {w S z : Nat} (hl : M.length ≤ 400) (hW : Wid w M) (hw : w ≤ 400) (hz : z ≤ w) (h5 : z ≤ 5) (hq : ∀ i k, qs (ent M i k) ≤ S) (hS : S ≤ 20000000) : RedOk M (z : Nat) := by
  have := sS_le hS h5
  refine ⟨⟨by omega, by omega⟩, w, S, ⟨hW, by omega, by omega⟩, hq, ?_⟩
  rw [Int.toNat_natCast]
  omega
/-- A small matrix that is given. -/
def mdB (M : List (List Rat)) : Bool := (M.all fun r => r.all qsB && decide (r.length = wdt M)) && decide (M.length ≤ 4)
theorem cf_qsB {r : List Rat} (h : r.all qsB = true) (k : Nat) : qs (cf r k) ≤ 1 := by
  by_cases hk : k < r.length
  · rw [cf_lt hk]
    exact qsB_ok (List.all_eq_true.1 h _ (List.getElem_mem hk))
  · rw [cf_ge (by omega)]
    exact Nat.le_trans qs_0 (by omega)
theorem mdB_ok {M : List (List Rat)} (h : mdB M = true) : M.length ≤ 4 ∧ Wid (wdt M) M ∧ ∀ i k, qs (ent M i k) ≤ 1 := by
  simp only [mdB, Bool.and_eq_true, decide_eq_true_eq, List.all_eq_true] at h
  refine ⟨h.2, fun i hi => ?_, fun i k => ?_⟩
  · rw [gd_lt hi]
    exact (h.1 _ (List.getElem_mem hi)).2
  · by_cases hi : i < M.length
    · show qs (cf (M.getD i []) k) ≤ 1
      rw [gd_lt hi]
      exact cf_qsB (List.all_eq_true.2 (h.1 _ (List.getElem_mem hi)).1) k
    · rw [ent_ge (by omega)]
      exact Nat.le_trans qs_0 (by omega)
theorem mdB_red {M : List (List Rat)} (h : mdB M = true) (hw : wdt M ≤ 5) : RedOk M (wdt M : Nat) := by
  obtain ⟨h1, h2, h3⟩ := mdB_ok h
  exact redOk_of (by omega) h2 (by omega) (Nat.le_refl _) hw h3 (by decide)
theorem mdB_MB {M : List (List Rat)} (h : mdB M = true) (hw : wdt M ≤ 5) : MB M := by
  obtain ⟨h1, h2, h3⟩ := mdB_ok h
  refine ⟨by omega, fun i => ⟨?_, fun k => Nat.le_trans (h3 i k) (by decide)⟩⟩
  by_cases hi : i < M.length
  · rw [h2 i hi]; omega
  · rw [gd_ge (by omega)]; decide
theorem exM_sz {M : List (List Rat)} {b : List Rat} {S : Nat} (hW : Wid (wdt M) M) (h1 : 1 ≤ S) (hM : ∀ i k, qs (ent M i k) ≤ S) (hb : ∀ k, qs (cf b k) ≤ S) (i k : Nat) : qs (ent (exM M b) i k) ≤ S := by
  by_cases hi : i < M.length
  · rw [ent_exM hW b hi]
    split
    · exact hM i k
    · split
      · exact hb i
      · split
        · exact Nat.le_trans (qsB_ok (by decide +kernel)) h1
        · exact Nat.le_trans qs_0 h1
  · rw [ent_ge (by rw [exM_len]; omega)]
    exact Nat.le_trans qs_0 h1
theorem solOk_of {M : List (List Rat)} {b : List Rat} {S : Nat} (hb : b.length = M.length) (hl : M.length ≤ 400) (hW : Wid (wdt M) M) (hw : wdt M ≤ 5) (h1 : 1 ≤ S) (hM : ∀ i k, qs (ent M i k) ≤ S) (hbS : ∀ k, qs (cf b k) ≤ S) (hS : S ≤ 20000000) : SolOk M b := by
  have := sS_le hS hw
  exact ⟨⟨hb, hl⟩, S, ⟨hW, by omega⟩, exM_sz hW h1 hM hbS, this.1, by omega⟩
theorem mdB_sol {M : List (List Rat)} {b : List Rat} (h : mdB M = true) (hw : wdt M ≤ 5) (hb : b.length = M.length) (hq : b.all qsB = true) : SolOk M b := by
  obtain ⟨h1, h2, h3⟩ := mdB_ok h
  exact solOk_of hb (by omega) h2 hw (Nat.le_refl _) h3 (cf_qsB hq) (by decide)
theorem smI_ok (l : List Int) (h : ((l.all fun z => decide (-128 ≤ z) && decide (z ≤ 127)) && decide (l.length ≤ 100)) = true) : SmI l := by
  simp only [Bool.and_eq_true, decide_eq_true_eq, List.all_eq_true] at h
  refine ⟨h.2, fun i => ?_⟩
  unfold iz
  rw [List.getD_eq_getElem?_getD]
  by_cases hi : i < l.length
  · rw [List.getElem?_eq_getElem hi]
    exact h.1 _ (List.getElem_mem hi)
  · rw [List.getElem?_eq_none (by omega)]
    exact ⟨by decide, by decide⟩
theorem LB_of {l : List Rat} (h : (l.all qsB && decide (l.length ≤ 100)) = true) : LB l := by
  simp only [Bool.and_eq_true, decide_eq_true_eq] at h
  exact ⟨by omega, fun k => Nat.le_trans (cf_qsB h.1 k) (by decide)⟩
end Go.Proofs.Ytjjebokgckmnjaa


/- The fixed examples of the laws. -/
namespace Go.Proofs.Ytjjebokgckmnjaa
set_option linter.unusedSimpArgs false
set_option linter.unusedVariables false
open Go.RowKit

set_option maxRecDepth 20000 in
set_option maxHeartbeats 2000000 in
theorem sanity5_V : PCall Try.prog 9 [] (.raw (.bool true)) := by
  obtain ⟨p1, h1⟩ : ∃ p : List Rat, p = rwZ [0, 2, 4] := ⟨_, rfl⟩
  obtain ⟨p2, h2⟩ : ∃ p : List Rat, p = rwZ [1, 1, 1] := ⟨_, rfl⟩
  obtain ⟨p3, h3⟩ : ∃ p : List Rat, p = rwZ [1, 1] := ⟨_, rfl⟩
  obtain ⟨p4, h4⟩ : ∃ p : List Rat, p = rwZ [1, -1] := ⟨_, rfl⟩
  obtain ⟨p5, h5⟩ : ∃ p : List Rat, p = rwZ [3, 1] := ⟨_, rfl⟩
  obtain ⟨p6, h6⟩ : ∃ p : List Rat, p = rwZ [2, 2] := ⟨_, rfl⟩
  obtain ⟨p7, h7⟩ : ∃ p : List Rat, p = rwZ [1, 3] := ⟨_, rfl⟩
  obtain ⟨p8, h8⟩ : ∃ p : List Rat, p = rwZ [1, 2] := ⟨_, rfl⟩
  obtain ⟨p9, h9⟩ : ∃ p : List Rat, p = rwZ [3, 4] := ⟨_, rfl⟩
  obtain ⟨p10, h10⟩ : ∃ p : List Rat, p = rwZ [1, 0, -1] := ⟨_, rfl⟩
  obtain ⟨p11, h11⟩ : ∃ p : List Rat, p = rwZ [0, 1, 2] := ⟨_, rfl⟩
  obtain ⟨p12, h12⟩ : ∃ p : List Rat, p = rwZ [1, -2, 1] := ⟨_, rfl⟩
  obtain ⟨p13, h13⟩ : ∃ p : List Rat, p = rwZ [2, 1] := ⟨_, rfl⟩
  obtain ⟨p14, h14⟩ : ∃ p : List Rat, p = rwZ [-2, 1] := ⟨_, rfl⟩
  have w1 : SmI [0, 2, 4] = True := eq_true (smI_ok _ (by decide))
  have w2 : SmI [1, 1, 1] = True := eq_true (smI_ok _ (by decide))
  have w3 : SmI [1, 1] = True := eq_true (smI_ok _ (by decide))
  have w4 : SmI [1, -1] = True := eq_true (smI_ok _ (by decide))
  have w5 : SmI [3, 1] = True := eq_true (smI_ok _ (by decide))
  have w6 : SmI [2, 2] = True := eq_true (smI_ok _ (by decide))
  have w7 : SmI [1, 3] = True := eq_true (smI_ok _ (by decide))
  have w8 : SmI [1, 2] = True := eq_true (smI_ok _ (by decide))
  have w9 : SmI [3, 4] = True := eq_true (smI_ok _ (by decide))
  have w10 : SmI [1, 0, -1] = True := eq_true (smI_ok _ (by decide))
  have w11 : SmI [0, 1, 2] = True := eq_true (smI_ok _ (by decide))
  have w12 : SmI [1, -2, 1] = True := eq_true (smI_ok _ (by decide))
  have w13 : SmI [2, 1] = True := eq_true (smI_ok _ (by decide))
  have w14 : SmI [-2, 1] = True := eq_true (smI_ok _ (by decide))
  obtain ⟨M1, k1⟩ : ∃ M, [p1, p2] = M := ⟨_, rfl⟩
  obtain ⟨M2, k2⟩ : ∃ M, [p3, p4] = M := ⟨_, rfl⟩
  obtain ⟨M3, k3⟩ : ∃ M, [p3, p6] = M := ⟨_, rfl⟩
  obtain ⟨M4, k4⟩ : ∃ M, [p8, p9] = M := ⟨_, rfl⟩
  obtain ⟨M5, k5⟩ : ∃ M, [p8] = M := ⟨_, rfl⟩
  obtain ⟨A1, k6⟩ : ∃ M, [p10, p11] = M := ⟨_, rfl⟩
  obtain ⟨N1, k7⟩ : ∃ M, [p12] = M := ⟨_, rfl⟩
  have s1 : mdB M1 = true ∧ wdt M1 ≤ 5 := by subst k1 h1 h2; decide +kernel
  have s2 : mdB M2 = true ∧ wdt M2 ≤ 5 := by subst k2 h3 h4; decide +kernel
  have s3 : mdB M3 = true ∧ wdt M3 ≤ 5 := by subst k3 h3 h6; decide +kernel
  have s4 : mdB M4 = true ∧ wdt M4 ≤ 5 := by subst k4 h8 h9; decide +kernel
  have s5 : mdB M5 = true ∧ wdt M5 ≤ 5 := by subst k5 h8; decide +kernel
  have s6 : mdB A1 = true ∧ wdt A1 ≤ 5 := by subst k6 h10 h11; decide +kernel
  have s7 : mdB N1 = true ∧ wdt N1 ≤ 5 := by subst k7 h12; decide +kernel
  have r1 := mdB_red s1.1 s1.2
  have b6 := mdB_MB s6.1 s6.2
  have b7 := mdB_MB s7.1 s7.2
  have e1 : rre M1 (wdt M1) = A1 ∧ (elm M1 (wdt M1)).p = [0, 1] := by subst k1 k6 h1 h2 h10 h11; decide +kernel
  have e2 : nulP [0, 1] A1 3 3 = N1 := by subst k6 k7 h10 h11 h12; decide +kernel
  have e3 : rk M1 (wdt M1) = 2 := by unfold rk; rw [e1.2]; rfl
  have e4 : solV M2 p5 = .tup [.lst (V.rats p13), .lst [], .raw (.bool true)] := by
    have x1 : slF M2 p5 (wdt M2) = none := by subst k2 h3 h4 h5; decide +kernel
    have x2 : slX M2 p5 (wdt M2) = p13 := by subst k2 h3 h4 h5 h13; decide +kernel
    unfold solV
    rw [x1, x2]
  have e5 : solV M3 p7 = .tup [.lst [], .lst (V.rats p14), .raw (.bool false)] := by
    have x1 : slF M3 p7 (wdt M3) = some 1 := by subst k3 h3 h6 h7; decide +kernel
    have x2 : slW M3 p7 (wdt M3) 1 = p14 := by subst k3 h3 h6 h7 h14; decide +kernel
    unfold solV
    rw [x1]
    show V.tup [_, .lst (V.rats (slW M3 p7 (wdt M3) 1)), _] = _
    rw [x2]
  have e6 : detV M4 = .tup [.Q (-2 : Int), .raw (.int .i64 0)] := by
    have x1 : wdt M4 = M4.length := by subst k4 h8 h9; decide +kernel
    have x2 : dtv M4 = (-2 : Int) := by subst k4 h8 h9; decide +kernel
    unfold detV
    rw [if_pos x1, x2]
  have e7 : detV [] = .tup [.Q (1 : Int), .raw (.int .i64 0)] := by
    have x2 : dtv [] = (1 : Int) := by decide +kernel
    unfold detV
    rw [if_pos (show wdt ([] : List (List Rat)) = ([] : List (List Rat)).length from rfl), x2]
  have e8 : detV M5 = .tup [z0, .raw (.int .i64 1)] := by
    unfold detV
    rw [if_neg (by subst k5 h8; decide +kernel)]
  have d1 : DetC M4 := ⟨by have := (mdB_ok s4.1).1; omega, fun e => by rw [← e]; exact mdB_red s4.1 s4.2⟩
  have d2 : DetC M5 := ⟨by have := (mdB_ok s5.1).1; omega, fun e => by rw [← e]; exact mdB_red s5.1 s5.2⟩
  have rn : RedOk [] ((wdt [] : Nat) : Int) := mdB_red rfl (by decide)
  have d3 : DetC [] := ⟨by decide, fun _ => rn⟩
  have l5 : SolOk M2 p5 := mdB_sol s2.1 s2.2 (by subst k2 h5; rfl) (by subst h5; decide +kernel)
  have l7 : SolOk M3 p7 := mdB_sol s3.1 s3.2 (by subst k3 h7; rfl) (by subst h7; decide +kernel)
  have l13 : LB p13 := LB_of (by subst h13; decide +kernel)
  have l14 : LB p14 := LB_of (by subst h14; decide +kernel)
  have n1 : NulOk M1 3 := ⟨⟨r1, by decide, by decide⟩, fun _ => by subst k1 h1; rfl⟩
  have e9 : rk [] (wdt []) = 0 := rfl
  have qm : qs (((-2 : Int) : Rat)) ≤ 5000000000000 := Nat.le_trans (qsB_ok (by decide +kernel)) (by decide)
  have q1 : qs (((1 : Int) : Rat)) ≤ 5000000000000 := Nat.le_trans (qsB_ok (by decide +kernel)) (by decide)
  have q2 : MB A1 := b6
  have un0 : unmat [] = some [] := rfl
  have sz1 : dl ((-2 : Int) : Rat).num.natAbs ≤ 30000000000000 := by decide
  have sz2 : dl ((((-2 : Int) : Rat).den : Int)).natAbs ≤ 30000000000000 := by decide
  have sz3 : dl ((1 : Int) : Rat).num.natAbs ≤ 30000000000000 := by decide
  have sz4 : dl ((((1 : Int) : Rat).den : Int)).natAbs ≤ 30000000000000 := by decide
  have un1 : unnat [.raw (.int .i64 0), .raw (.int .i64 1)] = some [0, 1] := rfl
  refine PCall.of_awp Try.func9 rfl Try.ntmps9 Try.results9 (by simp) ?_
  have T := (tabs mixed (tbl_cons row_C (tbl_cons rref_C (tbl_cons null_C (tbl_cons solve_C (tbl_cons mdet_C (tbl_cons rank_C (tbl_cons rlist_C (tbl_cons rrows_C (tbl_cons ints_C (tbl_cons r2Same_C (tbl_cons r2Whole_C tbl_nil))))))))))))
  refine AWp.seq (vc_ok T _ _ _ ?_)
  simp only [go_sem, ← h1, ← h2, ← h3, ← h4, ← h5, ← h6, ← h7, ← h8, ← h9, ← h10, ← h11, ← h12, ← h13, ← h14, w1, w2, w3, w4, w5, w6, w7, w8, w9, w10, w11, w12, w13, w14, k1, k2, k3, k4, k5, k6, k7, e1, e2, e3, e4, e5, e6, e7, e8, e9, d1, d2, d3, rn, l5, l7, l13, l14, n1, b6, b7, r1, qm, q1, q2, unmat_cons, un0, un1, z0]
  refine AWp.seq (vc_ok T _ _ _ ?_)
  simp only [go_sem, ← h1, ← h2, ← h3, ← h4, ← h5, ← h6, ← h7, ← h8, ← h9, ← h10, ← h11, ← h12, ← h13, ← h14, w1, w2, w3, w4, w5, w6, w7, w8, w9, w10, w11, w12, w13, w14, k1, k2, k3, k4, k5, k6, k7, e1, e2, e3, e4, e5, e6, e7, e8, e9, d1, d2, d3, rn, l5, l7, l13, l14, n1, b6, b7, r1, qm, q1, q2, unmat_cons, un0, un1, z0]
  refine AWp.frzS 1 ?_
  simp only [go_sem, ← h1, ← h2, ← h3, ← h4, ← h5, ← h6, ← h7, ← h8, ← h9, ← h10, ← h11, ← h12, ← h13, ← h14, w1, w2, w3, w4, w5, w6, w7, w8, w9, w10, w11, w12, w13, w14, k1, k2, k3, k4, k5, k6, k7, e1, e2, e3, e4, e5, e6, e7, e8, e9, d1, d2, d3, rn, l5, l7, l13, l14, n1, b6, b7, r1, qm, q1, q2, unmat_cons, un0, un1, z0]
  refine AWp.seq (vc_ok T _ _ _ ?_)
  simp only [go_sem, ← h1, ← h2, ← h3, ← h4, ← h5, ← h6, ← h7, ← h8, ← h9, ← h10, ← h11, ← h12, ← h13, ← h14, w1, w2, w3, w4, w5, w6, w7, w8, w9, w10, w11, w12, w13, w14, k1, k2, k3, k4, k5, k6, k7, e1, e2, e3, e4, e5, e6, e7, e8, e9, d1, d2, d3, rn, l5, l7, l13, l14, n1, b6, b7, r1, qm, q1, q2, unmat_cons, un0, un1, z0]
  refine AWp.seq (vc_ok T _ _ _ ?_)
  simp only [go_sem, ← h1, ← h2, ← h3, ← h4, ← h5, ← h6, ← h7, ← h8, ← h9, ← h10, ← h11, ← h12, ← h13, ← h14, w1, w2, w3, w4, w5, w6, w7, w8, w9, w10, w11, w12, w13, w14, k1, k2, k3, k4, k5, k6, k7, e1, e2, e3, e4, e5, e6, e7, e8, e9, d1, d2, d3, rn, l5, l7, l13, l14, n1, b6, b7, r1, qm, q1, q2, unmat_cons, un0, un1, z0]
  refine AWp.seq (AWp.from (Wk.of (ss := [(1, .lst [.lst (V.rats p1), .lst (V.rats p2)]), (2, .lst (V.mat A1)), (3, .lst (V.nats [0, 1])), (4, .lst (V.mat N1))]) (hs := []) (n := 0) (N := 144) [] (by decide) ?_) (AWp.regs ?_))
  · simp only [go_sem]
  refine RegI.cut T 0 4 rfl rfl (by decide) ?_
  simp only [go_sem, mkSt_eq, ← h1, ← h2, ← h3, ← h4, ← h5, ← h6, ← h7, ← h8, ← h9, ← h10, ← h11, ← h12, ← h13, ← h14, w1, w2, w3, w4, w5, w6, w7, w8, w9, w10, w11, w12, w13, w14, k1, k2, k3, k4, k5, k6, k7, e1, e2, e3, e4, e5, e6, e7, e8, e9, d1, d2, d3, rn, l5, l7, l13, l14, n1, b6, b7, r1, qm, q1, q2, unmat_cons, un0, un1, z0]
  refine ⟨_, Wk.of (ss := [(1, .lst [.lst (V.rats p1), .lst (V.rats p2)]), (2, .lst (V.mat A1)), (3, .lst (V.nats [0, 1])), (4, .lst (V.mat N1)), (32, .lst (V.rats p3)), (34, .lst (V.rats p4))]) (hs := []) (n := 0) (N := 144) [] (by decide) ?_, ?_⟩
  · simp only [go_sem]
  refine RegI.cut T 4 7 rfl rfl (by decide) ?_
  simp only [go_sem, mkSt_eq, ← h1, ← h2, ← h3, ← h4, ← h5, ← h6, ← h7, ← h8, ← h9, ← h10, ← h11, ← h12, ← h13, ← h14, w1, w2, w3, w4, w5, w6, w7, w8, w9, w10, w11, w12, w13, w14, k1, k2, k3, k4, k5, k6, k7, e1, e2, e3, e4, e5, e6, e7, e8, e9, d1, d2, d3, rn, l5, l7, l13, l14, n1, b6, b7, r1, qm, q1, q2, unmat_cons, un0, un1, z0]
  refine ⟨_, Wk.of (ss := [(1, .lst [.lst (V.rats p1), .lst (V.rats p2)]), (2, .lst (V.mat A1)), (3, .lst (V.nats [0, 1])), (4, .lst (V.mat N1)), (35, .sl 0 1 0 2), (37, .lst (V.rats p5))]) (hs := [(0, false, ⟨33, 1, [.lst (V.rats p3), .lst (V.rats p4)]⟩)]) (n := 1) (N := 144) [0] (by decide) ?_, ?_⟩
  · simp only [go_sem]
  refine RegI.cut T 7 12 rfl rfl (by decide) ?_
  simp only [go_sem, mkSt_eq, ← h1, ← h2, ← h3, ← h4, ← h5, ← h6, ← h7, ← h8, ← h9, ← h10, ← h11, ← h12, ← h13, ← h14, w1, w2, w3, w4, w5, w6, w7, w8, w9, w10, w11, w12, w13, w14, k1, k2, k3, k4, k5, k6, k7, e1, e2, e3, e4, e5, e6, e7, e8, e9, d1, d2, d3, rn, l5, l7, l13, l14, n1, b6, b7, r1, qm, q1, q2, unmat_cons, un0, un1, z0]
  refine ⟨_, Wk.of (ss := [(1, .lst [.lst (V.rats p1), .lst (V.rats p2)]), (2, .lst (V.mat A1)), (3, .lst (V.nats [0, 1])), (4, .lst (V.mat N1)), (39, .lst (V.rats p13)), (40, .lst []), (41, .raw (.bool true))]) (hs := []) (n := 0) (N := 144) [] (by decide) ?_, ?_⟩
  · simp only [go_sem]
  refine RegI.fin T 12 rfl ?_
  simp only [go_sem, mkSt_eq, ← h1, ← h2, ← h3, ← h4, ← h5, ← h6, ← h7, ← h8, ← h9, ← h10, ← h11, ← h12, ← h13, ← h14, w1, w2, w3, w4, w5, w6, w7, w8, w9, w10, w11, w12, w13, w14, k1, k2, k3, k4, k5, k6, k7, e1, e2, e3, e4, e5, e6, e7, e8, e9, d1, d2, d3, rn, l5, l7, l13, l14, n1, b6, b7, r1, qm, q1, q2, unmat_cons, un0, un1, z0]
  refine AWp.seq (AWp.from (Wk.of (ss := [(1, .lst [.lst (V.rats p1), .lst (V.rats p2)]), (2, .lst (V.mat A1)), (3, .lst (V.nats [0, 1])), (4, .lst (V.mat N1)), (5, .lst (V.rats p13)), (7, .raw (.bool true))]) (hs := []) (n := 0) (N := 144) [] (by decide) ?_) (AWp.regs ?_))
  · simp only [go_sem]
  refine RegI.cut T 0 4 rfl rfl (by decide) ?_
  simp only [go_sem, mkSt_eq, ← h1, ← h2, ← h3, ← h4, ← h5, ← h6, ← h7, ← h8, ← h9, ← h10, ← h11, ← h12, ← h13, ← h14, w1, w2, w3, w4, w5, w6, w7, w8, w9, w10, w11, w12, w13, w14, k1, k2, k3, k4, k5, k6, k7, e1, e2, e3, e4, e5, e6, e7, e8, e9, d1, d2, d3, rn, l5, l7, l13, l14, n1, b6, b7, r1, qm, q1, q2, unmat_cons, un0, un1, z0]
  refine ⟨_, Wk.of (ss := [(1, .lst [.lst (V.rats p1), .lst (V.rats p2)]), (2, .lst (V.mat A1)), (3, .lst (V.nats [0, 1])), (4, .lst (V.mat N1)), (5, .lst (V.rats p13)), (7, .raw (.bool true)), (44, .lst (V.rats p3)), (46, .lst (V.rats p6))]) (hs := []) (n := 0) (N := 144) [] (by decide) ?_, ?_⟩
  · simp only [go_sem]
  refine RegI.cut T 4 7 rfl rfl (by decide) ?_
  simp only [go_sem, mkSt_eq, ← h1, ← h2, ← h3, ← h4, ← h5, ← h6, ← h7, ← h8, ← h9, ← h10, ← h11, ← h12, ← h13, ← h14, w1, w2, w3, w4, w5, w6, w7, w8, w9, w10, w11, w12, w13, w14, k1, k2, k3, k4, k5, k6, k7, e1, e2, e3, e4, e5, e6, e7, e8, e9, d1, d2, d3, rn, l5, l7, l13, l14, n1, b6, b7, r1, qm, q1, q2, unmat_cons, un0, un1, z0]
  refine ⟨_, Wk.of (ss := [(1, .lst [.lst (V.rats p1), .lst (V.rats p2)]), (2, .lst (V.mat A1)), (3, .lst (V.nats [0, 1])), (4, .lst (V.mat N1)), (5, .lst (V.rats p13)), (7, .raw (.bool true)), (47, .sl 0 1 0 2), (49, .lst (V.rats p7))]) (hs := [(0, false, ⟨33, 1, [.lst (V.rats p3), .lst (V.rats p6)]⟩)]) (n := 1) (N := 144) [0] (by decide) ?_, ?_⟩
  · simp only [go_sem]
  refine RegI.cut T 7 12 rfl rfl (by decide) ?_
  simp only [go_sem, mkSt_eq, ← h1, ← h2, ← h3, ← h4, ← h5, ← h6, ← h7, ← h8, ← h9, ← h10, ← h11, ← h12, ← h13, ← h14, w1, w2, w3, w4, w5, w6, w7, w8, w9, w10, w11, w12, w13, w14, k1, k2, k3, k4, k5, k6, k7, e1, e2, e3, e4, e5, e6, e7, e8, e9, d1, d2, d3, rn, l5, l7, l13, l14, n1, b6, b7, r1, qm, q1, q2, unmat_cons, un0, un1, z0]
  refine ⟨_, Wk.of (ss := [(1, .lst [.lst (V.rats p1), .lst (V.rats p2)]), (2, .lst (V.mat A1)), (3, .lst (V.nats [0, 1])), (4, .lst (V.mat N1)), (5, .lst (V.rats p13)), (7, .raw (.bool true)), (51, .lst []), (52, .lst (V.rats p14)), (53, .raw (.bool false))]) (hs := []) (n := 0) (N := 144) [] (by decide) ?_, ?_⟩
  · simp only [go_sem]
  refine RegI.fin T 12 rfl ?_
  simp only [go_sem, mkSt_eq, ← h1, ← h2, ← h3, ← h4, ← h5, ← h6, ← h7, ← h8, ← h9, ← h10, ← h11, ← h12, ← h13, ← h14, w1, w2, w3, w4, w5, w6, w7, w8, w9, w10, w11, w12, w13, w14, k1, k2, k3, k4, k5, k6, k7, e1, e2, e3, e4, e5, e6, e7, e8, e9, d1, d2, d3, rn, l5, l7, l13, l14, n1, b6, b7, r1, qm, q1, q2, unmat_cons, un0, un1, z0]
  refine AWp.seq (AWp.from (Wk.of (ss := [(1, .lst [.lst (V.rats p1), .lst (V.rats p2)]), (2, .lst (V.mat A1)), (3, .lst (V.nats [0, 1])), (4, .lst (V.mat N1)), (5, .lst (V.rats p13)), (7, .raw (.bool true)), (9, .lst (V.rats p14)), (10, .raw (.bool false))]) (hs := []) (n := 0) (N := 144) [] (by decide) ?_) (AWp.regs ?_))
  · simp only [go_sem]
  refine RegI.cut T 0 4 rfl rfl (by decide) ?_
  simp only [go_sem, mkSt_eq, ← h1, ← h2, ← h3, ← h4, ← h5, ← h6, ← h7, ← h8, ← h9, ← h10, ← h11, ← h12, ← h13, ← h14, w1, w2, w3, w4, w5, w6, w7, w8, w9, w10, w11, w12, w13, w14, k1, k2, k3, k4, k5, k6, k7, e1, e2, e3, e4, e5, e6, e7, e8, e9, d1, d2, d3, rn, l5, l7, l13, l14, n1, b6, b7, r1, qm, q1, q2, unmat_cons, un0, un1, z0]
  refine ⟨_, Wk.of (ss := [(1, .lst [.lst (V.rats p1), .lst (V.rats p2)]), (2, .lst (V.mat A1)), (3, .lst (V.nats [0, 1])), (4, .lst (V.mat N1)), (5, .lst (V.rats p13)), (7, .raw (.bool true)), (9, .lst (V.rats p14)), (10, .raw (.bool false)), (56, .lst (V.rats p8)), (58, .lst (V.rats p9))]) (hs := []) (n := 0) (N := 144) [] (by decide) ?_, ?_⟩
  · simp only [go_sem]
  refine RegI.cut T 4 9 rfl rfl (by decide) ?_
  simp only [go_sem, mkSt_eq, ← h1, ← h2, ← h3, ← h4, ← h5, ← h6, ← h7, ← h8, ← h9, ← h10, ← h11, ← h12, ← h13, ← h14, w1, w2, w3, w4, w5, w6, w7, w8, w9, w10, w11, w12, w13, w14, k1, k2, k3, k4, k5, k6, k7, e1, e2, e3, e4, e5, e6, e7, e8, e9, d1, d2, d3, rn, l5, l7, l13, l14, n1, b6, b7, r1, qm, q1, q2, unmat_cons, un0, un1, z0]
  refine ⟨_, Wk.of (ss := [(1, .lst [.lst (V.rats p1), .lst (V.rats p2)]), (2, .lst (V.mat A1)), (3, .lst (V.nats [0, 1])), (4, .lst (V.mat N1)), (5, .lst (V.rats p13)), (7, .raw (.bool true)), (9, .lst (V.rats p14)), (10, .raw (.bool false)), (61, .Q ((-2 : Int) : Rat)), (62, .raw (.int .i64 0))]) (hs := []) (n := 0) (N := 144) [] (by decide) ?_, ?_⟩
  · simp only [go_sem]
  refine RegI.fin T 9 rfl ?_
  simp only [go_sem, mkSt_eq, ← h1, ← h2, ← h3, ← h4, ← h5, ← h6, ← h7, ← h8, ← h9, ← h10, ← h11, ← h12, ← h13, ← h14, w1, w2, w3, w4, w5, w6, w7, w8, w9, w10, w11, w12, w13, w14, k1, k2, k3, k4, k5, k6, k7, e1, e2, e3, e4, e5, e6, e7, e8, e9, d1, d2, d3, rn, l5, l7, l13, l14, n1, b6, b7, r1, qm, q1, q2, unmat_cons, un0, un1, z0]
  refine AWp.seq (AWp.from (Wk.of (ss := [(1, .lst [.lst (V.rats p1), .lst (V.rats p2)]), (2, .lst (V.mat A1)), (3, .lst (V.nats [0, 1])), (4, .lst (V.mat N1)), (5, .lst (V.rats p13)), (7, .raw (.bool true)), (9, .lst (V.rats p14)), (10, .raw (.bool false)), (11, .ptr 0 4 0 0), (12, .raw (.int .i64 0))]) (hs := [(0, false, ⟨41, 4, [.Q ((-2 : Int) : Rat)]⟩)]) (n := 1) (N := 144) [0] (by decide) ?_) (AWp.regs ?_))
  · simp only [go_sem]
  refine RegI.fin T 0 rfl ?_
  simp only [go_sem, mkSt_eq, ← h1, ← h2, ← h3, ← h4, ← h5, ← h6, ← h7, ← h8, ← h9, ← h10, ← h11, ← h12, ← h13, ← h14, w1, w2, w3, w4, w5, w6, w7, w8, w9, w10, w11, w12, w13, w14, k1, k2, k3, k4, k5, k6, k7, e1, e2, e3, e4, e5, e6, e7, e8, e9, d1, d2, d3, rn, l5, l7, l13, l14, n1, b6, b7, r1, qm, q1, q2, unmat_cons, un0, un1, z0]
  refine AWp.seq (AWp.from (Wk.of (ss := [(1, .lst [.lst (V.rats p1), .lst (V.rats p2)]), (2, .lst (V.mat A1)), (3, .lst (V.nats [0, 1])), (4, .lst (V.mat N1)), (5, .lst (V.rats p13)), (7, .raw (.bool true)), (9, .lst (V.rats p14)), (10, .raw (.bool false)), (11, .ptr 0 4 0 0), (12, .raw (.int .i64 0)), (13, .ptr 1 4 0 0), (14, .raw (.int .i64 0))]) (hs := [(0, false, ⟨41, 4, [.Q ((-2 : Int) : Rat)]⟩), (1, false, ⟨41, 4, [.Q ((1 : Int) : Rat)]⟩)]) (n := 2) (N := 144) [0, 5] (by decide) ?_) (AWp.regs ?_))
  · simp only [go_sem]
  refine RegI.cut T 0 2 rfl rfl (by decide) ?_
  simp only [go_sem, mkSt_eq, ← h1, ← h2, ← h3, ← h4, ← h5, ← h6, ← h7, ← h8, ← h9, ← h10, ← h11, ← h12, ← h13, ← h14, w1, w2, w3, w4, w5, w6, w7, w8, w9, w10, w11, w12, w13, w14, k1, k2, k3, k4, k5, k6, k7, e1, e2, e3, e4, e5, e6, e7, e8, e9, d1, d2, d3, rn, l5, l7, l13, l14, n1, b6, b7, r1, qm, q1, q2, unmat_cons, un0, un1, z0]
  refine ⟨_, Wk.of (ss := [(1, .lst [.lst (V.rats p1), .lst (V.rats p2)]), (2, .lst (V.mat A1)), (3, .lst (V.nats [0, 1])), (4, .lst (V.mat N1)), (5, .lst (V.rats p13)), (7, .raw (.bool true)), (9, .lst (V.rats p14)), (10, .raw (.bool false)), (11, .ptr 0 4 0 0), (12, .raw (.int .i64 0)), (13, .ptr 1 4 0 0), (14, .raw (.int .i64 0)), (69, .lst (V.rats p8))]) (hs := [(0, false, ⟨41, 4, [.Q ((-2 : Int) : Rat)]⟩), (1, false, ⟨41, 4, [.Q ((1 : Int) : Rat)]⟩)]) (n := 2) (N := 144) [0, 1] (by decide) ?_, ?_⟩
  · simp only [go_sem]
  refine RegI.cut T 2 7 rfl rfl (by decide) ?_
  simp only [go_sem, mkSt_eq, ← h1, ← h2, ← h3, ← h4, ← h5, ← h6, ← h7, ← h8, ← h9, ← h10, ← h11, ← h12, ← h13, ← h14, w1, w2, w3, w4, w5, w6, w7, w8, w9, w10, w11, w12, w13, w14, k1, k2, k3, k4, k5, k6, k7, e1, e2, e3, e4, e5, e6, e7, e8, e9, d1, d2, d3, rn, l5, l7, l13, l14, n1, b6, b7, r1, qm, q1, q2, unmat_cons, un0, un1, z0]
  refine ⟨_, Wk.of (ss := [(1, .lst [.lst (V.rats p1), .lst (V.rats p2)]), (2, .lst (V.mat A1)), (3, .lst (V.nats [0, 1])), (4, .lst (V.mat N1)), (5, .lst (V.rats p13)), (7, .raw (.bool true)), (9, .lst (V.rats p14)), (10, .raw (.bool false)), (11, .ptr 0 4 0 0), (12, .raw (.int .i64 0)), (13, .ptr 1 4 0 0), (14, .raw (.int .i64 0)), (72, .agg [.raw (.bool false), .raw (.slice none 0 0), .raw (.bool false), .raw (.slice none 0 0)]), (73, .raw (.int .i64 1))]) (hs := [(0, false, ⟨41, 4, [.Q ((-2 : Int) : Rat)]⟩), (1, false, ⟨41, 4, [.Q ((1 : Int) : Rat)]⟩)]) (n := 2) (N := 144) [0, 1] (by decide) ?_, ?_⟩
  · simp only [go_sem]
    exact renV_pure rfl
  refine RegI.fin T 7 rfl ?_
  simp only [go_sem, mkSt_eq, ← h1, ← h2, ← h3, ← h4, ← h5, ← h6, ← h7, ← h8, ← h9, ← h10, ← h11, ← h12, ← h13, ← h14, w1, w2, w3, w4, w5, w6, w7, w8, w9, w10, w11, w12, w13, w14, k1, k2, k3, k4, k5, k6, k7, e1, e2, e3, e4, e5, e6, e7, e8, e9, d1, d2, d3, rn, l5, l7, l13, l14, n1, b6, b7, r1, qm, q1, q2, unmat_cons, un0, un1, z0]
  refine AWp.seq (AWp.from (Wk.of (ss := [(1, .lst [.lst (V.rats p1), .lst (V.rats p2)]), (2, .lst (V.mat A1)), (3, .lst (V.nats [0, 1])), (4, .lst (V.mat N1)), (5, .lst (V.rats p13)), (7, .raw (.bool true)), (9, .lst (V.rats p14)), (10, .raw (.bool false)), (11, .ptr 0 4 0 0), (12, .raw (.int .i64 0)), (13, .ptr 1 4 0 0), (14, .raw (.int .i64 0)), (16, .raw (.int .i64 1))]) (hs := [(0, false, ⟨41, 4, [.Q ((-2 : Int) : Rat)]⟩), (1, false, ⟨41, 4, [.Q ((1 : Int) : Rat)]⟩)]) (n := 2) (N := 144) [0, 1] (by decide) ?_) (AWp.regs ?_))
  · simp only [go_sem]
  refine RegI.cut T 0 5 rfl rfl (by decide) ?_
  simp only [go_sem, mkSt_eq, ← h1, ← h2, ← h3, ← h4, ← h5, ← h6, ← h7, ← h8, ← h9, ← h10, ← h11, ← h12, ← h13, ← h14, w1, w2, w3, w4, w5, w6, w7, w8, w9, w10, w11, w12, w13, w14, k1, k2, k3, k4, k5, k6, k7, e1, e2, e3, e4, e5, e6, e7, e8, e9, d1, d2, d3, rn, l5, l7, l13, l14, n1, b6, b7, r1, qm, q1, q2, unmat_cons, un0, un1, z0]
  refine ⟨_, Wk.of (ss := [(1, .lst [.lst (V.rats p1), .lst (V.rats p2)]), (2, .lst (V.mat A1)), (3, .lst (V.nats [0, 1])), (4, .lst (V.mat N1)), (5, .lst (V.rats p13)), (7, .raw (.bool true)), (9, .lst (V.rats p14)), (10, .raw (.bool false)), (11, .ptr 0 4 0 0), (12, .raw (.int .i64 0)), (13, .ptr 1 4 0 0), (14, .raw (.int .i64 0)), (16, .raw (.int .i64 1)), (74, .lst (V.mat A1)), (76, .lst (V.rats p10)), (78, .lst (V.rats p11))]) (hs := [(0, false, ⟨41, 4, [.Q ((-2 : Int) : Rat)]⟩), (1, false, ⟨41, 4, [.Q ((1 : Int) : Rat)]⟩)]) (n := 2) (N := 144) [0, 1] (by decide) ?_, ?_⟩
  · simp only [go_sem]
  refine RegI.cut T 5 8 rfl rfl (by decide) ?_
  simp only [go_sem, mkSt_eq, ← h1, ← h2, ← h3, ← h4, ← h5, ← h6, ← h7, ← h8, ← h9, ← h10, ← h11, ← h12, ← h13, ← h14, w1, w2, w3, w4, w5, w6, w7, w8, w9, w10, w11, w12, w13, w14, k1, k2, k3, k4, k5, k6, k7, e1, e2, e3, e4, e5, e6, e7, e8, e9, d1, d2, d3, rn, l5, l7, l13, l14, n1, b6, b7, r1, qm, q1, q2, unmat_cons, un0, un1, z0]
  refine ⟨_, Wk.of (ss := [(1, .lst [.lst (V.rats p1), .lst (V.rats p2)]), (2, .lst (V.mat A1)), (3, .lst (V.nats [0, 1])), (4, .lst (V.mat N1)), (5, .lst (V.rats p13)), (7, .raw (.bool true)), (9, .lst (V.rats p14)), (10, .raw (.bool false)), (11, .ptr 0 4 0 0), (12, .raw (.int .i64 0)), (13, .ptr 1 4 0 0), (14, .raw (.int .i64 0)), (16, .raw (.int .i64 1)), (81, .raw (.bool true))]) (hs := [(0, false, ⟨41, 4, [.Q ((-2 : Int) : Rat)]⟩), (1, false, ⟨41, 4, [.Q ((1 : Int) : Rat)]⟩)]) (n := 2) (N := 144) [0, 1] (by decide) ?_, ?_⟩
  · simp only [go_sem]
  refine RegI.cut T 8 13 rfl rfl (by decide) ?_
  simp only [go_sem, mkSt_eq, ← h1, ← h2, ← h3, ← h4, ← h5, ← h6, ← h7, ← h8, ← h9, ← h10, ← h11, ← h12, ← h13, ← h14, w1, w2, w3, w4, w5, w6, w7, w8, w9, w10, w11, w12, w13, w14, k1, k2, k3, k4, k5, k6, k7, e1, e2, e3, e4, e5, e6, e7, e8, e9, d1, d2, d3, rn, l5, l7, l13, l14, n1, b6, b7, r1, qm, q1, q2, unmat_cons, un0, un1, z0]
  refine ⟨_, Wk.of (ss := [(1, .lst [.lst (V.rats p1), .lst (V.rats p2)]), (2, .lst (V.mat A1)), (3, .lst (V.nats [0, 1])), (4, .lst (V.mat N1)), (5, .lst (V.rats p13)), (7, .raw (.bool true)), (9, .lst (V.rats p14)), (10, .raw (.bool false)), (11, .ptr 0 4 0 0), (12, .raw (.int .i64 0)), (13, .ptr 1 4 0 0), (14, .raw (.int .i64 0)), (16, .raw (.int .i64 1)), (86, .raw (.bool true))]) (hs := [(0, false, ⟨41, 4, [.Q ((-2 : Int) : Rat)]⟩), (1, false, ⟨41, 4, [.Q ((1 : Int) : Rat)]⟩)]) (n := 2) (N := 144) [0, 1] (by decide) ?_, ?_⟩
  · simp only [go_sem]
  refine RegI.cut T 13 16 rfl rfl (by decide) ?_
  simp only [go_sem, mkSt_eq, ← h1, ← h2, ← h3, ← h4, ← h5, ← h6, ← h7, ← h8, ← h9, ← h10, ← h11, ← h12, ← h13, ← h14, w1, w2, w3, w4, w5, w6, w7, w8, w9, w10, w11, w12, w13, w14, k1, k2, k3, k4, k5, k6, k7, e1, e2, e3, e4, e5, e6, e7, e8, e9, d1, d2, d3, rn, l5, l7, l13, l14, n1, b6, b7, r1, qm, q1, q2, unmat_cons, un0, un1, z0]
  refine ⟨_, Wk.of (ss := [(1, .lst [.lst (V.rats p1), .lst (V.rats p2)]), (2, .lst (V.mat A1)), (3, .lst (V.nats [0, 1])), (4, .lst (V.mat N1)), (5, .lst (V.rats p13)), (7, .raw (.bool true)), (9, .lst (V.rats p14)), (10, .raw (.bool false)), (11, .ptr 0 4 0 0), (12, .raw (.int .i64 0)), (13, .ptr 1 4 0 0), (14, .raw (.int .i64 0)), (16, .raw (.int .i64 1)), (86, .raw (.bool true)), (87, .lst (V.mat N1)), (89, .lst (V.rats p12))]) (hs := [(0, false, ⟨41, 4, [.Q ((-2 : Int) : Rat)]⟩), (1, false, ⟨41, 4, [.Q ((1 : Int) : Rat)]⟩)]) (n := 2) (N := 144) [0, 1] (by decide) ?_, ?_⟩
  · simp only [go_sem]
  refine RegI.cut T 16 20 rfl rfl (by decide) ?_
  simp only [go_sem, mkSt_eq, ← h1, ← h2, ← h3, ← h4, ← h5, ← h6, ← h7, ← h8, ← h9, ← h10, ← h11, ← h12, ← h13, ← h14, w1, w2, w3, w4, w5, w6, w7, w8, w9, w10, w11, w12, w13, w14, k1, k2, k3, k4, k5, k6, k7, e1, e2, e3, e4, e5, e6, e7, e8, e9, d1, d2, d3, rn, l5, l7, l13, l14, n1, b6, b7, r1, qm, q1, q2, unmat_cons, un0, un1, z0]
  refine ⟨_, Wk.of (ss := [(1, .lst [.lst (V.rats p1), .lst (V.rats p2)]), (2, .lst (V.mat A1)), (3, .lst (V.nats [0, 1])), (4, .lst (V.mat N1)), (5, .lst (V.rats p13)), (7, .raw (.bool true)), (9, .lst (V.rats p14)), (10, .raw (.bool false)), (11, .ptr 0 4 0 0), (12, .raw (.int .i64 0)), (13, .ptr 1 4 0 0), (14, .raw (.int .i64 0)), (16, .raw (.int .i64 1)), (93, .raw (.bool true))]) (hs := [(0, false, ⟨41, 4, [.Q ((-2 : Int) : Rat)]⟩), (1, false, ⟨41, 4, [.Q ((1 : Int) : Rat)]⟩)]) (n := 2) (N := 144) [0, 1] (by decide) ?_, ?_⟩
  · simp only [go_sem]
  refine RegI.cut T 20 25 rfl rfl (by decide) ?_
  simp only [go_sem, mkSt_eq, ← h1, ← h2, ← h3, ← h4, ← h5, ← h6, ← h7, ← h8, ← h9, ← h10, ← h11, ← h12, ← h13, ← h14, w1, w2, w3, w4, w5, w6, w7, w8, w9, w10, w11, w12, w13, w14, k1, k2, k3, k4, k5, k6, k7, e1, e2, e3, e4, e5, e6, e7, e8, e9, d1, d2, d3, rn, l5, l7, l13, l14, n1, b6, b7, r1, qm, q1, q2, unmat_cons, un0, un1, z0]
  refine ⟨_, Wk.of (ss := [(1, .lst [.lst (V.rats p1), .lst (V.rats p2)]), (2, .lst (V.mat A1)), (3, .lst (V.nats [0, 1])), (4, .lst (V.mat N1)), (5, .lst (V.rats p13)), (7, .raw (.bool true)), (9, .lst (V.rats p14)), (10, .raw (.bool false)), (11, .ptr 0 4 0 0), (12, .raw (.int .i64 0)), (13, .ptr 1 4 0 0), (14, .raw (.int .i64 0)), (16, .raw (.int .i64 1)), (98, .raw (.bool true))]) (hs := [(0, false, ⟨41, 4, [.Q ((-2 : Int) : Rat)]⟩), (1, false, ⟨41, 4, [.Q ((1 : Int) : Rat)]⟩)]) (n := 2) (N := 144) [0, 1] (by decide) ?_, ?_⟩
  · simp only [go_sem]
  refine RegI.fin T 25 rfl ?_
  simp only [go_sem, mkSt_eq, ← h1, ← h2, ← h3, ← h4, ← h5, ← h6, ← h7, ← h8, ← h9, ← h10, ← h11, ← h12, ← h13, ← h14, w1, w2, w3, w4, w5, w6, w7, w8, w9, w10, w11, w12, w13, w14, k1, k2, k3, k4, k5, k6, k7, e1, e2, e3, e4, e5, e6, e7, e8, e9, d1, d2, d3, rn, l5, l7, l13, l14, n1, b6, b7, r1, qm, q1, q2, unmat_cons, un0, un1, z0]
  refine AWp.seq (AWp.from (Wk.of (ss := [(1, .lst [.lst (V.rats p1), .lst (V.rats p2)]), (2, .lst (V.mat A1)), (3, .lst (V.nats [0, 1])), (4, .lst (V.mat N1)), (5, .lst (V.rats p13)), (7, .raw (.bool true)), (9, .lst (V.rats p14)), (10, .raw (.bool false)), (11, .ptr 0 4 0 0), (12, .raw (.int .i64 0)), (13, .ptr 1 4 0 0), (14, .raw (.int .i64 0)), (16, .raw (.int .i64 1)), (17, .raw (.bool true))]) (hs := [(0, false, ⟨41, 4, [.Q ((-2 : Int) : Rat)]⟩), (1, false, ⟨41, 4, [.Q ((1 : Int) : Rat)]⟩)]) (n := 2) (N := 144) [0, 1] (by decide) ?_) (vc_at T ?_))
  · simp only [go_sem]
  simp only [go_sem, ← h1, ← h2, ← h3, ← h4, ← h5, ← h6, ← h7, ← h8, ← h9, ← h10, ← h11, ← h12, ← h13, ← h14, w1, w2, w3, w4, w5, w6, w7, w8, w9, w10, w11, w12, w13, w14, k1, k2, k3, k4, k5, k6, k7, e1, e2, e3, e4, e5, e6, e7, e8, e9, d1, d2, d3, rn, l5, l7, l13, l14, n1, b6, b7, r1, qm, q1, q2, qpair, sz1, sz2, sz3, sz4, unmat_cons, un0, un1, z0]
  refine ⟨by rfl, ?_⟩
  refine AWp.from (Wk.of (ss := [(0, .raw (.bool true))]) (hs := []) (n := 0) (N := 144) [] (by decide) ?_) (vc_at T ?_)
  · simp only [go_sem]
  · simp only [go_sem]
def kSanity5 : Con := con0 (True, .raw (.bool true))
attribute [go_sem ↓, go_sem] kSanity5
theorem sanity5_C : Ctr Try.prog 9 kSanity5 := Ctr.c0 (by kernel_rfl) fun _ => sanity5_V
end Go.Proofs.Ytjjebokgckmnjaa

