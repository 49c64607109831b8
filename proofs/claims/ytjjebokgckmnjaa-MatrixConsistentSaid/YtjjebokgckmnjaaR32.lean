/- Texts MC12 MC13 MC11a in one. -/
import Derived.Test.YtjjebokgckmnjaaR31
import Derived.Test.YtjjebokgckmnjaaR29
/- Contracts: products of rows, zeros, lists of numbers. -/
namespace Go.Proofs.Ytjjebokgckmnjaa
set_option linter.unusedSimpArgs false
set_option linter.unusedVariables false
open Go.RowKit

def DotOk (a b : List Rat) : Prop := (a.length ≤ 100 ∧ b.length ≤ 100) ∧ (∀ k, qs (cf a k) ≤ 10000000000) ∧ ∀ k, qs (cf b k) ≤ 10000000000
def kDot : Con := con2 pR pR fun a b => (DotOk a b, .Q (dotL a b))
attribute [go_sem ↓, go_sem] kDot
theorem dot_sz {a b : List Rat} (h : DotOk a b) : ∀ n, n ≤ 100 → qs (sm n fun i => cf a i * cf b i) ≤ 1 + n * 20000000001
  | 0, _ => qs_0
  | n + 1, hn => by
    have h1 := dot_sz h n (by omega)
    have h2 := qs_mul (cf a n) (cf b n)
    have h3 := h.2.1 n
    have h4 := h.2.2 n
    have h5 := qs_add (sm n fun i => cf a i * cf b i) (cf a n * cf b n)
    rw [sm]
    omega
theorem dot_C : Ctr Try.prog 21 kDot := Ctr.c2 (by kernel_rfl) fun a b h => by
  have T := (tabs mixed (tbl_cons r2Whole_C (tbl_cons r2Mul_C (tbl_cons r2Add_C tbl_nil))))
  have e0 : ((0 : Int) : Rat) = 0 := rfl
  show PCall _ _ _ (.Q (dotL a b))
  refine PCall.of_vc T Try.func21 rfl Try.ntmps21 Try.results21 (by simp) ?_
  simp only [go_sem, e0]
  refine AWp.loops (X := { i : Nat // i ≤ min a.length b.length }) (fun i => mkSt [(0, .lst (V.rats a)), (1, .lst (V.rats b)), (4, .ptr 0 4 0 0), (5, .ptr 1 4 0 0), (6, .raw (.int .i64 (i.1 : Nat)))] [(0, true, ⟨41, 4, [z0]⟩), (1, true, ⟨41, 4, [.Q (sm i.1 fun i => cf a i * cf b i)]⟩)] 2 32) (fun i => min a.length b.length - i.1) ⟨0, Nat.zero_le _⟩ (Wk.of [0, 2] (by decide) ?_) ?_
  · have e1 : (sm 0 fun i => cf a i * cf b i) = 0 := rfl
    simp only [go_sem, Int.natCast_zero, z0, e1]
  rintro ⟨i, hi⟩
  refine vc_at T ?_
  obtain ⟨⟨la, lb⟩, ha, hb⟩ := h
  have hs := dot_sz ⟨⟨la, lb⟩, ha, hb⟩ i (by omega)
  obtain ⟨s, es⟩ : ∃ s, (sm i fun i => cf a i * cf b i) = s := ⟨_, rfl⟩
  rw [es] at hs
  by_cases hin : i < min a.length b.length
  · have d1 : (i : Int) < (a.length : Int) := by omega
    have d1' : (i : Int) < (b.length : Int) := by omega
    have d2 : (i : Int) + 1 = ((i + 1 : Nat) : Int) := by omega
    have d3 : 0 ≤ (i : Int) := by omega
    have hia : i < a.length := by omega
    have hib : i < b.length := by omega
    have s1 : qs (cf a i) ≤ 5000000000000 := Nat.le_trans (ha i) (by decide)
    have s2 : qs (cf b i) ≤ 5000000000000 := Nat.le_trans (hb i) (by decide)
    have s3 : qs s ≤ 5000000000000 := by
      have : i * 20000000001 ≤ 100 * 20000000001 := Nat.mul_le_mul_right _ (by omega)
      omega
    have s4 : qs (cf a i * cf b i) ≤ 5000000000000 := by
      have := qs_mul (cf a i) (cf b i)
      have := ha i
      have := hb i
      omega
    have d4 : s + cf a i * cf b i = sm (i + 1) fun i => cf a i * cf b i := by rw [sm, es]
    simp only [go_sem, es, d1, d1', d2, d3, hia, hib, s1, s2, s3, s4, z0]
    refine ⟨by rfl, ⟨by omega, by omega⟩, ⟨i + 1, by omega⟩, Wk.of [0, 1] (by decide) ?_, by simp only; omega⟩
    simp only [go_sem, d4, z0]
  · obtain rfl : i = min a.length b.length := by omega
    have e1 : s = dotL a b := es.symm
    by_cases hl : a.length ≤ b.length
    · have d1 : ¬ ((min a.length b.length : Nat) : Int) < (a.length : Int) := by omega
      simp only [go_sem, es, d1, e1, z0]
    · have d1 : ((min a.length b.length : Nat) : Int) < (a.length : Int) := by omega
      have d2 : ¬ ((min a.length b.length : Nat) : Int) < (b.length : Int) := by omega
      simp only [go_sem, es, d1, d2, e1, z0]
def RgOk (M : List (List Rat)) (x : List Rat) : Prop := M.length ≤ 100 ∧ ∀ i, DotOk (M.getD i []) x
def kRight : Con := con2 pMt pR fun M x => (RgOk M x, .lst (V.rats (rgV M x)))
attribute [go_sem ↓, go_sem] kRight
theorem right_C : Ctr Try.prog 14 kRight := Ctr.c2 (by kernel_rfl) fun M x h => by
  obtain ⟨hl, hd⟩ := h
  have T := (tabs mixed (tbl_cons dot_C tbl_nil))
  have mx : maxLen = 9223372036854775807 := by decide
  show PCall _ _ _ (.lst (V.rats (rgV M x)))
  refine PCall.of_vc T Try.func14 rfl Try.ntmps14 Try.results14 (by simp) ?_
  unfold rgV
  obtain ⟨F, eF⟩ : ∃ F : Nat → Rat, F = fun i => dotL (M.getD i []) x := ⟨_, rfl⟩
  rw [← eF]
  simp only [go_sem]
  refine AWp.loops (X := { i : Nat // i ≤ M.length }) (fun i => mkSt [(0, .lst (V.mat M)), (1, .lst (V.rats x)), (4, .raw (.slice none 0 0)), (5, .sl 0 4 0 i.1), (6, .raw (.int .i64 (i.1 : Nat)))] [(0, true, ⟨41, 4, V.rats (mkr F i.1)⟩)] 1 24) (fun i => M.length - i.1) ⟨0, Nat.zero_le _⟩ (Wk.of [1] (by decide) ?_) ?_
  · have e0 : V.rats (mkr F 0) = [] := rfl
    simp only [go_sem, e0, Int.natCast_zero]
  rintro ⟨i, hi⟩
  refine vc_at T ?_
  have li : (mkr F i).length = i := mkr_len _ _
  by_cases hin : i < M.length
  · have d1 : (i : Int) < (M.length : Int) := by omega
    have d2 : (i : Int) + 1 = ((i + 1 : Nat) : Int) := by omega
    have d3 : 0 ≤ (i : Int) := by omega
    have hd' := hd i
    have g : dotL (M.getD i []) x = F i := by rw [eF]
    have f5 : V.rats (mkr F i) ++ [.Q (F i)] = V.rats (mkr F (i + 1)) := mkr_snoc _ _
    have f6 : mkr F i ++ [F i] = mkr F (i + 1) := mkr_snoc' _ _
    simp only [go_sem, d1, d2, d3, hin, hd', g, li, mx, mkr_take, f5, f6]
    refine ⟨⟨by omega, by omega⟩, ⟨by omega, by omega⟩, ⟨i + 1, hin⟩, Wk.of [13] (by decide) ?_, by simp only; omega⟩
    simp only [go_sem]
  · obtain rfl : i = M.length := by omega
    have d1 : ¬ (M.length : Int) < (M.length : Int) := by omega
    have mm : M.length ≤ M.length := Nat.le_refl _
    simp only [go_sem, d1, li, mkr_take, mm]
def zrB (l : List Rat) : Bool := l.all fun q => decide (q = 0)
theorem zrB_iff {l : List Rat} : zrB l = true ↔ ∀ k, k < l.length → cf l k = 0 := by
  unfold zrB
  rw [List.all_eq_true]
  constructor
  · intro h k hk
    have := h l[k] (List.getElem_mem hk)
    rw [cf_lt hk]
    simpa using this
  · intro h q hq
    obtain ⟨k, hk, rfl⟩ := List.mem_iff_getElem.1 hq
    have := h k hk
    rw [cf_lt hk] at this
    simpa using this
def kZerosB : Con := con1 pR fun l => (l.length ≤ 1000000, .raw (.bool (zrB l)))
attribute [go_sem ↓, go_sem] kZerosB
theorem zerosB_C : Ctr Try.prog 13 kZerosB := Ctr.c1 (by kernel_rfl) fun l h => by
  have h : l.length ≤ 1000000 := h
  have T := (tabs mixed (tbl_cons r2Sign_C tbl_nil))
  show PCall _ _ _ (.raw (.bool (zrB l)))
  refine PCall.of_vc T Try.func13 rfl Try.ntmps13 Try.results13 (by simp) ?_
  simp only [go_sem]
  refine AWp.loops (X := { i : Nat // i ≤ l.length ∧ ∀ j, j < i → cf l j = 0 }) (fun i => mkSt [(0, .lst (V.rats l)), (2, .raw (.bool false)), (3, .raw (.int .i64 (i.1 : Nat)))] [] 0 16) (fun i => l.length - i.1) ⟨0, Nat.zero_le _, fun j h => absurd h (Nat.not_lt_zero _)⟩ (Wk.of [] (by decide) ?_) ?_
  · simp only [go_sem, Int.natCast_zero]
  rintro ⟨i, hi, inv⟩
  refine vc_at T ?_
  by_cases hin : i < l.length
  · have d1 : (i : Int) < (l.length : Int) := by omega
    have d2 : (i : Int) + 1 = ((i + 1 : Nat) : Int) := by omega
    have d3 : 0 ≤ (i : Int) := by omega
    by_cases h0 : cf l i = 0
    · have d4 : (sgI (cf l i).num != 0) = false := by rw [sgI_z, h0]; rfl
      simp only [go_sem, d1, d2, d3, d4, hin]
      refine ⟨⟨by omega, by omega⟩, ⟨i + 1, hin, fun j hj => ?_⟩, Wk.of [] (by decide) ?_, by simp only; omega⟩
      · by_cases e : j = i
        · rw [e]; exact h0
        · exact inv j (by omega)
      · simp only [go_sem]
    · have d4 : (sgI (cf l i).num != 0) = true := by rw [sgI_z]; simp [h0]
      have e1 : zrB l = false := by
        rcases hz : zrB l with _ | _
        · rfl
        · exact absurd (zrB_iff.1 hz i hin) h0
      simp only [go_sem, d1, d2, d3, d4, hin, e1]
  · obtain rfl : i = l.length := by omega
    have d1 : ¬ (l.length : Int) < (l.length : Int) := by omega
    have e1 : zrB l = true := zrB_iff.2 inv
    simp only [go_sem, d1, e1]
end Go.Proofs.Ytjjebokgckmnjaa


/- Contracts: lists of numbers, square matrices, products. -/
namespace Go.Proofs.Ytjjebokgckmnjaa
set_option linter.unusedSimpArgs false
set_option linter.unusedVariables false
open Go.RowKit

def pI16 : Pat (List Int) where
  p
    | .lst l => (unI16 l).map fun m => (True, m)
    | _ => none
  val l := .lst (V.i16s l)
  ok x c a h hc := by
    split at h
    · rename_i l
      rcases hm : unI16 l with _ | m <;> rw [hm] at h
      · cases h
      · injection h with h; injection h with h1 h2; subst h2
        rw [unI16_ok l m hm]; exact .refl _
    · cases h
@[go_sem ↓, go_sem] theorem ev_pI16 {l : List V} : pI16.p (.lst l) = (unI16 l).map fun m => (True, m) := rfl
@[go_sem ↓, go_sem] theorem ev_pI16_mk {l : List Int} : pI16.val l = .lst (V.i16s l) := rfl
def vq (l : List Int) (i : Nat) : Rat := mdQ ((iz l i).tmod 10) 1
def vecQ (l : List Int) (n : Nat) : List Rat := mkr (vq l) n
theorem vecQ_len (l : List Int) (n : Nat) : (vecQ l n).length = n := mkr_len _ _
def VecOk (l : List Int) (z : Int) : Prop := (l.length ≤ 9223372036854775807 ∧ ∀ i, -32768 ≤ iz l i ∧ iz l i ≤ 32767) ∧ 0 ≤ z ∧ z ≤ 1000
def kVector : Con := con2 pI16 (pN .i64) fun l z => (VecOk l z, .lst (V.rats (vecQ l z.toNat)))
attribute [go_sem ↓, go_sem] kVector
theorem vector_C : Ctr Try.prog 17 kVector := Ctr.c2 (by kernel_rfl) fun l z h => by
  obtain ⟨⟨hl, hv⟩, hz, hz2⟩ := h
  obtain ⟨n, rfl⟩ : ∃ n : Nat, z = n := ⟨z.toNat, by omega⟩
  have T := (tabs mixed (tbl_cons r2Made_C tbl_nil))
  have mx : maxLen = 9223372036854775807 := by decide
  show PCall _ _ [.lst (V.i16s l), .raw (.int .i64 (n : Nat))] (.lst (V.rats (vecQ l n)))
  refine PCall.of_vc T Try.func17 rfl Try.ntmps17 Try.results17 (by simp) ?_
  unfold vecQ
  obtain ⟨F, eF⟩ : ∃ F : Nat → Rat, F = vq l := ⟨_, rfl⟩
  rw [← eF]
  simp only [go_sem]
  have hp : allPure [V.lst (V.i16s l)] := fun y hy => by
    rw [List.mem_singleton] at hy; subst hy; rfl
  refine AWp.loops (X := { i : Nat // i ≤ n }) (fun i => mkSt [(0, .lst (V.i16s l)), (1, .raw (.int .i64 (n : Nat))), (4, .raw (.slice none 0 0)), (5, .sl 0 4 0 i.1), (6, .raw (.int .i64 (i.1 : Nat)))] [(0, true, ⟨41, 4, V.rats (mkr F i.1)⟩)] 1 30) (fun i => n - i.1) ⟨0, Nat.zero_le _⟩ (Wk.of [1] (by decide) ?_) ?_
  · have e0 : V.rats (mkr F 0) = [] := rfl
    simp only [go_sem, e0, Int.natCast_zero]
  rintro ⟨i, hi⟩
  refine vc_at T ?_
  have li : (mkr F i).length = i := mkr_len _ _
  by_cases hin : i < n
  · have d1 : (i : Int) < (n : Int) := by omega
    have d2 : (i : Int) + 1 = ((i + 1 : Nat) : Int) := by omega
    have d3 : 0 ≤ (i : Int) := by omega
    have f5 : V.rats (mkr F i) ++ [.Q (F i)] = V.rats (mkr F (i + 1)) := mkr_snoc _ _
    have f6 : mkr F i ++ [F i] = mkr F (i + 1) := mkr_snoc' _ _
    have hvn := hv i
    have htm := tmod10 (iz l i)
    have wt : IntKind.i64.wrap ((iz l i).tmod 10) = (iz l i).tmod 10 := IntWalk.i64_in _ ⟨by omega, by omega⟩
    have gk : mdQ ((iz l i).tmod 10) 1 = F i := by rw [eF]; rfl
    by_cases hnl : i < l.length
    · have g1 : (i : Int) < (l.length : Int) := by omega
      simp only [go_sem, d1, d2, d3, hin, hnl, g1, wt, gk, li, mx, mkr_take, f5, f6]
      refine ⟨⟨by omega, by omega⟩, ⟨by omega, by omega⟩, ⟨by omega, by omega⟩, ⟨i + 1, hin⟩, Wk.of [20] (by decide) ?_, by simp only; omega⟩
      simp only [go_sem]
    · have g1 : ¬ (i : Int) < (l.length : Int) := by omega
      have z0 : iz l i = 0 := by
        unfold iz
        rw [List.getD_eq_getElem?_getD, List.getElem?_eq_none (by omega)]; rfl
      have w0 : IntKind.i64.wrap 0 = 0 := by decide
      have t0 : Int.tmod 0 10 = 0 := rfl
      have gk2 : mdQ 0 1 = F i := by rw [← gk, z0]; rfl
      simp only [go_sem, d1, d2, d3, hin, hnl, g1, w0, t0, gk2, li, mx, mkr_take, f5, f6]
      refine ⟨⟨by omega, by omega⟩, ⟨by omega, by omega⟩, ⟨i + 1, hin⟩, Wk.of [15] (by decide) ?_, by simp only; omega⟩
      simp only [go_sem]
  · obtain rfl : i = n := by omega
    have d1 : ¬ (i : Int) < (i : Int) := by omega
    have mm : i ≤ i := Nat.le_refl _
    simp only [go_sem, d1, li, mkr_take, mm]
def evenB (M : List (List Rat)) (z : Int) : Bool := M.all fun r => decide ((r.length : Int) = z)
theorem evenB_iff {M : List (List Rat)} {z : Int} : evenB M z = true ↔ ∀ i, i < M.length → ((M.getD i []).length : Int) = z := by
  unfold evenB
  rw [List.all_eq_true]
  constructor
  · intro h i hi
    have := h M[i] (List.getElem_mem hi)
    rw [gd_lt hi]
    simpa using this
  · intro h q hq
    obtain ⟨i, hi, rfl⟩ := List.mem_iff_getElem.1 hq
    have := h i hi
    rw [gd_lt hi] at this
    simpa using this
def kEven : Con := con2 pMt (pN .i64) fun M z => (M.length ≤ 1000000, .raw (.bool (evenB M z)))
attribute [go_sem ↓, go_sem] kEven
theorem even_C : Ctr Try.prog 22 kEven := Ctr.c2 (by kernel_rfl) fun M z h => by
  have h : M.length ≤ 1000000 := h
  have T := (tabs mixed tbl_nil)
  show PCall _ _ _ (.raw (.bool (evenB M z)))
  refine PCall.of_vc T Try.func22 rfl Try.ntmps22 Try.results22 (by simp) ?_
  simp only [go_sem]
  refine AWp.loops (X := { i : Nat // i ≤ M.length ∧ ∀ j, j < i → ((M.getD j []).length : Int) = z }) (fun i => mkSt [(0, .lst (V.mat M)), (1, .raw (.int .i64 z)), (4, .raw (.bool false)), (5, .raw (.int .i64 (i.1 : Nat)))] [] 0 19) (fun i => M.length - i.1) ⟨0, Nat.zero_le _, fun j h => absurd h (Nat.not_lt_zero _)⟩ (Wk.of [] (by decide) ?_) ?_
  · simp only [go_sem, Int.natCast_zero]
  rintro ⟨i, hi, inv⟩
  refine vc_at T ?_
  by_cases hin : i < M.length
  · have d1 : (i : Int) < (M.length : Int) := by omega
    have d2 : (i : Int) + 1 = ((i + 1 : Nat) : Int) := by omega
    have d3 : 0 ≤ (i : Int) := by omega
    by_cases h0 : ((M.getD i []).length : Int) = z
    · have d4 : (((M.getD i []).length : Int) != z) = false := by rw [h0]; simp
      simp only [go_sem, d1, d2, d3, d4, hin]
      refine ⟨⟨by omega, by omega⟩, ⟨i + 1, hin, fun j hj => ?_⟩, Wk.of [] (by decide) ?_, by simp only; omega⟩
      · by_cases e : j = i
        · rw [e]; exact h0
        · exact inv j (by omega)
      · simp only [go_sem]
    · have d4 : (((M.getD i []).length : Int) != z) = true := by rw [bne_iff_ne]; exact h0
      have e1 : evenB M z = false := by
        rcases hz : evenB M z with _ | _
        · rfl
        · exact absurd (evenB_iff.1 hz i hin) h0
      simp only [go_sem, d1, d2, d3, d4, hin, e1]
  · obtain rfl : i = M.length := by omega
    have d1 : ¬ (M.length : Int) < (M.length : Int) := by omega
    have e1 : evenB M z = true := evenB_iff.2 inv
    simp only [go_sem, d1, e1]
end Go.Proofs.Ytjjebokgckmnjaa


/- Sizes of small matrices. -/
namespace Go.Proofs.Ytjjebokgckmnjaa
set_option linter.unusedSimpArgs false
set_option linter.unusedVariables false
open Go.RowKit

def qsB (q : Rat) : Bool := decide (q.num.natAbs < 4294967296) && decide (q.den < 4294967296)
theorem qsB_ok {q : Rat} (h : qsB q = true) : qs q ≤ 1 := by
  simp only [qsB, Bool.and_eq_true, decide_eq_true_eq] at h
  exact Nat.max_le.2 ⟨(dl_le (k := 1)).2 (by simpa using h.1), (dl_le (k := 1)).2 (by simpa using h.2)⟩
theorem sS_le {S k : Nat} (hS : S ≤ 20000000) (hk : k ≤ 5) : sS S k ≤ 1000000000000 ∧ dS S k ≤ 100000000000 := by
  have h1 := sS_mono S hk
  have h2 := dS_mono S hk
  have e1 : sS S 5 = 4 * (4 * (4 * (4 * (4 * S + 2) + 2) + 2) + 2) + 2 := rfl
  have e2 : dS S 5 = ((((1 + S) + (4 * S + 2)) + (4 * (4 * S + 2) + 2)) + (4 * (4 * (4 * S + 2) + 2) + 2)) + (4 * (4 * (4 * (4 * S + 2) + 2) + 2) + 2) := rfl
  omega
theorem redOk_of {M : List (List Rat)} {w S z : Nat} (hl : M.length ≤ 400) (hW : Wid w M) (hw : w ≤ 400) (hz : z ≤ w) (h5 : z ≤ 5) (hq : ∀ i k, qs (ent M i k) ≤ S) (hS : S ≤ 20000000) : RedOk M (z : Nat) := by
  have := sS_le hS h5
  refine ⟨⟨by omega, by omega⟩, w, S, ⟨hW, by omega, by omega⟩, hq, ?_⟩
  rw [Int.toNat_natCast]
  omega
/-- A small matrix that is given. -/
def mdB (M : List (List Rat)) : Bool := (M.all fun r => r.all qsB && decide (r.length = wdt M)) && decide (M.length ≤ 4)
theorem cf_qsB {r : List Rat} (h : r.all qsB = true) (k : Nat) : qs (cf r k) ≤ 1 := by
  by_cases hk : k < r.length
  · rw [cf_lt hk]
    exact qsB_ok (List.all_eq_true.1 h _ (List.getElem_mem hk))
  · rw [cf_ge (by omega)]
    exact Nat.le_trans qs_0 (by omega)
theorem mdB_ok {M : List (List Rat)} (h : mdB M = true) : M.length ≤ 4 ∧ Wid (wdt M) M ∧ ∀ i k, qs (ent M i k) ≤ 1 := by
  simp only [mdB, Bool.and_eq_true, decide_eq_true_eq, List.all_eq_true] at h
  refine ⟨h.2, fun i hi => ?_, fun i k => ?_⟩
  · rw [gd_lt hi]
    exact (h.1 _ (List.getElem_mem hi)).2
  · by_cases hi : i < M.length
    · show qs (cf (M.getD i []) k) ≤ 1
      rw [gd_lt hi]
      exact cf_qsB (List.all_eq_true.2 (h.1 _ (List.getElem_mem hi)).1) k
    · rw [ent_ge (by omega)]
      exact Nat.le_trans qs_0 (by omega)
theorem mdB_red {M : List (List Rat)} (h : mdB M = true) (hw : wdt M ≤ 5) : RedOk M (wdt M : Nat) := by
  obtain ⟨h1, h2, h3⟩ := mdB_ok h
  exact redOk_of (by omega) h2 (by omega) (Nat.le_refl _) hw h3 (by decide)
theorem mdB_MB {M : List (List Rat)} (h : mdB M = true) (hw : wdt M ≤ 5) : MB M := by
  obtain ⟨h1, h2, h3⟩ := mdB_ok h
  refine ⟨by omega, fun i => ⟨?_, fun k => Nat.le_trans (h3 i k) (by decide)⟩⟩
  by_cases hi : i < M.length
  · rw [h2 i hi]; omega
  · rw [gd_ge (by omega)]; decide
theorem exM_sz {M : List (List Rat)} {b : List Rat} {S : Nat} (hW : Wid (wdt M) M) (h1 : 1 ≤ S) (hM : ∀ i k, qs (ent M i k) ≤ S) (hb : ∀ k, qs (cf b k) ≤ S) (i k : Nat) : qs (ent (exM M b) i k) ≤ S := by
  by_cases hi : i < M.length
  · rw [ent_exM hW b hi]
    split
    · exact hM i k
    · split
      · exact hb i
      · split
        · exact Nat.le_trans (qsB_ok (by decide +kernel)) h1
        · exact Nat.le_trans qs_0 h1
  · rw [ent_ge (by rw [exM_len]; omega)]
    exact Nat.le_trans qs_0 h1
theorem solOk_of {M : List (List Rat)} {b : List Rat} {S : Nat} (hb : b.length = M.length) (hl : M.length ≤ 400) (hW : Wid (wdt M) M) (hw : wdt M ≤ 5) (h1 : 1 ≤ S) (hM : ∀ i k, qs (ent M i k) ≤ S) (hbS : ∀ k, qs (cf b k) ≤ S) (hS : S ≤ 20000000) : SolOk M b := by
  have := sS_le hS hw
  exact ⟨⟨hb, hl⟩, S, ⟨hW, by omega⟩, exM_sz hW h1 hM hbS, this.1, by omega⟩
theorem mdB_sol {M : List (List Rat)} {b : List Rat} (h : mdB M = true) (hw : wdt M ≤ 5) (hb : b.length = M.length) (hq : b.all qsB = true) : SolOk M b := by
  obtain ⟨h1, h2, h3⟩ := mdB_ok h
  exact solOk_of hb (by omega) h2 hw (Nat.le_refl _) h3 (cf_qsB hq) (by decide)
theorem smI_ok (l : List Int) (h : ((l.all fun z => decide (-128 ≤ z) && decide (z ≤ 127)) && decide (l.length ≤ 100)) = true) : SmI l := by
  simp only [Bool.and_eq_true, decide_eq_true_eq, List.all_eq_true] at h
  refine ⟨h.2, fun i => ?_⟩
  unfold iz
  rw [List.getD_eq_getElem?_getD]
  by_cases hi : i < l.length
  · rw [List.getElem?_eq_getElem hi]
    exact h.1 _ (List.getElem_mem hi)
  · rw [List.getElem?_eq_none (by omega)]
    exact ⟨by decide, by decide⟩
theorem LB_of {l : List Rat} (h : (l.all qsB && decide (l.length ≤ 100)) = true) : LB l := by
  simp only [Bool.and_eq_true, decide_eq_true_eq] at h
  exact ⟨by omega, fun k => Nat.le_trans (cf_qsB h.1 k) (by decide)⟩
end Go.Proofs.Ytjjebokgckmnjaa

