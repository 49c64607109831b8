/- Texts G1 G2 G3 in one. -/
import Derived.Test.YtfbogelmgdojgaaGreatP47
import Derived.Test.YtfbogelmgdojgaaGreatP43
import Derived.Test.YtfbogelmgdojgaaGreatP51
/- Rows of rational numbers in the abstract run. -/
namespace Go.Proofs.YtfbogelmgdojgaaGreat
set_option linter.unusedSimpArgs false
set_option linter.unusedVariables false
open Go.RowKit

def V.rats (l : List Rat) : List V := l.map .Q
@[go_sem] theorem rats_len (l : List Rat) : (V.rats l).length = l.length := by simp [V.rats]
theorem rats_get {l : List Rat} {i : Nat} (h : i < l.length) : (V.rats l)[i]? = some (.Q (cf l i)) := by
  simp [V.rats, cf_lt h, List.getElem?_eq_getElem h]
@[go_sem ↓, go_sem] theorem ev_rats_get {l : List Rat} {i : Nat} {k : V → Prop} : optC (V.rats l)[i]? k = (i < l.length ∧ k (.Q (cf l i))) := by
  by_cases h : i < l.length
  · rw [rats_get h]; simp [optC, h]
  · have : (V.rats l)[i]? = none := by rw [List.getElem?_eq_none]; rw [rats_len]; omega
    rw [this]; simp [optC, h]
@[go_sem] theorem rats_take (l : List Rat) (n : Nat) : (V.rats l).take n = V.rats (l.take n) := by simp [V.rats]
@[go_sem] theorem rats_drop (l : List Rat) (n : Nat) : (V.rats l).drop n = V.rats (l.drop n) := by simp [V.rats]
@[go_sem] theorem rats_append (l m : List Rat) : V.rats l ++ V.rats m = V.rats (l ++ m) := by simp [V.rats]
@[go_sem] theorem rats_snoc (l : List Rat) (q : Rat) : V.rats l ++ [V.Q q] = V.rats (l ++ [q]) := by simp [V.rats]
@[go_sem] theorem rats_wid (l : List Rat) : allWid (V.rats l) 4 = True := by
  simp only [eq_iff_iff, iff_true]
  intro y hy
  obtain ⟨x, _, rfl⟩ := List.mem_map.1 hy
  rfl
@[go_sem] theorem rats_good (l : List Rat) : allGood (V.rats l) = True := by
  simp only [eq_iff_iff, iff_true]
  intro y hy
  obtain ⟨x, _, rfl⟩ := List.mem_map.1 hy
  rfl
@[go_sem] theorem rats_pure (l : List Rat) : allPure (V.rats l) = True := by
  simp only [eq_iff_iff, iff_true]
  intro y hy
  obtain ⟨x, _, rfl⟩ := List.mem_map.1 hy
  rfl
@[go_sem] theorem frzOk_rats (l : List Rat) : frzOk (V.rats l) = True := eq_true (frzOk_map (fun a => ⟨rfl, by simp, by simp⟩) l)
@[go_sem] theorem rats_set (l : List Rat) (i : Nat) (q : Rat) : (V.rats l).set i (.Q q) = V.rats (l.set i q) := by simp [V.rats, List.map_set]
@[go_sem] theorem rats_rep (n : Nat) (q : Rat) : List.replicate n (V.Q q) = V.rats (List.replicate n q) := by simp [V.rats]
theorem rats_nil : ([] : List V) = V.rats [] := rfl
theorem rats_cons (q : Rat) (l : List Rat) : V.Q q :: V.rats l = V.rats (q :: l) := rfl
/-- The numbers of a row. -/
def unrat : List V → Option (List Rat)
  | [] => some []
  | .Q q :: l => (unrat l).map (q :: ·)
  | _ => none
theorem unrat_ok : ∀ (l : List V) (m : List Rat), unrat l = some m → l = V.rats m
  | [], m, h => by injection h with h; subst h; rfl
  | .Q q :: l, m, h => by
    unfold unrat at h
    rcases hm : unrat l with _ | m' <;> rw [hm] at h
    · cases h
    · injection h with h
      subst h
      rw [unrat_ok l m' hm]
      rfl
@[go_sem ↓, go_sem] theorem unrat_rats (l : List Rat) : unrat (V.rats l) = some l := by
  induction l with
  | nil => rfl
  | cons x l ih =>
    show (unrat (V.rats l)).map (x :: ·) = _
    rw [ih]; rfl
@[go_sem ↓, go_sem] theorem unrat_nil : unrat [] = some [] := rfl
@[go_sem ↓, go_sem] theorem unrat_cons (q : Rat) (l : List V) : unrat (.Q q :: l) = (unrat l).map (q :: ·) := rfl
/-- A row of numbers. -/
def pR : Pat (List Rat) where
  p
    | .lst l => (unrat l).map fun m => (True, m)
    | .raw (.slice none 0 0) => some (True, [])
    | .emp => some (True, [])
    | _ => none
  val l := .lst (V.rats l)
  ok x c a h hc := by
    split at h
    · rename_i l
      rcases hm : unrat l with _ | m <;> rw [hm] at h
      · cases h
      · injection h with h; injection h with h1 h2; subst h2
        rw [unrat_ok l m hm]; exact .refl _
    · injection h with h; injection h with h1 h2; subst h2; exact .inr (.inr ⟨rfl, rfl, rfl, rfl⟩)
    · injection h with h; injection h with h1 h2; subst h2; exact .inr (.inr ⟨rfl, rfl, rfl⟩)
    · cases h
@[go_sem ↓, go_sem] theorem ev_pR {l : List V} : pR.p (.lst l) = (unrat l).map fun m => (True, m) := rfl
@[go_sem ↓, go_sem] theorem ev_pR_nil : pR.p (.raw (.slice none 0 0)) = some (True, []) := rfl
@[go_sem ↓, go_sem] theorem ev_pR_emp : pR.p .emp = some (True, []) := rfl
@[go_sem ↓, go_sem] theorem ev_pR_mk {l : List Rat} : pR.val l = .lst (V.rats l) := rfl
@[go_sem ↓ high, go_sem high] theorem args_same {H : Hp} {xs : List V} {k : List V → List Nat → Prop} (h : frzOk xs) : argsP H xs k = k xs [] := frzs_same h
/-- All coefficients are of a size. -/
def PB (l : List Rat) (k : Nat) : Prop := ∀ i, qs (cf l i) ≤ k
theorem PB.mono {l : List Rat} {j k : Nat} (h : PB l j) (e : j ≤ k) : PB l k := fun i => Nat.le_trans (h i) e
theorem qs_0 : qs 0 ≤ 1 := Nat.max_le.2 ⟨(dl_le (k := 1)).2 (by decide), (dl_le (k := 1)).2 (by decide)⟩
theorem qs_1 : qs 1 ≤ 1 := Nat.max_le.2 ⟨(dl_le (k := 1)).2 (by decide), (dl_le (k := 1)).2 (by decide)⟩
theorem PB_nil {k : Nat} (h : 1 ≤ k) : PB [] k := fun i => Nat.le_trans qs_0 h
theorem PB_cons {q : Rat} {l : List Rat} {k : Nat} (h : qs q ≤ k) (g : PB l k) : PB (q :: l) k := fun i => by
  cases i with
  | zero => exact h
  | succ i => exact g i
theorem PB_of {a b : List Rat} {k : Nat} (h : ∀ i, cf a i = cf b i) (g : PB b k) : PB a k := fun i => by rw [h]; exact g i
theorem PB.pos {l : List Rat} {k : Nat} (h : PB l k) : 1 ≤ k := Nat.le_trans (qs_pos _) (h 0)
theorem cf_append_lt {a b : List Rat} {i : Nat} (h : i < a.length) : cf (a ++ b) i = cf a i := by
  unfold cf
  rw [List.getD_eq_getElem?_getD, List.getD_eq_getElem?_getD, List.getElem?_append_left h]
theorem cf_append_ge {a b : List Rat} {i : Nat} (h : a.length ≤ i) : cf (a ++ b) i = cf b (i - a.length) := by
  unfold cf
  rw [List.getD_eq_getElem?_getD, List.getD_eq_getElem?_getD, List.getElem?_append_right h]
theorem cf_set {l : List Rat} {i j : Nat} {q : Rat} : cf (l.set i q) j = if i = j ∧ i < l.length then q else cf l j := by
  unfold cf
  rw [List.getD_eq_getElem?_getD, List.getD_eq_getElem?_getD, List.getElem?_set]
  by_cases h : i = j
  · subst h
    by_cases h2 : i < l.length
    · simp [h2]
    · simp [h2]
  · simp [h]
theorem cf_take {l : List Rat} {n i : Nat} : cf (l.take n) i = if i < n then cf l i else 0 := by
  unfold cf
  rw [List.getD_eq_getElem?_getD, List.getD_eq_getElem?_getD, List.getElem?_take]
  split <;> rfl
theorem cf_map_range {f : Nat → Rat} {n i : Nat} : cf ((List.range n).map f) i = if i < n then f i else 0 := by
  unfold cf
  rw [List.getD_eq_getElem?_getD, List.getElem?_map]
  by_cases h : i < n
  · rw [List.getElem?_range h, if_pos h]; rfl
  · rw [List.getElem?_eq_none (by simpa using h), if_neg h]; rfl
end Go.Proofs.YtfbogelmgdojgaaGreat

/- Contracts: package poly, its helpers. -/
namespace Go.Proofs.YtfbogelmgdojgaaGreat
set_option linter.unusedSimpArgs false
set_option linter.unusedVariables false
open Go.RowKit

theorem sgn_numQ (b : Rat) : (sgI b.num == 0) = decide (b = 0) := by
  by_cases h : b = 0
  · rw [decide_eq_true h, h]; rfl
  · rw [decide_eq_false h]; exact beqF fun e => h (Rat.num_eq_zero.1 (sgI_zero.1 e))
theorem pred_nat (n : Nat) : ((n + 1 : Nat) : Int) - 1 = (n : Nat) := by omega
theorem trim_V (l : List Rat) (h : l.length ≤ 1000000000) : PCall Tryz.prog 69 [.lst (V.rats l)] (.lst (V.rats (tr l))) := by
  refine PCall.of_vc (tabs mixed (tbl_cons qSign_C tbl_nil)) Tryz.func69 rfl Tryz.ntmps69 Tryz.results69 (by simp) ?_
  simp only [go_sem]
  refine AWp.loops (X := { n : Nat // n ≤ l.length ∧ ∀ i, n ≤ i → cf l i = 0 }) (fun n => mkSt [(0, .lst (V.rats l)), (2, .raw (.slice none 0 0)), (3, .raw (.int .i64 (n.1 : Nat)))] [] 0 23) (fun n => n.1) ⟨l.length, Nat.le_refl _, fun i h => cf_ge h⟩ (Wk.of [] (by decide) ?_) ?_
  · simp only [go_sem]
  · rintro ⟨n, hn, hz⟩
    refine vc_at (tabs mixed (tbl_cons qSign_C tbl_nil)) ?_
    rcases n with _ | n
    · simp only [go_sem]
      refine ⟨by omega, ?_⟩
      rw [tr_at (Nat.zero_le _) hz fun e => absurd rfl e]
      exact .refl _
    · have e1 := pred_nat n
      have e2 : 0 < ((n + 1 : Nat) : Int) := by omega
      by_cases hc : cf l n = 0
      · have c1 : (sgI (cf l n).num == 0) = true := by rw [sgn_numQ]; exact decide_eq_true hc
        simp only [go_sem, e1, e2, c1]
        refine ⟨by omega, by omega, by omega, by omega, ⟨n, by omega, fun i hi => ?_⟩, Wk.of [] (by decide) ?_, by simp only; omega⟩
        · rcases Nat.eq_or_lt_of_le hi with h | h
          · rw [← h]; exact hc
          · exact hz i h
        · simp only [go_sem]
      · have c1 : (sgI (cf l n).num == 0) = false := by rw [sgn_numQ]; exact decide_eq_false hc
        have d1 : decide (((n + 1 : Nat) : Int) = 0) = false := decide_eq_false (by omega)
        simp only [go_sem, e1, e2, c1, d1]
        refine ⟨by omega, by omega, by omega, by omega, ?_⟩
        rw [tr_at (l := l) (n := n + 1) (by omega) hz fun _ => hc]
        exact .refl _
def kTrim : Con := con1 pR fun l => (l.length ≤ 1000000000, .lst (V.rats (tr l)))
attribute [go_sem ↓, go_sem] kTrim
theorem trim_C : Ctr Tryz.prog 69 kTrim := Ctr.c1 (by kernel_rfl) fun l h => trim_V l h
end Go.Proofs.YtfbogelmgdojgaaGreat

/- Contracts: package poly, lists that a function computes. -/
namespace Go.Proofs.YtfbogelmgdojgaaGreat
set_option linter.unusedSimpArgs false
set_option linter.unusedVariables false
open Go.RowKit

/-- A function value that computes coefficients. -/
def kFn (caps : List V) (N : Nat) (F : Nat → Rat) : Con
  | .raw (.int .i64 i) :: cs => some ((cs = caps ∧ 0 ≤ i ∧ i < N), .Q (F i.toNat))
  | _ => none
attribute [go_sem ↓, go_sem] kFn.eq_1
def z0 : V := .agg [.raw (.bool false), .raw (.slice none 0 0), .raw (.bool false), .raw (.slice none 0 0)]
theorem z0_wid (n : Nat) : allWid (List.replicate n z0) 4 := fun y hy => by rw [List.eq_of_mem_replicate hy]; rfl
theorem z0_pure (n : Nat) : allPure (List.replicate n z0) := fun y hy => by rw [List.eq_of_mem_replicate hy]; rfl
theorem range_snoc (F : Nat → Rat) (i : Nat) : (List.range i).map F ++ [F i] = (List.range (i + 1)).map F := by rw [List.range_succ, List.map_append]; rfl
set_option maxRecDepth 2000 in
theorem each_V (g : FuncId) (caps : List V) (n : Int) (N : Nat) (hn : n.toNat = N) (F : Nat → Rat) (hc : frzOk caps) (hb : (caps.all fun x => x.atoms.all pureB) = true) (hg : ¬ g = 69) (hg' : ¬ 69 = g) (hC : Ctr Tryz.prog g (kFn caps N F)) (hN : N ≤ 1000000) :
    PCall Tryz.prog 113 [.raw (.int .i64 n), .clo (.func g) [] caps] (.lst (V.rats (tr ((List.range N).map F)))) := by
  refine PCall.of_vc (tabs mixed (tbl_cons trim_C (tbl_cons hC tbl_nil))) Tryz.func113 rfl Tryz.ntmps113 Tryz.results113 (by simp) ?_
  have m1 : (if n < 0 then (0 : Int) else n) = (N : Nat) := by split <;> omega
  have hr : ∀ θ, RenCs θ caps caps := fun θ => renCs_pure hb
  have mx : maxLen = 9223372036854775807 := by decide
  simp only [go_sem, m1, Int.toNat_natCast]
  refine ⟨by omega, ?_⟩
  refine AWp.loops (X := { p : Nat × List V // (p.1 ≤ N ∧ p.1 ≤ p.2.length) ∧ p.2.take p.1 = V.rats ((List.range p.1).map F) ∧ allPure p.2 ∧ allWid p.2 4 })
    (fun p => mkSt [(0, .raw (.int .i64 n)), (1, .clo (.func g) [] caps), (4, .raw (.slice none 0 0)), (5, .sl 0 4 0 p.1.1), (10, .raw (.int .i64 n)), (11, .raw (.int .i64 (p.1.1 : Nat)))] [(0, true, ⟨45, 4, p.1.2⟩)] 1 23)
    (fun p => N - p.1.1) ⟨(0, List.replicate N z0), ⟨Nat.zero_le _, Nat.zero_le _⟩, rfl, z0_pure N, z0_wid N⟩ (Wk.of [3] (by decide) ?_) ?_
  · simp only [go_sem]
    exact ⟨hr _, rfl, z0_pure N⟩
  · rintro ⟨⟨i, L⟩, ⟨hi, hl⟩, hL, hp, hw⟩
    simp only at hi hl hL hp hw
    refine vc_at (tabs mixed (tbl_cons trim_C (tbl_cons hC tbl_nil))) ?_
    by_cases hiN : i < N
    · have c1 : (i : Int) < n := by omega
      have e1 : (i : Int) + 1 = ((i + 1 : Nat) : Int) := by omega
      simp only [go_sem, c1, e1, hL, hc, hg, hg', range_snoc]
      refine ⟨by omega, hl, by omega, by omega, ⟨(i + 1, V.rats ((List.range (i + 1)).map F)), ⟨hiN, by simp [V.rats]⟩, ?_, ?_, ?_⟩, Wk.of [9] (by decide) ?_, by simp only; omega⟩
      · exact List.take_of_length_le (by simp [V.rats])
      · exact of_eq_true (rats_pure _)
      · exact of_eq_true (rats_wid _)
      · simp only [go_sem]
        exact hr _
    · have c1 : ¬ (i : Int) < n := by omega
      obtain rfl : i = N := by omega
      simp only [go_sem, c1, hL, hg, hg', hl]
      rw [List.length_map, List.length_range]
      omega
theorem Ctr.fn {P : Program} {g : FuncId} {caps : List V} {N : Nat} {F : Nat → Rat} (hc : callable P g = true) (h : ∀ i, i < N → PCall P g (.raw (.int .i64 (i : Nat)) :: caps) (.Q (F i))) : Ctr P g (kFn caps N F) := ⟨hc, fun args p r e hp => by
  unfold kFn at e
  split at e
  · rename_i i cs
    injection e with e; injection e with e1 e2; subst e1 e2
    obtain ⟨rfl, h0, h1⟩ := hp
    have := h i.toNat (by omega)
    rw [Int.toNat_of_nonneg h0] at this
    exact this
  · cases e⟩
/-- A list that a known function computes. -/
def kEach (g : FuncId) (caps : List V) (N : Nat) (R : List Rat) : Con
  | [.raw (.int .i64 n), .clo (.func f) [] cs] => some (n.toNat = N ∧ f = g ∧ cs = caps, .lst (V.rats R))
  | _ => none
attribute [go_sem ↓, go_sem] kEach.eq_1
theorem each_C (g : FuncId) (caps : List V) (N : Nat) (F : Nat → Rat) (hc : frzOk caps) (hb : (caps.all fun x => x.atoms.all pureB) = true) (hg : ¬ g = 69) (hg' : ¬ 69 = g) (hC : Ctr Tryz.prog g (kFn caps N F)) (hN : N ≤ 1000000) :
    Ctr Tryz.prog 113 (kEach g caps N (tr ((List.range N).map F))) := ⟨by kernel_rfl, fun args p r e hp => by
  unfold kEach at e
  split at e
  · injection e with e; injection e with e1 e2; subst e1 e2
    obtain ⟨h0, rfl, rfl⟩ := hp
    exact each_V _ _ _ N h0 F hc hb hg hg' hC hN
  · cases e⟩
def kAt : Con := con2 pR (pN .i64) fun p i => (0 ≤ i, .Q (cf p i.toNat))
attribute [go_sem ↓, go_sem] kAt
theorem at_C : Ctr Tryz.prog 134 kAt := Ctr.c2 (by kernel_rfl) fun p i h => by
  have h : 0 ≤ i := h
  obtain ⟨n, rfl⟩ : ∃ n : Nat, i = n := ⟨i.toNat, by omega⟩
  show PCall _ _ _ (.Q (cf p n))
  refine PCall.of_vc (tabs mixed (tbl_cons whole_C tbl_nil)) Tryz.func134 rfl Tryz.ntmps134 Tryz.results134 (by simp) ?_
  by_cases hn : n < p.length
  · have c1 : (n : Int) < p.length := by omega
    simp only [go_sem, c1]
    exact ⟨h, hn⟩
  · have c1 : ¬ (n : Int) < p.length := by omega
    simp only [go_sem, c1, cf_ge (Nat.le_of_not_lt hn)]
    exact out_QQ rfl
theorem subFn_C (a b : List Rat) (N : Nat) (j k : Nat) (ha : PB a j) (hb : PB b k) (hj : j ≤ 10000000000) (hk : k ≤ 10000000000) : Ctr Tryz.prog 133 (kFn [.pel (.lst (V.rats a)), .pel (.lst (V.rats b))] N fun i => cf a i - cf b i) := Ctr.fn (by kernel_rfl) fun i hi => by
  refine PCall.of_vc (tabs mixed (tbl_cons at_C (tbl_cons qSub_C tbl_nil))) Tryz.func133 rfl Tryz.ntmps133 Tryz.results133 (by simp) ?_
  have h1 := ha i
  have h2 := hb i
  simp only [go_sem]
  exact ⟨by omega, by omega, by omega, by rfl⟩
theorem scFn_C (a : List Rat) (c : Rat) (N : Nat) (j k : Nat) (ha : PB a j) (hc : qs c ≤ k) (hj : j ≤ 10000000000) (hk : k ≤ 10000000000) (hN : N ≤ a.length) : Ctr Tryz.prog 121 (kFn [.pel (.lst (V.rats a)), .pel (.Q c)] N fun i => cf a i * c) := Ctr.fn (by kernel_rfl) fun i hi => by
  refine PCall.of_vc (tabs mixed (tbl_cons qMul_C tbl_nil)) Tryz.func121 rfl Tryz.ntmps121 Tryz.results121 (by simp) ?_
  have h1 := ha i
  simp only [go_sem]
  exact ⟨by omega, by omega, by omega, by rfl⟩
theorem diffFn_C (a : List Rat) (N : Nat) (j : Nat) (ha : PB a j) (hj : j ≤ 10000000000) (hN : N + 1 ≤ a.length) (hl : a.length ≤ 1000000) : Ctr Tryz.prog 114 (kFn [.pel (.lst (V.rats a))] N fun i => cf a (i + 1) * (((i + 1 : Nat) : Int) : Rat)) := Ctr.fn (by kernel_rfl) fun i hi => by
  refine PCall.of_vc (tabs mixed (tbl_cons qMul_C (tbl_cons whole_C tbl_nil))) Tryz.func114 rfl Tryz.ntmps114 Tryz.results114 (by simp) ?_
  have h1 := ha (i + 1)
  have e1 : (i : Int) + 1 = ((i + 1 : Nat) : Int) := by omega
  have h2 : qs ((((i + 1 : Nat) : Int)) : Rat) ≤ 3 := qsZ (dl_i64 (by omega))
  simp only [go_sem, e1]
  exact ⟨by omega, by omega, by omega, by omega, by omega, by omega, by rfl⟩
theorem frzOk_2 (x y : V) : frzOk [.pel x, .pel y] := fun z hz => by
  rcases List.mem_cons.1 hz with rfl | hz
  · exact ⟨rfl, by simp, by simp⟩
  · simp at hz; subst hz; exact ⟨rfl, by simp, by simp⟩
theorem add_list (a b : List Rat) : tr ((List.range (max a.length b.length)).map fun i => cf a i + cf b i) = pAdd a b := tr_of_cf fun i => by
  rw [cf_map_range, cf_addL]
  split
  · rfl
  · rw [cf_ge (l := a) (by omega), cf_ge (l := b) (by omega)]; grind
def kPAdd : Con := con2 pR pR fun a b => ((a.length ≤ 1000000 ∧ b.length ≤ 1000000) ∧ PB a 10000000000 ∧ PB b 10000000000, .lst (V.rats (pAdd a b)))
attribute [go_sem ↓, go_sem] kPAdd
theorem sub_list (a b : List Rat) : tr ((List.range (max a.length b.length)).map fun i => cf a i - cf b i) = pSub a b := tr_of_cf fun i => by
  rw [cf_map_range, cf_addL, cf_scL]
  split
  · grind
  · rw [cf_ge (l := a) (by omega), cf_ge (l := b) (by omega)]; grind
def kPSub : Con := con2 pR pR fun a b => ((a.length ≤ 1000000 ∧ b.length ≤ 1000000) ∧ PB a 10000000000 ∧ PB b 10000000000, .lst (V.rats (pSub a b)))
attribute [go_sem ↓, go_sem] kPSub
theorem pSub_C : Ctr Tryz.prog 107 kPSub := Ctr.c2 (by kernel_rfl) fun a b h => by
  obtain ⟨⟨h1, h2⟩, h3, h4⟩ := h
  show PCall _ _ _ (.lst (V.rats (pSub a b)))
  rw [← sub_list]
  refine PCall.of_vc (tabs mixed (tbl_cons (each_C 133 _ (max a.length b.length) _ (frzOk_2 _ _) rfl (by decide) (by decide) (subFn_C a b (max a.length b.length) _ _ h3 h4 (Nat.le_refl _) (Nat.le_refl _)) (by omega)) tbl_nil)) Tryz.func107 rfl Tryz.ntmps107 Tryz.results107 (by simp) ?_
  simp only [go_sem]
  split <;> omega
theorem sc_list (a : List Rat) (c : Rat) : tr ((List.range a.length).map fun i => cf a i * c) = pSc c a := tr_of_cf fun i => by
  rw [cf_map_range, cf_scL]
  split
  · grind
  · rw [cf_ge (l := a) (by omega)]; grind
def kPSc : Con := con2 pR pQ fun a c => (a.length ≤ 1000000 ∧ PB a 10000000000 ∧ qs c ≤ 10000000000, .lst (V.rats (pSc c a)))
attribute [go_sem ↓, go_sem] kPSc
theorem pSc_C : Ctr Tryz.prog 92 kPSc := Ctr.c2 (by kernel_rfl) fun a c h => by
  obtain ⟨h1, h2, h3⟩ := h
  show PCall _ _ _ (.lst (V.rats (pSc c a)))
  rw [← sc_list]
  refine PCall.of_vc (tabs mixed (tbl_cons (each_C 121 _ a.length _ (frzOk_2 _ _) rfl (by decide) (by decide) (scFn_C a c a.length _ _ h2 h3 (Nat.le_refl _) (Nat.le_refl _) (Nat.le_refl _)) (by omega)) tbl_nil)) Tryz.func92 rfl Tryz.ntmps92 Tryz.results92 (by simp) ?_
  simp only [go_sem]
theorem diff_list (a : List Rat) : tr ((List.range (a.length - 1)).map fun i => cf a (i + 1) * (((i + 1 : Nat) : Int) : Rat)) = pDiff a := tr_of_cf fun i => by
  have e : ((((i + 1 : Nat) : Int)) : Rat) = ((i + 1 : Nat) : Rat) := rfl
  rw [cf_map_range, cf_dL, e]
  split
  · grind
  · rw [cf_ge (l := a) (by omega)]; grind
def kPDiff : Con := con1 pR fun a => (a.length ≤ 1000000 ∧ PB a 10000000000, .lst (V.rats (pDiff a)))
attribute [go_sem ↓, go_sem] kPDiff
theorem frzOk_1 (x : V) : frzOk [.pel x] := fun z hz => by simp at hz; subst hz; exact ⟨rfl, by simp, by simp⟩
theorem diffFn0_C (a : List Rat) : Ctr Tryz.prog 114 (kFn [.pel (.lst (V.rats a))] 0 fun i => cf a (i + 1) * (((i + 1 : Nat) : Int) : Rat)) := Ctr.fn (by kernel_rfl) fun i hi => by omega
theorem pDiff_C : Ctr Tryz.prog 74 kPDiff := Ctr.c1 (by kernel_rfl) fun a h => by
  obtain ⟨h1, h2⟩ := h
  show PCall _ _ _ (.lst (V.rats (pDiff a)))
  rw [← diff_list]
  have hC : Ctr Tryz.prog 114 (kFn [.pel (.lst (V.rats a))] (a.length - 1) fun i => cf a (i + 1) * (((i + 1 : Nat) : Int) : Rat)) := by
    rcases Nat.eq_zero_or_pos (a.length - 1) with h0 | h0
    · rw [h0]; exact diffFn0_C a
    · exact diffFn_C a _ _ h2 (Nat.le_refl _) (by omega) h1
  refine PCall.of_vc (tabs mixed (tbl_cons (each_C 114 _ (a.length - 1) _ (frzOk_1 _) rfl (by decide) (by decide) hC (by omega)) tbl_nil)) Tryz.func74 rfl Tryz.ntmps74 Tryz.results74 (by simp) ?_
  simp only [go_sem]
  exact ⟨by omega, by omega⟩
end Go.Proofs.YtfbogelmgdojgaaGreat
