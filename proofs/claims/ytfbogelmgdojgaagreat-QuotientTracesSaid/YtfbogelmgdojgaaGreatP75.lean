/- Texts J4 in one. -/
import Derived.Test.YtfbogelmgdojgaaGreatP73
/- Contracts: traces, powers of an element. -/
namespace Go.Proofs.YtfbogelmgdojgaaGreat
set_option linter.unusedSimpArgs false
set_option linter.unusedVariables false
open Go.RowKit

/-- A sum of products. -/
def trF (r p : List Rat) : Nat → Rat
  | 0 => ((0 : Int) : Rat)
  | i + 1 => trF r p i + cf r i * cf p i
def trQ (q a : List Rat) : Rat := trF (pMod a q) (nwR (pMonic q) (pMod a q).length) (pMod a q).length
def TrOk (q a : List Rat) : Prop := (DvOk a q ∧ q ≠ []) ∧ (0 < (pMod a q).length → PoOk q (pMod a q).length) ∧ PB (pMod a q) 10000000000 ∧ PB (nwR (pMonic q) (pMod a q).length) 10000000000 ∧
  ∀ i, i < (pMod a q).length → qs (trF (pMod a q) (nwR (pMonic q) (pMod a q).length) i) ≤ 10000000000 ∧ qs (cf (pMod a q) i * cf (nwR (pMonic q) (pMod a q).length) i) ≤ 10000000000
def kTrace : Con := con2 pR pR fun q a => (TrOk q a, .Q (trQ q a))
attribute [go_sem ↓, go_sem] kTrace
theorem trace_C : Ctr Tryz.prog 20 kTrace := Ctr.c2 (by kernel_rfl) fun q a h => by
  obtain ⟨⟨hd, q0⟩, hp, hr, hw, ht⟩ := h
  unfold trQ
  have T := (tabs mixed (tbl_cons qRed_C (tbl_cons whole_C (tbl_cons power6_C (tbl_cons qMul_C (tbl_cons qAdd_C tbl_nil))))))
  obtain ⟨r, er⟩ : ∃ r, pMod a q = r := ⟨_, rfl⟩
  rw [er] at hp hr hw ht ⊢
  obtain ⟨p, ep⟩ : ∃ p, nwR (pMonic q) r.length = p := ⟨_, rfl⟩
  have lp : p.length = r.length := by rw [← ep, nwR_len]; omega
  rw [ep] at hw ht ⊢
  refine PCall.of_vc (tabs mixed (tbl_cons qRed_C (tbl_cons whole_C (tbl_cons power6_C (tbl_cons qMul_C (tbl_cons qAdd_C tbl_nil)))))) Tryz.func20 rfl Tryz.ntmps20 Tryz.results20 (by simp) ?_
  have hp' : (0 < (r.length : Int) → PoOk q (r.length : Int).toNat) = True := eq_true fun h => by rw [Int.toNat_natCast]; exact hp (by omega)
  simp only [go_sem, hd, q0, er, ep, lp]
  refine ⟨fun h => hp (by omega), ?_⟩
  refine AWp.loops (X := { i : Nat // i ≤ r.length }) (fun i => mkSt [(0, .lst (V.rats q)), (1, .lst (V.rats r)), (4, .ptr 0 4 0 0), (5, .ptr 1 4 0 0), (15, .lst (V.rats p)), (16, .raw (.int .i64 (r.length : Nat))), (17, .raw (.int .i64 (i.1 : Nat)))] [(0, true, ⟨45, 4, [.agg [.raw (.bool false), .raw (.slice none 0 0), .raw (.bool false), .raw (.slice none 0 0)]]⟩), (1, true, ⟨45, 4, [.Q (trF r p i.1)]⟩)] 2 32) (fun i => r.length - i.1) ⟨0, Nat.zero_le _⟩ (Wk.of [0, 6] (by decide) ?_) ?_
  · simp only [go_sem, trF]
  · rintro ⟨i, hi⟩
    refine vc_at T ?_
    by_cases hin : i < r.length
    · have c1 : (i : Int) < (r.length : Nat) := by omega
      have c2 : (i : Int) + 1 = ((i + 1 : Nat) : Int) := by omega
      have h1 := ht i hin
      have h2 := hr i
      have h3 := hw i
      have hin' : i < p.length := by omega
      have hrl := (hp (by omega)).2.2.1.2.2
      simp only [go_sem, c1, c2, h1, h2, h3, hin, hin']
      refine ⟨⟨by omega, by omega⟩, by omega, by rfl, ⟨by omega, by omega⟩, ⟨i + 1, hin⟩, Wk.of [0, 1] (by decide) ?_, by simp only; omega⟩
      simp only [go_sem, trF]
    · obtain rfl : i = r.length := by omega
      have c1 : ¬ (r.length : Int) < (r.length : Nat) := by omega
      simp only [go_sem, c1]
/-- The powers of an element. -/
def pwE (q r : List Rat) : Nat → List Rat
  | 0 => r
  | i + 1 => pMod (pMul (pwE q r i) r) q
def V.pls (l : List (List Rat)) : List V := l.map fun p => .lst (V.rats p)
@[go_sem] theorem pls_len (l : List (List Rat)) : (V.pls l).length = l.length := by simp [V.pls]
@[go_sem ↓, go_sem] theorem ev_pls_get {l : List (List Rat)} {i : Nat} {k : V → Prop} : optC (V.pls l)[i]? k = (i < l.length ∧ k (.lst (V.rats (l.getD i [])))) := by
  unfold V.pls
  rw [List.getElem?_map, List.getD_eq_getElem?_getD]
  by_cases h : i < l.length
  · simp [List.getElem?_eq_getElem h, optC, h]
  · simp [List.getElem?_eq_none (Nat.le_of_not_lt h), optC, h]
@[go_sem] theorem pls_frz (l : List (List Rat)) : frzOk (V.pls l) = True := eq_true (frzOk_map (fun a => ⟨rfl, by simp, by simp⟩) l)
@[go_sem] theorem pls_wid (l : List (List Rat)) : allWid (V.pls l) 1 = True := eq_true fun y hy => by
  obtain ⟨p, _, rfl⟩ := List.mem_map.1 hy
  rfl
@[go_sem] theorem pls_pure (l : List (List Rat)) : allPure (V.pls l) = True := eq_true fun y hy => by
  obtain ⟨p, _, rfl⟩ := List.mem_map.1 hy
  rfl
theorem pls_snoc (l : List (List Rat)) (p : List Rat) : V.pls l ++ [.lst (V.rats p)] = V.pls (l ++ [p]) := by simp [V.pls]
def pwsL (q r : List Rat) (n : Nat) : List (List Rat) := (List.range (n + 1)).map (pwE q r)
theorem pwsL_len (q r : List Rat) (n : Nat) : (pwsL q r n).length = n + 1 := by simp [pwsL]
theorem pwsL_snoc (q r : List Rat) (n : Nat) : pwsL q r n ++ [pwE q r (n + 1)] = pwsL q r (n + 1) := by unfold pwsL; rw [List.range_succ (n := n + 1), List.map_append]; rfl
theorem pwsL_get (q r : List Rat) {n i : Nat} (h : i ≤ n) : (pwsL q r n).getD i [] = pwE q r i := by
  unfold pwsL
  rw [List.getD_eq_getElem?_getD, List.getElem?_map, List.getElem?_range (by omega)]
  rfl
def MqOk (q a b : List Rat) : Prop := (a.length + b.length ≤ 1000000 ∧ ∃ j k, (PB a j ∧ PB b k) ∧ a.length * (j + k + 1) ≤ 9999999999) ∧ DvOk (pMul a b) q ∧ q ≠ []
/-- A modulus, as a struct. -/
def pRg : Pat (List Rat) where
  p
    | .agg [.lst l] => (unrat l).map fun m => (True, m)
    | _ => none
  val l := .agg [.lst (V.rats l)]
  ok x c a h hc := by
    split at h
    · rename_i l
      rcases hm : unrat l with _ | m <;> rw [hm] at h
      · cases h
      · injection h with h; injection h with h1 h2; subst h2
        rw [unrat_ok l m hm]; exact .refl _
    · cases h
@[go_sem ↓, go_sem] theorem ev_pRg {l : List V} : pRg.p (.agg [.lst l]) = (unrat l).map fun m => (True, m) := rfl
@[go_sem ↓, go_sem] theorem ev_pRg_mk {l : List Rat} : pRg.val l = .agg [.lst (V.rats l)] := rfl
def kRMulq : Con := con3 pRg pR pR fun q a b => (MqOk q a b, .lst (V.rats (pMod (pMul a b) q)))
attribute [go_sem ↓, go_sem] kRMulq
theorem rgMul_C : Ctr Tryz.prog 63 kRMulq := Ctr.c3 (by kernel_rfl) fun q a b h => by
  obtain ⟨hm, hd, q0⟩ := h
  show PCall _ _ _ (.lst (V.rats (pMod (pMul a b) q)))
  refine PCall.of_vc (tabs mixed (tbl_cons qMulq_C tbl_nil)) Tryz.func63 rfl Tryz.ntmps63 Tryz.results63 (by simp) ?_
  simp only [go_sem, hm, hd, q0]
/-- The multiplication of a modulus, as a function. -/
def pMl (g : FuncId) : Pat (List Rat) where
  p
    | .clo (.func f) [.agg [.lst l]] [] => if f = g then (unrat l).map fun m => (True, m) else none
    | _ => none
  val l := .clo (.func g) [.agg [.lst (V.rats l)]] []
  ok x c a h hc := by
    split at h
    · rename_i f l
      split at h
      · rename_i e; subst e
        rcases hm : unrat l with _ | m <;> rw [hm] at h
        · cases h
        · injection h with h; injection h with h1 h2; subst h2
          rw [unrat_ok l m hm]; exact .inl rfl
      · cases h
    · cases h
@[go_sem ↓, go_sem] theorem ev_pMl {g : FuncId} {l : List V} : (pMl g).p (.clo (.func g) [.agg [.lst l]] []) = (unrat l).map fun m => (True, m) := if_pos rfl
@[go_sem ↓, go_sem] theorem ev_pMl_val {g : FuncId} {l : List Rat} : (pMl g).val l = .clo (.func g) [.agg [.lst (V.rats l)]] [] := rfl
def PwsOk (q r : List Rat) (n : Int) : Prop := n ≤ 1000 ∧ ∀ i : Nat, (i : Int) < n - 1 → MqOk q (pwE q r i) r
def kPows : Con := con3 pR (pN .i64) (pMl 63) fun r n q => (PwsOk q r n, .lst (V.pls (pwsL q r (n - 1).toNat)))
attribute [go_sem ↓, go_sem] kPows
theorem pows_C : Ctr Tryz.prog 64 kPows := Ctr.c3 (by kernel_rfl) fun r n q h => by
  obtain ⟨hn, hi⟩ := h
  show PCall _ _ _ (.lst (V.pls (pwsL q r (n - 1).toNat)))
  have T := (tabs mixed (tbl_cons rgMul_C tbl_nil))
  have mx : maxLen = 9223372036854775807 := by decide
  refine PCall.of_vc (tabs mixed (tbl_cons rgMul_C tbl_nil)) Tryz.func64 rfl Tryz.ntmps64 Tryz.results64 (by simp) ?_
  simp only [go_sem]
  refine AWp.loops (X := { i : Nat // i ≤ (n - 1).toNat }) (fun i => mkSt [(0, .lst (V.rats r)), (1, .raw (.int .i64 n)), (2, .clo (.func 63) [.agg [.lst (V.rats q)]] []), (6, .raw (.slice none 0 0)), (7, .sl 0 1 0 (i.1 + 1))] [(0, true, ⟨30, 1, V.pls (pwsL q r i.1)⟩)] 1 27) (fun i => (n - 1).toNat - i.1) ⟨0, Nat.zero_le _⟩ (Wk.of [2] (by decide) ?_) ?_
  · have e0 : V.pls (pwsL q r 0) = [.lst (V.rats r)] := rfl
    simp only [go_sem, e0]
    exact ⟨rfl, rfl⟩
  · rintro ⟨i, hin⟩
    refine vc_at T ?_
    by_cases hlt : i < (n - 1).toNat
    · have c1 : ((i + 1 : Nat) : Int) < n := by omega
      have c2 : ((i + 1 : Nat) : Int) - 1 = (i : Nat) := by omega
      obtain ⟨m1, m2, m3⟩ := hi i (by omega)
      have e1 : (pwsL q r i).getD i [] = pwE q r i := pwsL_get q r (Nat.le_refl _)
      have e2 : pMod (pMul (pwE q r i) r) q = pwE q r (i + 1) := rfl
      have e3 : (V.pls (pwsL q r i)).take (i + 1) = V.pls (pwsL q r i) := List.take_of_length_le (by rw [pls_len, pwsL_len]; exact Nat.le_refl _)
      have m0 := hi i (by omega)
      simp only [go_sem, c1, c2, e1, e2, e3, m0, pwsL_len, pls_snoc, pwsL_snoc, mx]
      refine ⟨⟨by omega, by omega⟩, ⟨by omega, by omega⟩, ⟨by omega, by omega⟩, ⟨i + 1, hlt⟩, Wk.of [16] (by decide) ?_, by simp only; omega⟩
      simp only [go_sem]
      exact ⟨rfl, rfl⟩
    · obtain rfl : i = (n - 1).toNat := by omega
      have c1 : ¬ (((n - 1).toNat + 1 : Nat) : Int) < n := by omega
      have e3 : (V.pls (pwsL q r (n - 1).toNat)).take ((n - 1).toNat + 1) = V.pls (pwsL q r (n - 1).toNat) := List.take_of_length_le (by rw [pls_len, pwsL_len]; exact Nat.le_refl _)
      simp only [go_sem, c1, pwsL_len, e3]
end Go.Proofs.YtfbogelmgdojgaaGreat
