/- Texts G10 G11 G12 G13 G14 G15 G16 H1 H2 in one. -/
import Derived.Test.YthhpmapbhdebeaaGreatR24
import Derived.Test.YthhpmapbhdebeaaGreatR23
import Derived.Test.YthhpmapbhdebeaaGreatR20
/- Contracts: the polynomial at x + c. -/
namespace Go.Proofs.YthhpmapbhdebeaaGreat
set_option linter.unusedSimpArgs false
set_option linter.unusedVariables false
open Go.RowKit

theorem cf_ext {l m : List Rat} (h : l.length = m.length) (hc : ∀ i, cf l i = cf m i) : l = m := by
  refine List.ext_getElem h fun i h1 h2 => ?_
  have := hc i
  unfold cf at this
  rw [List.getD_eq_getElem?_getD, List.getD_eq_getElem?_getD, List.getElem?_eq_getElem h1, List.getElem?_eq_getElem h2] at this
  exact this
theorem hd0_cf (l : List Rat) : hd0 l = cf l 0 := by cases l <;> rfl
theorem cf_syn (c : Rat) : ∀ (l : List Rat) (j : Nat), cf (syn c l) j = cf l j + c * cf (syn c l) (j + 1)
  | [], j => by
    show (0 : Rat) = 0 + c * 0
    grind
  | r :: l, 0 => by
    show r + c * hd0 (syn c l) = r + c * cf (syn c l) 0
    rw [hd0_cf]
  | r :: l, j + 1 => by
    show cf (syn c l) j = cf l j + c * cf (syn c l) (j + 1)
    exact cf_syn c l j
/-- The sizes within the shift. -/
def ShOk : Nat → Rat → List Rat → Prop
  | 0, _, _ => True
  | n + 1, c, l => (∃ s, (PB l s ∧ PB (syn c l) s) ∧ s ≤ 2000000000000) ∧ ShOk n c (tl0 (syn c l))
def kQClone0 : Con := con1 pR fun l => (l = [], .lst (V.rats []))
attribute [go_sem ↓, go_sem] kQClone0
theorem qclone0_C : Ctr Tryz.prog 85 kQClone0 := Ctr.c1 (by kernel_rfl) fun l h => by
  subst h
  refine PCall.lst0 fun A c => ?_
  cases A with
  | none =>
    refine PCall.of_vc (tabs mixed tbl_nil) Tryz.func85 rfl Tryz.ntmps85 Tryz.results85 (by simp) ?_
    have e2 : maxLen = 9223372036854775807 := by decide
    simp only [go_sem, e2]
    exact ⟨⟨_, rfl⟩, .inl rfl⟩
  | some A =>
    refine PCall.of_vc (tabs mixed tbl_nil) Tryz.func85 rfl Tryz.ntmps85 Tryz.results85 (by simp) ?_
    have e2 : maxLen = 9223372036854775807 := by decide
    simp only [go_sem, e2]
    exact ⟨⟨_, rfl⟩, .inl rfl⟩
def kPShift : Con := con2 pR pQ fun a c => (Can a ∧ a.length ≤ 1000000 ∧ qs c ≤ 2000000000000 ∧ ShOk a.length c a, .lst (V.rats (pShift c a)))
attribute [go_sem ↓, go_sem] kPShift
theorem pShift_C : Ctr Tryz.prog 37 kPShift := Ctr.c2 (by kernel_rfl) fun a c h => by
  obtain ⟨ca, hl, hc, hs⟩ := h
  show PCall _ _ _ (.lst (V.rats (pShift c a)))
  by_cases a0 : a = []
  · subst a0
    refine PCall.of_vc (tabs mixed (tbl_cons qclone0_C tbl_nil)) Tryz.func37 rfl Tryz.ntmps37 Tryz.results37 (by simp) ?_
    simp only [go_sem]
    refine AWp.loops (X := Unit) (fun _ => mkSt [(4, .raw (.slice none 0 0)), (5, .lst (V.rats [])), (11, .raw (.int .i64 0)), (12, .raw (.int .i64 0))] [] 0 40) (fun _ => 0) () (Wk.of [] (by decide) ?_) ?_
    · simp only [go_sem]
    · rintro ⟨⟩
      refine vc_at (tabs mixed (tbl_cons qclone0_C tbl_nil)) ?_
      have c1 : ¬ (0 : Int) < 0 := by decide
      simp only [go_sem, c1]
      exact .inl rfl
  · have al := List.length_pos_iff.2 a0
    refine PCall.of_vc (tabsX mixed (tbl_cons qMul_C (tbl_cons qAdd_C tbl_nil)) (xtb_cons qclone_C xtb_nil)) Tryz.func37 rfl Tryz.ntmps37 Tryz.results37 (by simp) ?_
    simp only [go_sem, a0]
    obtain ⟨n, hn⟩ : ∃ n, n = a.length := ⟨_, rfl⟩
    obtain ⟨S, hS⟩ : ∃ S, S = pShift c a := ⟨_, rfl⟩
    have hSl : S.length = n := by rw [hS, hn]; exact shF_len _ _ _
    rw [← hS]
    refine ⟨hl, ?_⟩
    refine AWp.loops (X := { p : Nat × List Rat × List Rat // (p.1 ≤ n ∧ p.2.1.length = n ∧ p.2.2.length = n - p.1) ∧ ShOk (n - p.1) c p.2.2 ∧ (∀ m, p.1 ≤ m → cf p.2.1 m = cf p.2.2 (m - p.1)) ∧ (∀ m, m < p.1 → cf p.2.1 m = cf S m) ∧ ∀ q, cf S (p.1 + q) = cf (shF (n - p.1) c p.2.2) q })
      (fun p => mkSt [(3, .ptr 0 4 0 0), (4, .raw (.slice none 0 0)), (5, .sl 1 4 0 n), (11, .raw (.int .i64 (n : Nat))), (12, .raw (.int .i64 (p.1.1 : Nat)))] [(0, true, ⟨51, 4, [.Q c]⟩), (1, true, ⟨51, 4, V.rats p.1.2.1⟩)] 2 40)
      (fun p => n - p.1.1) ⟨(0, a, a), ⟨Nat.zero_le _, hn.symm, hn.symm⟩, by simp only [Nat.sub_zero]; rw [hn]; exact hs, fun m _ => rfl, fun m hm => by omega, fun q => by simp only [Nat.zero_add, Nat.sub_zero]; rw [hS, hn]; rfl⟩ (Wk.of [0, 3] (by decide) ?_) ?_
    · simp only [go_sem, hn]
    · rintro ⟨⟨i, R, rem⟩, ⟨hi, hR, hr⟩, hok, h1, h2, h3⟩
      simp only at hi hR hr hok h1 h2 h3
      refine vc_at (tabsX mixed (tbl_cons qMul_C (tbl_cons qAdd_C tbl_nil)) (xtb_cons qclone_C xtb_nil)) ?_
      by_cases hin : i < n
      · have c1 : (i : Int) < (n : Nat) := by omega
        obtain ⟨d, hd⟩ : ∃ d, n - i = d + 1 := ⟨n - i - 1, by omega⟩
        rw [hd] at hok h3 hr
        obtain ⟨⟨s, ⟨s1, s2⟩, s3⟩, hok⟩ := hok
        simp only [go_sem, c1]
        refine ⟨⟨by omega, by omega⟩, ?_⟩
        refine AWp.loops (X := { p : Nat × List Rat // p.1 + i + 1 ≤ n ∧ p.2.length = n ∧ ∀ m, cf p.2 m = if m < i + p.1 then cf R m else cf (syn c rem) (m - i) })
          (fun p => mkSt [(3, .ptr 0 4 0 0), (4, .raw (.slice none 0 0)), (5, .sl 1 4 0 n), (6, .raw (.int .i64 (i : Nat))), (7, .raw (.int .i64 ((i + p.1.1 : Nat) - 1))), (11, .raw (.int .i64 (n : Nat))), (12, .raw (.int .i64 (i : Nat)))] [(0, true, ⟨51, 4, [.Q c]⟩), (1, true, ⟨51, 4, V.rats p.1.2⟩)] 2 40)
          (fun p => p.1.1) ⟨(d, R), by simp only; omega, hR, fun m => ?_⟩ (Wk.of [0, 1] (by decide) ?_) ?_
        · simp only
          split
          · rfl
          · rename_i hm
            rw [h1 m (by omega), cf_syn, cf_ge (l := syn c rem) (i := m - i + 1) (by rw [syn_len]; omega)]
            grind
        · have e1 : (n : Int) - 2 = ((i + d : Nat) : Int) - 1 := by omega
          simp only [go_sem, e1]
        · rintro ⟨⟨j, R'⟩, hj, hR', hc'⟩
          simp only at hj hR' hc'
          refine vc_at (tabsX mixed (tbl_cons qMul_C (tbl_cons qAdd_C tbl_nil)) (xtb_cons qclone_C xtb_nil)) ?_
          rcases j with _ | j
          · have c2 : ¬ (i : Int) ≤ (i : Int) - 1 := by omega
            have c3 : (i : Int) + 1 = ((i + 1 : Nat) : Int) := by omega
            simp only [go_sem, c2, c3]
            refine ⟨⟨by omega, by omega⟩, ⟨(i + 1, R', tl0 (syn c rem)), ⟨hin, hR', by simp only [tl0_len, syn_len]; omega⟩, ?_, fun m hm => ?_, fun m hm => ?_, fun q => ?_⟩, Wk.of [0, 1] (by decide) ?_, by simp only; omega⟩
            · simp only
              rw [show n - (i + 1) = d from by omega]; exact hok
            · simp only at hm ⊢
              rw [hc', if_neg (by omega), cf_tl0, show m - (i + 1) + 1 = m - i from by omega]
            · simp only at hm ⊢
              rw [hc']
              by_cases hm' : m < i
              · rw [if_pos (by omega), h2 m hm']
              · obtain rfl : m = i := by omega
                rw [if_neg (by omega), Nat.sub_self]
                have := h3 0
                rw [Nat.add_zero] at this
                rw [this]
                show _ = hd0 (syn c rem)
                rw [hd0_cf]
            · simp only
              rw [show n - (i + 1) = d from by omega]
              have := h3 (q + 1)
              rw [show i + (q + 1) = i + 1 + q from by omega] at this
              rw [this]
              rfl
            · simp only [go_sem]
          · have c2 : (i : Int) ≤ ((i + j : Nat) : Int) := by omega
            have c3 : ((i + (j + 1) : Nat) : Int) - 1 = ((i + j : Nat) : Int) := by omega
            have c4 : ((i + j : Nat) : Int) + 1 = ((i + j + 1 : Nat) : Int) := by omega
            have q1 := hc' (i + j)
            rw [if_pos (by omega), h1 _ (by omega), show i + j - i = j from by omega] at q1
            have q2 := hc' (i + j + 1)
            rw [if_neg (by omega), show i + j + 1 - i = j + 1 from by omega] at q2
            have q3 := s1 j
            have q4 := s2 (j + 1)
            have q5 := qsM hc q4
            simp only [go_sem, c2, c3, c4, hR']
            refine ⟨⟨by omega, by omega⟩, by omega, ⟨by omega, by omega⟩, ⟨by omega, by omega⟩, by omega, ⟨by omega, by rw [q2]; omega⟩, ⟨by rw [q1]; omega, by rw [q2]; omega⟩, ⟨by omega, by omega⟩, by omega, by rfl, ⟨by omega, by omega⟩,
              ⟨(j, R'.set (i + j) (cf R' (i + j) + c * cf R' (i + j + 1))), by simp only; omega, by rw [List.length_set]; exact hR', fun m => ?_⟩, Wk.of [0, 1] (by decide) ?_, by simp only; omega⟩
            · simp only [cf_set]
              by_cases hm : i + j = m
              · subst hm
                rw [if_pos ⟨rfl, by omega⟩, if_neg (by omega), q1, q2, show i + j - i = j from by omega]
                exact (cf_syn c rem j).symm
              · rw [if_neg fun h => hm h.1, hc']
                by_cases hm' : m < i + j
                · rw [if_pos (by omega), if_pos hm']
                · rw [if_neg (by omega), if_neg hm']
            · simp only [go_sem]
      · have c1 : ¬ (i : Int) < (n : Nat) := by omega
        obtain rfl : i = n := by omega
        have e1 : R = S := cf_ext (by rw [hR, hSl]) fun m => by
          by_cases hm : m < i
          · exact h2 m hm
          · rw [cf_ge (by omega), cf_ge (by omega)]
        have f2 : i ≤ S.length := by omega
        have f3 : S.take i = S := List.take_of_length_le (by omega)
        simp only [go_sem, c1, e1, f2, f3]
end Go.Proofs.YthhpmapbhdebeaaGreat


/- Contracts: equal polynomials. -/
namespace Go.Proofs.YthhpmapbhdebeaaGreat
set_option linter.unusedSimpArgs false
set_option linter.unusedVariables false
open Go.RowKit

/-- A known function as a value. -/
def pF (g : FuncId) : Pat Unit where
  p
    | .clo (.func f) [] [] => if f = g then some (True, ()) else none
    | _ => none
  val _ := .clo (.func g) [] []
  ok x c a h hc := by
    split at h
    · split at h
      · rename_i e; subst e; exact .inl rfl
      · cases h
    · cases h
@[go_sem ↓, go_sem] theorem ev_pF {g : FuncId} : (pF g).p (.clo (.func g) [] []) = some (True, ()) := if_pos rfl
@[go_sem ↓, go_sem] theorem ev_pF_val {g : FuncId} {u : Unit} : (pF g).val u = .clo (.func g) [] [] := rfl
theorem cmpQ_eq0 (x y : Rat) : (cmpQ x y == 0) = decide (x = y) := by
  unfold cmpQ
  by_cases h : x = y
  · subst h
    simp [Rat.lt_irrefl]
  · rw [decide_eq_false h]
    by_cases h1 : x < y
    · simp [h1]
    · simp [h1, h]
def kPEq : Con := con2 pR pR fun a b => ((a.length ≤ 1000000 ∧ b.length ≤ 1000000) ∧ PB a 5000000000000 ∧ PB b 5000000000000, .raw (.bool (decide (a = b))))
attribute [go_sem ↓, go_sem] kPEq
end Go.Proofs.YthhpmapbhdebeaaGreat


/- Contracts: valid polynomials. -/
namespace Go.Proofs.YthhpmapbhdebeaaGreat
set_option linter.unusedSimpArgs false
set_option linter.unusedVariables false
open Go.RowKit

def kVal1 : Con := con1 pQ fun x => (qs x ≤ 5000000000000, .raw (.bool false))
attribute [go_sem ↓, go_sem] kVal1
theorem val1_C : Ctr Tryz.prog 95 kVal1 := Ctr.c1 (by kernel_rfl) fun x h => by
  refine PCall.of_vc (tabs mixed (tbl_cons qValid_C tbl_nil)) Tryz.func95 rfl Tryz.ntmps95 Tryz.results95 (by simp) ?_
  have e1 := validQ_Q x
  simp only [go_sem, e1]
  exact ⟨⟨dg_lim _, dg_lim _⟩, szLN h (by omega), szLD h (by omega)⟩
def kIdxF : Con := con2 pR (pF 95) fun a _ => (a.length ≤ 1000000 ∧ PB a 5000000000000, .raw (.int .i64 (-1)))
attribute [go_sem ↓, go_sem] kIdxF
theorem idxF_C : Ctr Tryz.prog 118 kIdxF := Ctr.c2 (by kernel_rfl) fun a _ h => by
  obtain ⟨la, ha⟩ := h
  refine PCall.of_vc (tabs mixed (tbl_cons val1_C tbl_nil)) Tryz.func118 rfl Tryz.ntmps118 Tryz.results118 (by simp) ?_
  simp only [go_sem]
  refine AWp.loops (X := { i : Nat // i ≤ a.length })
    (fun i => mkSt [(0, .lst (V.rats a)), (1, .clo (.func 95) [] []), (4, .raw (.int .i64 0)), (7, .raw (.int .i64 (a.length : Nat))), (8, .raw (.int .i64 (i.1 : Nat)))] [] 0 19)
    (fun i => a.length - i.1) ⟨0, Nat.zero_le _⟩ (Wk.of [] (by decide) ?_) ?_
  · simp only [go_sem]
  · rintro ⟨i, hi⟩
    refine vc_at (tabs mixed (tbl_cons val1_C tbl_nil)) ?_
    by_cases hin : i < a.length
    · have c1 : (i : Int) < (a.length : Nat) := by omega
      have c2 : (i : Int) + 1 = ((i + 1 : Nat) : Int) := by omega
      have q1 := ha i
      simp only [go_sem, c1, c2]
      refine ⟨by omega, hin, q1, ⟨by omega, by omega⟩, ⟨i + 1, hin⟩, Wk.of [] (by decide) ?_, by simp only; omega⟩
      simp only [go_sem]
    · have c1 : ¬ (i : Int) < (a.length : Nat) := by omega
      simp only [go_sem, c1]
def kContF : Con := con2 pR (pF 95) fun a _ => (a.length ≤ 1000000 ∧ PB a 5000000000000, .raw (.bool false))
attribute [go_sem ↓, go_sem] kContF
theorem contF_C : Ctr Tryz.prog 97 kContF := Ctr.c2 (by kernel_rfl) fun a _ h => by
  refine PCall.of_vc (tabs mixed (tbl_cons idxF_C tbl_nil)) Tryz.func97 rfl Tryz.ntmps97 Tryz.results97 (by simp) ?_
  have c1 : ¬ (0 : Int) ≤ -1 := by decide
  simp only [go_sem, c1]
  exact h
def kPValid : Con := con1 pR fun a => (a.length ≤ 1000000 ∧ PB a 5000000000000, .raw (.bool (((tr a).length : Int) == (a.length : Int))))
attribute [go_sem ↓, go_sem] kPValid
theorem pValid_C : Ctr Tryz.prog 48 kPValid := Ctr.c1 (by kernel_rfl) fun a h => by
  refine PCall.of_vc (tabs mixed (tbl_cons contF_C (tbl_cons trim_C tbl_nil))) Tryz.func48 rfl Tryz.ntmps48 Tryz.results48 (by simp) ?_
  simp only [go_sem]
  exact ⟨h, Nat.le_trans h.1 (by decide)⟩
end Go.Proofs.YthhpmapbhdebeaaGreat


/- Contracts: the resultant. -/
namespace Go.Proofs.YthhpmapbhdebeaaGreat
set_option linter.unusedSimpArgs false
set_option linter.unusedVariables false
open Go.RowKit

def PwOk (c : Rat) (n : Nat) : Prop := n ≤ 1000000 ∧ n * qs c + 1 ≤ 2500000000000 ∧ qs c ≤ 2500000000000
/-- The sizes within the resultant. -/
def ReOk : Nat → Rat → List Rat → List Rat → Prop
  | 0, _, _, _ => False
  | n + 1, o, a, b => (Can a ∧ Can b) ∧ (a.length ≤ 1000000 ∧ b.length ≤ 1000000) ∧ qs o ≤ 2500000000000 ∧
    (if a = [] ∨ b = [] then True else if b.length = 1 then PwOk (cf b 0) (a.length - 1) else if a.length = 1 then PwOk (cf a 0) (b.length - 1) else
      if a.length < b.length then ReOk n (sgm (a.length - 1) (b.length - 1) o) b a else
      DvOk a b ∧ (pMod a b = [] ∨ (PwOk (lead b) (a.length - (pMod a b).length) ∧ qs (o * lead b ^ (a.length - (pMod a b).length)) ≤ 2500000000000 ∧ ReOk n (sgm (a.length - 1) (b.length - 1) (o * lead b ^ (a.length - (pMod a b).length))) b (pMod a b))))
def kRes : Con := con2 pR pR fun a b => (∃ n, ReOk n 1 a b, .Q (pRes a b))
attribute [go_sem ↓, go_sem] kRes
set_option maxRecDepth 4000 in
theorem res_C : Ctr Tryz.prog 20 kRes := Ctr.c2 (by kernel_rfl) fun A B h => by
  obtain ⟨n, hn⟩ := h
  show PCall _ _ _ (.Q (pRes A B))
  refine PCall.of_vc (tabs mixed (tbl_cons one_C (tbl_cons whole_C (tbl_cons power_C (tbl_cons qMul_C (tbl_cons qNeg_C (tbl_cons pDM_C (tbl_cons lead_C tbl_nil)))))))) Tryz.func20 rfl Tryz.ntmps20 Tryz.results20 (by simp) ?_
  simp only [go_sem]
  refine AWp.loops (X := { p : Nat × Rat × List Rat × List Rat // ReOk p.1 p.2.1 p.2.2.1 p.2.2.2 ∧ p.2.1 * pRes p.2.2.1 p.2.2.2 = pRes A B })
    (fun p => mkSt [(0, .lst (V.rats p.1.2.2.1)), (1, .lst (V.rats p.1.2.2.2)), (4, .ptr 0 4 0 0), (5, .ptr 1 4 0 0)] [(0, true, ⟨51, 4, [.agg [.raw (.bool false), .raw (.slice none 0 0), .raw (.bool false), .raw (.slice none 0 0)]]⟩), (1, true, ⟨51, 4, [.Q p.1.2.1]⟩)] 2 88)
    (fun p => p.1.1) ⟨(n, 1, A, B), hn, by simp only; grind⟩ (Wk.of [0, 2] (by decide) ?_) ?_
  · simp only [go_sem]
    trace_state
  · rintro ⟨⟨m, o, a, b⟩, hm, he⟩
    simp only at hm he
    refine vc_at (tabs mixed (tbl_cons one_C (tbl_cons whole_C (tbl_cons power_C (tbl_cons qMul_C (tbl_cons qNeg_C (tbl_cons pDM_C (tbl_cons lead_C tbl_nil)))))))) ?_
    rcases m with _ | m
    · exact hm.elim
    · obtain ⟨⟨ca, cb⟩, ⟨la, lb⟩, qo, hm⟩ := hm
      rw [pRes_step ca cb] at he
      by_cases h0 : a = [] ∨ b = []
      · rw [if_pos h0] at he
        have e0 : pRes A B = 0 := by rw [← he]; grind
        have hw : ((Rat.ofInt 0 : Rat)) = 0 := rfl
        by_cases a0 : a = []
        · subst a0
          have c1 : ((0 : Nat) : Int) - 1 < 0 := by decide
          simp only [go_sem, c1, List.length_nil, e0]
          exact ⟨⟨by omega, by omega⟩, .inl rfl⟩
        · have b0 : b = [] := h0.resolve_left a0
          subst b0
          have al := List.length_pos_iff.2 a0
          have c1 : ¬ (a.length : Int) - 1 < 0 := by omega
          have c2 : ((0 : Nat) : Int) - 1 < 0 := by decide
          simp only [go_sem, c1, c2, List.length_nil, e0]
          exact ⟨⟨by omega, by omega⟩, .inl rfl⟩
      · rw [if_neg h0] at he hm
        have a0 : a ≠ [] := fun e => h0 (.inl e)
        have b0 : b ≠ [] := fun e => h0 (.inr e)
        have al := List.length_pos_iff.2 a0
        have bl := List.length_pos_iff.2 b0
        have m1 : (a.length : Int) - 1 = ((a.length - 1 : Nat) : Int) := by omega
        have n1 : (b.length : Int) - 1 = ((b.length - 1 : Nat) : Int) := by omega
        have c1 : ¬ ((a.length - 1 : Nat) : Int) < 0 := by omega
        have c2 : ¬ ((b.length - 1 : Nat) : Int) < 0 := by omega
        by_cases hb1 : b.length = 1
        · rw [if_pos hb1] at he hm
          have c3 : (((b.length - 1 : Nat) : Int) == 0) = true := by rw [hb1]; rfl
          obtain ⟨p1, p2, p3⟩ := hm
          have lb0 : lead b = cf b 0 := by unfold lead; rw [hb1]
          rw [lb0] at he
          have q1 := qs_powN (Nat.le_refl (qs (cf b 0))) (a.length - 1)
          simp only [go_sem, m1, n1, c1, c2, c3]
          exact ⟨⟨by omega, by omega⟩, ⟨by omega, by omega⟩, by omega, bl, ⟨by omega, by omega, by omega, p3⟩, ⟨by omega, by omega⟩, by rfl, .inl (by rw [he])⟩
        · rw [if_neg hb1] at he hm
          have c3 : (((b.length - 1 : Nat) : Int) == 0) = false := beqF (by omega)
          by_cases ha1 : a.length = 1
          · rw [if_pos ha1] at he hm
            have c4 : (((a.length - 1 : Nat) : Int) == 0) = true := by rw [ha1]; rfl
            obtain ⟨p1, p2, p3⟩ := hm
            have lb0 : lead a = cf a 0 := by unfold lead; rw [ha1]
            rw [lb0] at he
            have q1 := qs_powN (Nat.le_refl (qs (cf a 0))) (b.length - 1)
            simp only [go_sem, m1, n1, c1, c2, c3, c4]
            exact ⟨⟨by omega, by omega⟩, ⟨by omega, by omega⟩, by omega, al, ⟨by omega, by omega, by omega, p3⟩, ⟨by omega, by omega⟩, by rfl, .inl (by rw [he])⟩
          · rw [if_neg ha1] at he hm
            have c4 : (((a.length - 1 : Nat) : Int) == 0) = false := beqF (by omega)
            have mm : ((a.length - 1 : Nat) : Int) * ((b.length - 1 : Nat) : Int) = (((a.length - 1) * (b.length - 1) : Nat) : Int) := (Int.natCast_mul _ _).symm
            have mb : (a.length - 1) * (b.length - 1) ≤ 1000000 * 1000000 := Nat.mul_le_mul (by omega) (by omega)
            by_cases hlt : a.length < b.length
            · rw [if_pos hlt] at he hm
              have c5 : ((a.length - 1 : Nat) : Int) < ((b.length - 1 : Nat) : Int) := by omega
              by_cases hs : (a.length - 1) * (b.length - 1) % 2 = 1
              · have t1 : ((((a.length - 1) * (b.length - 1) : Nat) : Int) % 2 == 1) = true := by rw [show (((a.length - 1) * (b.length - 1) : Nat) : Int) % 2 = 1 from by omega]; rfl
                simp only [sgm, if_pos hs] at he hm
                simp only [go_sem, m1, n1, c1, c2, c3, c4, c5, mm, t1]
                refine ⟨⟨by omega, by omega⟩, ⟨by omega, by omega⟩, ⟨by omega, by omega⟩, ⟨(m, -o, b, a), hm, by simp only; rw [← he]; grind⟩, Wk.of [0, 1] (by decide) ?_, by simp only; omega⟩
                simp only [go_sem]
              · have t1 : ((((a.length - 1) * (b.length - 1) : Nat) : Int) % 2 == 1) = false := beqF (by omega)
                simp only [sgm, if_neg hs] at he hm
                simp only [go_sem, m1, n1, c1, c2, c3, c4, c5, mm, t1]
                refine ⟨⟨by omega, by omega⟩, ⟨by omega, by omega⟩, ⟨by omega, by omega⟩, ⟨(m, o, b, a), hm, by simp only; exact he⟩, Wk.of [0, 1] (by decide) ?_, by simp only; omega⟩
                simp only [go_sem]
            · rw [if_neg hlt] at he hm
              obtain ⟨hd, hm⟩ := hm
              have c5 : ¬ ((a.length - 1 : Nat) : Int) < ((b.length - 1 : Nat) : Int) := by omega
              have r1 : dmP a b = .tup [.lst (V.rats (pDiv a b)), .lst (V.rats (pMod a b)), .raw (.int .i64 0)] := if_neg b0
              by_cases r0 : pMod a b = []
              · rw [if_pos r0] at he
                have e0 : pRes A B = 0 := by rw [← he]; grind
                have c6 : ((0 : Int) == 0) = true := rfl
                simp only [go_sem, m1, n1, c1, c2, c3, c4, c5, r1, r0, e0, c6, List.length_nil]
                exact ⟨⟨by omega, by omega⟩, ⟨by omega, by omega⟩, hd, .inl rfl⟩
              · rw [if_neg r0] at he
                obtain ⟨⟨p1, p2, p3⟩, q0, hm⟩ := hm.resolve_left r0
                have rl := List.length_pos_iff.2 r0
                have rlt : (pMod a b).length < b.length := (dm_ok ca cb b0).2.1
                have c6 : (((pMod a b).length : Int) == 0) = false := beqF (by omega)
                have e5 : ((a.length - 1 : Nat) : Int) - (pMod a b).length + 1 = ((a.length - (pMod a b).length : Nat) : Int) := by omega
                have q1 := qs_powN (Nat.le_refl (qs (lead b))) (a.length - (pMod a b).length)
                by_cases hs : (a.length - 1) * (b.length - 1) % 2 = 1
                · have t1 : ((((a.length - 1) * (b.length - 1) : Nat) : Int) % 2 == 1) = true := by rw [show (((a.length - 1) * (b.length - 1) : Nat) : Int) % 2 = 1 from by omega]; rfl
                  simp only [sgm, if_pos hs] at he hm
                  simp only [go_sem, m1, n1, c1, c2, c3, c4, c5, r1, c6, e5, mm, t1]
                  refine ⟨⟨by omega, by omega⟩, ⟨by omega, by omega⟩, hd, ⟨b0, lb⟩, ⟨by omega, by omega⟩, ⟨by omega, by omega⟩, ⟨by omega, by omega, by omega, p3⟩, ⟨by omega, by omega⟩, by rfl, ⟨by omega, by omega⟩, ⟨(m, -(o * lead b ^ (a.length - (pMod a b).length)), b, pMod a b), hm, by simp only; rw [← he]; grind⟩, Wk.of [0, 1] (by decide) ?_, by simp only; omega⟩
                  simp only [go_sem]
                · have t1 : ((((a.length - 1) * (b.length - 1) : Nat) : Int) % 2 == 1) = false := beqF (by omega)
                  simp only [sgm, if_neg hs] at he hm
                  simp only [go_sem, m1, n1, c1, c2, c3, c4, c5, r1, c6, e5, mm, t1]
                  refine ⟨⟨by omega, by omega⟩, ⟨by omega, by omega⟩, hd, ⟨b0, lb⟩, ⟨by omega, by omega⟩, ⟨by omega, by omega⟩, ⟨by omega, by omega, by omega, p3⟩, ⟨by omega, by omega⟩, by rfl, ⟨by omega, by omega⟩, ⟨(m, o * lead b ^ (a.length - (pMod a b).length), b, pMod a b), hm, by simp only; rw [← he]; grind⟩, Wk.of [0, 1] (by decide) ?_, by simp only; omega⟩
                  simp only [go_sem]
end Go.Proofs.YthhpmapbhdebeaaGreat


/- Contracts: the squarefree decomposition. -/
namespace Go.Proofs.YthhpmapbhdebeaaGreat
set_option linter.unusedSimpArgs false
set_option linter.unusedVariables false
open Go.RowKit

/-- Factors, as values. -/
def V.facs (l : List (List Rat × Nat)) : List V := l.map fun p => .agg [.lst (V.rats p.1), .raw (.int .i64 (p.2 : Nat))]
theorem facs_nil : V.facs [] = [] := rfl
theorem facs_snoc (l : List (List Rat × Nat)) (p : List Rat) (n : Nat) : V.facs l ++ [.agg [.lst (V.rats p), .raw (.int .i64 (n : Nat))]] = V.facs (l ++ [(p, n)]) := by simp [V.facs]
@[go_sem] theorem facs_len (l : List (List Rat × Nat)) : (V.facs l).length = l.length := by simp [V.facs]
@[go_sem] theorem facs_wid (l : List (List Rat × Nat)) : allWid (V.facs l) 2 = True := eq_true fun y hy => by
  obtain ⟨p, _, rfl⟩ := List.mem_map.1 hy
  rfl
@[go_sem] theorem facs_pure (l : List (List Rat × Nat)) : allPure (V.facs l) = True := eq_true fun y hy => by
  obtain ⟨p, _, rfl⟩ := List.mem_map.1 hy
  rfl
@[go_sem] theorem facs_frz (l : List (List Rat × Nat)) : frzOk (V.facs l) = True := eq_true (frzOk_map (fun a => ⟨rfl, by simp, by simp⟩) l)
/-- The sizes within the decomposition. -/
def SqOk : Nat → List Rat → List Rat → Prop
  | 0, _, _ => False
  | k + 1, b, c => if b.length ≤ 1 then True else
    ((b.length ≤ 1000000 ∧ c.length ≤ 1000000) ∧ PB b 5000000000000 ∧ PB c 5000000000000 ∧ PB (pDiff b) 5000000000000) ∧ (∃ n, GcOk n b (pSub c (pDiff b))) ∧
    (DvOk b (pGcd b (pSub c (pDiff b))) ∧ DvOk (pSub c (pDiff b)) (pGcd b (pSub c (pDiff b)))) ∧ pGcd b (pSub c (pDiff b)) ≠ [] ∧
    SqOk k (pDiv b (pGcd b (pSub c (pDiff b)))) (pDiv (pSub c (pDiff b)) (pGcd b (pSub c (pDiff b))))
def SfOk (k : Nat) (a : List Rat) : Prop := k ≤ 1000000 ∧ a.length ≤ 1000000 ∧ (2 ≤ a.length → PB a 5000000000000 ∧ (∃ n, GcOk n a (pDiff a)) ∧ (DvOk a (pGcd a (pDiff a)) ∧ DvOk (pDiff a) (pGcd a (pDiff a))) ∧ pGcd a (pDiff a) ≠ [] ∧ SqOk k (pDiv a (pGcd a (pDiff a))) (pDiv (pDiff a) (pGcd a (pDiff a))))
/-- The state of the loop: nothing is made before the first factor. -/
def sqS (b c : List Rat) (n : Nat) : List (List Rat × Nat) → St
  | [] => mkSt [(2, .raw (.slice none 0 0)), (3, .raw (.slice none 0 0)), (6, .lst (V.rats b)), (7, .lst (V.rats c)), (8, .raw (.int .i64 (n : Nat)))] [] 0 52
  | x :: l => mkSt [(2, .raw (.slice none 0 0)), (3, .sl 0 2 0 (l.length + 1)), (6, .lst (V.rats b)), (7, .lst (V.rats c)), (8, .raw (.int .i64 (n : Nat)))] [(0, true, ⟨42, 2, V.facs (x :: l)⟩)] 1 52
structure SqS where
  k : Nat
  n : Nat
  b : List Rat
  c : List Rat
  acc : List (List Rat × Nat)
  rest : List (List Rat × Nat)
theorem sqf_V (k : Nat) (a : List Rat) (l : List (List Rat × Nat)) (h : SfOk k a) (he : pSqf k a = some l) : PCall Tryz.prog 14 [.lst (V.rats a)] (.lst (V.facs l)) := by
  obtain ⟨hk, la, hs⟩ := h
  refine PCall.of_vc (tabs mixed (tbl_cons pDiff_C (tbl_cons pGcd_C (tbl_cons exact_C (tbl_cons pSub_C tbl_nil))))) Tryz.func14 rfl Tryz.ntmps14 Tryz.results14 (by simp) ?_
  unfold pSqf at he
  by_cases h2 : a.length < 2
  · rw [if_pos h2] at he
    injection he with he
    subst he
    have c1 : (a.length : Int) < 2 := by omega
    simp only [go_sem, c1, facs_nil]
  · rw [if_neg h2] at he
    have c1 : ¬ (a.length : Int) < 2 := by omega
    obtain ⟨h1, h3, ⟨h4, h5⟩, h6, h7⟩ := hs (by omega)
    simp only [go_sem, c1]
    refine ⟨⟨la, h1⟩, h3, ⟨h4, h6⟩, ⟨h5, h6⟩, ?_⟩
    refine AWp.loops (X := { p : SqS // SqOk p.k p.b p.c ∧ sqL p.k p.n p.b p.c = some p.rest ∧ p.acc ++ p.rest = l ∧ p.k + p.n ≤ 2000000 ∧ p.acc.length ≤ p.n })
      (fun p => sqS p.1.b p.1.c p.1.n p.1.acc) (fun p => p.1.k) ⟨⟨k, 1, _, _, [], l⟩, h7, he, rfl, by simp only; omega, by simp⟩ (Wk.of [] (by decide) ?_) ?_
    · simp only [go_sem]
      exact ⟨rfl, rfl⟩
    · rintro ⟨⟨k, n, b, c, acc, rest⟩, hk', hq, hr, hn, hl⟩
      simp only at hk' hq hr hn hl
      rcases k with _ | k
      · exact hk'.elim
      · unfold sqL at hq
        by_cases hb : b.length ≤ 1
        · rw [if_pos hb] at hq
          injection hq with hq
          subst hq
          rw [List.append_nil] at hr
          subst hr
          have c2 : ¬ 1 < (b.length : Int) := by omega
          cases acc with
          | nil =>
            refine vc_at (tabs mixed (tbl_cons pDiff_C (tbl_cons pGcd_C (tbl_cons exact_C (tbl_cons pSub_C tbl_nil))))) ?_
            simp only [go_sem, c2, facs_nil]
          | cons x acc =>
            refine vc_at (tabs mixed (tbl_cons pDiff_C (tbl_cons pGcd_C (tbl_cons exact_C (tbl_cons pSub_C tbl_nil))))) ?_
            have f3 : (V.facs (x :: acc)).take (acc.length + 1) = V.facs (x :: acc) := List.take_of_length_le (by simp [V.facs])
            simp only [go_sem, c2, f3]
        · rw [if_neg hb] at hq
          have c2 : 1 < (b.length : Int) := by omega
          have n1 : (n : Int) + 1 = ((n + 1 : Nat) : Int) := by omega
          unfold SqOk at hk'
          rw [if_neg hb] at hk'
          obtain ⟨⟨⟨lb, lc⟩, pb, pc, pd⟩, hg, ⟨hd1, hd2⟩, g0, hk'⟩ := hk'
          obtain ⟨l', hl', rfl⟩ : ∃ l', sqL k (n + 1) (pDiv b (pGcd b (pSub c (pDiff b)))) (pDiv (pSub c (pDiff b)) (pGcd b (pSub c (pDiff b)))) = some l' ∧ (if (pGcd b (pSub c (pDiff b))).length ≤ 1 then l' else (pGcd b (pSub c (pDiff b)), n) :: l') = rest := by
            rcases hx : sqL k (n + 1) (pDiv b (pGcd b (pSub c (pDiff b)))) (pDiv (pSub c (pDiff b)) (pGcd b (pSub c (pDiff b)))) with _ | l' <;> rw [hx] at hq
            · cases hq
            · injection hq with hq
              exact ⟨l', rfl, hq⟩
          have dlen : (pDiff b).length ≤ 1000000 := Nat.le_trans (tr_len _) (by rcases len_dL b with h | h <;> omega)
          by_cases hp : (pGcd b (pSub c (pDiff b))).length ≤ 1
          · rw [if_pos hp] at hr
            have c3 : ¬ 1 < ((pGcd b (pSub c (pDiff b))).length : Int) := by omega
            cases acc with
            | nil =>
              refine vc_at (tabs mixed (tbl_cons pDiff_C (tbl_cons pGcd_C (tbl_cons exact_C (tbl_cons pSub_C tbl_nil))))) ?_
              simp only [go_sem, c2, c3, n1]
              refine ⟨⟨lb, pb⟩, ⟨⟨lc, dlen⟩, pc, pd⟩, hg, ⟨hd1, g0⟩, ⟨hd2, g0⟩, ⟨by omega, by omega⟩, ⟨⟨k, n + 1, _, _, [], l'⟩, hk', hl', hr, by simp only; omega, by simp⟩, Wk.of [] (by decide) ?_, Nat.lt_succ_self k⟩
              simp only [go_sem]
              exact ⟨rfl, rfl⟩
            | cons x acc =>
              refine vc_at (tabs mixed (tbl_cons pDiff_C (tbl_cons pGcd_C (tbl_cons exact_C (tbl_cons pSub_C tbl_nil))))) ?_
              simp only [go_sem, c2, c3, n1]
              refine ⟨⟨lb, pb⟩, ⟨⟨lc, dlen⟩, pc, pd⟩, hg, ⟨hd1, g0⟩, ⟨hd2, g0⟩, ⟨by omega, by omega⟩, ⟨⟨k, n + 1, _, _, x :: acc, l'⟩, hk', hl', hr, by simp only; omega, by simp only [List.length_cons] at hl ⊢; omega⟩, Wk.of [0] (by decide) ?_, Nat.lt_succ_self k⟩
              simp only [go_sem]
              exact ⟨rfl, rfl⟩
          · rw [if_neg hp] at hr
            have c3 : 1 < ((pGcd b (pSub c (pDiff b))).length : Int) := by omega
            cases acc with
            | nil =>
              refine vc_at (tabs mixed (tbl_cons pDiff_C (tbl_cons pGcd_C (tbl_cons exact_C (tbl_cons pSub_C tbl_nil))))) ?_
              simp only [go_sem, c2, c3, n1]
              refine ⟨⟨lb, pb⟩, ⟨⟨lc, dlen⟩, pc, pd⟩, hg, by decide, ⟨hd1, g0⟩, ⟨hd2, g0⟩, ⟨by omega, by omega⟩, ⟨⟨k, n + 1, _, _, [(pGcd b (pSub c (pDiff b)), n)], l'⟩, hk', hl', hr, by simp only; omega, by simp⟩, Wk.of [20] (by decide) ?_, Nat.lt_succ_self k⟩
              simp only [go_sem]
              exact ⟨⟨rfl, rfl⟩, rfl⟩
            | cons x acc =>
              refine vc_at (tabs mixed (tbl_cons pDiff_C (tbl_cons pGcd_C (tbl_cons exact_C (tbl_cons pSub_C tbl_nil))))) ?_
              simp only [go_sem, c2, c3, n1]
              have f3 : (V.facs (x :: acc)).take (acc.length + 1) = V.facs (x :: acc) := List.take_of_length_le (by simp [V.facs])
              have mx : maxLen = 9223372036854775807 := by decide
              simp only [List.length_cons] at hl
              refine ⟨⟨lb, pb⟩, ⟨⟨lc, dlen⟩, pc, pd⟩, hg, ⟨by omega, by omega⟩, ⟨hd1, g0⟩, ⟨hd2, g0⟩, ⟨by omega, by omega⟩, ⟨⟨k, n + 1, _, _, x :: (acc ++ [(pGcd b (pSub c (pDiff b)), n)]), l'⟩, hk', hl', by simp only; rw [← hr]; simp, by simp only; omega, by simp; omega⟩, Wk.of [21] (by decide) ?_, Nat.lt_succ_self k⟩
              simp only [go_sem, f3, List.length_append]
              exact ⟨⟨rfl, rfl⟩, (facs_snoc (x :: acc) _ n).symm⟩
end Go.Proofs.YthhpmapbhdebeaaGreat


/- Contracts: a loop over a list from its end. -/
namespace Go.Proofs.YthhpmapbhdebeaaGreat
set_option linter.unusedSimpArgs false
set_option linter.unusedVariables false
open Go.RowKit

/-- The values of a list, from its end. -/
def xsBack (l : List V) : Nat → Option (List V) := fun n => if n < l.length then some [.raw (.int .i64 ((l.length : Int) - 1 - n)), l.getD (l.length - 1 - n) .any] else none
theorem xsBack_none {l : List V} {n : Nat} (h : ¬ n < l.length) : xsBack l n = none := if_neg h
theorem xsBack_some {l : List V} {n : Nat} (h : n < l.length) : xsBack l n = some [.raw (.int .i64 ((l.length : Int) - 1 - n)), l.getD (l.length - 1 - n) .any] := if_pos h
theorem xsBack_rats {a : List Rat} {n : Nat} (h : n < a.length) : xsBack (V.rats a) n = some [.raw (.int .i64 ((a.length : Int) - 1 - n)), .Q (cf a (a.length - 1 - n))] := by
  rw [xsBack_some (by rw [rats_len]; exact h), rats_len, List.getD_eq_getElem?_getD, rats_get (by omega)]
  rfl
theorem xsBack_rats0 {a : List Rat} {n : Nat} (h : ¬ n < a.length) : xsBack (V.rats a) n = none := xsBack_none (by rw [rats_len]; exact h)
theorem back1_S (a : List Rat) (h : a.length ≤ 1000000) : SeqC Tryz.prog 110 [.pel (.lst (V.rats a))] 1000000 (xsBack (V.rats a)) := by
  refine SeqC.of_it Tryz.func110 rfl Tryz.ntmps110 Tryz.results110 (by simp) fun l N J _ hJ => ?_
  refine AIt.seq (AIt.of hJ (vc_ok (tabs mixed tbl_nil) _ _ _ ?_))
  simp only [go_sem]
  refine ⟨⟨by omega, by omega⟩, ?_⟩
  refine AIt.block (AIt.loops hJ (X := { n : Nat // n ≤ a.length }) (fun x => mkSt [(0, .raw (.func (.yield l) #[] #[])), (1, .pel (.lst (V.rats a))), (3, .raw (.int .i64 ((a.length : Int) - 1 - (x.1 : Nat))))] [] 0 19) (fun x => x.1) (fun x => a.length - x.1) (fun _ => rfl) ⟨0, Nat.zero_le _⟩ rfl (Wk.of [] (by decide) ?_) ?_)
  · simp only [go_sem, Int.sub_zero, Int.natCast_zero]
    exact renV_pure rfl
  rintro ⟨n, hn⟩ _
  refine AIt.seq (AIt.of hJ (vc_at (tabs mixed tbl_nil) ?_))
  by_cases hlt : n < a.length
  · have e0 : 0 ≤ (a.length : Int) - 1 - (n : Nat) := by omega
    simp only [go_sem, e0]
    refine AIt.seq (AIt.block (AIt.seq (AIt.yieldR (tabs mixed tbl_nil) hJ [_, _, _, _, _, _] [_] _ rfl rfl rfl ?_)))
    have e1 : (a.length : Int) - 1 - (n : Nat) = ((a.length - 1 - n : Nat) : Int) := by omega
    simp only [go_sem, e1]
    refine ⟨⟨by omega, by omega⟩, by omega, ?_, ?_, ?_⟩
    · rw [xsBack_some (by rw [rats_len]; exact hlt)]
      rw [rats_len, e1, List.getD_eq_getElem?_getD, rats_get (by omega)]
      rfl
    · refine AIt.cond (t := false) rfl ⟨fun e => (by cases e), fun _ => AIt.of hJ (vc_ok (tabs mixed tbl_nil) _ _ _ ?_)⟩
      simp only [go_sem]
      refine AIt.of hJ (vc_ok (tabs mixed tbl_nil) _ _ _ ?_)
      simp only [go_sem]
      refine ⟨⟨by omega, by omega⟩, ⟨n + 1, hlt⟩, rfl, Wk.of [] (by decide) ?_, by simp only; omega⟩
      have e2 : ((a.length - 1 - n : Nat) : Int) - 1 = (a.length : Int) - 1 - ((n + 1 : Nat) : Int) := by omega
      simp only [go_sem, e2]
      exact renV_pure rfl
    · refine AIt.cond (t := true) rfl ⟨fun _ => AIt.of hJ (vc_ok (tabs mixed tbl_nil) _ _ _ ?_), fun e => (by cases e)⟩
      simp only [go_sem]
      exact fun n e => by cases e
  · have e0 : ¬ 0 ≤ (a.length : Int) - 1 - (n : Nat) := by omega
    simp only [go_sem, e0]
    exact fun m e => by cases e; exact xsBack_none (by rw [rats_len]; exact hlt)
def kBack : Con := con1 pR fun a => (a.length ≤ 1000000, .clo (.func 110) [] [.pel (.lst (V.rats a))])
attribute [go_sem ↓, go_sem] kBack
theorem back_C : Ctr Tryz.prog 88 kBack := Ctr.c1 (by kernel_rfl) fun a h => by
  refine PCall.of_vc (tabs mixed tbl_nil) Tryz.func88 rfl Tryz.ntmps88 Tryz.results88 (by simp) ?_
  simp only [go_sem]
end Go.Proofs.YthhpmapbhdebeaaGreat


/- Contracts: the value of a polynomial. -/
namespace Go.Proofs.YthhpmapbhdebeaaGreat
set_option linter.unusedSimpArgs false
set_option linter.unusedVariables false
open Go.RowKit

theorem ev_drop (a : List Rat) (x : Rat) {n : Nat} (h : n < a.length) : ev (a.drop n) x = ev (a.drop (n + 1)) x * x + cf a n := by
  have h1 : a.drop n = cf a n :: a.drop (n + 1) := by
    rw [List.drop_eq_getElem_cons h]
    unfold cf
    rw [List.getD_eq_getElem?_getD, List.getElem?_eq_getElem h]
    rfl
  rw [h1]
  show cf a n + x * ev (a.drop (n + 1)) x = _
  grind
/-- The sizes within the evaluation. -/
def EvOk (a : List Rat) (x : Rat) : Prop := ∀ n, qs (ev (a.drop n) x) ≤ 5000000000000 ∧ qs (ev (a.drop n) x * x) ≤ 5000000000000
def kPEval : Con := con2 pR pQ fun a x => ((a.length ≤ 1000000 ∧ PB a 5000000000000 ∧ qs x ≤ 5000000000000) ∧ EvOk a x, .Q (ev a x))
attribute [go_sem ↓, go_sem] kPEval
theorem pEval_C : Ctr Tryz.prog 38 kPEval := Ctr.c2 (by kernel_rfl) fun a x h => by
  obtain ⟨⟨hl, hb, hx⟩, he⟩ := h
  refine PCall.of_vc (tabs mixed (tbl_cons whole_C (tbl_cons back_C tbl_nil))) Tryz.func38 rfl Tryz.ntmps38 Tryz.results38 (by simp) ?_
  simp only [go_sem, hl]
  refine AWp.rounds (back1_S a hl) (by kernel_rfl) a.length hl (s0 := mkS [(3, .ptr 0 4 0 0), (4, .ptr 1 4 0 0), (5, .ptr 2 4 0 0), (10, .clo (.func 110) [] [.pel (.lst (V.rats a))])]) (m := 3) (M := 19)
    (fun n => mkH [(0, false, ⟨51, 4, [.Q x]⟩), (1, false, ⟨51, 4, [.agg [.raw (.bool false), .raw (.slice none 0 0), .raw (.bool false), .raw (.slice none 0 0)]]⟩), (2, false, ⟨51, 4, [.Q (ev (a.drop (a.length - n)) x)]⟩)]) (fun _ => 3) (fun _ _ _ => False) rfl (Wk.of [0, 1, 3] (by decide) ?_) rfl rfl (fun _ => ⟨rfl, rfl, rfl, trivial⟩) (fun n ys hy hn => ?_) (fun _ _ _ h => h.elim) (fun n hn hx => ?_)
  · have e0 : ev (List.drop (a.length - 0) a) x = ((0 : Int) : Rat) := by simp [ev]
    simp only [go_sem, e0]
    refine ⟨⟨rfl, rfl⟩, renV_pure rfl, renV_pure rfl, ?_⟩
    rw [show List.drop a.length a = List.drop (a.length - 0) a from rfl, e0]
    exact renV_pure rfl
  · by_cases hlt : n < a.length
    · rw [xsBack_rats hlt] at hy
      injection hy with hy
      subst hy
      refine ⟨⟨rfl, by decide⟩, vc_ok (tabs mixed (tbl_cons qMul_C (tbl_cons qAdd_C tbl_nil))) _ _ _ ?_⟩
      simp only [go_sem]
      refine vc_ok (tabs mixed (tbl_cons qMul_C (tbl_cons qAdd_C tbl_nil))) _ _ _ ?_
      have f1 := he (a.length - n)
      have f2 := hb (a.length - 1 - n)
      simp only [go_sem, f1.1, f1.2, f2, hx]
      refine ⟨by rfl, hlt, Wk.ofM 3 (ss := []) [0, 1, 2] (by decide) (by decide) ?_⟩
      have e3 : ev (a.drop (a.length - (n + 1))) x = ev (a.drop (a.length - n)) x * x + cf a (a.length - 1 - n) := by
        rw [ev_drop a x (n := a.length - (n + 1)) (by omega), show a.length - (n + 1) + 1 = a.length - n from by omega, show a.length - (n + 1) = a.length - 1 - n from by omega]
      simp only [go_sem, e3]
      exact ⟨renV_pure rfl, renV_pure rfl, renV_pure rfl⟩
    · rw [xsBack_rats0 hlt] at hy
      cases hy
  · have hge : ¬ n < a.length := fun h => by
      rw [xsBack_rats h] at hx
      cases hx
    have e1 : a.length - n = 0 := by omega
    simp only [go_sem, e1, List.drop_zero]
end Go.Proofs.YthhpmapbhdebeaaGreat


/- Contracts: the reference of package poly, first functions. -/
namespace Go.Proofs.YthhpmapbhdebeaaGreat
set_option linter.unusedSimpArgs false
set_option linter.unusedVariables false
open Go.RowKit

def kRZero : Con := con0 (True, .Q 0)
attribute [go_sem ↓, go_sem] kRZero
theorem rZero_C : Ctr Tryz.prog 54 kRZero := Ctr.c0 (by kernel_rfl) fun _ => by
  refine PCall.of_vc (tabs mixed (tbl_cons r2Whole_C tbl_nil)) Tryz.func54 rfl Tryz.ntmps54 Tryz.results54 (by simp) ?_
  simp only [go_sem]
  exact .inl rfl
theorem rOne_C : Ctr Tryz.prog 61 kOne := Ctr.c0 (by kernel_rfl) fun _ => by
  refine PCall.of_vc (tabs mixed (tbl_cons r2Whole_C tbl_nil)) Tryz.func61 rfl Tryz.ntmps61 Tryz.results61 (by simp) ?_
  simp only [go_sem]
  exact .inl rfl
def kRAt : Con := con2 pR (pN .i64) fun p i => (True, .Q (if i < 0 then 0 else cf p i.toNat))
attribute [go_sem ↓, go_sem] kRAt
theorem rAt_C : Ctr Tryz.prog 55 kRAt := Ctr.c2 (by kernel_rfl) fun p i _ => by
  show PCall _ _ _ (.Q (if i < 0 then 0 else cf p i.toNat))
  refine PCall.of_vc (tabs mixed (tbl_cons rZero_C tbl_nil)) Tryz.func55 rfl Tryz.ntmps55 Tryz.results55 (by simp) ?_
  by_cases h0 : i < 0
  · simp only [go_sem, h0]
  · rw [if_neg h0]
    by_cases h1 : (p.length : Int) ≤ i
    · have e : cf p i.toNat = 0 := cf_ge (by omega)
      simp only [go_sem, h0, h1, e]
    · simp only [go_sem, h0, h1]
      exact ⟨⟨by omega, by omega⟩, by omega⟩
end Go.Proofs.YthhpmapbhdebeaaGreat


/- Contracts: the reference of package poly, equality. -/
namespace Go.Proofs.YthhpmapbhdebeaaGreat
set_option linter.unusedSimpArgs false
set_option linter.unusedVariables false
open Go.RowKit

theorem rPEq_C : Ctr Tryz.prog 15 kPEq := Ctr.c2 (by kernel_rfl) fun a b h => by
  obtain ⟨⟨la, lb⟩, ha, hb⟩ := h
  refine PCall.of_vc (tabs mixed (tbl_cons r2Cmp_C tbl_nil)) Tryz.func15 rfl Tryz.ntmps15 Tryz.results15 (by simp) ?_
  by_cases hl : a.length = b.length
  · have c0 : (!((a.length : Int) == (b.length : Int))) = false := by rw [hl]; simp
    have c0' : ((a.length : Int) != (b.length : Int)) = false := c0
    simp only [go_sem, c0, c0']
    refine AWp.loops (X := { i : Nat // i ≤ a.length ∧ ∀ j, j < i → cf a j = cf b j })
      (fun i => mkSt [(0, .lst (V.rats a)), (1, .lst (V.rats b)), (4, .raw (.bool false)), (5, .raw (.int .i64 (i.1 : Nat)))] [] 0 27)
      (fun i => a.length - i.1) ⟨0, Nat.zero_le _, fun j h => by omega⟩ (Wk.of [] (by decide) ?_) ?_
    · simp only [go_sem]
    · rintro ⟨i, hi, he⟩
      refine vc_at (tabs mixed (tbl_cons r2Cmp_C tbl_nil)) ?_
      by_cases hin : i < a.length
      · have c1 : (i : Int) < (a.length : Nat) := by omega
        have c2 : (i : Int) + 1 = ((i + 1 : Nat) : Int) := by omega
        have q1 := ha i
        have q2 := hb i
        by_cases hq : cf a i = cf b i
        · have d0 : (cmpQ (cf a i) (cf b i) == 0) = true := by rw [cmpQ_eq0]; exact decide_eq_true hq
          have d1 : (cmpQ (cf a i) (cf b i) != 0) = false := by unfold bne; rw [d0]; rfl
          simp only [go_sem, c1, c2, d0, d1]
          refine ⟨by omega, hin, ⟨by omega, by omega⟩, by omega, ⟨q1, q2⟩, by rfl, ⟨by omega, by omega⟩, ⟨i + 1, hin, fun j hj => ?_⟩, Wk.of [] (by decide) ?_, by simp only; omega⟩
          · by_cases e : j = i
            · subst e; exact hq
            · exact he j (by omega)
          · simp only [go_sem]
        · have d0 : (cmpQ (cf a i) (cf b i) == 0) = false := by rw [cmpQ_eq0]; exact decide_eq_false hq
          have d1 : (cmpQ (cf a i) (cf b i) != 0) = true := by unfold bne; rw [d0]; rfl
          have d2 : decide (a = b) = false := decide_eq_false fun e => hq (by rw [e])
          simp only [go_sem, c1, c2, d0, d1, d2]
          exact ⟨by omega, hin, ⟨by omega, by omega⟩, by omega, ⟨q1, q2⟩, by rfl⟩
      · have c1 : ¬ (i : Int) < (a.length : Nat) := by omega
        have d2 : decide (a = b) = true := decide_eq_true (cf_ext hl fun j => by
          by_cases hj : j < i
          · exact he j hj
          · rw [cf_ge (by omega), cf_ge (by omega)])
        simp only [go_sem, c1, d2]
  · have c0 : (!((a.length : Int) == (b.length : Int))) = true := by simp; omega
    have c0' : ((a.length : Int) != (b.length : Int)) = true := c0
    have d2 : decide (a = b) = false := decide_eq_false fun e => hl (by rw [e])
    simp only [go_sem, c0, c0', d2]
end Go.Proofs.YthhpmapbhdebeaaGreat

