/- Texts C1 C2 C3 in one. -/
import Derived.Test.YtfbogelmgdojgaaGreatP09
/- Contracts: integer.norm, Sign, Neg. -/
namespace Go.Proofs.YtfbogelmgdojgaaGreat
set_option linter.unusedSimpArgs false
set_option linter.unusedVariables false
open Go.RowKit

theorem norm_V (l : List Nat) (neg : Bool) (hl : Lim l) (hm : l.length ≤ 10000000000000) : PCall Tryz.prog 124 [.lst (V.limbs l), .raw (.bool neg)] (.I (sv neg l)) := by
  refine PCall.of_vc (tabs mixed tbl_nil) Tryz.func124 rfl Tryz.ntmps124 Tryz.results124 (by simp) ?_
  simp only [go_sem]
  refine AWp.loops (X := { k : Nat // k ≤ l.length ∧ nlen l k = nlen l l.length }) (fun k => mkSt [(0, .lst (V.limbs l)), (1, .raw (.bool neg)), (4, .ptr 0 2 0 0), (5, .raw (.int .i64 (k.1 : Nat)))] [(0, true, ⟨43, 2, [.agg [.raw (.bool false), .raw (.slice none 0 0)]]⟩)] 1 28) (fun k => k.1) ⟨l.length, Nat.le_refl _, rfl⟩ (Wk.of [0] (by decide) ?_) ?_
  · simp only [go_sem]
  · rintro ⟨k, hk, hv⟩
    refine vc_at (tabs mixed tbl_nil) ?_
    have hcan := nlen_take_canon hl l.length (Nat.le_refl _)
    rw [List.take_length] at hcan
    rcases k with _ | k
    · have hz : lv l = 0 := by rw [← hcan.2, ← hv]; rfl
      have e : sv neg l = 0 := by cases neg <;> simp [sv, hz]
      cases neg <;> simp only [go_sem, e] <;> and_intros <;> first | omega | exact out_I0 rfl
    · have e1 : ((k + 1 : Nat) : Int) - 1 = k := by omega
      have e2 : decide ((0 : Int) < ((k + 1 : Nat) : Int)) = true := by simp <;> omega
      have e4 : decide (((k + 1 : Nat) : Int) = 0) = false := by simp <;> omega
      by_cases hz : at0 l k = 0
      · simp only [go_sem, e1, e2, hz]
        and_intros
        any_goals omega
        refine ⟨⟨k, by omega, by rw [← hv, nlen_succ_zero hz]⟩, Wk.of [0] (by decide) ?_, Nat.lt_succ_self k⟩
        simp only [go_sem]
      · have e3 : (((at0 l k : Nat) : Int) != 0) = true := by simp <;> omega
        have hn : nlen l l.length = k + 1 := by rw [← hv, nlen_succ_pos hz]
        rw [hn] at hcan
        have hn0 : l.take (k + 1) ≠ [] := by intro h; have := congrArg List.length h; simp only [List.length_take, List.length_nil] at this; omega
        cases neg <;> simp only [go_sem, e1, e2, e3, e4] <;> and_intros
        any_goals omega
        all_goals exact out_I hcan.1 (fun _ => hn0) (by simp [sv, hcan.2])
/-- A bound of sizes. -/
abbrev Mx : Nat := 10000000000000
def kNorm : Con := con2 pL pB fun l neg => (Lim l ∧ l.length ≤ 10000000000000, .I (sv neg l))
attribute [go_sem ↓, go_sem] kNorm
theorem norm_C : Ctr Tryz.prog 124 kNorm := Ctr.c2 (by kernel_rfl) fun l neg h => norm_V l neg h.1 h.2
end Go.Proofs.YtfbogelmgdojgaaGreat

/- Contracts: cmp.Compare, integer.compare, Sign, Cmp, Neg, Valid. -/
namespace Go.Proofs.YtfbogelmgdojgaaGreat
set_option linter.unusedSimpArgs false
set_option linter.unusedVariables false
open Go.RowKit

def kNan (k : IntKind) : Con := con1 (pN k) fun _ => (True, .raw (.bool false))
attribute [go_sem ↓, go_sem] kNan
theorem nan32_C : Ctr Tryz.prog 154 (kNan .u32) := Ctr.c1 (by kernel_rfl) fun x _ => by
  refine PCall.of_vc (tabs mixed tbl_nil) Tryz.func154 rfl Tryz.ntmps154 Tryz.results154 (by simp) ?_
  have e : (x != x) = false := by simp
  simp only [go_sem, e]
theorem nanI_C : Ctr Tryz.prog 153 (kNan .i64) := Ctr.c1 (by kernel_rfl) fun x _ => by
  refine PCall.of_vc (tabs mixed tbl_nil) Tryz.func153 rfl Tryz.ntmps153 Tryz.results153 (by simp) ?_
  have e : (x != x) = false := by simp
  simp only [go_sem, e]
def kCmp (k : IntKind) : Con := con2 (pN k) (pN k) fun x y => (True, .raw (.int .i64 (cmpI x y)))
attribute [go_sem ↓, go_sem] kCmp
theorem cmp32_C : Ctr Tryz.prog 146 (kCmp .u32) := Ctr.c2 (by kernel_rfl) fun x y _ => by
  refine PCall.of_vc (tabs mixed (tbl_cons nan32_C tbl_nil)) Tryz.func146 rfl Tryz.ntmps146 Tryz.results146 (by simp) ?_
  rcases Int.lt_trichotomy x y with h | h | h
  · have e1 : decide (x < y) = true := by simpa using h
    simp only [go_sem, e1, cmpI_lt h]
  · subst h
    have e1 : decide (x < x) = false := by simp
    simp only [go_sem, e1, cmpI_eq rfl]
  · have e1 : decide (x < y) = false := by simp; omega
    have e2 : decide (y < x) = true := by simpa using h
    simp only [go_sem, e1, e2, cmpI_gt h]
theorem cmpI_C : Ctr Tryz.prog 145 (kCmp .i64) := Ctr.c2 (by kernel_rfl) fun x y _ => by
  refine PCall.of_vc (tabs mixed (tbl_cons nanI_C tbl_nil)) Tryz.func145 rfl Tryz.ntmps145 Tryz.results145 (by simp) ?_
  rcases Int.lt_trichotomy x y with h | h | h
  · have e1 : decide (x < y) = true := by simpa using h
    simp only [go_sem, e1, cmpI_lt h]
  · subst h
    have e1 : decide (x < x) = false := by simp
    simp only [go_sem, e1, cmpI_eq rfl]
  · have e1 : decide (x < y) = false := by simp; omega
    have e2 : decide (y < x) = true := by simpa using h
    simp only [go_sem, e1, e2, cmpI_gt h]
end Go.Proofs.YtfbogelmgdojgaaGreat

/- Contracts: integer.compare, Sign, Cmp, Neg, Valid. -/
namespace Go.Proofs.YtfbogelmgdojgaaGreat
set_option linter.unusedSimpArgs false
set_option linter.unusedVariables false
open Go.RowKit

theorem compare_V (l m : List Nat) (hl : Canon l) (hm : Canon m) (h1 : l.length ≤ 10000000000000) (h2 : m.length ≤ 10000000000000) :
    PCall Tryz.prog 130 [.lst (V.limbs l), .lst (V.limbs m)] (.raw (.int .i64 (cmpI (lv l) (lv m)))) := by
  refine PCall.of_vc (tabs mixed (tbl_cons cmpI_C tbl_nil)) Tryz.func130 rfl Tryz.ntmps130 Tryz.results130 (by simp) ?_
  rcases Int.lt_trichotomy (l.length : Int) (m.length : Int) with h | h | h
  · have := lv_lt_of_len hl.1 hm (by omega)
    simp only [go_sem, cmpI_lt h]
    rw [cmpI_lt (by omega)]; exact .refl _
  · simp only [go_sem, cmpI_eq h]
    refine ⟨⟨by omega, by omega⟩, ?_⟩
    have h' : l.length = m.length := by omega
    refine AWp.loops (X := { k : Nat // k ≤ l.length ∧ ∀ j, k ≤ j → at0 l j = at0 m j }) (fun k => mkSt [(0, .lst (V.limbs l)), (1, .lst (V.limbs m)), (4, .raw (.int .i64 0)), (6, .raw (.int .i64 ((k.1 : Nat) - 1)))] [] 0 35) (fun k => k.1) ⟨l.length, Nat.le_refl _, fun j hj => by rw [at0_beyond hj, at0_beyond (by omega)]⟩ (Wk.of [] (by decide) ?_) ?_
    · simp only [go_sem]
    · rintro ⟨k, hk, hv⟩
      refine vc_at (tabs mixed (tbl_cons cmp32_C tbl_nil)) ?_
      rcases k with _ | k
      · have e : lv l = lv m := by rw [eq_of_at0 h' fun j => hv j (Nat.zero_le j)]
        simp only [go_sem]
        rw [cmpI_eq (by omega)]; exact .refl _
      · have e1 : ((k + 1 : Nat) : Int) - 1 = k := by omega
        have e2 : (0 : Int) ≤ k := by omega
        rcases Nat.lt_trichotomy (at0 l k) (at0 m k) with g | g | g
        · have := lv_lt_of_top hl.1 hm.1 _ rfl h'.symm k (by omega) g fun j hj => hv j hj
          have g' : ((at0 l k : Nat) : Int) < at0 m k := by omega
          simp only [go_sem, e1, e2, cmpI_lt g']
          rw [cmpI_lt (by omega)]
          and_intros
          all_goals first | omega | rfl | exact .refl _
        · have g' : ((at0 l k : Nat) : Int) = at0 m k := by omega
          simp only [go_sem, e1, e2, cmpI_eq g']
          and_intros
          any_goals first | omega | rfl
          refine ⟨⟨k, by omega, fun j hj => ?_⟩, Wk.of [] (by decide) ?_, Nat.lt_succ_self k⟩
          · by_cases e : j = k
            · subst e; exact g
            · exact hv j (by omega)
          · simp only [go_sem]
        · have := lv_lt_of_top hm.1 hl.1 _ rfl h' k (by omega) g fun j hj => (hv j hj).symm
          have g' : ((at0 m k : Nat) : Int) < at0 l k := by omega
          simp only [go_sem, e1, e2, cmpI_gt g']
          rw [cmpI_gt (by omega)]
          and_intros
          all_goals first | omega | rfl | exact .refl _
  · have := lv_lt_of_len hm.1 hl (by omega)
    simp only [go_sem, cmpI_gt h]
    rw [cmpI_gt (by omega)]; exact .refl _
def kCompare : Con := con2 pL pL fun l m => ((Canon l ∧ Canon m) ∧ l.length ≤ 10000000000000 ∧ m.length ≤ 10000000000000, .raw (.int .i64 (cmpI (lv l) (lv m))))
attribute [go_sem ↓, go_sem] kCompare
theorem compare_C : Ctr Tryz.prog 130 kCompare := Ctr.c2 (by kernel_rfl) fun l m h => compare_V l m h.1.1 h.1.2 h.2.1 h.2.2
def kSign : Con := con1 pI fun z => (True, .raw (.int .i64 (sgI z)))
attribute [go_sem ↓, go_sem] kSign
theorem sign_C : Ctr Tryz.prog 125 kSign := Ctr.c1 (by kernel_rfl) fun z h => by
  obtain ⟨s, l, hz, hl, hs, e1, e2, e3⟩ := sv_open z
  refine PCall.of_vc (tabs mixed tbl_nil) Tryz.func125 rfl Tryz.ntmps125 Tryz.results125 (by simp) ?_
  have hg : sgI z = if l = [] then 0 else if s = true then -1 else 1 := by rw [hz]; exact sgI_sv hl hs
  rcases l with _ | ⟨x, l⟩
  · have e4 : (((List.length ([] : List Nat) : Nat) : Int) == 0) = true := rfl
    rw [if_pos rfl] at hg
    simp only [go_sem, e1, e2, e4, hg]
  · have e4 : (((List.length (x :: l) : Nat) : Int) == 0) = false := by simp; omega
    rw [if_neg (by simp)] at hg
    cases s
    · rw [if_neg (by simp)] at hg
      simp only [go_sem] at e4
      simp only [go_sem, e1, e2, e4, hg]
    · rw [if_pos rfl] at hg
      simp only [go_sem] at e4
      simp only [go_sem, e1, e2, e4, hg]
def kNeg : Con := con1 pI fun z => (True, .I (-z))
attribute [go_sem ↓, go_sem] kNeg
theorem neg_C : Ctr Tryz.prog 105 kNeg := Ctr.c1 (by kernel_rfl) fun z h => by
  obtain ⟨s, l, hz, hl, hs, e1, e2, e3⟩ := sv_open z
  refine PCall.of_vc (tabs mixed tbl_nil) Tryz.func105 rfl Tryz.ntmps105 Tryz.results105 (by simp) ?_
  have hz' : -z = sv (!s && decide (l ≠ [])) l := by
    subst hz
    rcases l with _ | ⟨x, l⟩
    · cases s <;> rfl
    · cases s <;> simp [sv]
  rw [hz']
  cases s
  · by_cases h0 : l = []
    · have e4 : ¬ (0 < (l.length : Int)) := by simp [h0]
      simp only [go_sem, e1, e2, e4]
      subst h0
      exact out_I Canon.nil (by simp) rfl
    · have e4 : 0 < (l.length : Int) := by have := List.length_pos_iff.2 h0; omega
      simp only [go_sem, e1, e2, e4]
      exact out_I hl (fun _ => h0) (by simp [h0])
  · simp only [go_sem, e1, e2]
    exact out_I hl (by simp) (by simp)
theorem valid_V (s : Bool) (l : List Nat) (h : l.length ≤ 9223372036854775807) : PCall Tryz.prog 135 [.agg [.raw (.bool s), .lst (V.limbs l)]] (.raw (.bool (validB s l))) := by
  refine PCall.of_vc (tabs mixed tbl_nil) Tryz.func135 rfl Tryz.ntmps135 Tryz.results135 (by simp) ?_
  by_cases h0 : l = []
  · subst h0
    cases s <;> simp only [go_sem, validB]
  · have e4 : 0 < (l.length : Int) := by have := List.length_pos_iff.2 h0; omega
    have e5 : ((l.length : Int) == 0) = false := by simp; exact h0
    have hp := List.length_pos_iff.2 h0
    have e6 : ((l.length : Int) - 1).toNat = l.length - 1 := by omega
    simp only [go_sem, e4, e5, e6, validB]
    rw [if_neg h0]
    and_intros
    any_goals omega
    exact out_bool (by by_cases g : at0 l (l.length - 1) = 0 <;> simp [g] <;> omega)
/-- A sign and limbs, as they are. -/
def pRaw : Pat (Bool × List Nat) where
  p
    | .agg [.raw (.bool s), .lst l] => (unlimb l).map fun m => (True, s, m)
    | .agg [.raw (.bool s), .raw (.slice none 0 0)] => some (True, s, [])
    | .agg [.raw (.bool s), .emp] => some (True, s, [])
    | .I z => some (True, decide (z < 0), dg z.natAbs)
    | _ => none
  val a := .agg [.raw (.bool a.1), .lst (V.limbs a.2)]
  ok x c a h hc := by
    split at h
    · rename_i s l
      rcases hm : unlimb l with _ | m <;> rw [hm] at h
      · cases h
      · injection h with h; injection h with h1 h2; subst h1 h2
        rw [unlimb_ok l m hm]
        exact .refl _
    · injection h with h; injection h with h1 h2; subst h2; exact .inr (.inl ⟨rfl, rfl, rfl, ⟨rfl, rfl⟩, trivial⟩)
    · injection h with h; injection h with h1 h2; subst h2; exact .inr (.inl ⟨rfl, rfl, rfl, rfl, trivial⟩)
    · injection h with h; injection h with h1 h2; subst h2; exact .atoms rfl rfl rfl
    · cases h
@[go_sem ↓, go_sem] theorem ev_pRaw {s : Bool} {l : List V} : pRaw.p (.agg [.raw (.bool s), .lst l]) = (unlimb l).map fun m => (True, s, m) := rfl
@[go_sem ↓, go_sem] theorem ev_pRaw_n {s : Bool} : pRaw.p (.agg [.raw (.bool s), .raw (.slice none 0 0)]) = some (True, s, []) := rfl
@[go_sem ↓, go_sem] theorem ev_pRaw_e {s : Bool} : pRaw.p (.agg [.raw (.bool s), .emp]) = some (True, s, []) := rfl
@[go_sem ↓, go_sem] theorem ev_pRaw_I {z : Int} : pRaw.p (.I z) = some (True, decide (z < 0), dg z.natAbs) := rfl
@[go_sem ↓, go_sem] theorem ev_pRaw_val {a : Bool × List Nat} : pRaw.val a = .agg [.raw (.bool a.1), .lst (V.limbs a.2)] := rfl
theorem validB_I (z : Int) : validB (decide (z < 0)) (dg z.natAbs) = true := by
  unfold validB
  by_cases h : dg z.natAbs = []
  · rw [if_pos h]; rw [dg_eq_nil] at h; simp; omega
  · rw [if_neg h]; simpa using (dg_canon z.natAbs).2 h
def kValid : Con := con1 pRaw fun a => (a.2.length ≤ 9223372036854775807, .raw (.bool (validB a.1 a.2)))
attribute [go_sem ↓, go_sem] kValid
theorem valid_C : Ctr Tryz.prog 135 kValid := Ctr.c1 (by kernel_rfl) fun a h => valid_V a.1 a.2 h
/-- Cmp -/
def kCmpZ : Con := con2 pI pI fun x y => (dl x.natAbs ≤ 10000000000000 ∧ dl y.natAbs ≤ 10000000000000, .raw (.int .i64 (cmpI x y)))
attribute [go_sem ↓, go_sem] kCmpZ
theorem cmpZ_C : Ctr Tryz.prog 127 kCmpZ := Ctr.c2 (by kernel_rfl) fun x y h => by
  obtain ⟨h1, h2⟩ := h
  obtain ⟨s, l, hz, hl, hs, e1, e2, e3⟩ := sv_open x
  obtain ⟨t, m, hz', hm, ht, f1, f2, f3⟩ := sv_open y
  refine PCall.of_vc (tabs mixed (tbl_cons compare_C tbl_nil)) Tryz.func127 rfl Tryz.ntmps127 Tryz.results127 (by simp) ?_
  cases s <;> cases t <;> simp only [go_sem, e1, e2, f1, f2]
  · refine ⟨⟨⟨hl, hm⟩, by omega, by omega⟩, ?_⟩
    subst hz hz'; exact .refl _
  · have := lv_pos hm (ht rfl)
    rw [hz, hz', sv_false, sv_true, cmpI_gt (by omega)]; exact .refl _
  · have := lv_pos hl (hs rfl)
    rw [hz, hz', sv_false, sv_true, cmpI_lt (by omega)]; exact .refl _
  · refine ⟨⟨⟨hm, hl⟩, by omega, by omega⟩, ?_⟩
    refine out_int ?_
    rw [hz, hz', sv_true, sv_true]; unfold cmpI; split <;> split <;> (try split) <;> (try split) <;> omega
end Go.Proofs.YtfbogelmgdojgaaGreat
