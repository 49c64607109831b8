/- Texts G8 G9 G10 G11 G12 G13 G14 G16 H1 H2 H3 in one. -/
import Derived.Test.YtfbogelmgdojgaaGreatR24
import Derived.Test.YtfbogelmgdojgaaGreatR19
import Derived.Test.YtfbogelmgdojgaaGreatR20
/- Contracts: cofactors. -/
namespace Go.Proofs.YtfbogelmgdojgaaGreat
set_option linter.unusedSimpArgs false
set_option linter.unusedVariables false
open Go.RowKit

theorem out_at {x : V} {l : List V} (h : OutEq x (.lst l)) : x.atoms = [x] ∧ atLe x (.lst l) := by
  rcases h with h | ⟨_, h, _⟩ | ⟨h1, _, h3⟩
  · subst h; exact ⟨rfl, atLe.rfl' _⟩
  · cases h
  · exact ⟨V.atoms_single h1, h3⟩
theorem out_3 {x y z : V} {a b c : List V} (hx : OutEq x (.lst a)) (hy : OutEq y (.lst b)) (hz : OutEq z (.lst c)) : OutEq (.agg [x, y, z]) (.agg [.lst a, .lst b, .lst c]) := by
  obtain ⟨x1, x2⟩ := out_at hx
  obtain ⟨y1, y2⟩ := out_at hy
  obtain ⟨z1, z2⟩ := out_at hz
  refine .inr (.inl ⟨rfl, rfl, ?_⟩)
  show atsLe (x.atoms ++ (y.atoms ++ (z.atoms ++ []))) [.lst a, .lst b, .lst c]
  rw [x1, y1, z1]
  exact ⟨x2, y2, z2, trivial⟩
/-- A row of the extended algorithm. -/
def pRow : Pat (List Rat × List Rat × List Rat) where
  p
    | .agg [x, y, z] => (pR.p x).bind fun a => (pR.p y).bind fun b => (pR.p z).map fun c => (a.1 ∧ b.1 ∧ c.1, (a.2, b.2, c.2))
    | _ => none
  val a := .agg [.lst (V.rats a.1), .lst (V.rats a.2.1), .lst (V.rats a.2.2)]
  ok x c a h hc := by
    split at h
    · rename_i x y z
      rcases ha : pR.p x with _ | ⟨c1, a1⟩ <;> rw [ha] at h
      · cases h
      · rcases hb : pR.p y with _ | ⟨c2, a2⟩ <;> simp only [hb, bind_some] at h
        · cases h
        · rcases hz : pR.p z with _ | ⟨c3, a3⟩ <;> simp only [hz] at h
          · cases h
          · injection h with h; injection h with h1 h2; subst h1 h2
            exact out_3 (pR.ok _ _ _ ha hc.1) (pR.ok _ _ _ hb hc.2.1) (pR.ok _ _ _ hz hc.2.2)
    · cases h
@[go_sem ↓, go_sem] theorem ev_pRow {x y z : V} : pRow.p (.agg [x, y, z]) = (pR.p x).bind fun a => (pR.p y).bind fun b => (pR.p z).map fun c => (a.1 ∧ b.1 ∧ c.1, (a.2, b.2, c.2)) := rfl
@[go_sem ↓, go_sem] theorem ev_pRow_val {a : List Rat × List Rat × List Rat} : pRow.val a = .agg [.lst (V.rats a.1), .lst (V.rats a.2.1), .lst (V.rats a.2.2)] := rfl
/-- The sizes of x - q y. -/
def LsOk (q x y : List Rat) : Prop := ((q.length + y.length ≤ 1000000 ∧ x.length ≤ 1000000) ∧ (∃ j k, (PB q j ∧ PB y k) ∧ q.length * (j + k + 1) ≤ 4999999999999)) ∧ PB x 5000000000000
theorem LsOk.PB {q x y : List Rat} (h : LsOk q x y) : PB (pMul q y) 5000000000000 := by
  obtain ⟨⟨_, j, k, ⟨h1, h2⟩, h3⟩, _⟩ := h
  intro i
  unfold pMul
  rw [cf_tr]
  exact Nat.le_trans (mulL_PB h2 h1 i) (by omega)
theorem len_pMul_le (q y : List Rat) : (pMul q y).length ≤ q.length + y.length := by
  refine Nat.le_trans (tr_len _) ?_
  by_cases h : y = []
  · subst h
    have : ∀ l : List Rat, (mulL l []).length ≤ l.length := fun l => by
      induction l with
      | nil => simp [mulL]
      | cons x l ih => simp only [mulL, len_addL, len_scL, List.length_cons, List.length_nil]; omega
    have := this q
    simp only [List.length_nil]; omega
  · rw [len_mulL q y h]
    split <;> omega
def kRowLess : Con := con3 pRow pR pRow fun x q y => (LsOk q x.1 y.1 ∧ LsOk q x.2.1 y.2.1 ∧ LsOk q x.2.2 y.2.2, .agg [.lst (V.rats (pSub x.1 (pMul q y.1))), .lst (V.rats (pSub x.2.1 (pMul q y.2.1))), .lst (V.rats (pSub x.2.2 (pMul q y.2.2)))])
attribute [go_sem ↓, go_sem] kRowLess
theorem rowLess_C : Ctr Tryz.prog 89 kRowLess := Ctr.c3 (by kernel_rfl) fun x q y h => by
  obtain ⟨h1, h2, h3⟩ := h
  have g1 := h1.PB
  have g2 := h2.PB
  have g3 := h3.PB
  have m1 := len_pMul_le q y.1
  have m2 := len_pMul_le q y.2.1
  have m3 := len_pMul_le q y.2.2
  obtain ⟨⟨⟨a1, a2⟩, a3⟩, a4⟩ := h1
  obtain ⟨⟨⟨b1, b2⟩, b3⟩, b4⟩ := h2
  obtain ⟨⟨⟨c1, c2⟩, c3⟩, c4⟩ := h3
  refine PCall.of_vc (tabs mixed (tbl_cons pMul_C (tbl_cons pSub_C tbl_nil))) Tryz.func89 rfl Tryz.ntmps89 Tryz.results89 (by simp) ?_
  simp only [go_sem]
  exact ⟨⟨a1, a3⟩, ⟨⟨a2, by omega⟩, a4, g1⟩, ⟨b1, b3⟩, ⟨⟨b2, by omega⟩, b4, g2⟩, ⟨c1, c3⟩, ⟨⟨c2, by omega⟩, c4, g3⟩, by rfl⟩
end Go.Proofs.YtfbogelmgdojgaaGreat


/- Contracts: the extended algorithm of Euclid. -/
namespace Go.Proofs.YtfbogelmgdojgaaGreat
set_option linter.unusedSimpArgs false
set_option linter.unusedVariables false
open Go.RowKit

theorem sub_div {a b : List Rat} (ha : Can a) (hb : Can b) (h0 : b ≠ []) : pSub a (pMul (pDiv a b) b) = pMod a b := by
  obtain ⟨g2, _, g3⟩ := dm_ok ha hb h0
  refine ev_inj (can_pSub _ _) g2.2 fun x => ?_
  have := g3 x
  rw [ev_pSub, ev_pMul]; grind
/-- The sizes within the extended algorithm. -/
def ExOk : Nat → List Rat → List Rat → List Rat → List Rat → List Rat → List Rat → Prop
  | 0, _, _, _, _, _, _ => False
  | n + 1, a, b, s, u, t, v => (Can a ∧ Can b) ∧ (a.length ≤ 1000000 ∧ b.length ≤ 1000000) ∧ (if b = [] then ∃ k, (PB a k ∧ k ≤ 500000000000) ∧ (s.length ≤ 1000000 ∧ PB s 2500000000000) ∧ (t.length ≤ 1000000 ∧ PB t 2500000000000) else
      DvOk a b ∧ (LsOk (pDiv a b) a b ∧ LsOk (pDiv a b) s u ∧ LsOk (pDiv a b) t v) ∧ ExOk n b (pMod a b) u (pSub s (pMul (pDiv a b) u)) v (pSub t (pMul (pDiv a b) v)))
structure ExS where
  n : Nat
  a : List Rat
  b : List Rat
  s : List Rat
  u : List Rat
  t : List Rat
  v : List Rat
def kExt : Con := con2 pR pR fun a b => (∃ n, ExOk n a b [1] [] [] [1], .tup [.lst (V.rats (pExt a b).1), .lst (V.rats (pExt a b).2.1), .lst (V.rats (pExt a b).2.2)])
attribute [go_sem ↓, go_sem] kExt
theorem ext_C : Ctr Tryz.prog 50 kExt := Ctr.c2 (by kernel_rfl) fun A B h => by
  obtain ⟨n, hn⟩ := h
  refine PCall.of_vc (tabs mixed (tbl_cons pDM_C (tbl_cons one_C (tbl_cons rowLess_C (tbl_cons lead_C (tbl_cons over_C (tbl_cons pSc_C tbl_nil))))))) Tryz.func50 rfl Tryz.ntmps50 Tryz.results50 (by simp) ?_
  simp only [go_sem]
  refine AWp.frz 12 ?_
  simp only [go_sem]
  refine AWp.loops (X := { p : ExS // ExOk p.n p.a p.b p.s p.u p.t p.v ∧ exF (p.b.length + 1) p.a p.b p.s p.u p.t p.v = pX A B })
    (fun p => mkSt [(4, .raw (.slice none 0 0)), (5, .raw (.slice none 0 0)), (6, .raw (.slice none 0 0)), (7, .ptr 0 6 0 0)] [(0, false, ⟨98, 6, [.agg [.agg [.lst (V.rats p.1.a), .lst (V.rats p.1.s), .lst (V.rats p.1.t)], .agg [.lst (V.rats p.1.b), .lst (V.rats p.1.u), .lst (V.rats p.1.v)]]]⟩)] 1 76)
    (fun p => p.1.n) ⟨⟨n, A, B, [1], [], [], [1]⟩, hn, rfl⟩ (Wk.of [12] (by decide) ?_) ?_
  · simp only [go_sem]
    exact ⟨rfl, .inr ⟨rfl, rfl, rfl⟩⟩
  · rintro ⟨⟨m, a, b, s, u, t, v⟩, hm, he⟩
    simp only at hm he
    refine vc_at (tabs mixed (tbl_cons pDM_C (tbl_cons one_C (tbl_cons rowLess_C (tbl_cons lead_C (tbl_cons over_C (tbl_cons pSc_C tbl_nil))))))) ?_
    rcases m with _ | m
    · exact hm.elim
    · obtain ⟨⟨ca, cb⟩, ⟨la, lb⟩, hm⟩ := hm
      by_cases b0 : b = []
      · subst b0
        rw [if_pos rfl] at hm
        obtain ⟨z, ⟨h1, h2⟩, ⟨h3, h4⟩, h5, h6⟩ := hm
        have c1 : ¬ (0 : Int) < ((0 : Nat) : Int) := by decide
        have e1 : pX A B = (a, s, t) := by rw [← he]; rfl
        have e2 : pExt A B = if a = [] then (a, s, t) else (pSc (1 / lead a) a, pSc (1 / lead a) s, pSc (1 / lead a) t) := by unfold pExt; rw [e1]
        by_cases a0 : a = []
        · rw [if_pos a0] at e2
          subst a0
          have c2 : ((0 : Int) == 0) = true := rfl
          simp only [go_sem, c1, c2, List.length_nil, e2]
          rfl
        · rw [if_neg a0] at e2
          have al := List.length_pos_iff.2 a0
          have c2 : ((a.length : Int) == 0) = false := beqF (by omega)
          have l0 := lead_ne ca a0
          have l1 : qs (lead a) ≤ z := h1 _
          have l2 := qs_inv1 _ l1
          have l3 := qs_1
          simp only [go_sem, c1, c2, List.length_nil, e2, a0, l0]
          exact ⟨la, ⟨by omega, by omega⟩, by rfl, ⟨la, h1.mono (by omega), by omega⟩, ⟨h3, h4.mono (by omega), by omega⟩, ⟨h5, h6.mono (by omega), by omega⟩, by rfl⟩
      · rw [if_neg b0] at hm
        obtain ⟨hd, ⟨l1, l2, l3⟩, hm⟩ := hm
        have bl := List.length_pos_iff.2 b0
        have c1 : 0 < (b.length : Int) := by omega
        have r1 : dmP a b = .tup [.lst (V.rats (pDiv a b)), .lst (V.rats (pMod a b)), .raw (.int .i64 0)] := if_neg b0
        have r2 := sub_div ca cb b0
        simp only [go_sem, c1, r1, r2]
        refine ⟨hd, ⟨l1, l2, l3⟩, by rfl, ⟨⟨m, b, pMod a b, u, pSub s (pMul (pDiv a b) u), v, pSub t (pMul (pDiv a b) v)⟩, hm, ?_⟩, Wk.of [0] (by decide) ?_, Nat.lt_succ_self m⟩
        · simp only
          rw [← he]
          obtain ⟨_, g2, _⟩ := dm_ok ca cb b0
          have hmc : Can (pMod a b) := (dm_ok ca cb b0).1.2
          rw [exF_fuel ((pMod a b).length + 1) b.length b (pMod a b) _ _ _ _ cb hmc (Nat.lt_succ_self _) g2]
          conv => rhs; unfold exF
          rw [if_neg b0]
        · simp only [go_sem]
          exact renV_pure rfl
end Go.Proofs.YtfbogelmgdojgaaGreat


/- Contracts: the polynomial at x + c. -/
namespace Go.Proofs.YtfbogelmgdojgaaGreat
set_option linter.unusedSimpArgs false
set_option linter.unusedVariables false
open Go.RowKit

theorem cf_ext {l m : List Rat} (h : l.length = m.length) (hc : ∀ i, cf l i = cf m i) : l = m := by
  refine List.ext_getElem h fun i h1 h2 => ?_
  have := hc i
  unfold cf at this
  rw [List.getD_eq_getElem?_getD, List.getD_eq_getElem?_getD, List.getElem?_eq_getElem h1, List.getElem?_eq_getElem h2] at this
  exact this
theorem hd0_cf (l : List Rat) : hd0 l = cf l 0 := by cases l <;> rfl
/-- The sizes within the shift. -/
def ShOk : Nat → Rat → List Rat → Prop
  | 0, _, _ => True
  | n + 1, c, l => (∃ s, (PB l s ∧ PB (syn c l) s) ∧ s ≤ 2000000000000) ∧ ShOk n c (tl0 (syn c l))
end Go.Proofs.YtfbogelmgdojgaaGreat


/- Contracts: equal polynomials. -/
namespace Go.Proofs.YtfbogelmgdojgaaGreat
set_option linter.unusedSimpArgs false
set_option linter.unusedVariables false
open Go.RowKit

/-- A known function as a value. -/
def pF (g : FuncId) : Pat Unit where
  p
    | .clo (.func f) [] [] => if f = g then some (True, ()) else none
    | _ => none
  val _ := .clo (.func g) [] []
  ok x c a h hc := by
    split at h
    · split at h
      · rename_i e; subst e; exact .inl rfl
      · cases h
    · cases h
@[go_sem ↓, go_sem] theorem ev_pF {g : FuncId} : (pF g).p (.clo (.func g) [] []) = some (True, ()) := if_pos rfl
@[go_sem ↓, go_sem] theorem ev_pF_val {g : FuncId} {u : Unit} : (pF g).val u = .clo (.func g) [] [] := rfl
theorem cmpQ_eq0 (x y : Rat) : (cmpQ x y == 0) = decide (x = y) := by
  unfold cmpQ
  by_cases h : x = y
  · subst h
    simp [Rat.lt_irrefl]
  · rw [decide_eq_false h]
    by_cases h1 : x < y
    · simp [h1]
    · simp [h1, h]
def kPEq : Con := con2 pR pR fun a b => ((a.length ≤ 1000000 ∧ b.length ≤ 1000000) ∧ PB a 5000000000000 ∧ PB b 5000000000000, .raw (.bool (decide (a = b))))
attribute [go_sem ↓, go_sem] kPEq
end Go.Proofs.YtfbogelmgdojgaaGreat


/- Contracts: valid polynomials. -/
namespace Go.Proofs.YtfbogelmgdojgaaGreat
set_option linter.unusedSimpArgs false
set_option linter.unusedVariables false
open Go.RowKit

def kVal1 : Con := con1 pQ fun x => (qs x ≤ 5000000000000, .raw (.bool false))
attribute [go_sem ↓, go_sem] kVal1
theorem val1_C : Ctr Tryz.prog 110 kVal1 := Ctr.c1 (by kernel_rfl) fun x h => by
  refine PCall.of_vc (tabs mixed (tbl_cons qValid_C tbl_nil)) Tryz.func110 rfl Tryz.ntmps110 Tryz.results110 (by simp) ?_
  have e1 := validQ_Q x
  simp only [go_sem, e1]
  exact ⟨⟨dg_lim _, dg_lim _⟩, szLN h (by omega), szLD h (by omega)⟩
def kIdxF : Con := con2 pR (pF 110) fun a _ => (a.length ≤ 1000000 ∧ PB a 5000000000000, .raw (.int .i64 (-1)))
attribute [go_sem ↓, go_sem] kIdxF
theorem idxF_C : Ctr Tryz.prog 136 kIdxF := Ctr.c2 (by kernel_rfl) fun a _ h => by
  obtain ⟨la, ha⟩ := h
  refine PCall.of_vc (tabs mixed (tbl_cons val1_C tbl_nil)) Tryz.func136 rfl Tryz.ntmps136 Tryz.results136 (by simp) ?_
  simp only [go_sem]
  refine AWp.loops (X := { i : Nat // i ≤ a.length })
    (fun i => mkSt [(0, .lst (V.rats a)), (1, .clo (.func 110) [] []), (4, .raw (.int .i64 0)), (7, .raw (.int .i64 (a.length : Nat))), (8, .raw (.int .i64 (i.1 : Nat)))] [] 0 19)
    (fun i => a.length - i.1) ⟨0, Nat.zero_le _⟩ (Wk.of [] (by decide) ?_) ?_
  · simp only [go_sem]
  · rintro ⟨i, hi⟩
    refine vc_at (tabs mixed (tbl_cons val1_C tbl_nil)) ?_
    by_cases hin : i < a.length
    · have c1 : (i : Int) < (a.length : Nat) := by omega
      have c2 : (i : Int) + 1 = ((i + 1 : Nat) : Int) := by omega
      have q1 := ha i
      simp only [go_sem, c1, c2]
      refine ⟨by omega, hin, q1, ⟨by omega, by omega⟩, ⟨i + 1, hin⟩, Wk.of [] (by decide) ?_, by simp only; omega⟩
      simp only [go_sem]
    · have c1 : ¬ (i : Int) < (a.length : Nat) := by omega
      simp only [go_sem, c1]
def kContF : Con := con2 pR (pF 110) fun a _ => (a.length ≤ 1000000 ∧ PB a 5000000000000, .raw (.bool false))
attribute [go_sem ↓, go_sem] kContF
theorem contF_C : Ctr Tryz.prog 112 kContF := Ctr.c2 (by kernel_rfl) fun a _ h => by
  refine PCall.of_vc (tabs mixed (tbl_cons idxF_C tbl_nil)) Tryz.func112 rfl Tryz.ntmps112 Tryz.results112 (by simp) ?_
  have c1 : ¬ (0 : Int) ≤ -1 := by decide
  simp only [go_sem, c1]
  exact h
def kPValid : Con := con1 pR fun a => (a.length ≤ 1000000 ∧ PB a 5000000000000, .raw (.bool (((tr a).length : Int) == (a.length : Int))))
attribute [go_sem ↓, go_sem] kPValid
theorem pValid_C : Ctr Tryz.prog 72 kPValid := Ctr.c1 (by kernel_rfl) fun a h => by
  refine PCall.of_vc (tabs mixed (tbl_cons contF_C (tbl_cons trim_C tbl_nil))) Tryz.func72 rfl Tryz.ntmps72 Tryz.results72 (by simp) ?_
  simp only [go_sem]
  exact ⟨h, Nat.le_trans h.1 (by decide)⟩
end Go.Proofs.YtfbogelmgdojgaaGreat


/- Contracts: the resultant. -/
namespace Go.Proofs.YtfbogelmgdojgaaGreat
set_option linter.unusedSimpArgs false
set_option linter.unusedVariables false
open Go.RowKit

def PwOk (c : Rat) (n : Nat) : Prop := n ≤ 1000000 ∧ n * qs c + 1 ≤ 2500000000000 ∧ qs c ≤ 2500000000000
/-- The sizes within the resultant. -/
def ReOk : Nat → Rat → List Rat → List Rat → Prop
  | 0, _, _, _ => False
  | n + 1, o, a, b => (Can a ∧ Can b) ∧ (a.length ≤ 1000000 ∧ b.length ≤ 1000000) ∧ qs o ≤ 2500000000000 ∧
    (if a = [] ∨ b = [] then True else if b.length = 1 then PwOk (cf b 0) (a.length - 1) else if a.length = 1 then PwOk (cf a 0) (b.length - 1) else
      if a.length < b.length then ReOk n (sgm (a.length - 1) (b.length - 1) o) b a else
      DvOk a b ∧ (pMod a b = [] ∨ (PwOk (lead b) (a.length - (pMod a b).length) ∧ qs (o * lead b ^ (a.length - (pMod a b).length)) ≤ 2500000000000 ∧ ReOk n (sgm (a.length - 1) (b.length - 1) (o * lead b ^ (a.length - (pMod a b).length))) b (pMod a b))))
def kRes : Con := con2 pR pR fun a b => (∃ n, ReOk n 1 a b, .Q (pRes a b))
attribute [go_sem ↓, go_sem] kRes
set_option maxRecDepth 4000 in
theorem res_C : Ctr Tryz.prog 60 kRes := Ctr.c2 (by kernel_rfl) fun A B h => by
  obtain ⟨n, hn⟩ := h
  show PCall _ _ _ (.Q (pRes A B))
  refine PCall.of_vc (tabs mixed (tbl_cons one_C (tbl_cons whole_C (tbl_cons power_C (tbl_cons qMul_C (tbl_cons qNeg_C (tbl_cons pDM_C (tbl_cons lead_C tbl_nil)))))))) Tryz.func60 rfl Tryz.ntmps60 Tryz.results60 (by simp) ?_
  simp only [go_sem]
  refine AWp.loops (X := { p : Nat × Rat × List Rat × List Rat // ReOk p.1 p.2.1 p.2.2.1 p.2.2.2 ∧ p.2.1 * pRes p.2.2.1 p.2.2.2 = pRes A B })
    (fun p => mkSt [(0, .lst (V.rats p.1.2.2.1)), (1, .lst (V.rats p.1.2.2.2)), (4, .ptr 0 4 0 0), (5, .ptr 1 4 0 0)] [(0, true, ⟨45, 4, [.agg [.raw (.bool false), .raw (.slice none 0 0), .raw (.bool false), .raw (.slice none 0 0)]]⟩), (1, true, ⟨45, 4, [.Q p.1.2.1]⟩)] 2 88)
    (fun p => p.1.1) ⟨(n, 1, A, B), hn, by simp only; grind⟩ (Wk.of [0, 2] (by decide) ?_) ?_
  · simp only [go_sem]
    trace_state
  · rintro ⟨⟨m, o, a, b⟩, hm, he⟩
    simp only at hm he
    refine vc_at (tabs mixed (tbl_cons one_C (tbl_cons whole_C (tbl_cons power_C (tbl_cons qMul_C (tbl_cons qNeg_C (tbl_cons pDM_C (tbl_cons lead_C tbl_nil)))))))) ?_
    rcases m with _ | m
    · exact hm.elim
    · obtain ⟨⟨ca, cb⟩, ⟨la, lb⟩, qo, hm⟩ := hm
      rw [pRes_step ca cb] at he
      by_cases h0 : a = [] ∨ b = []
      · rw [if_pos h0] at he
        have e0 : pRes A B = 0 := by rw [← he]; grind
        have hw : ((Rat.ofInt 0 : Rat)) = 0 := rfl
        by_cases a0 : a = []
        · subst a0
          have c1 : ((0 : Nat) : Int) - 1 < 0 := by decide
          simp only [go_sem, c1, List.length_nil, e0]
          exact ⟨⟨by omega, by omega⟩, .inl rfl⟩
        · have b0 : b = [] := h0.resolve_left a0
          subst b0
          have al := List.length_pos_iff.2 a0
          have c1 : ¬ (a.length : Int) - 1 < 0 := by omega
          have c2 : ((0 : Nat) : Int) - 1 < 0 := by decide
          simp only [go_sem, c1, c2, List.length_nil, e0]
          exact ⟨⟨by omega, by omega⟩, .inl rfl⟩
      · rw [if_neg h0] at he hm
        have a0 : a ≠ [] := fun e => h0 (.inl e)
        have b0 : b ≠ [] := fun e => h0 (.inr e)
        have al := List.length_pos_iff.2 a0
        have bl := List.length_pos_iff.2 b0
        have m1 : (a.length : Int) - 1 = ((a.length - 1 : Nat) : Int) := by omega
        have n1 : (b.length : Int) - 1 = ((b.length - 1 : Nat) : Int) := by omega
        have c1 : ¬ ((a.length - 1 : Nat) : Int) < 0 := by omega
        have c2 : ¬ ((b.length - 1 : Nat) : Int) < 0 := by omega
        by_cases hb1 : b.length = 1
        · rw [if_pos hb1] at he hm
          have c3 : (((b.length - 1 : Nat) : Int) == 0) = true := by rw [hb1]; rfl
          obtain ⟨p1, p2, p3⟩ := hm
          have lb0 : lead b = cf b 0 := by unfold lead; rw [hb1]
          rw [lb0] at he
          have q1 := qs_powN (Nat.le_refl (qs (cf b 0))) (a.length - 1)
          simp only [go_sem, m1, n1, c1, c2, c3]
          exact ⟨⟨by omega, by omega⟩, ⟨by omega, by omega⟩, by omega, bl, ⟨by omega, by omega, by omega, p3⟩, ⟨by omega, by omega⟩, by rfl, .inl (by rw [he])⟩
        · rw [if_neg hb1] at he hm
          have c3 : (((b.length - 1 : Nat) : Int) == 0) = false := beqF (by omega)
          by_cases ha1 : a.length = 1
          · rw [if_pos ha1] at he hm
            have c4 : (((a.length - 1 : Nat) : Int) == 0) = true := by rw [ha1]; rfl
            obtain ⟨p1, p2, p3⟩ := hm
            have lb0 : lead a = cf a 0 := by unfold lead; rw [ha1]
            rw [lb0] at he
            have q1 := qs_powN (Nat.le_refl (qs (cf a 0))) (b.length - 1)
            simp only [go_sem, m1, n1, c1, c2, c3, c4]
            exact ⟨⟨by omega, by omega⟩, ⟨by omega, by omega⟩, by omega, al, ⟨by omega, by omega, by omega, p3⟩, ⟨by omega, by omega⟩, by rfl, .inl (by rw [he])⟩
          · rw [if_neg ha1] at he hm
            have c4 : (((a.length - 1 : Nat) : Int) == 0) = false := beqF (by omega)
            have mm : ((a.length - 1 : Nat) : Int) * ((b.length - 1 : Nat) : Int) = (((a.length - 1) * (b.length - 1) : Nat) : Int) := (Int.natCast_mul _ _).symm
            have mb : (a.length - 1) * (b.length - 1) ≤ 1000000 * 1000000 := Nat.mul_le_mul (by omega) (by omega)
            by_cases hlt : a.length < b.length
            · rw [if_pos hlt] at he hm
              have c5 : ((a.length - 1 : Nat) : Int) < ((b.length - 1 : Nat) : Int) := by omega
              by_cases hs : (a.length - 1) * (b.length - 1) % 2 = 1
              · have t1 : ((((a.length - 1) * (b.length - 1) : Nat) : Int) % 2 == 1) = true := by rw [show (((a.length - 1) * (b.length - 1) : Nat) : Int) % 2 = 1 from by omega]; rfl
                simp only [sgm, if_pos hs] at he hm
                simp only [go_sem, m1, n1, c1, c2, c3, c4, c5, mm, t1]
                refine ⟨⟨by omega, by omega⟩, ⟨by omega, by omega⟩, ⟨by omega, by omega⟩, ⟨(m, -o, b, a), hm, by simp only; rw [← he]; grind⟩, Wk.of [0, 1] (by decide) ?_, by simp only; omega⟩
                simp only [go_sem]
              · have t1 : ((((a.length - 1) * (b.length - 1) : Nat) : Int) % 2 == 1) = false := beqF (by omega)
                simp only [sgm, if_neg hs] at he hm
                simp only [go_sem, m1, n1, c1, c2, c3, c4, c5, mm, t1]
                refine ⟨⟨by omega, by omega⟩, ⟨by omega, by omega⟩, ⟨by omega, by omega⟩, ⟨(m, o, b, a), hm, by simp only; exact he⟩, Wk.of [0, 1] (by decide) ?_, by simp only; omega⟩
                simp only [go_sem]
            · rw [if_neg hlt] at he hm
              obtain ⟨hd, hm⟩ := hm
              have c5 : ¬ ((a.length - 1 : Nat) : Int) < ((b.length - 1 : Nat) : Int) := by omega
              have r1 : dmP a b = .tup [.lst (V.rats (pDiv a b)), .lst (V.rats (pMod a b)), .raw (.int .i64 0)] := if_neg b0
              by_cases r0 : pMod a b = []
              · rw [if_pos r0] at he
                have e0 : pRes A B = 0 := by rw [← he]; grind
                have c6 : ((0 : Int) == 0) = true := rfl
                simp only [go_sem, m1, n1, c1, c2, c3, c4, c5, r1, r0, e0, c6, List.length_nil]
                exact ⟨⟨by omega, by omega⟩, ⟨by omega, by omega⟩, hd, .inl rfl⟩
              · rw [if_neg r0] at he
                obtain ⟨⟨p1, p2, p3⟩, q0, hm⟩ := hm.resolve_left r0
                have rl := List.length_pos_iff.2 r0
                have rlt : (pMod a b).length < b.length := (dm_ok ca cb b0).2.1
                have c6 : (((pMod a b).length : Int) == 0) = false := beqF (by omega)
                have e5 : ((a.length - 1 : Nat) : Int) - (pMod a b).length + 1 = ((a.length - (pMod a b).length : Nat) : Int) := by omega
                have q1 := qs_powN (Nat.le_refl (qs (lead b))) (a.length - (pMod a b).length)
                by_cases hs : (a.length - 1) * (b.length - 1) % 2 = 1
                · have t1 : ((((a.length - 1) * (b.length - 1) : Nat) : Int) % 2 == 1) = true := by rw [show (((a.length - 1) * (b.length - 1) : Nat) : Int) % 2 = 1 from by omega]; rfl
                  simp only [sgm, if_pos hs] at he hm
                  simp only [go_sem, m1, n1, c1, c2, c3, c4, c5, r1, c6, e5, mm, t1]
                  refine ⟨⟨by omega, by omega⟩, ⟨by omega, by omega⟩, hd, ⟨b0, lb⟩, ⟨by omega, by omega⟩, ⟨by omega, by omega⟩, ⟨by omega, by omega, by omega, p3⟩, ⟨by omega, by omega⟩, by rfl, ⟨by omega, by omega⟩, ⟨(m, -(o * lead b ^ (a.length - (pMod a b).length)), b, pMod a b), hm, by simp only; rw [← he]; grind⟩, Wk.of [0, 1] (by decide) ?_, by simp only; omega⟩
                  simp only [go_sem]
                · have t1 : ((((a.length - 1) * (b.length - 1) : Nat) : Int) % 2 == 1) = false := beqF (by omega)
                  simp only [sgm, if_neg hs] at he hm
                  simp only [go_sem, m1, n1, c1, c2, c3, c4, c5, r1, c6, e5, mm, t1]
                  refine ⟨⟨by omega, by omega⟩, ⟨by omega, by omega⟩, hd, ⟨b0, lb⟩, ⟨by omega, by omega⟩, ⟨by omega, by omega⟩, ⟨by omega, by omega, by omega, p3⟩, ⟨by omega, by omega⟩, by rfl, ⟨by omega, by omega⟩, ⟨(m, o * lead b ^ (a.length - (pMod a b).length), b, pMod a b), hm, by simp only; rw [← he]; grind⟩, Wk.of [0, 1] (by decide) ?_, by simp only; omega⟩
                  simp only [go_sem]
end Go.Proofs.YtfbogelmgdojgaaGreat


/- Contracts: the squarefree decomposition. -/
namespace Go.Proofs.YtfbogelmgdojgaaGreat
set_option linter.unusedSimpArgs false
set_option linter.unusedVariables false
open Go.RowKit

/-- Factors, as values. -/
def V.facs (l : List (List Rat × Nat)) : List V := l.map fun p => .agg [.lst (V.rats p.1), .raw (.int .i64 (p.2 : Nat))]
theorem facs_nil : V.facs [] = [] := rfl
theorem facs_snoc (l : List (List Rat × Nat)) (p : List Rat) (n : Nat) : V.facs l ++ [.agg [.lst (V.rats p), .raw (.int .i64 (n : Nat))]] = V.facs (l ++ [(p, n)]) := by simp [V.facs]
@[go_sem] theorem facs_len (l : List (List Rat × Nat)) : (V.facs l).length = l.length := by simp [V.facs]
@[go_sem] theorem facs_wid (l : List (List Rat × Nat)) : allWid (V.facs l) 2 = True := eq_true fun y hy => by
  obtain ⟨p, _, rfl⟩ := List.mem_map.1 hy
  rfl
@[go_sem] theorem facs_pure (l : List (List Rat × Nat)) : allPure (V.facs l) = True := eq_true fun y hy => by
  obtain ⟨p, _, rfl⟩ := List.mem_map.1 hy
  rfl
@[go_sem] theorem facs_frz (l : List (List Rat × Nat)) : frzOk (V.facs l) = True := eq_true (frzOk_map (fun a => ⟨rfl, by simp, by simp⟩) l)
/-- The sizes within the decomposition. -/
def SqOk : Nat → List Rat → List Rat → Prop
  | 0, _, _ => False
  | k + 1, b, c => if b.length ≤ 1 then True else
    ((b.length ≤ 1000000 ∧ c.length ≤ 1000000) ∧ PB b 5000000000000 ∧ PB c 5000000000000 ∧ PB (pDiff b) 5000000000000) ∧ (∃ n, GcOk n b (pSub c (pDiff b))) ∧
    (DvOk b (pGcd b (pSub c (pDiff b))) ∧ DvOk (pSub c (pDiff b)) (pGcd b (pSub c (pDiff b)))) ∧ pGcd b (pSub c (pDiff b)) ≠ [] ∧
    SqOk k (pDiv b (pGcd b (pSub c (pDiff b)))) (pDiv (pSub c (pDiff b)) (pGcd b (pSub c (pDiff b))))
def SfOk (k : Nat) (a : List Rat) : Prop := k ≤ 1000000 ∧ a.length ≤ 1000000 ∧ (2 ≤ a.length → PB a 5000000000000 ∧ (∃ n, GcOk n a (pDiff a)) ∧ (DvOk a (pGcd a (pDiff a)) ∧ DvOk (pDiff a) (pGcd a (pDiff a))) ∧ pGcd a (pDiff a) ≠ [] ∧ SqOk k (pDiv a (pGcd a (pDiff a))) (pDiv (pDiff a) (pGcd a (pDiff a))))
/-- The state of the loop: nothing is made before the first factor. -/
def sqS (b c : List Rat) (n : Nat) : List (List Rat × Nat) → St
  | [] => mkSt [(2, .raw (.slice none 0 0)), (3, .raw (.slice none 0 0)), (6, .lst (V.rats b)), (7, .lst (V.rats c)), (8, .raw (.int .i64 (n : Nat)))] [] 0 52
  | x :: l => mkSt [(2, .raw (.slice none 0 0)), (3, .sl 0 2 0 (l.length + 1)), (6, .lst (V.rats b)), (7, .lst (V.rats c)), (8, .raw (.int .i64 (n : Nat)))] [(0, true, ⟨84, 2, V.facs (x :: l)⟩)] 1 52
structure SqS where
  k : Nat
  n : Nat
  b : List Rat
  c : List Rat
  acc : List (List Rat × Nat)
  rest : List (List Rat × Nat)
theorem sqf_V (k : Nat) (a : List Rat) (l : List (List Rat × Nat)) (h : SfOk k a) (he : pSqf k a = some l) : PCall Tryz.prog 68 [.lst (V.rats a)] (.lst (V.facs l)) := by
  obtain ⟨hk, la, hs⟩ := h
  refine PCall.of_vc (tabs mixed (tbl_cons pDiff_C (tbl_cons pGcd_C (tbl_cons exact_C (tbl_cons pSub_C tbl_nil))))) Tryz.func68 rfl Tryz.ntmps68 Tryz.results68 (by simp) ?_
  unfold pSqf at he
  by_cases h2 : a.length < 2
  · rw [if_pos h2] at he
    injection he with he
    subst he
    have c1 : (a.length : Int) < 2 := by omega
    simp only [go_sem, c1, facs_nil]
  · rw [if_neg h2] at he
    have c1 : ¬ (a.length : Int) < 2 := by omega
    obtain ⟨h1, h3, ⟨h4, h5⟩, h6, h7⟩ := hs (by omega)
    simp only [go_sem, c1]
    refine ⟨⟨la, h1⟩, h3, ⟨h4, h6⟩, ⟨h5, h6⟩, ?_⟩
    refine AWp.loops (X := { p : SqS // SqOk p.k p.b p.c ∧ sqL p.k p.n p.b p.c = some p.rest ∧ p.acc ++ p.rest = l ∧ p.k + p.n ≤ 2000000 ∧ p.acc.length ≤ p.n })
      (fun p => sqS p.1.b p.1.c p.1.n p.1.acc) (fun p => p.1.k) ⟨⟨k, 1, _, _, [], l⟩, h7, he, rfl, by simp only; omega, by simp⟩ (Wk.of [] (by decide) ?_) ?_
    · simp only [go_sem]
      exact ⟨rfl, rfl⟩
    · rintro ⟨⟨k, n, b, c, acc, rest⟩, hk', hq, hr, hn, hl⟩
      simp only at hk' hq hr hn hl
      rcases k with _ | k
      · exact hk'.elim
      · unfold sqL at hq
        by_cases hb : b.length ≤ 1
        · rw [if_pos hb] at hq
          injection hq with hq
          subst hq
          rw [List.append_nil] at hr
          subst hr
          have c2 : ¬ 1 < (b.length : Int) := by omega
          cases acc with
          | nil =>
            refine vc_at (tabs mixed (tbl_cons pDiff_C (tbl_cons pGcd_C (tbl_cons exact_C (tbl_cons pSub_C tbl_nil))))) ?_
            simp only [go_sem, c2, facs_nil]
          | cons x acc =>
            refine vc_at (tabs mixed (tbl_cons pDiff_C (tbl_cons pGcd_C (tbl_cons exact_C (tbl_cons pSub_C tbl_nil))))) ?_
            have f3 : (V.facs (x :: acc)).take (acc.length + 1) = V.facs (x :: acc) := List.take_of_length_le (by simp [V.facs])
            simp only [go_sem, c2, f3]
        · rw [if_neg hb] at hq
          have c2 : 1 < (b.length : Int) := by omega
          have n1 : (n : Int) + 1 = ((n + 1 : Nat) : Int) := by omega
          unfold SqOk at hk'
          rw [if_neg hb] at hk'
          obtain ⟨⟨⟨lb, lc⟩, pb, pc, pd⟩, hg, ⟨hd1, hd2⟩, g0, hk'⟩ := hk'
          obtain ⟨l', hl', rfl⟩ : ∃ l', sqL k (n + 1) (pDiv b (pGcd b (pSub c (pDiff b)))) (pDiv (pSub c (pDiff b)) (pGcd b (pSub c (pDiff b)))) = some l' ∧ (if (pGcd b (pSub c (pDiff b))).length ≤ 1 then l' else (pGcd b (pSub c (pDiff b)), n) :: l') = rest := by
            rcases hx : sqL k (n + 1) (pDiv b (pGcd b (pSub c (pDiff b)))) (pDiv (pSub c (pDiff b)) (pGcd b (pSub c (pDiff b)))) with _ | l' <;> rw [hx] at hq
            · cases hq
            · injection hq with hq
              exact ⟨l', rfl, hq⟩
          have dlen : (pDiff b).length ≤ 1000000 := Nat.le_trans (tr_len _) (by rcases len_dL b with h | h <;> omega)
          by_cases hp : (pGcd b (pSub c (pDiff b))).length ≤ 1
          · rw [if_pos hp] at hr
            have c3 : ¬ 1 < ((pGcd b (pSub c (pDiff b))).length : Int) := by omega
            cases acc with
            | nil =>
              refine vc_at (tabs mixed (tbl_cons pDiff_C (tbl_cons pGcd_C (tbl_cons exact_C (tbl_cons pSub_C tbl_nil))))) ?_
              simp only [go_sem, c2, c3, n1]
              refine ⟨⟨lb, pb⟩, ⟨⟨lc, dlen⟩, pc, pd⟩, hg, ⟨hd1, g0⟩, ⟨hd2, g0⟩, ⟨by omega, by omega⟩, ⟨⟨k, n + 1, _, _, [], l'⟩, hk', hl', hr, by simp only; omega, by simp⟩, Wk.of [] (by decide) ?_, Nat.lt_succ_self k⟩
              simp only [go_sem]
              exact ⟨rfl, rfl⟩
            | cons x acc =>
              refine vc_at (tabs mixed (tbl_cons pDiff_C (tbl_cons pGcd_C (tbl_cons exact_C (tbl_cons pSub_C tbl_nil))))) ?_
              simp only [go_sem, c2, c3, n1]
              refine ⟨⟨lb, pb⟩, ⟨⟨lc, dlen⟩, pc, pd⟩, hg, ⟨hd1, g0⟩, ⟨hd2, g0⟩, ⟨by omega, by omega⟩, ⟨⟨k, n + 1, _, _, x :: acc, l'⟩, hk', hl', hr, by simp only; omega, by simp only [List.length_cons] at hl ⊢; omega⟩, Wk.of [0] (by decide) ?_, Nat.lt_succ_self k⟩
              simp only [go_sem]
              exact ⟨rfl, rfl⟩
          · rw [if_neg hp] at hr
            have c3 : 1 < ((pGcd b (pSub c (pDiff b))).length : Int) := by omega
            cases acc with
            | nil =>
              refine vc_at (tabs mixed (tbl_cons pDiff_C (tbl_cons pGcd_C (tbl_cons exact_C (tbl_cons pSub_C tbl_nil))))) ?_
              simp only [go_sem, c2, c3, n1]
              refine ⟨⟨lb, pb⟩, ⟨⟨lc, dlen⟩, pc, pd⟩, hg, by decide, ⟨hd1, g0⟩, ⟨hd2, g0⟩, ⟨by omega, by omega⟩, ⟨⟨k, n + 1, _, _, [(pGcd b (pSub c (pDiff b)), n)], l'⟩, hk', hl', hr, by simp only; omega, by simp⟩, Wk.of [20] (by decide) ?_, Nat.lt_succ_self k⟩
              simp only [go_sem]
              exact ⟨⟨rfl, rfl⟩, rfl⟩
            | cons x acc =>
              refine vc_at (tabs mixed (tbl_cons pDiff_C (tbl_cons pGcd_C (tbl_cons exact_C (tbl_cons pSub_C tbl_nil))))) ?_
              simp only [go_sem, c2, c3, n1]
              have f3 : (V.facs (x :: acc)).take (acc.length + 1) = V.facs (x :: acc) := List.take_of_length_le (by simp [V.facs])
              have mx : maxLen = 9223372036854775807 := by decide
              simp only [List.length_cons] at hl
              refine ⟨⟨lb, pb⟩, ⟨⟨lc, dlen⟩, pc, pd⟩, hg, ⟨by omega, by omega⟩, ⟨hd1, g0⟩, ⟨hd2, g0⟩, ⟨by omega, by omega⟩, ⟨⟨k, n + 1, _, _, x :: (acc ++ [(pGcd b (pSub c (pDiff b)), n)]), l'⟩, hk', hl', by simp only; rw [← hr]; simp, by simp only; omega, by simp; omega⟩, Wk.of [21] (by decide) ?_, Nat.lt_succ_self k⟩
              simp only [go_sem, f3, List.length_append]
              exact ⟨⟨rfl, rfl⟩, (facs_snoc (x :: acc) _ n).symm⟩
end Go.Proofs.YtfbogelmgdojgaaGreat


/- Contracts: the value of a polynomial. -/
namespace Go.Proofs.YtfbogelmgdojgaaGreat
set_option linter.unusedSimpArgs false
set_option linter.unusedVariables false
open Go.RowKit

end Go.Proofs.YtfbogelmgdojgaaGreat


/- Contracts: the reference of package poly, first functions. -/
namespace Go.Proofs.YtfbogelmgdojgaaGreat
set_option linter.unusedSimpArgs false
set_option linter.unusedVariables false
open Go.RowKit

def kRZero : Con := con0 (True, .Q 0)
attribute [go_sem ↓, go_sem] kRZero
theorem rZero_C : Ctr Tryz.prog 77 kRZero := Ctr.c0 (by kernel_rfl) fun _ => by
  refine PCall.of_vc (tabs mixed (tbl_cons r2Whole_C tbl_nil)) Tryz.func77 rfl Tryz.ntmps77 Tryz.results77 (by simp) ?_
  simp only [go_sem]
  exact .inl rfl
theorem rOne_C : Ctr Tryz.prog 93 kOne := Ctr.c0 (by kernel_rfl) fun _ => by
  refine PCall.of_vc (tabs mixed (tbl_cons r2Whole_C tbl_nil)) Tryz.func93 rfl Tryz.ntmps93 Tryz.results93 (by simp) ?_
  simp only [go_sem]
  exact .inl rfl
def kRAt : Con := con2 pR (pN .i64) fun p i => (True, .Q (if i < 0 then 0 else cf p i.toNat))
attribute [go_sem ↓, go_sem] kRAt
theorem rAt_C : Ctr Tryz.prog 76 kRAt := Ctr.c2 (by kernel_rfl) fun p i _ => by
  show PCall _ _ _ (.Q (if i < 0 then 0 else cf p i.toNat))
  refine PCall.of_vc (tabs mixed (tbl_cons rZero_C tbl_nil)) Tryz.func76 rfl Tryz.ntmps76 Tryz.results76 (by simp) ?_
  by_cases h0 : i < 0
  · simp only [go_sem, h0]
  · rw [if_neg h0]
    by_cases h1 : (p.length : Int) ≤ i
    · have e : cf p i.toNat = 0 := cf_ge (by omega)
      simp only [go_sem, h0, h1, e]
    · simp only [go_sem, h0, h1]
      exact ⟨⟨by omega, by omega⟩, by omega⟩
end Go.Proofs.YtfbogelmgdojgaaGreat


/- Contracts: the reference of package poly, equality. -/
namespace Go.Proofs.YtfbogelmgdojgaaGreat
set_option linter.unusedSimpArgs false
set_option linter.unusedVariables false
open Go.RowKit

theorem rPEq_C : Ctr Tryz.prog 14 kPEq := Ctr.c2 (by kernel_rfl) fun a b h => by
  obtain ⟨⟨la, lb⟩, ha, hb⟩ := h
  refine PCall.of_vc (tabs mixed (tbl_cons r2Cmp_C tbl_nil)) Tryz.func14 rfl Tryz.ntmps14 Tryz.results14 (by simp) ?_
  by_cases hl : a.length = b.length
  · have c0 : (!((a.length : Int) == (b.length : Int))) = false := by rw [hl]; simp
    have c0' : ((a.length : Int) != (b.length : Int)) = false := c0
    simp only [go_sem, c0, c0']
    refine AWp.loops (X := { i : Nat // i ≤ a.length ∧ ∀ j, j < i → cf a j = cf b j })
      (fun i => mkSt [(0, .lst (V.rats a)), (1, .lst (V.rats b)), (4, .raw (.bool false)), (5, .raw (.int .i64 (i.1 : Nat)))] [] 0 27)
      (fun i => a.length - i.1) ⟨0, Nat.zero_le _, fun j h => by omega⟩ (Wk.of [] (by decide) ?_) ?_
    · simp only [go_sem]
    · rintro ⟨i, hi, he⟩
      refine vc_at (tabs mixed (tbl_cons r2Cmp_C tbl_nil)) ?_
      by_cases hin : i < a.length
      · have c1 : (i : Int) < (a.length : Nat) := by omega
        have c2 : (i : Int) + 1 = ((i + 1 : Nat) : Int) := by omega
        have q1 := ha i
        have q2 := hb i
        by_cases hq : cf a i = cf b i
        · have d0 : (cmpQ (cf a i) (cf b i) == 0) = true := by rw [cmpQ_eq0]; exact decide_eq_true hq
          have d1 : (cmpQ (cf a i) (cf b i) != 0) = false := by unfold bne; rw [d0]; rfl
          simp only [go_sem, c1, c2, d0, d1]
          refine ⟨by omega, hin, ⟨by omega, by omega⟩, by omega, ⟨q1, q2⟩, by rfl, ⟨by omega, by omega⟩, ⟨i + 1, hin, fun j hj => ?_⟩, Wk.of [] (by decide) ?_, by simp only; omega⟩
          · by_cases e : j = i
            · subst e; exact hq
            · exact he j (by omega)
          · simp only [go_sem]
        · have d0 : (cmpQ (cf a i) (cf b i) == 0) = false := by rw [cmpQ_eq0]; exact decide_eq_false hq
          have d1 : (cmpQ (cf a i) (cf b i) != 0) = true := by unfold bne; rw [d0]; rfl
          have d2 : decide (a = b) = false := decide_eq_false fun e => hq (by rw [e])
          simp only [go_sem, c1, c2, d0, d1, d2]
          exact ⟨by omega, hin, ⟨by omega, by omega⟩, by omega, ⟨q1, q2⟩, by rfl⟩
      · have c1 : ¬ (i : Int) < (a.length : Nat) := by omega
        have d2 : decide (a = b) = true := decide_eq_true (cf_ext hl fun j => by
          by_cases hj : j < i
          · exact he j hj
          · rw [cf_ge (by omega), cf_ge (by omega)])
        simp only [go_sem, c1, d2]
  · have c0 : (!((a.length : Int) == (b.length : Int))) = true := by simp; omega
    have c0' : ((a.length : Int) != (b.length : Int)) = true := c0
    have d2 : decide (a = b) = false := decide_eq_false fun e => hl (by rw [e])
    simp only [go_sem, c0, c0', d2]
end Go.Proofs.YtfbogelmgdojgaaGreat


/- Contracts: the reference of package poly, lists without zeros at the end. -/
namespace Go.Proofs.YtfbogelmgdojgaaGreat
set_option linter.unusedSimpArgs false
set_option linter.unusedVariables false
open Go.RowKit

/-- The first values of a function. -/
def rg (F : Nat → Rat) (n : Nat) : List Rat := (List.range n).map F
@[go_sem] theorem rg_len (F : Nat → Rat) (n : Nat) : (rg F n).length = n := by simp [rg]
theorem rg_0 (F : Nat → Rat) : rg F 0 = [] := rfl
theorem rg_snoc (F : Nat → Rat) (i : Nat) : rg F i ++ [F i] = rg F (i + 1) := by unfold rg; rw [List.range_succ, List.map_append]; rfl
@[go_sem] theorem rg_take (F : Nat → Rat) (i : Nat) : (rg F i).take i = rg F i := List.take_of_length_le (by rw [rg_len]; exact Nat.le_refl _)
theorem take_rg {l : List Rat} {n : Nat} (h : n ≤ l.length) : l.take n = rg (cf l) n := cf_ext (by rw [rg_len, List.length_take]; omega) fun i => by
  by_cases hi : i < n
  · unfold rg cf
    rw [List.getD_eq_getElem?_getD, List.getElem?_take, if_pos hi, List.getD_eq_getElem?_getD, List.getElem?_map, List.getElem?_range hi]
    rfl
  · rw [cf_ge (by rw [List.length_take]; omega), cf_ge (by rw [rg_len]; omega)]
theorem cf_rg (F : Nat → Rat) (n i : Nat) : cf (rg F n) i = if i < n then F i else 0 := by
  by_cases hi : i < n
  · rw [if_pos hi]
    unfold rg cf
    rw [List.getD_eq_getElem?_getD, List.getElem?_map, List.getElem?_range hi]
    rfl
  · rw [if_neg hi, cf_ge (by rw [rg_len]; omega)]
theorem rats_0 : V.rats [] = [] := rfl
theorem rTrim_V (l : List Rat) (h : l.length ≤ 1000000000) : PCall Tryz.prog 42 [.lst (V.rats l)] (.lst (V.rats (tr l))) := by
  refine PCall.of_vc (tabs mixed (tbl_cons r2Sign_C tbl_nil)) Tryz.func42 rfl Tryz.ntmps42 Tryz.results42 (by simp) ?_
  simp only [go_sem]
  refine AWp.cut (E := fun e τ => e = .exit 0 ∧ ∃ n : Nat, (n ≤ l.length ∧ (∀ i, n ≤ i → cf l i = 0) ∧ (n ≠ 0 → cf l (n - 1) ≠ 0)) ∧ τ = mkSt [(0, .lst (V.rats l)), (2, .raw (.slice none 0 0)), (3, .raw (.int .i64 (n : Nat)))] [] 0 35) ?_ ?_
  · refine AWp.loops (X := { n : Nat // n ≤ l.length ∧ ∀ i, n ≤ i → cf l i = 0 }) (fun n => mkSt [(0, .lst (V.rats l)), (2, .raw (.slice none 0 0)), (3, .raw (.int .i64 (n.1 : Nat)))] [] 0 35) (fun n => n.1) ⟨l.length, Nat.le_refl _, fun i h => cf_ge h⟩ (Wk.of [] (by decide) ?_) ?_
    · simp only [go_sem]
    · rintro ⟨n, hn, hz⟩
      refine vc_at (tabs mixed (tbl_cons r2Sign_C tbl_nil)) ?_
      rcases n with _ | n
      · simp only [go_sem]
        refine ⟨_, Wk.of [] (by decide) ?_, 0, ⟨hn, hz, fun e => absurd rfl e⟩, rfl⟩
        simp only [go_sem, Int.natCast_zero]
      · have e1 := pred_nat n
        have e2 : 0 < ((n + 1 : Nat) : Int) := by omega
        by_cases hc : cf l n = 0
        · have c1 : (sgI (cf l n).num == 0) = true := by rw [sgn_numQ]; exact decide_eq_true hc
          simp only [go_sem, e1, e2, c1]
          refine ⟨by omega, by omega, by omega, by omega, ⟨n, by omega, fun i hi => ?_⟩, Wk.of [] (by decide) ?_, by simp only; omega⟩
          · rcases Nat.eq_or_lt_of_le hi with h | h
            · rw [← h]; exact hc
            · exact hz i h
          · simp only [go_sem]
        · have c1 : (sgI (cf l n).num == 0) = false := by rw [sgn_numQ]; exact decide_eq_false hc
          simp only [go_sem, e1, e2, c1]
          refine ⟨by omega, by omega, by omega, _, Wk.of [] (by decide) ?_, n + 1, ⟨hn, hz, fun _ => hc⟩, rfl⟩
          simp only [go_sem]
  · rintro e τ ⟨rfl, n, ⟨hn, hz, hc⟩, rfl⟩
    rw [mkSt_eq]
    simp only [go_sem]
    rw [tr_at hn hz hc, take_rg hn]
    refine AWp.loops (X := { i : Nat // i ≤ n }) (fun i => mkSt [(0, .lst (V.rats l)), (2, .raw (.slice none 0 0)), (3, .raw (.int .i64 (n : Nat))), (4, .sl 0 4 0 i.1), (5, .raw (.int .i64 (i.1 : Nat)))] [(0, true, ⟨45, 4, V.rats (rg (cf l) i.1)⟩)] 1 35) (fun i => n - i.1) ⟨0, Nat.zero_le _⟩ (Wk.of [0] (by decide) ?_) ?_
    · simp only [go_sem, rg_0, rats_0, Int.natCast_zero]
    · rintro ⟨i, hi⟩
      refine vc_at (tabs mixed (tbl_cons r2Sign_C tbl_nil)) ?_
      by_cases hin : i < n
      · have c1 : (i : Int) < (n : Nat) := by omega
        have c2 : (i : Int) + 1 = ((i + 1 : Nat) : Int) := by omega
        have mx : maxLen = 9223372036854775807 := by decide
        simp only [go_sem, c1, c2, rg_snoc, mx]
        refine ⟨⟨by omega, by omega⟩, by omega, ⟨by omega, by omega⟩, ⟨by omega, by omega⟩, ⟨i + 1, hin⟩, Wk.of [10] (by decide) ?_, by simp only; omega⟩
        simp only [go_sem]
      · obtain rfl : i = n := by omega
        have c1 : ¬ (i : Int) < (i : Nat) := by omega
        simp only [go_sem, c1]
        trace_state
end Go.Proofs.YtfbogelmgdojgaaGreat

