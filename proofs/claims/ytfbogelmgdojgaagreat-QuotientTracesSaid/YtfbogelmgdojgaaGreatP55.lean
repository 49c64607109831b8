/- Texts G8 G9 in one. -/
import Derived.Test.YtfbogelmgdojgaaGreatP54
import Derived.Test.YtfbogelmgdojgaaGreatP43
/- Contracts: cofactors. -/
namespace Go.Proofs.YtfbogelmgdojgaaGreat
set_option linter.unusedSimpArgs false
set_option linter.unusedVariables false
open Go.RowKit

theorem out_at {x : V} {l : List V} (h : OutEq x (.lst l)) : x.atoms = [x] ∧ atLe x (.lst l) := by
  rcases h with h | ⟨_, h, _⟩ | ⟨h1, _, h3⟩
  · subst h; exact ⟨rfl, atLe.rfl' _⟩
  · cases h
  · exact ⟨V.atoms_single h1, h3⟩
theorem out_3 {x y z : V} {a b c : List V} (hx : OutEq x (.lst a)) (hy : OutEq y (.lst b)) (hz : OutEq z (.lst c)) : OutEq (.agg [x, y, z]) (.agg [.lst a, .lst b, .lst c]) := by
  obtain ⟨x1, x2⟩ := out_at hx
  obtain ⟨y1, y2⟩ := out_at hy
  obtain ⟨z1, z2⟩ := out_at hz
  refine .inr (.inl ⟨rfl, rfl, ?_⟩)
  show atsLe (x.atoms ++ (y.atoms ++ (z.atoms ++ []))) [.lst a, .lst b, .lst c]
  rw [x1, y1, z1]
  exact ⟨x2, y2, z2, trivial⟩
/-- A row of the extended algorithm. -/
def pRow : Pat (List Rat × List Rat × List Rat) where
  p
    | .agg [x, y, z] => (pR.p x).bind fun a => (pR.p y).bind fun b => (pR.p z).map fun c => (a.1 ∧ b.1 ∧ c.1, (a.2, b.2, c.2))
    | _ => none
  val a := .agg [.lst (V.rats a.1), .lst (V.rats a.2.1), .lst (V.rats a.2.2)]
  ok x c a h hc := by
    split at h
    · rename_i x y z
      rcases ha : pR.p x with _ | ⟨c1, a1⟩ <;> rw [ha] at h
      · cases h
      · rcases hb : pR.p y with _ | ⟨c2, a2⟩ <;> simp only [hb, bind_some] at h
        · cases h
        · rcases hz : pR.p z with _ | ⟨c3, a3⟩ <;> simp only [hz] at h
          · cases h
          · injection h with h; injection h with h1 h2; subst h1 h2
            exact out_3 (pR.ok _ _ _ ha hc.1) (pR.ok _ _ _ hb hc.2.1) (pR.ok _ _ _ hz hc.2.2)
    · cases h
@[go_sem ↓, go_sem] theorem ev_pRow {x y z : V} : pRow.p (.agg [x, y, z]) = (pR.p x).bind fun a => (pR.p y).bind fun b => (pR.p z).map fun c => (a.1 ∧ b.1 ∧ c.1, (a.2, b.2, c.2)) := rfl
@[go_sem ↓, go_sem] theorem ev_pRow_val {a : List Rat × List Rat × List Rat} : pRow.val a = .agg [.lst (V.rats a.1), .lst (V.rats a.2.1), .lst (V.rats a.2.2)] := rfl
/-- The sizes of x - q y. -/
def LsOk (q x y : List Rat) : Prop := ((q.length + y.length ≤ 1000000 ∧ x.length ≤ 1000000) ∧ (∃ j k, (PB q j ∧ PB y k) ∧ q.length * (j + k + 1) ≤ 9999999999)) ∧ PB x 10000000000
theorem LsOk.PB {q x y : List Rat} (h : LsOk q x y) : PB (pMul q y) 10000000000 := by
  obtain ⟨⟨_, j, k, ⟨h1, h2⟩, h3⟩, _⟩ := h
  intro i
  unfold pMul
  rw [cf_tr]
  exact Nat.le_trans (mulL_PB h2 h1 i) (by omega)
theorem len_pMul_le (q y : List Rat) : (pMul q y).length ≤ q.length + y.length := by
  refine Nat.le_trans (tr_len _) ?_
  by_cases h : y = []
  · subst h
    have : ∀ l : List Rat, (mulL l []).length ≤ l.length := fun l => by
      induction l with
      | nil => simp [mulL]
      | cons x l ih => simp only [mulL, len_addL, len_scL, List.length_cons, List.length_nil]; omega
    have := this q
    simp only [List.length_nil]; omega
  · rw [len_mulL q y h]
    split <;> omega
def kRowLess : Con := con3 pRow pR pRow fun x q y => (LsOk q x.1 y.1 ∧ LsOk q x.2.1 y.2.1 ∧ LsOk q x.2.2 y.2.2, .agg [.lst (V.rats (pSub x.1 (pMul q y.1))), .lst (V.rats (pSub x.2.1 (pMul q y.2.1))), .lst (V.rats (pSub x.2.2 (pMul q y.2.2)))])
attribute [go_sem ↓, go_sem] kRowLess
theorem rowLess_C : Ctr Tryz.prog 89 kRowLess := Ctr.c3 (by kernel_rfl) fun x q y h => by
  obtain ⟨h1, h2, h3⟩ := h
  have g1 := h1.PB
  have g2 := h2.PB
  have g3 := h3.PB
  have m1 := len_pMul_le q y.1
  have m2 := len_pMul_le q y.2.1
  have m3 := len_pMul_le q y.2.2
  obtain ⟨⟨⟨a1, a2⟩, a3⟩, a4⟩ := h1
  obtain ⟨⟨⟨b1, b2⟩, b3⟩, b4⟩ := h2
  obtain ⟨⟨⟨c1, c2⟩, c3⟩, c4⟩ := h3
  refine PCall.of_vc (tabs mixed (tbl_cons pMul_C (tbl_cons pSub_C tbl_nil))) Tryz.func89 rfl Tryz.ntmps89 Tryz.results89 (by simp) ?_
  simp only [go_sem]
  exact ⟨⟨a1, a3⟩, ⟨⟨a2, by omega⟩, a4, g1⟩, ⟨b1, b3⟩, ⟨⟨b2, by omega⟩, b4, g2⟩, ⟨c1, c3⟩, ⟨⟨c2, by omega⟩, c4, g3⟩, by rfl⟩
end Go.Proofs.YtfbogelmgdojgaaGreat

/- Contracts: the extended algorithm of Euclid. -/
namespace Go.Proofs.YtfbogelmgdojgaaGreat
set_option linter.unusedSimpArgs false
set_option linter.unusedVariables false
open Go.RowKit

theorem sub_div {a b : List Rat} (ha : Can a) (hb : Can b) (h0 : b ≠ []) : pSub a (pMul (pDiv a b) b) = pMod a b := by
  obtain ⟨g2, _, g3⟩ := dm_ok ha hb h0
  refine ev_inj (can_pSub _ _) g2.2 fun x => ?_
  have := g3 x
  rw [ev_pSub, ev_pMul]; grind
/-- The sizes within the extended algorithm. -/
def ExOk : Nat → List Rat → List Rat → List Rat → List Rat → List Rat → List Rat → Prop
  | 0, _, _, _, _, _, _ => False
  | n + 1, a, b, s, u, t, v => (Can a ∧ Can b) ∧ (a.length ≤ 1000000 ∧ b.length ≤ 1000000) ∧ (if b = [] then ∃ k, (PB a k ∧ k ≤ 1000000000) ∧ (s.length ≤ 1000000 ∧ PB s 5000000000) ∧ (t.length ≤ 1000000 ∧ PB t 5000000000) else
      DvOk a b ∧ (LsOk (pDiv a b) a b ∧ LsOk (pDiv a b) s u ∧ LsOk (pDiv a b) t v) ∧ ExOk n b (pMod a b) u (pSub s (pMul (pDiv a b) u)) v (pSub t (pMul (pDiv a b) v)))
structure ExS where
  n : Nat
  a : List Rat
  b : List Rat
  s : List Rat
  u : List Rat
  t : List Rat
  v : List Rat
def kExt : Con := con2 pR pR fun a b => (∃ n, ExOk n a b [1] [] [] [1], .tup [.lst (V.rats (pExt a b).1), .lst (V.rats (pExt a b).2.1), .lst (V.rats (pExt a b).2.2)])
attribute [go_sem ↓, go_sem] kExt
theorem ext_C : Ctr Tryz.prog 50 kExt := Ctr.c2 (by kernel_rfl) fun A B h => by
  obtain ⟨n, hn⟩ := h
  refine PCall.of_vc (tabs mixed (tbl_cons pDM_C (tbl_cons one_C (tbl_cons rowLess_C (tbl_cons lead_C (tbl_cons over_C (tbl_cons pSc_C tbl_nil))))))) Tryz.func50 rfl Tryz.ntmps50 Tryz.results50 (by simp) ?_
  simp only [go_sem]
  refine AWp.frz 12 ?_
  simp only [go_sem]
  refine AWp.loops (X := { p : ExS // ExOk p.n p.a p.b p.s p.u p.t p.v ∧ exF (p.b.length + 1) p.a p.b p.s p.u p.t p.v = pX A B })
    (fun p => mkSt [(4, .raw (.slice none 0 0)), (5, .raw (.slice none 0 0)), (6, .raw (.slice none 0 0)), (7, .ptr 0 6 0 0)] [(0, false, ⟨98, 6, [.agg [.agg [.lst (V.rats p.1.a), .lst (V.rats p.1.s), .lst (V.rats p.1.t)], .agg [.lst (V.rats p.1.b), .lst (V.rats p.1.u), .lst (V.rats p.1.v)]]]⟩)] 1 76)
    (fun p => p.1.n) ⟨⟨n, A, B, [1], [], [], [1]⟩, hn, rfl⟩ (Wk.of [12] (by decide) ?_) ?_
  · simp only [go_sem]
    exact ⟨rfl, .inr ⟨rfl, rfl, rfl⟩⟩
  · rintro ⟨⟨m, a, b, s, u, t, v⟩, hm, he⟩
    simp only at hm he
    refine vc_at (tabs mixed (tbl_cons pDM_C (tbl_cons one_C (tbl_cons rowLess_C (tbl_cons lead_C (tbl_cons over_C (tbl_cons pSc_C tbl_nil))))))) ?_
    rcases m with _ | m
    · exact hm.elim
    · obtain ⟨⟨ca, cb⟩, ⟨la, lb⟩, hm⟩ := hm
      by_cases b0 : b = []
      · subst b0
        rw [if_pos rfl] at hm
        obtain ⟨z, ⟨h1, h2⟩, ⟨h3, h4⟩, h5, h6⟩ := hm
        have c1 : ¬ (0 : Int) < ((0 : Nat) : Int) := by decide
        have e1 : pX A B = (a, s, t) := by rw [← he]; rfl
        have e2 : pExt A B = if a = [] then (a, s, t) else (pSc (1 / lead a) a, pSc (1 / lead a) s, pSc (1 / lead a) t) := by unfold pExt; rw [e1]
        by_cases a0 : a = []
        · rw [if_pos a0] at e2
          subst a0
          have c2 : ((0 : Int) == 0) = true := rfl
          simp only [go_sem, c1, c2, List.length_nil, e2]
          rfl
        · rw [if_neg a0] at e2
          have al := List.length_pos_iff.2 a0
          have c2 : ((a.length : Int) == 0) = false := beqF (by omega)
          have l0 := lead_ne ca a0
          have l1 : qs (lead a) ≤ z := h1 _
          have l2 := qs_inv1 _ l1
          have l3 := qs_1
          simp only [go_sem, c1, c2, List.length_nil, e2, a0, l0]
          exact ⟨la, ⟨by omega, by omega⟩, by rfl, ⟨la, h1.mono (by omega), by omega⟩, ⟨h3, h4.mono (by omega), by omega⟩, ⟨h5, h6.mono (by omega), by omega⟩, by rfl⟩
      · rw [if_neg b0] at hm
        obtain ⟨hd, ⟨l1, l2, l3⟩, hm⟩ := hm
        have bl := List.length_pos_iff.2 b0
        have c1 : 0 < (b.length : Int) := by omega
        have r1 : dmP a b = .tup [.lst (V.rats (pDiv a b)), .lst (V.rats (pMod a b)), .raw (.int .i64 0)] := if_neg b0
        have r2 := sub_div ca cb b0
        simp only [go_sem, c1, r1, r2]
        refine ⟨hd, ⟨l1, l2, l3⟩, by rfl, ⟨⟨m, b, pMod a b, u, pSub s (pMul (pDiv a b) u), v, pSub t (pMul (pDiv a b) v)⟩, hm, ?_⟩, Wk.of [0] (by decide) ?_, Nat.lt_succ_self m⟩
        · simp only
          rw [← he]
          obtain ⟨_, g2, _⟩ := dm_ok ca cb b0
          have hmc : Can (pMod a b) := (dm_ok ca cb b0).1.2
          rw [exF_fuel ((pMod a b).length + 1) b.length b (pMod a b) _ _ _ _ cb hmc (Nat.lt_succ_self _) g2]
          conv => rhs; unfold exF
          rw [if_neg b0]
        · simp only [go_sem]
          exact renV_pure rfl
end Go.Proofs.YtfbogelmgdojgaaGreat
