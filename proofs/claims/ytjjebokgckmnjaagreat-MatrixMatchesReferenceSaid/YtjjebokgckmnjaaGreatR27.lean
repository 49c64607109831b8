/- Texts MC3 MC4 in one. -/
import Derived.Test.YtjjebokgckmnjaaGreatR26
import Derived.Test.YtjjebokgckmnjaaGreatR22
/- Contracts: a pivot. -/
namespace Go.Proofs.YtjjebokgckmnjaaGreat
set_option linter.unusedSimpArgs false
set_option linter.unusedVariables false
open Go.RowKit

theorem sgI_z (q : Rat) : (sgI q.num != 0) = !decide (q = 0) := by
  by_cases h : q = 0
  · rw [h]; rfl
  · have hn : q.num ≠ 0 := fun e => h (Rat.num_eq_zero.1 e)
    have : sgI q.num ≠ 0 := fun e => by
      rcases sg_cases q.num with ⟨_, g⟩ | ⟨g, _⟩ | ⟨_, g⟩
      · rw [g] at e; cases e
      · exact hn g
      · rw [g] at e; cases e
    simp [this, h]
def V.nats (l : List Nat) : List V := l.map fun n => V.raw (.int .i64 ((n : Nat) : Int))
def syO (o m : Nat) (pF : V) (d : Rat) : Blk := ⟨59, 6, [.agg [.sl o 1 0 m, pF, .Q d]]⟩
abbrev syB (m : Nat) (pF : V) (d : Rat) : Blk := syO 1 m pF d
/-- The list of the pivots: nil, or a row of its own. -/
def pFk (k : Nat) (ps : List Nat) : V := if ps = [] then .raw (.slice none 0 0) else .sl k 1 0 ps.length
def pBk (ps : List Nat) : Option Blk := if ps = [] then none else some ⟨3, 1, V.nats ps⟩
def syH (k : Nat) (ps : List Nat) (m : Nat) (d : Rat) : Hp := (hbk k (pBk ps)).up 0 (some (syB m (pFk k ps) d))
theorem pFk_at (k : Nat) (ps : List Nat) : (pFk k ps).atoms = [pFk k ps] ∧ (pFk k ps).isAgg = false := by
  unfold pFk
  split <;> exact ⟨rfl, rfl⟩
theorem nats_pure (l : List Nat) : allPure (V.nats l) := fun y hy => by
  obtain ⟨n, _, rfl⟩ := List.mem_map.1 hy
  rfl
theorem syB_ren {θ : List Nat} {m k k0 o0 : Nat} {ps : List Nat} {d : Rat} (h1 : θ[1]? = some o0) (h2 : ps ≠ [] → θ[k]? = some k0) : RenLE θ (syB m (pFk k ps) d).l (syO o0 m (pFk k0 ps) d).l := by
  refine ⟨rfl, fun i x y hx hy => ?_⟩
  cases i with
  | succ i => simp [syB, syO] at hx
  | zero =>
    simp only [syB, syO, List.getElem?_cons_zero, Option.some.injEq] at hx hy
    subst hx hy
    have e : ∀ o k, (V.agg [.sl o 1 0 m, pFk k ps, .Q d]).atoms = .sl o 1 0 m :: pFk k ps :: (V.Q d).atoms := fun o k => by
      show V.atomsL [.sl o 1 0 m, pFk k ps, .Q d] = _
      simp only [V.atomsL, (pFk_at k ps).1, List.append_nil]
      rfl
    refine ⟨by rw [e, e]; rfl, fun i z u hz hu => ?_⟩
    rw [e] at hz hu
    rcases i with _ | _ | i
    · simp at hz hu; subst hz hu; exact ⟨h1, rfl, rfl, rfl⟩
    · simp at hz hu
      subst hz hu
      unfold pFk
      by_cases hp : ps = []
      · rw [if_pos hp, if_pos hp]; exact renV_pure rfl
      · rw [if_neg hp, if_neg hp]; exact ⟨h2 hp, rfl, rfl, rfl⟩
    · simp only [List.getElem?_cons_succ] at hz hu
      rw [hz] at hu
      injection hu with hu
      subst hu
      have hz2 := List.mem_of_getElem? hz
      have hp : (V.Q d).pure = true := rfl
      have : pureA z = true := List.all_eq_true.1 hp z hz2
      refine renV_pure ?_
      unfold V.pure
      rw [V.atoms_single (atoms_single_mem hz2)]
      simpa using this
theorem syH_ren {θ : List Nat} {H : Hp} {m k k0 o0 : Nat} {ps : List Nat} {d : Rat} (h0 : θ[0]? = some 0) (h1 : θ[1]? = some o0) (h2 : ps ≠ [] → θ[k]? = some k0 ∧ H k0 = pBk ps) (hH : H 0 = some (syO o0 m (pFk k0 ps) d)) : ∀ j x, syH k ps m d j = some x → RenBE θ j x H := fun j x hx => by
  unfold syH Hp.up at hx
  split at hx
  · rename_i e
    subst e
    injection hx with hx
    subst hx
    exact ⟨0, _, h0, hH, rfl, rfl, syB_ren h1 fun h => (h2 h).1⟩
  · unfold hbk at hx
    split at hx
    · rename_i e
      subst e
      by_cases hp : ps = []
      · unfold pBk at hx; rw [if_pos hp] at hx; cases hx
      · obtain ⟨g1, g2⟩ := h2 hp
        rw [hx] at g2
        refine ⟨k0, x, g1, g2, rfl, rfl, .of (renL_refl ?_)⟩
        unfold pBk at hx
        rw [if_neg hp] at hx
        injection hx with hx
        subst hx
        exact nats_pure ps
    · cases hx
theorem syH_closed {n m k : Nat} {ps : List Nat} {d : Rat} (h1 : 1 < n) (hk : k < n) (hk0 : k ≠ 0) : ClosedH n (syH k ps m d) := fun j x hx => by
  have hr : ∀ j, j < n → (List.range n)[j]? = some j := fun j hj => List.getElem?_range hj
  obtain ⟨k0, y, e1, e2, e3, e4, e5⟩ := syH_ren (θ := List.range n) (H := syH k ps m d) (k := k) (k0 := k) (ps := ps) (m := m) (d := d) (hr 0 (by omega)) (hr 1 h1) (fun h => ⟨hr k hk, by
    unfold syH Hp.up
    rw [if_neg hk0]; exact if_pos rfl⟩) rfl j x hx
  have hj : j < n := by
    have := (List.getElem?_eq_some_iff.1 e1).1
    simpa using this
  rw [hr j hj] at e1
  injection e1 with e1
  subst e1
  rw [hx] at e2
  injection e2 with e2
  subst e2
  exact ⟨hj, e5⟩
set_option maxRecDepth 8000 in
set_option maxHeartbeats 4000000 in
theorem pivot_H {w n c S : Nat} {M : List (List Rat)} {d : Rat} {ps : List Nat} (hpl : ps.length ≤ 1000000) (hM : M.length ≤ 1000000) (hn : n < M.length) (hc : c < w) (hw : w ≤ 1000000) (hW : Wid w M) (h0 : ent M n c ≠ 0)
    (hS : ∀ i k, qs (ent M i k) ≤ S) (hS1 : S ≤ 1000000000000) (hd : qs d ≤ 1000000000000) :
    HCall Tryz.prog 43 [.ptr 0 6 0 0, .raw (.int .i64 (n : Nat)), .raw (.int .i64 (c : Nat))] (matH 1 3 40 36 w M (syH 2 ps M.length d)) (rid 3 M.length) 1 .any
      (matH 1 3 40 36 w (pvt M n c) (syH 2 (ps ++ [c]) M.length (d * ent M n c))) (rid 3 M.length) := by
  have T := (tabs mixed (tbl_cons qMul_C (tbl_cons whole_C (tbl_cons qDiv_C (tbl_cons qSign_C tbl_nil)))))
  refine HCall.of Tryz.func43 rfl (by kernel_rfl) Tryz.ntmps43 Tryz.results43 (by simp) ?_
  obtain ⟨R, eR⟩ : ∃ R, M.getD n [] = R := ⟨_, rfl⟩
  obtain ⟨m, em⟩ : ∃ m, M.length = m := ⟨_, rfl⟩
  have lR : R.length = w := by rw [← eR]; exact hW n hn
  have rN := matH_row (o := 1) (b := 3) (tO := 40) (t := 36) (w := w) (M := M) (H := syH 2 ps M.length d) (i := n) (by decide) hn
  have hcR : c < R.length := by omega
  obtain ⟨y, ey⟩ : ∃ y, cf R c = y := ⟨_, rfl⟩
  have hy0 : y ≠ 0 := by rw [← ey, ← eR]; exact h0
  have hyS : qs y ≤ 5000000000000 := by have := hS n c; rw [show ent M n c = y from by show cf (M.getD n []) c = y; rw [eR, ey]] at this; omega
  have hd5 : qs d ≤ 5000000000000 := by omega
  have c1 : 0 ≤ (n : Int) := by omega
  have c2 : 0 ≤ (c : Int) := by omega
  rw [eR, em] at rN
  rw [em] at hn hM ⊢
  obtain ⟨pF, epF⟩ : ∃ pF, pFk 2 ps = pF := ⟨_, rfl⟩
  obtain ⟨pb, epb⟩ : ∃ pb, pBk ps = pb := ⟨_, rfl⟩
  have eH : syH 2 ps m d = (hbk 2 pb).up 0 (some ⟨59, 6, [.agg [.sl 1 1 0 m, pF, .Q d]]⟩) := by unfold syH syB syO; rw [epF, epb]
  rw [eH] at rN ⊢
  obtain ⟨pa1, pa2⟩ : pF.atoms = [pF] ∧ pF.isAgg = false := by rw [← epF]; exact pFk_at 2 ps
  refine AWp.seq (vc_ok T _ _ _ ?_)
  simp only [go_sem, matH_lo, em, c1, c2, hn, hcR, rN, ey]
  refine ⟨by omega, by omega, AWp.seq (vc_ok T _ _ _ ?_)⟩
  simp only [go_sem, matH_lo, rid_nn, rid_nl, rid_rn, rid_nr, rid_rl, rid_lr, Nat.left_eq_add, Nat.add_eq_left, hd5, hyS, pa1, pa2]
  refine ⟨chk_map (rnm 3 m) (by simp only [List.map_cons, List.map_nil, mapF, rnm_row hn, rnm_new, rnm_lo, Nat.reduceLT, Nat.reduceAdd]; rfl), AWp.seq (vc_ok T _ _ _ ?_)⟩
  simp only [go_sem]
  refine AWp.seq (vc_ok T _ _ _ ?_)
  simp only [go_sem, matH_lo, rid_nn, rid_nl, rid_rn, rid_nr, rid_rl, rid_lr, Nat.left_eq_add, Nat.add_eq_left, c1, hn, em]
  refine ⟨by omega, AWp.seq (vc_ok T _ _ _ ?_)⟩
  have q1 : qs 1 ≤ 5000000000000 := Nat.le_trans qs_1 (by decide)
  have e1r : ((1 : Int) : Rat) = 1 := rfl
  have qinv : qs (1 / y) ≤ 5000000000000 := Nat.le_trans (qs_div 1 y) (by have := qs_1; have := hS n c; rw [show ent M n c = y from by show cf (M.getD n []) c = y; rw [eR, ey]] at this; omega)
  simp only [go_sem, matH_lo, rid_nn, rid_nl, rid_rn, rid_nr, rid_rl, rid_lr, Nat.left_eq_add, Nat.add_eq_left, hy0, hyS, q1, e1r, divR, qOk]
  refine ⟨chk_map (rnm 3 m) (by simp only [List.map_cons, List.map_nil, mapF, rnm_row hn, rnm_new, rnm_lo, Nat.reduceLT, Nat.reduceAdd]; rfl), ?_⟩
  have t7 : (thR [0, 1, rid 3 m + 30, rid 3 m + 38, rid 3 m + 90, rid 3 m + 91, 2] (rid 3) m)[rid 7 n]? = some (rid 3 n) := thR_row (θ := [0, 1, rid 3 m + 30, rid 3 m + 38, rid 3 m + 90, rid 3 m + 91, 2]) hn
  refine AWp.from (σ' := mkRB 1 1 7 40 36 w [(0, .ptr 0 6 0 0), (1, .raw (.int .i64 (n : Nat))), (2, .raw (.int .i64 (c : Nat))), (7, .clo (.func 64) [] []), (8, .ptr 2 1 0 0), (9, .ptr 3 4 0 0)] [(2, false, ⟨40, 1, [.sl (rid 7 n) 4 0 w]⟩), (3, true, ⟨36, 4, [.Q (1 / y)]⟩)] (syH 6 ps m (d * y)) M 87)
    (Wk.ofRB 1 [0, 1, rid 3 m + 30, rid 3 m + 38, rid 3 m + 90, rid 3 m + 91, 2] (rid 3) rfl (by decide) (fun k hk => by rw [show k = 0 by omega]; rfl) (thR_nodup (by simp [rid]) (fun a b ha hb e => by unfold rid at e; omega) (fun x hx i hi => by rw [em] at hi; simp [rid] at hx ⊢; omega)) ?_ ?_ ?_ ?_ ?_ ?_) ?_
  · simp only [go_sem]
  · simp only [go_sem, em]
  · simp only [go_sem, em, matH_lo, rid_nn, rid_nl, rid_rn, rid_nr, rid_rl, rid_lr, Nat.left_eq_add, Nat.add_eq_left, t7]
  · refine syH_ren (k := 6) (k0 := 2) rfl rfl (fun _ => ⟨rfl, ?_⟩) ?_
    · simp only [go_sem, matH_lo, rid_nn, rid_nl, epb]
    · simp only [go_sem, matH_lo, rid_nn, rid_nl, syB, syO, epF]
  · simp only [go_sem, matH_o, rid_nn, rid_nl, em]
    rfl
  · intro i hi
    rw [em] at hi
    have := matH_row (o := 1) (b := 3) (tO := 40) (t := 36) (w := w) (M := M) (H := (hbk 2 pb).up 0 (some ⟨59, 6, [.agg [.sl 1 1 0 m, pF, .Q d]]⟩)) (i := i) (by decide) (by omega)
    simp only [go_sem, rid_rn, rid_rl, rid_nn, hi, this]
  obtain ⟨B1, eB1⟩ : ∃ B1, mkHb (syH 6 ps m (d * y)) [(2, false, ⟨40, 1, [.sl (rid 7 n) 4 0 w]⟩), (3, true, ⟨36, 4, [.Q (1 / y)]⟩)] = B1 := ⟨_, rfl⟩
  have b2 : B1 2 = some ⟨40, 1, [.sl (rid 7 n) 4 0 w]⟩ := by rw [← eB1]; rfl
  have b3 : B1 3 = some ⟨36, 4, [.Q (1 / y)]⟩ := by rw [← eB1]; rfl
  have b0 : B1 0 = some (syB m (pFk 6 ps) (d * y)) := by rw [← eB1]; rfl
  have r7 : ∀ i, i < m → rid 7 i < rid 7 m := fun i hi => by unfold rid; omega
  have hr : ∀ k, k < 7 → (List.range (rid 7 m))[k]? = some k := fun k hk => List.getElem?_range (by unfold rid; omega)
  have hrn : ∀ i, i < m → (List.range (rid 7 m))[rid 7 i]? = some (rid 7 i) := fun i hi => List.getElem?_range (r7 i hi)
  have pQ : ∀ q : Rat, allPure [V.Q q] := fun q y hy => by
    rw [List.mem_singleton] at hy; subst hy; rfl
  have rSl : ∀ i, i < m → RenL (List.range (rid 7 m)) [V.sl (rid 7 i) 4 0 w] [V.sl (rid 7 i) 4 0 w] := fun j hj => ⟨rfl, fun i x y hx hy => by
    cases i with
    | succ i => simp at hx
    | zero =>
      simp only [List.getElem?_cons_zero, Option.some.injEq] at hx hy
      subst hx hy
      exact ⟨⟨hrn j hj, rfl, rfl, rfl⟩, rfl, fun h => by cases h⟩⟩
  have syC : ClosedH (rid 7 m) (syH 6 ps m (d * y)) := syH_closed (by unfold rid; omega) (by unfold rid; omega) (by decide)
  have B1c : ClosedH (rid 7 m) B1 := by
    rw [← eB1]
    exact closed_up (closed_up syC (by unfold rid; omega) (.of (renL_refl (pQ _)))) (by unfold rid; omega) (.of (rSl n hn))
  refine AWp.seq (AWp.regs ?_)
  unfold mkRB
  rw [eB1]
  refine RegI.cut T 0 3 rfl rfl (by decide) ?_
  simp only [go_sem, matH_lo, b2, b3]
  refine ⟨{ s := mkS [(0, .ptr 0 6 0 0), (1, .raw (.int .i64 (n : Nat))), (2, .raw (.int .i64 (c : Nat))), (7, .clo (.func 64) [] []), (8, .ptr 2 1 0 0), (9, .ptr 3 4 0 0), (46, .clo (.func 64) [] []), (47, .sl (rid 7 n) 4 0 w), (48, .clo (.func 65) [] [.ptr 2 1 0 0, .ptr 3 4 0 0])], H := matH 1 7 40 36 w M B1, n := rid 7 M.length, N := 87, m := 1 }, Wk.lowS (rid 7 M.length) rfl rfl rfl (by unfold rid; omega) ?_ ?_ (fun k hk => rfl), ?_⟩
  · rw [em]
    simp only [go_sem, hr, hrn, hn]
  · rw [em]; exact closed_mat (by unfold rid; omega) (by rw [em]; unfold rid; omega) B1c
  have each1 : HCall Tryz.prog 64 [.sl (rid 7 n) 4 0 w, .clo (.func 65) [] [.ptr 2 1 0 0, .ptr 3 4 0 0]] (matH 1 7 40 36 w M B1) (rid 7 M.length) 4 .any (matH 1 7 40 36 w (M.set n (mkr (fun k => cf R k * (1 / y)) w)) B1) (rid 7 M.length) := by
    refine each_H [2, 3] (by unfold rid; omega) (by decide) (by decide) (by rw [em]; exact B1c) ?_ (by omega) (by rw [eR]; exact lR) hw ?_ rfl ?_ fun n' k hn' hk => ?_
    · intro k h1 h2
      have : k = 0 ∨ k = 2 ∨ k = 3 := by omega
      rcases this with rfl | rfl | rfl
      · rw [b0]; rfl
      · rw [b2]; rfl
      · rw [b3]; rfl
    · intro θ h
      exact ⟨⟨h 2 (by simp), rfl, rfl, rfl⟩, ⟨h 3 (by simp), rfl, rfl, rfl⟩, trivial⟩
    · intro k hk
      simp only [List.mem_cons, List.not_mem_nil, or_false] at hk
      rcases hk with rfl | rfl
      · exact ⟨by unfold rid; omega, ⟨by decide, by omega⟩, by rw [b2]; rfl⟩
      · exact ⟨by unfold rid; omega, ⟨by decide, by omega⟩, by rw [b3]; rfl⟩
    · rw [em] at hn'
      rw [eR]
      obtain ⟨L, eL⟩ : ∃ L, mkr (fun j => if k + 1 ≤ j then cf R j * (1 / y) else cf R j) w = L := ⟨_, rfl⟩
      have lL : L.length = w := by rw [← eL, mkr_len]
      have cL : cf L k = cf R k := by rw [← eL, cf_mkr, if_pos hk, if_neg (by omega)]
      have hRk : qs (cf R k) ≤ 5000000000000 := by have := hS n k; rw [show ent M n k = cf R k from by show cf (M.getD n []) k = _; rw [eR]] at this; omega
      have hrow := matH_row (o := 1) (b := 7) (tO := 40) (t := 36) (w := w) (M := M.set n L) (H := B1) (i := n) (by decide) (by rw [List.length_set]; omega)
      rw [gd_set (by omega), if_pos rfl] at hrow
      have hcM : ClosedH (rid 7 m) (matH 1 7 40 36 w (M.set n L) B1) := closed_mat (by unfold rid; omega) (by rw [List.length_set, em]; unfold rid; omega) B1c
      have := cl2_H (k := k) (closed_mono hcM hn') (kp := 2) (ki := 3) (kr := rid 7 n) (by rw [matH_lo (by decide) (by decide)]; exact b2) (by rw [matH_lo (by decide) (by decide)]; exact b3) hrow lL hk (by unfold rid at hn'; omega) (by unfold rid at hn'; omega) (by have := r7 n hn; omega) (by rw [cL]; exact hRk) qinv
      rw [cL] at this
      rw [eL]
      exact this
  have eM1 : M.set n (mkr (fun k => cf R k * (1 / y)) w) = pvI M n c 0 := by
    rw [pvI_zero c (by omega)]
    unfold pvR rw1
    rw [eR, lR, show ent M n c = y from by show cf (M.getD n []) c = y; rw [eR, ey]]
  rw [eM1] at each1
  rw [em] at each1 ⊢
  refine RegI.callH (dst := some 49) 3 rfl rfl rfl rfl rfl rfl 4 (by show (1 : Nat) ≤ 4; decide) (liveTo_of fun k hk => by
    have hk : k < 1 := hk
    rw [show k = 0 by omega]
    show (matH 1 7 40 36 w M B1 0).isSome = true
    rw [matH_lo (by decide) (by decide), b0]; rfl) [(0, .ptr 0 6 0 0), (1, .raw (.int .i64 (n : Nat))), (2, .raw (.int .i64 (c : Nat))), (7, .clo (.func 64) [] []), (8, .ptr 2 1 0 0), (9, .ptr 3 4 0 0)] ?_ rfl (by show (49 : Nat) < 87; decide) each1 ?_
  · have lv : ∀ k, k < 4 → k ≠ 1 → (lvT 4 (matH 1 7 40 36 w M B1) (rid 7 m))[k]? = some k := fun k h1 h2 => by
      refine lvT_get h1 ?_
      rw [matH_lo h2 (by omega)]
      have : k = 0 ∨ k = 2 ∨ k = 3 := by omega
      rcases this with rfl | rfl | rfl
      · rw [b0]; rfl
      · rw [b2]; rfl
      · rw [b3]; rfl
    simp only [go_sem, lv]
  refine RegI.fin T 4 rfl ?_
  simp only [go_sem]
  obtain ⟨pF6, epF6⟩ : ∃ pF6, pFk 6 ps = pF6 := ⟨_, rfl⟩
  obtain ⟨pa3, pa4⟩ : pF6.atoms = [pF6] ∧ pF6.isAgg = false := by rw [← epF6]; exact pFk_at 6 ps
  have b0' := b0
  unfold syB syO at b0'
  rw [epF6] at b0'
  have len : ∀ i, (pvI M n c i).length = m := fun i => by rw [pvI_len, em]
  have b6 : B1 6 = pBk ps := by rw [← eB1]; rfl
  refine vc_ok T _ _ _ ?_
  simp only [go_sem, matH_lo, b0', pa3, pa4]
  refine AWp.loops (X := { i : Nat // i ≤ m }) (fun i => { s := mkS [(0, .ptr 0 6 0 0), (1, .raw (.int .i64 (n : Nat))), (2, .raw (.int .i64 (c : Nat))), (7, .clo (.func 64) [] []), (8, .ptr 2 1 0 0), (53, .sl 1 1 0 m), (54, .raw (.int .i64 (m : Nat))), (55, .raw (.int .i64 (i.1 : Nat)))], H := matH 1 7 40 36 w (pvI M n c i.1) B1, n := rid 7 m, N := 87, m := 1 }) (fun i => m - i.1) ⟨0, Nat.zero_le _⟩ (Wk.lowS (rid 7 m) rfl rfl rfl (by unfold rid; omega) ?_ (closed_mat (by unfold rid; omega) (by rw [len]; unfold rid; omega) B1c) (fun k hk => rfl)) ?_
  · simp only [go_sem, hr]
    trace_state
  rintro ⟨i, hi⟩
  refine AWp.seq (vc_ok T _ _ _ ?_)
  by_cases hin : i < m
  · have d1 : (i : Int) < (m : Int) := by omega
    have d2 : 0 ≤ (i : Int) := by omega
    have d4 : (i : Int) + 1 = ((i + 1 : Nat) : Int) := by omega
    simp only [go_sem, d1]
    refine AWp.seq (vc_ok T _ _ _ ?_)
    simp only [go_sem]
    refine AWp.seq (AWp.block (AWp.seq (vc_ok T _ _ _ ?_)))
    simp only [go_sem, matH_o, len, hin, d2, rid_nn, rid_nl, rid_rn, rid_nr, rid_rl, rid_lr]
    obtain ⟨ri, eri⟩ : ∃ l, (pvI M n c i).getD i [] = l := ⟨_, rfl⟩
    have lri : ri.length = w := by rw [← eri]; exact pvt_wid hW (by omega) i (by rw [len]; exact hin)
    have hrow := matH_row (o := 1) (b := 7) (tO := 40) (t := 36) (w := w) (M := pvI M n c i) (H := B1) (i := i) (by decide) (by rw [len]; exact hin)
    rw [eri] at hrow
    obtain ⟨f, ef⟩ : ∃ f, cf ri c = f := ⟨_, rfl⟩
    have hcr : c < ri.length := by omega
    refine ⟨by omega, AWp.seq (vc_ok T _ _ _ ?_)⟩
    simp only [go_sem, matH_lo, rid_nn, rid_nl, rid_rn, rid_nr, rid_rl, rid_lr, Nat.left_eq_add, Nat.add_eq_left, hin, c2, hrow, hcr, ef]
    refine ⟨by omega, AWp.seq (vc_ok T _ _ _ ?_)⟩
    by_cases hne : i = n
    · subst hne
      have d3 : ((i : Int) != (i : Int)) = false := by simp
      simp only [go_sem, matH_lo, rid_nn, rid_nl, rid_rn, rid_nr, rid_rl, rid_lr, Nat.left_eq_add, Nat.add_eq_left, d3]
      refine AWp.cond (t := false) rfl ⟨fun h => (by cases h), fun _ => vc_ok T _ _ _ ?_⟩
      simp only [go_sem]
      refine vc_ok T _ _ _ ?_
      simp only [go_sem, d4]
      refine ⟨⟨by omega, by omega⟩, ⟨i + 1, hin⟩, Wk.lowS (rid 7 m) rfl rfl rfl (by unfold rid; omega) ?_ (closed_mat (by unfold rid; omega) (by rw [len]; unfold rid; omega) B1c) (fun k hk => ?_), by simp only; omega⟩
      · simp only [go_sem, hr]
      · simp only [up_far hk, up_far0 hk]
        rw [pvI_self]
    · have d3 : ((i : Int) != (n : Int)) = true := by simp; omega
      have eri2 : M.getD i [] = ri := by rw [← eri, pvI_get (by omega), if_neg hne, if_neg (by omega)]
      have ef2 : ent M i c = f := by show cf (M.getD i []) c = f; rw [eri2, ef]
      by_cases hf0 : f = 0
      · have d5 : (sgI f.num != 0) = false := by rw [sgI_z, hf0]; rfl
        simp only [go_sem, matH_lo, rid_nn, rid_nl, rid_rn, rid_nr, rid_rl, rid_lr, Nat.left_eq_add, Nat.add_eq_left, d3, d5]
        refine AWp.cond (t := false) rfl ⟨fun h => (by cases h), fun _ => vc_ok T _ _ _ ?_⟩
        simp only [go_sem]
        refine vc_ok T _ _ _ ?_
        simp only [go_sem, d4]
        refine ⟨⟨by omega, by omega⟩, ⟨i + 1, hin⟩, Wk.lowS (rid 7 m) rfl rfl rfl (by unfold rid; omega) ?_ (closed_mat (by unfold rid; omega) (by rw [len]; unfold rid; omega) B1c) (fun k hk => ?_), by simp only; omega⟩
        · simp only [go_sem, hr]
        · simp only [up_far hk, up_far0 hk]
          rw [pvI_skip (by omega) (by rw [ef2]; exact hf0)]
      · have d5 : (sgI f.num != 0) = true := by rw [sgI_z]; simp [hf0]
        simp only [go_sem, matH_lo, rid_nn, rid_nl, rid_rn, rid_nr, rid_rl, rid_lr, Nat.left_eq_add, Nat.add_eq_left, d3, d5]
        refine AWp.cond (t := true) rfl ⟨fun _ => AWp.regs ?_, fun h => by cases h⟩
        refine RegI.cut T 0 3 rfl rfl (by decide) ?_
        simp only [go_sem, matH_lo, rid_nn, rid_nl, rid_rn, rid_nr, rid_rl, rid_lr, Nat.left_eq_add, Nat.add_eq_left]
        obtain ⟨B2, eB2⟩ : ∃ B2, (B1.up (rid 7 m + 4) (some ⟨40, 1, [.sl (rid 7 i) 4 0 w]⟩)).up (rid 7 m + 11) (some ⟨36, 4, [.Q f]⟩) = B2 := ⟨_, rfl⟩
        have eH2 : ((((matH 1 7 40 36 w (pvI M n c i) B1).up (rid 7 m + 4) (some ⟨40, 1, [.raw (.slice none 0 0)]⟩)).up (rid 7 m + 4) (some ⟨40, 1, [.sl (rid 7 i) 4 0 w]⟩)).up (rid 7 m + 11) (some ⟨36, 4, [.agg [.raw (.bool false), .raw (.slice none 0 0), .raw (.bool false), .raw (.slice none 0 0)]]⟩)).up (rid 7 m + 11) (some ⟨36, 4, [.Q f]⟩) = matH 1 7 40 36 w (pvI M n c i) B2 := by
          rw [up_up, up_up, matH_out (by unfold rid; omega) (by rw [len]; unfold rid; omega), matH_out (by unfold rid; omega) (by rw [len]; unfold rid; omega), eB2]
        have hrg : ∀ k, k < rid 7 m + 24 → (List.range (rid 7 m + 24))[k]? = some k := fun k hk => List.getElem?_range hk
        have ri24 : rid 7 i < rid 7 m + 24 := by have := r7 i hin; omega
        have s24 : ∀ k, k < 7 → k < rid 7 m + 24 := fun k hk => by unfold rid; omega
        have B2c : ClosedH (rid 7 m + 24) B2 := by
          rw [← eB2]
          refine closed_up (closed_up (closed_mono B1c (by omega)) (by omega) (.of ⟨rfl, fun j x y hx hy => ?_⟩)) (by omega) (.of (renL_refl (pQ _)))
          cases j with
          | succ j => simp at hx
          | zero =>
            simp only [List.getElem?_cons_zero, Option.some.injEq] at hx hy
            subst hx hy
            exact ⟨⟨hrg _ ri24, rfl, rfl, rfl⟩, rfl, fun h => by cases h⟩
        have B2lo : ∀ k, k < 7 → B2 k = B1 k := fun k hk => by
          rw [← eB2, up_far (n := rid 7 m) (by unfold rid; omega), up_far (n := rid 7 m) (by unfold rid; omega)]
        have B2q : B2 (rid 7 m + 4) = some ⟨40, 1, [.sl (rid 7 i) 4 0 w]⟩ := by
          rw [← eB2]
          unfold Hp.up
          rw [if_neg (by omega), if_pos rfl]
        have B2f : B2 (rid 7 m + 11) = some ⟨36, 4, [.Q f]⟩ := by
          rw [← eB2]
          unfold Hp.up
          rw [if_pos rfl]
        refine ⟨{ s := mkS [(0, .ptr 0 6 0 0), (1, .raw (.int .i64 (n : Nat))), (2, .raw (.int .i64 (c : Nat))), (7, .clo (.func 64) [] []), (8, .ptr 2 1 0 0), (53, .sl 1 1 0 m), (54, .raw (.int .i64 (m : Nat))), (55, .raw (.int .i64 (i : Nat))), (72, .clo (.func 64) [] []), (73, .sl (rid 7 i) 4 0 w), (74, .clo (.func 66) [] [.ptr (rid 7 m + 4) 1 0 0, .ptr (rid 7 m + 11) 4 0 0, .ptr 2 1 0 0])], H := matH 1 7 40 36 w (pvI M n c i) B2, n := rid 7 m + 24, N := 87, m := 1 }, Wk.lowS (rid 7 m + 24) rfl rfl rfl (by omega) ?_ (closed_mat (by unfold rid; omega) (by rw [len]; unfold rid; omega) B2c) (fun k hk => congrFun eH2 k), ?_⟩
        · have x1 := hrg (rid 7 i) ri24
          have x2 := hrg (rid 7 m + 4) (by omega)
          have x3 := hrg (rid 7 m + 11) (by omega)
          have x4 := hrg 2 (s24 2 (by decide))
          have x5 := hrg 1 (s24 1 (by decide))
          have x6 := hrg 0 (s24 0 (by decide))
          generalize List.range (rid 7 m + 24) = θ at x1 x2 x3 x4 x5 x6 ⊢
          simp only [go_sem, x1, x2, x3, x4, x5, x6]
        obtain ⟨P, eP⟩ : ∃ P, pvR M n c = P := ⟨_, rfl⟩
        have lP : P.length = w := by rw [← eP]; unfold pvR; rw [rw1_len, eR]; exact lR
        have cP : ∀ k, cf P k = cf R k * (1 / y) := fun k => by
          rw [← eP]; unfold pvR
          rw [cf_rw1, eR, show ent M n c = y from by show cf (M.getD n []) c = y; rw [eR, ey]]
        have gP : (pvI M n c i).getD n [] = P := by rw [pvI_get (by omega), if_pos rfl, eP]
        have each2 : HCall Tryz.prog 64 [.sl (rid 7 i) 4 0 w, .clo (.func 66) [] [.ptr (rid 7 m + 4) 1 0 0, .ptr (rid 7 m + 11) 4 0 0, .ptr 2 1 0 0]] (matH 1 7 40 36 w (pvI M n c i) B2) (rid 7 m + 24) 4 .any (matH 1 7 40 36 w ((pvI M n c i).set i (mkr (fun k => cf ri k - f * cf P k) w)) B2) (rid 7 m + 24) := by
          refine each_H [rid 7 m + 4, rid 7 m + 11, 2] (by rw [len]; unfold rid; omega) (by decide) (by decide) B2c ?_ (by rw [len]; exact hin) (by rw [eri]; exact lri) hw ?_ rfl ?_ fun n' k hn' hk => ?_
          · intro k h1 h2
            rw [B2lo k (by omega)]
            have : k = 0 ∨ k = 2 ∨ k = 3 := by omega
            rcases this with rfl | rfl | rfl
            · rw [b0]; rfl
            · rw [b2]; rfl
            · rw [b3]; rfl
          · intro θ h
            exact ⟨⟨h _ (by simp), rfl, rfl, rfl⟩, ⟨h _ (by simp), rfl, rfl, rfl⟩, ⟨h 2 (by simp), rfl, rfl, rfl⟩, trivial⟩
          · intro k hk
            simp only [List.mem_cons, List.not_mem_nil, or_false] at hk
            rcases hk with rfl | rfl | rfl
            · exact ⟨by omega, ⟨by unfold rid; omega, by rw [len]; unfold rid; omega⟩, by rw [B2q]; rfl⟩
            · exact ⟨by omega, ⟨by unfold rid; omega, by rw [len]; unfold rid; omega⟩, by rw [B2f]; rfl⟩
            · exact ⟨s24 2 (by decide), ⟨by decide, by omega⟩, by rw [B2lo 2 (by decide), b2]; rfl⟩
          · rw [eri]
            obtain ⟨L, eL⟩ : ∃ L, mkr (fun j => if k + 1 ≤ j then cf ri j - f * cf P j else cf ri j) w = L := ⟨_, rfl⟩
            have lL : L.length = w := by rw [← eL, mkr_len]
            have cL : cf L k = cf ri k := by rw [← eL, cf_mkr, if_pos hk, if_neg (by omega)]
            have z1 : qs (cf ri k) ≤ S := by have := hS i k; rwa [show ent M i k = cf ri k from by show cf (M.getD i []) k = _; rw [eri2]] at this
            have z2 : qs f ≤ S := by rw [← ef2]; exact hS i c
            have z3 : qs (cf R k) ≤ S := by have := hS n k; rwa [show ent M n k = cf R k from by show cf (M.getD n []) k = _; rw [eR]] at this
            have z4 : qs (1 / y) ≤ 1 + S := Nat.le_trans (qs_div 1 y) (by have := qs_1; have := hS n c; rw [show ent M n c = y from by show cf (M.getD n []) c = y; rw [eR, ey]] at this; omega)
            have z5 : qs (cf P k) ≤ S + (1 + S) := by rw [cP]; exact Nat.le_trans (qs_mul _ _) (by omega)
            have z6 : qs (f * cf P k) ≤ S + (S + (1 + S)) := Nat.le_trans (qs_mul _ _) (by omega)
            have len2 : ((pvI M n c i).set i L).length = m := by rw [List.length_set, len]
            have hr1 := matH_row (o := 1) (b := 7) (tO := 40) (t := 36) (w := w) (M := (pvI M n c i).set i L) (H := B2) (i := i) (by decide) (by rw [len2]; exact hin)
            rw [gd_set (by rw [len]; exact hin), if_pos rfl] at hr1
            have hr2 := matH_row (o := 1) (b := 7) (tO := 40) (t := 36) (w := w) (M := (pvI M n c i).set i L) (H := B2) (i := n) (by decide) (by rw [len2]; exact hn)
            rw [gd_set (by rw [len]; exact hin), if_neg (fun e => hne e.symm), gP] at hr2
            have hcM : ClosedH (rid 7 m + 24) (matH 1 7 40 36 w ((pvI M n c i).set i L) B2) := closed_mat (by unfold rid; omega) (by rw [len2]; unfold rid; omega) B2c
            have far : ∀ k, k ≠ 1 → ¬ (7 ≤ k ∧ k < 7 + m) → matH 1 7 40 36 w ((pvI M n c i).set i L) B2 k = B2 k := fun k h1 h2 => by
              unfold matH
              rw [if_neg h1, if_neg (by rw [len2]; exact h2)]
            have := cl3_H (k := k) (closed_mono hcM hn') (kq := rid 7 m + 4) (kf := rid 7 m + 11) (kp := 2) (ks := rid 7 i) (kr := rid 7 n) (by rw [far _ (by unfold rid; omega) (by unfold rid; omega)]; exact B2q) (by rw [far _ (by unfold rid; omega) (by unfold rid; omega)]; exact B2f) (by rw [far 2 (by decide) (by omega), B2lo 2 (by decide)]; exact b2) hr1 hr2 lP lL hk (by omega) (by omega) (by have := s24 2 (by decide); omega) (by omega) (by have := r7 n hn; omega) (by rw [cL]; omega) (by omega) (by omega) (by omega)
            rw [cL] at this
            rw [eL]
            exact this
        have eM2 : (pvI M n c i).set i (mkr (fun k => cf ri k - f * cf P k) w) = pvI M n c (i + 1) := by
          rw [pvI_succ c (by omega) hne, eri2, eP, ef2]
          unfold rw2
          rw [lri]
        rw [eM2] at each2
        refine RegI.callH (dst := some 75) 3 rfl rfl rfl rfl rfl rfl 4 (by show (1 : Nat) ≤ 4; decide) (liveTo_of fun k hk => by
          have hk : k < 1 := hk
          rw [show k = 0 by omega]
          show (matH 1 7 40 36 w (pvI M n c i) B2 0).isSome = true
          rw [matH_lo (by decide) (by decide), B2lo 0 (by decide), b0]; rfl) [(0, .ptr 0 6 0 0), (1, .raw (.int .i64 (n : Nat))), (2, .raw (.int .i64 (c : Nat))), (7, .clo (.func 64) [] []), (8, .ptr 2 1 0 0), (53, .sl 1 1 0 m), (54, .raw (.int .i64 (m : Nat))), (55, .raw (.int .i64 (i : Nat)))] ?_ rfl (by show (75 : Nat) < 87; decide) each2 ?_
        · have lv : ∀ k, k < 4 → k ≠ 1 → (lvT 4 (matH 1 7 40 36 w (pvI M n c i) B2) (rid 7 m + 24))[k]? = some k := fun k h1 h2 => by
            refine lvT_get h1 ?_
            rw [matH_lo h2 (by omega), B2lo k (by omega)]
            have : k = 0 ∨ k = 2 ∨ k = 3 := by omega
            rcases this with rfl | rfl | rfl
            · rw [b0]; rfl
            · rw [b2]; rfl
            · rw [b3]; rfl
          have lv1 : (lvT 4 (matH 1 7 40 36 w (pvI M n c i) B2) (rid 7 m + 24))[1]? = some 1 := lvT_get (by decide) (by rw [matH_o]; rfl)
          generalize lvT 4 (matH 1 7 40 36 w (pvI M n c i) B2) (rid 7 m + 24) = θ at lv lv1 ⊢
          simp only [go_sem, lv, lv1]
        refine RegI.fin T 4 rfl ?_
        simp only [go_sem]
        refine vc_ok T _ _ _ ?_
        simp only [go_sem, d4]
        refine ⟨⟨by omega, by omega⟩, ⟨i + 1, hin⟩, Wk.lowS (rid 7 m) rfl rfl rfl (by unfold rid; omega) ?_ (closed_mat (by unfold rid; omega) (by rw [len]; unfold rid; omega) B1c) (fun k hk => ?_), by simp only; omega⟩
        · simp only [go_sem, hr]
        · show matH 1 7 40 36 w (pvI M n c (i + 1)) B2 k = matH 1 7 40 36 w (pvI M n c (i + 1)) B1 k
          unfold matH
          rw [← eB2, up_far hk, up_far hk]
  · obtain rfl : m = i := by omega
    have d1 : ¬ (m : Int) < (m : Int) := by omega
    have mx : maxLen = 9223372036854775807 := by decide
    have ey2 : ent M n c = y := by show cf (M.getD n []) c = y; rw [eR, ey]
    have hne : ps ++ [c] ≠ [] := by simp
    have epv : pvt M n c = pvI M n c m := by unfold pvt; rw [em]
    have fin : ∀ σ : St, (87 = σ.N ∧ σ.m = 1 ∧ σ.q = false) → σ.H 0 = some ⟨59, 6, [.agg [.sl 1 1 0 m, .sl (rid 7 m + 8) 1 0 (ps.length + 1), .Q (d * y)]]⟩ → σ.H (rid 7 m + 8) = some ⟨3, 1, V.nats (ps ++ [c])⟩ → σ.H 1 = some ⟨40, 1, V.rwI 7 w m⟩ → (∀ i, i < m → σ.H (rid 7 i) = some ⟨36, 4, V.rats ((pvI M n c m).getD i [])⟩) →
        Wk σ { s := fun _ => .any, H := matH 1 3 40 36 w (pvt M n c) (syH 2 (ps ++ [c]) m (d * ent M n c)), n := rid 3 m, N := σ.N, m := 1 } := fun σ k0 k1 k2 k3 k4 => by
      have hw := Wk.ofRB (σ := σ) (ss := []) (hs := []) (base := syH 2 (ps ++ [c]) m (d * y)) (M := pvI M n c m) (N := 87) (tO := 40) (t := 36) (w := w) (o := 1) (b := 3) 1 [0, 1, rid 7 m + 8] (rid 7) rfl (by decide) (fun k hk => by rw [show k = 0 by omega]; rfl) (thR_nodup (by simp [rid]) (fun a b ha hb e => by unfold rid at e; omega) (fun x hx i hi => by rw [len] at hi; simp [rid] at hx ⊢; omega)) k0 trivial trivial (syH_ren (k := 2) (k0 := rid 7 m + 8) rfl rfl (fun _ => ⟨rfl, by rw [k2]; unfold pBk; rw [if_neg hne]⟩) (by rw [k1]; unfold syO pFk; rw [if_neg hne, List.length_append]; rfl)) (by rw [len]; exact k3) (fun i hi => k4 i (by rw [len] at hi; exact hi))
      unfold mkRB at hw
      rw [len] at hw
      rw [epv, ey2, ← k0.1]
      exact hw
    have hrw := fun i (hi : i < m) => matH_row (o := 1) (b := 7) (tO := 40) (t := 36) (w := w) (M := pvI M n c m) (H := B1) (i := i) (by decide) (by rw [len]; exact hi)
    simp only [go_sem, d1]
    refine vc_ok T _ _ _ ?_
    by_cases hps : ps = []
    · have e6 : pF6 = .raw (.slice none 0 0) := by rw [← epF6, hps]; rfl
      rw [e6] at b0'
      simp only [go_sem, matH_lo, b0', mx]
      refine fin _ ⟨rfl, rfl, rfl⟩ ?_ ?_ ?_ fun i hi => ?_
      · simp only [go_sem, rid_nn, rid_nl, hps]
      · simp only [go_sem, rid_nn, rid_nl, hps]
        rfl
      · simp only [go_sem, rid_nn, rid_nl, matH_o, len]
      · simp only [go_sem, rid_rn, rid_rl, hi, hrw]
    · have e6 : pF6 = .sl 6 1 0 ps.length := by rw [← epF6]; exact if_neg hps
      have b6' : B1 6 = some ⟨3, 1, V.nats ps⟩ := by rw [b6]; exact if_neg hps
      have ln : (V.nats ps).length = ps.length := by simp [V.nats]
      have tk : (V.nats ps).take ps.length ++ [.raw (.int .i64 (c : Nat))] = V.nats (ps ++ [c]) := by rw [List.take_of_length_le (by omega)]; simp [V.nats]
      rw [e6] at b0'
      simp only [go_sem, matH_lo, b0', b6', mx, ln]
      refine ⟨⟨by omega, by omega⟩, fin _ ⟨rfl, rfl, rfl⟩ ?_ ?_ ?_ fun i hi => ?_⟩
      · simp only [go_sem, rid_nn, rid_nl]
      · simp only [go_sem, rid_nn, rid_nl, tk]
      · simp only [go_sem, rid_nn, rid_nl, matH_o, len]
      · simp only [go_sem, rid_rn, rid_rl, hi, hrw]
end Go.Proofs.YtjjebokgckmnjaaGreat


/- Contracts: lists of numbers, clones, zeros. -/
namespace Go.Proofs.YtjjebokgckmnjaaGreat
set_option linter.unusedSimpArgs false
set_option linter.unusedVariables false
open Go.RowKit

@[go_sem] theorem nats_len (l : List Nat) : (V.nats l).length = l.length := by simp [V.nats]
@[go_sem] theorem nats_pure' (l : List Nat) : allPure (V.nats l) = True := eq_true (nats_pure l)
@[go_sem] theorem nats_wid (l : List Nat) : allWid (V.nats l) 1 = True := eq_true fun y hy => by
  obtain ⟨p, _, rfl⟩ := List.mem_map.1 hy
  rfl
@[go_sem] theorem nats_frz (l : List Nat) : frzOk (V.nats l) = True := eq_true (frzOk_map (fun a => ⟨rfl, by simp, by simp⟩) l)
@[go_sem ↓, go_sem] theorem ev_nats_get {l : List Nat} {i : Nat} {k : V → Prop} : optC (V.nats l)[i]? k = (i < l.length ∧ k (.raw (.int .i64 ((pv l i : Nat) : Int)))) := by
  unfold V.nats pv
  rw [List.getElem?_map, List.getD_eq_getElem?_getD]
  by_cases h : i < l.length
  · simp [List.getElem?_eq_getElem h, optC, h]
  · simp [List.getElem?_eq_none (Nat.le_of_not_lt h), optC, h]
def unnat : List V → Option (List Nat)
  | [] => some []
  | .raw (.int .i64 (.ofNat n)) :: l => (unnat l).map (n :: ·)
  | _ => none
theorem unnat_ok : ∀ (l : List V) (m : List Nat), unnat l = some m → l = V.nats m
  | [], m, h => by injection h with h; subst h; rfl
  | x :: l, m, h => by
    unfold unnat at h
    split at h
    · rename_i e; cases e
    · rename_i n l' e
      injection e with e1 e2
      subst e1 e2
      rcases hm : unnat l with _ | m' <;> rw [hm] at h
      · cases h
      · injection h with h
        subst h
        rw [unnat_ok l m' hm]
        rfl
    · cases h
@[go_sem ↓, go_sem] theorem unnat_nats : ∀ l : List Nat, unnat (V.nats l) = some l
  | [] => rfl
  | x :: l => by
    show (unnat (V.nats l)).map (x :: ·) = _
    rw [unnat_nats l]; rfl
@[go_sem ↓, go_sem] theorem unnat_nil : unnat [] = some [] := rfl
/-- A list of natural numbers. -/
def pNs : Pat (List Nat) where
  p
    | .lst l => (unnat l).map fun m => (True, m)
    | .raw (.slice none 0 0) => some (True, [])
    | .emp => some (True, [])
    | _ => none
  val l := .lst (V.nats l)
  ok x c a h hc := by
    split at h
    · rename_i l
      rcases hm : unnat l with _ | m <;> rw [hm] at h
      · cases h
      · injection h with h; injection h with h1 h2; subst h2
        rw [unnat_ok l m hm]; exact .refl _
    · injection h with h; injection h with h1 h2; subst h2; exact .inr (.inr ⟨rfl, rfl, rfl, rfl⟩)
    · injection h with h; injection h with h1 h2; subst h2; exact .inr (.inr ⟨rfl, rfl, rfl⟩)
    · cases h
@[go_sem ↓, go_sem] theorem ev_pNs {l : List V} : pNs.p (.lst l) = (unnat l).map fun m => (True, m) := rfl
@[go_sem ↓, go_sem] theorem ev_pNs_nil : pNs.p (.raw (.slice none 0 0)) = some (True, []) := rfl
@[go_sem ↓, go_sem] theorem ev_pNs_emp : pNs.p .emp = some (True, []) := rfl
@[go_sem ↓, go_sem] theorem ev_pNs_mk {l : List Nat} : pNs.val l = .lst (V.nats l) := rfl
/-- The place of a number. -/
def idxZ (z : Int) : List Nat → Int → Int
  | [], _ => -1
  | n :: l, i => if z = (n : Int) then i else idxZ z l (i + 1)
theorem idxZ_ge {z : Int} : ∀ (l : List Nat) (i : Int), 0 ≤ i → (0 ≤ idxZ z l i ↔ ∃ n ∈ l, z = ((n : Nat) : Int))
  | [], i, _ => by simp [idxZ]
  | n :: l, i, hi => by
    unfold idxZ
    split
    · rename_i h
      exact ⟨fun _ => ⟨n, by simp, h⟩, fun _ => hi⟩
    · rename_i h
      rw [idxZ_ge l (i + 1) (by omega)]
      constructor
      · rintro ⟨k, h1, h2⟩; exact ⟨k, by simp [h1], h2⟩
      · rintro ⟨k, h1, h2⟩
        rcases List.mem_cons.1 h1 with rfl | h1
        · exact absurd h2 h
        · exact ⟨k, h1, h2⟩
def kIndex : Con := con2 pNs (pN .i64) fun l z => (l.length ≤ 1000000, .raw (.int .i64 (idxZ z l 0)))
attribute [go_sem ↓, go_sem] kIndex
theorem index_C : Ctr Tryz.prog 58 kIndex := Ctr.c2 (by kernel_rfl) fun l z hl => by
  show PCall _ _ _ (.raw (.int .i64 (idxZ z l 0)))
  have hl : l.length ≤ 1000000 := hl
  have T := (tabs mixed tbl_nil)
  refine PCall.of_vc T Tryz.func58 rfl Tryz.ntmps58 Tryz.results58 (by simp) ?_
  simp only [go_sem]
  refine AWp.loops (X := { i : Nat // i ≤ l.length ∧ idxZ z l 0 = idxZ z (l.drop i) (i : Int) }) (fun i => mkSt [(0, .lst (V.nats l)), (1, .raw (.int .i64 z)), (7, .raw (.int .i64 (l.length : Nat))), (8, .raw (.int .i64 (i.1 : Nat)))] [] 0 19) (fun i => l.length - i.1) ⟨0, Nat.zero_le _, rfl⟩ (Wk.of [] (by decide) ?_) ?_
  · simp only [go_sem, Int.natCast_zero]
  rintro ⟨i, hi, inv⟩
  refine vc_at T ?_
  by_cases hin : i < l.length
  · have d1 : (i : Int) < (l.length : Int) := by omega
    have d2 : (i : Int) + 1 = ((i + 1 : Nat) : Int) := by omega
    have d3 : 0 ≤ (i : Int) := by omega
    have hd : l.drop i = pv l i :: l.drop (i + 1) := by
      rw [List.drop_eq_getElem_cons hin]
      unfold pv
      rw [List.getD_eq_getElem?_getD, List.getElem?_eq_getElem hin]; rfl
    rw [hd, idxZ] at inv
    by_cases hz : z = ((pv l i : Nat) : Int)
    · have d4 : (z == ((pv l i : Nat) : Int)) = true := by simp [hz]
      rw [if_pos hz] at inv
      simp only [go_sem, d1, d2, d3, d4, hin, inv]
      trace_state
    · have d4 : (z == ((pv l i : Nat) : Int)) = false := by simp [hz]
      rw [if_neg hz] at inv
      simp only [go_sem, d1, d2, d3, d4, hin]
      refine ⟨⟨by omega, by omega⟩, ⟨i + 1, hin, by rw [inv]; rfl⟩, Wk.of [] (by decide) ?_, by simp only; omega⟩
      simp only [go_sem]
  · obtain rfl : i = l.length := by omega
    have d1 : ¬ (l.length : Int) < (l.length : Int) := by omega
    rw [List.drop_length] at inv
    simp only [go_sem, d1, inv, idxZ]
def kContains : Con := con2 pNs (pN .i64) fun l z => (l.length ≤ 1000000, .raw (.bool (decide (0 ≤ idxZ z l 0))))
attribute [go_sem ↓, go_sem] kContains
theorem contains_C : Ctr Tryz.prog 38 kContains := Ctr.c2 (by kernel_rfl) fun l z hl => by
  have hl : l.length ≤ 1000000 := hl
  refine PCall.of_vc (tabs mixed (tbl_cons index_C tbl_nil)) Tryz.func38 rfl Tryz.ntmps38 Tryz.results38 (by simp) ?_
  simp only [go_sem, hl]
  trace_state
def wdt (M : List (List Rat)) : Nat := (M.getD 0 []).length
def kWidth : Con := con1 pMt fun M => (M.length ≤ 1000000, .raw (.int .i64 (wdt M : Nat)))
attribute [go_sem ↓, go_sem] kWidth
theorem width_C : Ctr Tryz.prog 24 kWidth := Ctr.c1 (by kernel_rfl) fun M hl => by
  have hl : M.length ≤ 1000000 := hl
  refine PCall.of_vc (tabs mixed tbl_nil) Tryz.func24 rfl Tryz.ntmps24 Tryz.results24 (by simp) ?_
  by_cases h0 : M.length = 0
  · have d1 : ((M.length : Int) == 0) = true := by simp [h0]
    have e0 : wdt M = 0 := by rw [List.eq_nil_of_length_eq_zero h0]; rfl
    simp only [go_sem, d1, e0, Int.natCast_zero]
  · have d1 : ((M.length : Int) == 0) = false := by rw [beq_eq_false_iff_ne]; omega
    have h1 : 0 < M.length := by omega
    have e0 : (M.getD 0 []).length = wdt M := rfl
    simp only [go_sem, d1, h1, e0]
    omega
def kQClo : FCon := con1 pR fun l => (l ≠ [] ∧ l.length ≤ 1000000, ⟨36, 4, V.rats l⟩)
attribute [go_sem ↓, go_sem] kQClo
theorem qclo_V (x : Rat) (l : List Rat) (h1 : l.length ≤ 1000000) : FCall Tryz.prog 34 [.lst (V.rats (x :: l))] ⟨36, 4, V.rats (x :: l)⟩ := by
  refine FCall.of_vc (tabs mixed tbl_nil) Tryz.func34 rfl Tryz.ntmps34 Tryz.results34 (by simp) ?_
  have e1 : V.rats (x :: l) = .Q x :: V.rats l := rfl
  rw [e1]
  have e2 : maxLen = 9223372036854775807 := by decide
  simp only [go_sem, List.take_length, e2]
  exact ⟨⟨_, rfl⟩, by omega, ⟨5, rfl, rfl⟩⟩
theorem qclo_C : FCtr Tryz.prog 34 kQClo := FCtr.c1 (by kernel_rfl) fun l h => by
  obtain ⟨h1, h2⟩ := h
  cases l with
  | nil => exact absurd rfl h1
  | cons x l => exact qclo_V x l (by simp at h2; omega)
def kQClo0 : Con := con1 pR fun l => (l = [], .lst [])
attribute [go_sem ↓, go_sem] kQClo0
theorem qclo0_C : Ctr Tryz.prog 34 kQClo0 := Ctr.c1 (by kernel_rfl) fun l h => by
  have h : l = [] := h
  subst h
  show PCall _ _ [.lst []] (.lst [])
  refine PCall.lst0 fun A c => ?_
  have e2 : maxLen = 9223372036854775807 := by decide
  cases A with
  | none =>
    refine PCall.of_vc (tabs mixed tbl_nil) Tryz.func34 rfl Tryz.ntmps34 Tryz.results34 (by simp) ?_
    simp only [go_sem, e2]
    exact ⟨_, rfl⟩
  | some A =>
    refine PCall.of_vc (tabs mixed tbl_nil) Tryz.func34 rfl Tryz.ntmps34 Tryz.results34 (by simp) ?_
    simp only [go_sem, e2]
    exact ⟨_, rfl⟩
def kZeros : FCon := con1 (pN .i64) fun n => (0 < n ∧ n ≤ 1000000, ⟨36, 4, V.rats (List.replicate n.toNat 0)⟩)
attribute [go_sem ↓, go_sem] kZeros
theorem zeros_C : FCtr Tryz.prog 31 kZeros := FCtr.c1 (by kernel_rfl) fun n h => by
  obtain ⟨h1, h2⟩ := h
  refine FCall.of_vc (tabsX mixed (tbl_cons whole_C tbl_nil) (xtb_cons repeat_C xtb_nil)) Tryz.func31 rfl Tryz.ntmps31 Tryz.results31 (by simp) ?_
  have e0 : ((0 : Int) : Rat) = 0 := rfl
  simp only [go_sem, h1, h2, e0]
  exact ⟨4, rfl, rfl⟩
end Go.Proofs.YtjjebokgckmnjaaGreat

