/- Texts MC8 MC9 in one. -/
import Derived.Test.YtjjebokgckmnjaaR29
import Derived.Test.YtjjebokgckmnjaaR21
/- Contracts: Solve. -/
namespace Go.Proofs.Ytjjebokgckmnjaa
set_option linter.unusedSimpArgs false
set_option linter.unusedVariables false
open Go.RowKit

set_option maxRecDepth 8000 in
theorem repeat0_V (q : Rat) : PCall Try.prog 56 [.lst [.Q q], .raw (.int .i64 0)] (.lst []) := by
  have T := (tabs mixed (tbl_cons mulU_C tbl_nil))
  refine PCall.of_awp Try.func56 rfl Try.ntmps56 Try.results56 (by simp) ?_
  have c1 : ¬ (0 : Int) < 0 := by omega
  have c2 : ¬ (9223372036854775807 : Int) < 0 := by omega
  have w1 : (0 : Int) % 18446744073709551616 = 0 := by omega
  have w3 : IntKind.i64.wrap (0 : Int) = 0 := by decide
  refine AWp.seq (vc_ok T _ _ _ ?_)
  simp only [go_sem, c1, c2, w1, w3]
  refine AWp.seq (vc_ok T _ _ _ ?_)
  simp only [go_sem, c1, c2, w1, w3]
  refine AWp.seq (vc_ok T _ _ _ ?_)
  simp only [go_sem, c1, c2, w1, w3]
  refine AWp.seq (vc_ok T _ _ _ ?_)
  simp only [go_sem, c1, c2, w1, w3]
  refine AWp.seq (vc_ok T _ _ _ ?_)
  simp only [go_sem, c1, c2, w1, w3]
  refine AWp.seq (AWp.regs ?_)
  refine RegI.cut T 0 2 rfl rfl (by decide) ?_
  simp only [go_sem]
  refine ⟨_, Wk.refl _, ?_⟩
  obtain ⟨i, zv, g1, g2, g3⟩ := tyZero_inv (P := Try.prog) tyZ41
  refine RegI.op (dst := some 33) 2 rfl rfl (fun c h => by cases h) (.raw (.int .i64 0)) [] rfl (by show (33 : Nat) < 48; decide) (fun B A W a w ρ st hs => copy0_ok hs rfl rfl rfl rfl g1) ?_
  refine RegI.fin T 3 rfl ?_
  simp only [go_sem]
  refine vc_ok T _ _ _ ?_
  simp only [go_sem]
  refine AWp.loops (X := Unit) (fun _ => mkSt [(4, .raw (.slice none 0 0)), (7, .sl 0 4 0 0), (8, .raw (.int .i64 0))] [(0, true, ⟨41, 4, []⟩)] 1 48) (fun _ => 0) () (Wk.of [22] (by decide) ?_) ?_
  · simp only [go_sem]
  rintro ⟨⟩
  refine vc_at T ?_
  simp only [go_sem, c1]
def kRep0 : Con := con2 pR (pN .i64) fun l n => (l.length = 1 ∧ n = 0, .lst [])
attribute [go_sem ↓, go_sem] kRep0
theorem repeat0_C : Ctr Try.prog 56 kRep0 := Ctr.c2 (by kernel_rfl) fun l n h => by
  obtain ⟨h1, h2⟩ := h
  subst h2
  have e : pR.val l = (.lst [.Q (cf l 0)] : V) := by
    show V.lst (V.rats l) = V.lst [.Q (cf l 0)]
    rw [one_list h1]
    rfl
  rw [e]
  exact repeat0_V _
def kZero0 : Con := con1 (pN .i64) fun n => (n = 0, .lst [])
attribute [go_sem ↓, go_sem] kZero0
theorem zeros0_C : Ctr Try.prog 39 kZero0 := Ctr.c1 (by kernel_rfl) fun n h => by
  have h : n = 0 := h
  subst h
  refine PCall.of_vc (tabs mixed (tbl_cons whole_C (tbl_cons repeat0_C tbl_nil))) Try.func39 rfl Try.ntmps39 Try.results39 (by simp) ?_
  have e0 : ((0 : Int) : Rat) = 0 := rfl
  simp only [go_sem, e0]
def SolOk (M : List (List Rat)) (b : List Rat) : Prop := (b.length = M.length ∧ M.length ≤ 400) ∧ ∃ S, (Wid (wdt M) M ∧ wdt M ≤ 400) ∧ (∀ i k, qs (ent (exM M b) i k) ≤ S) ∧ sS S (wdt M) ≤ 1000000000000 ∧ dS S (wdt M) ≤ 1000000000000
def solV (M : List (List Rat)) (b : List Rat) : V := match slF M b (wdt M) with
  | some i => .tup [.lst [], .lst (V.rats (slW M b (wdt M) i)), .raw (.bool false)]
  | none => .tup [.lst (V.rats (slX M b (wdt M))), .lst [], .raw (.bool true)]
def kSolve : Con := con2 pMt pR fun M b => (SolOk M b, solV M b)
attribute [go_sem ↓, go_sem] kSolve
@[go_sem] theorem renV_pel {θ : List Nat} {x : V} : RenV θ (.pel x) (.pel x) = True := eq_true (renV_pure rfl)
theorem unmat_cons (r : List Rat) (l : List V) : unmat (.lst (V.rats r) :: l) = (unmat l).map fun s => r :: s := by
  rw [unmat, unrat_rats]; rfl
@[go_sem ↓, go_sem] theorem unmat_nil : unmat [] = some [] := rfl
/-- The state of the first loop. -/
def slS (M : List (List Rat)) (b : List Rat) (w c : Nat) (N : List (List Rat)) : St :=
  { s := mkS [(0, .lst (V.mat M)), (1, .lst (V.rats b)), (7, .raw (.int .i64 (w : Nat))), (8, nlV N), (22, .lst (V.mat M)), (23, .raw (.int .i64 (M.length : Nat))), (24, .raw (.int .i64 (c : Nat)))], H := (if N = [] then fun _ => none else mkH [(0, true, ⟨33, 1, V.mat N⟩)]), n := (if N = [] then 0 else 1), N := 128 }
theorem slS_cons {M N : List (List Rat)} {b : List Rat} {w c : Nat} (h : N ≠ []) : slS M b w c N = mkSt [(0, .lst (V.mat M)), (1, .lst (V.rats b)), (7, .raw (.int .i64 (w : Nat))), (8, .sl 0 1 0 N.length), (22, .lst (V.mat M)), (23, .raw (.int .i64 (M.length : Nat))), (24, .raw (.int .i64 (c : Nat)))] [(0, true, ⟨33, 1, V.mat N⟩)] 1 128 := by
  unfold slS nlV mkSt
  rw [if_neg h, if_neg h, if_neg h]
theorem solve_nil : PCall Try.prog 18 [.lst (V.mat []), .lst (V.rats [])] (solV [] []) := by
  have e : solV [] [] = .tup [.lst [], .lst [], .raw (.bool true)] := rfl
  rw [e]
  have T := (tabs mixed (tbl_cons width_C (tbl_cons reduce_C (tbl_cons zeros0_C tbl_nil))))
  have hred0 : RedOk [] 0 := ⟨⟨by decide, by decide⟩, 0, 1, ⟨fun i h => absurd h (Nat.not_lt_zero _), by decide, by decide⟩, fun i k => qs_0, by decide, by decide⟩
  refine PCall.of_vc T Try.func18 rfl Try.ntmps18 Try.results18 (by simp) ?_
  have eM0 : V.mat [] = [] := rfl
  have eb0 : V.rats [] = [] := rfl
  have ew0 : ((wdt [] : Nat) : Int) = 0 := rfl
  have el0 : ([] : List (List Rat)).length ≤ 1000000 := by decide
  rw [eM0, eb0]
  have k1 : ¬ (0 : Int) < 0 := by decide
  simp only [go_sem, ew0, el0]
  refine AWp.loops (X := Unit) (fun _ => mkSt [(7, .raw (.int .i64 0)), (8, .raw (.slice none 0 0)), (23, .raw (.int .i64 0)), (24, .raw (.int .i64 0))] [] 0 128) (fun _ => 0) () (Wk.of [] (by decide) ?_) ?_
  · simp only [go_sem]
  rintro ⟨⟩
  refine vc_at T ?_
  have er : elm [] 0 = ⟨[], [], 1⟩ := rfl
  have eN0 : V.nats [] = [] := rfl
  have et0 : (0 : Int).toNat = 0 := rfl
  simp only [go_sem, k1, hred0, et0, er, redV, eM0, eN0]
  refine ⟨by rfl, ?_⟩
  refine AWp.loops (X := Unit) (fun _ => mkSt [(7, .raw (.int .i64 0)), (12, .pel (.agg [.lst [], .lst [], .Q 1])), (61, .lst []), (62, .raw (.int .i64 0)), (63, .raw (.int .i64 0))] [] 0 128) (fun _ => 0) () (Wk.of [] (by decide) ?_) ?_
  · simp only [go_sem]
  rintro ⟨⟩
  refine vc_at T ?_
  simp only [go_sem, k1]
  refine AWp.loops (X := Unit) (fun _ => mkSt [(17, .lst []), (107, .raw (.int .i64 0)), (108, .raw (.int .i64 0))] [] 0 128) (fun _ => 0) () (Wk.of [] (by decide) ?_) ?_
  · simp only [go_sem]
  rintro ⟨⟩
  refine vc_at T ?_
  simp only [go_sem, k1]
  trace_state
def dvS (L : List Rat) (y : Rat) (m i : Nat) : List Rat := mkr (fun k => if k < i then cf L k / y else cf L k) m
theorem dvS_set {L : List Rat} {y : Rat} {m i : Nat} (hi : i < m) : (dvS L y m i).set i (cf L i / y) = dvS L y m (i + 1) := by
  unfold dvS
  refine l_ext (by rw [List.length_set, mkr_len, mkr_len]) fun k hk => ?_
  rw [List.length_set, mkr_len] at hk
  rw [cf_setL (by rw [mkr_len]; exact hi), cf_mkr, cf_mkr, if_pos hk, if_pos hk]
  by_cases e : k = i
  · rw [if_pos e, if_pos (by omega), e]
  · rw [if_neg e]
    by_cases h : k < i
    · rw [if_pos h, if_pos (by omega)]
    · rw [if_neg h, if_neg (by omega)]
set_option maxRecDepth 8000 in
set_option maxHeartbeats 4000000 in
theorem solve_C : Ctr Try.prog 18 kSolve := Ctr.c2 (by kernel_rfl) fun M b h => by
  obtain ⟨⟨hb, hm⟩, S, ⟨hW, hw⟩, hS, hS1, hd1⟩ := h
  show PCall _ _ [.lst (V.mat M), .lst (V.rats b)] (solV M b)
  by_cases hMn : M = []
  · subst hMn
    have hb0 : b = [] := List.eq_nil_of_length_eq_zero hb
    subst hb0
    exact solve_nil
  have mx : maxLen = 9223372036854775807 := by decide
  have e1r : ((1 : Int) : Rat) = 1 := rfl
  have T := (tabsX mixed (tbl_cons width_C (tbl_cons whole_C (tbl_cons reduce_C (tbl_cons qSign_C (tbl_cons qDiv_C tbl_nil))))) (xtb_cons zeros_C (xtb_cons concat_C (xtb_cons qclo_C xtb_nil))))
  refine PCall.of_awp Try.func18 rfl Try.ntmps18 Try.results18 (by simp) ?_
  have hm2 : M.length ≤ 1000000 := by omega
  obtain ⟨w, ew⟩ : ∃ w, wdt M = w := ⟨_, rfl⟩
  unfold solV
  rw [ew] at hW hw hS1 hd1 ⊢
  refine AWp.seq (vc_ok T _ _ _ ?_)
  simp only [go_sem]
  refine AWp.seq (vc_ok T _ _ _ ?_)
  simp only [go_sem, hm2, ew]
  refine AWp.seq (vc_ok T _ _ _ ?_)
  simp only [go_sem]
  refine AWp.seq (AWp.seq (vc_ok T _ _ _ ?_))
  simp only [go_sem]
  refine AWp.block ?_
  have lE := exM_len M b
  have lT : ∀ i, i ≤ M.length → ((exM M b).take i).length = i := fun i hi => by rw [List.length_take, lE]; omega
  have eT : ∀ i, i < M.length → (exM M b).take i ++ [exR M b i] = (exM M b).take (i + 1) := fun i hi => by
    unfold exM mkm
    rw [← List.map_take, ← List.map_take, List.take_range, List.take_range, Nat.min_eq_left (by omega), Nat.min_eq_left (by omega), List.range_succ, List.map_append]
    rfl
  refine AWp.loops (X := { i : Nat // i ≤ M.length }) (fun i => slS M b w i.1 ((exM M b).take i.1)) (fun i => M.length - i.1) ⟨0, Nat.zero_le _⟩ ?_ ?_
  · refine (Wk.of (ss := [(0, .lst (V.mat M)), (1, .lst (V.rats b)), (7, .raw (.int .i64 (w : Nat))), (8, .raw (.slice none 0 0)), (22, .lst (V.mat M)), (23, .raw (.int .i64 (M.length : Nat))), (24, .raw (.int .i64 0))]) (hs := []) (n := 0) (N := 128) [] (by decide) ?_)
    simp only [go_sem]
  rintro ⟨i, hi⟩
  refine AWp.endFrzU 8 ?_
  have hl := lT i hi
  by_cases hin : i < M.length
  · have hl2 := lT (i + 1) hin
    have en := eT i hin
    have d1 : (i : Int) < (M.length : Int) := by omega
    have d2 : (i : Int) + 1 = ((i + 1 : Nat) : Int) := by omega
    have d3 : 0 ≤ (i : Int) := by omega
    have d4 : (0 : Int) < (M.length : Int) := by omega
    have d5 : (M.length : Int) ≤ 1000000 := by omega
    obtain ⟨r, er⟩ : ∃ r, M.getD i [] = r := ⟨_, rfl⟩
    have lr : r.length = w := by rw [← er]; exact hW i hin
    cases i with
    | zero =>
      refine AWp.seq (vc_ok T _ _ _ ?_)
      rw [show slS M b w 0 ((exM M b).take 0) = mkSt [(0, .lst (V.mat M)), (1, .lst (V.rats b)), (7, .raw (.int .i64 (w : Nat))), (8, .raw (.slice none 0 0)), (22, .lst (V.mat M)), (23, .raw (.int .i64 (M.length : Nat))), (24, .raw (.int .i64 ((0 : Nat) : Int)))] [] 0 128 from rfl]
      unfold mkSt
      simp only [go_sem, d1, d4]
      refine AWp.seq (vc_ok T _ _ _ ?_)
      simp only [go_sem]
      refine AWp.seq (AWp.block (AWp.seq (vc_ok T _ _ _ ?_)))
      simp only [go_sem, d3, hin, er]
      refine ⟨by omega, AWp.seq (vc_ok T _ _ _ ?_)⟩
      simp only [go_sem, d4, d5]
      refine AWp.seq (vc_ok T _ _ _ ?_)
      simp only [go_sem, d3, hin, e1r]
      refine ⟨by omega, ?_⟩
      refine AWp.frzS 11 ?_
      have lu : ((List.replicate M.length (0 : Rat)).set 0 1).length = M.length := by simp
      have tku : (V.rats ((List.replicate M.length (0 : Rat)).set 0 1)).take M.length = V.rats ((List.replicate M.length (0 : Rat)).set 0 1) := List.take_of_length_le (by rw [rats_len, lu]; exact Nat.le_refl _)
      simp only [go_sem, lu, tku]
      refine vc_ok T _ _ _ ?_
      have tb : b.take 1 = [cf b 0] := by
        show (b.drop 0).take 1 = _
        rw [List.drop_eq_getElem_cons (by omega), List.take_succ_cons, List.take_zero, ← cf_lt]
      have fl : [r, [cf b 0], (List.replicate M.length (0 : Rat)).set 0 1].flatten = exR M b 0 := by
        unfold exR unR
        rw [er]
        simp
      have lx : (exR M b 0).length = w + 1 + M.length := by
        have := exM_wid hW b 0 (by rw [lE]; exact hin)
        unfold exM at this
        rw [gd_mkm, if_pos hin] at this
        exact this
      have hcat : CatOk [r, [cf b 0], (List.replicate M.length (0 : Rat)).set 0 1] := ⟨by rw [fl, lx]; omega, by show 3 ≤ 1000; decide⟩
      have tkx : (V.rats (exR M b 0)).take (w + 1 + M.length) = V.rats (exR M b 0) := List.take_of_length_le (by rw [rats_len, lx]; exact Nat.le_refl _)
      have hbw : (∀ y ∈ V.rats b, y.atoms.length = 4) = True := rats_wid b
      skip
      simp only [go_sem, d2, hb, tb, unmat_cons, unmat_nil, hcat, fl, lx, mx, hbw]
      refine ⟨by omega, vc_ok T _ _ _ ?_⟩
      simp only [go_sem]
      simp only [go_sem, ev_frzU_n, lx, tkx]
      refine ⟨⟨1, by omega⟩, ?_, by simp only; omega⟩
      have eN : (exM M b).take 1 = [exR M b 0] := by rw [← en]; rfl
      show Wk _ (slS M b w 1 ((exM M b).take 1))
      rw [eN, slS_cons (by simp)]
      refine Wk.of [26] (by decide) ?_
      have e9 : V.mat [exR M b 0] = [.lst (V.rats (exR M b 0))] := rfl
      have e8 : [exR M b 0].length = 1 := rfl
      simp only [go_sem, e8, e9]
    | succ i =>
      refine AWp.seq (vc_ok T _ _ _ ?_)
      have hne : (exM M b).take (i + 1) ≠ [] := fun e => by rw [e] at hl; simp at hl
      rw [slS_cons hne]
      unfold mkSt
      simp only [go_sem, d1, d4]
      refine AWp.seq (vc_ok T _ _ _ ?_)
      simp only [go_sem]
      refine AWp.seq (AWp.block (AWp.seq (vc_ok T _ _ _ ?_)))
      simp only [go_sem, d3, hin, er]
      refine ⟨by omega, AWp.seq (vc_ok T _ _ _ ?_)⟩
      simp only [go_sem, d4, d5]
      refine AWp.seq (vc_ok T _ _ _ ?_)
      simp only [go_sem, d3, hin, e1r]
      refine ⟨by omega, ?_⟩
      refine AWp.frzS 11 ?_
      have lu : ((List.replicate M.length (0 : Rat)).set (i + 1) 1).length = M.length := by simp
      have tku : (V.rats ((List.replicate M.length (0 : Rat)).set (i + 1) 1)).take M.length = V.rats ((List.replicate M.length (0 : Rat)).set (i + 1) 1) := List.take_of_length_le (by rw [rats_len, lu]; exact Nat.le_refl _)
      simp only [go_sem, lu, tku]
      refine vc_ok T _ _ _ ?_
      have tb : (b.drop (i + 1)).take (i + 1 + 1 - (i + 1)) = [cf b (i + 1)] := by
        rw [show i + 1 + 1 - (i + 1) = 1 from by omega]
        rw [List.drop_eq_getElem_cons (by omega), List.take_succ_cons, List.take_zero, ← cf_lt]
      have fl : [r, [cf b (i + 1)], (List.replicate M.length (0 : Rat)).set (i + 1) 1].flatten = exR M b (i + 1) := by
        unfold exR unR
        rw [er]
        simp
      have lx : (exR M b (i + 1)).length = w + 1 + M.length := by
        have := exM_wid hW b (i + 1) (by rw [lE]; exact hin)
        unfold exM at this
        rw [gd_mkm, if_pos hin] at this
        exact this
      have hcat : CatOk [r, [cf b (i + 1)], (List.replicate M.length (0 : Rat)).set (i + 1) 1] := ⟨by rw [fl, lx]; omega, by show 3 ≤ 1000; decide⟩
      have tkx : (V.rats (exR M b (i + 1))).take (w + 1 + M.length) = V.rats (exR M b (i + 1)) := List.take_of_length_le (by rw [rats_len, lx]; exact Nat.le_refl _)
      have hbw : (∀ y ∈ V.rats b, y.atoms.length = 4) = True := rats_wid b
      have mn : min (i + 1) (exM M b).length = i + 1 := by rw [lE]; omega
      have tkk : ((exM M b).take (i + 1)).take (i + 1) = (exM M b).take (i + 1) := by rw [List.take_take, Nat.min_self]
      simp only [go_sem, d2, hb, tb, unmat_cons, unmat_nil, hcat, fl, lx, mx, hbw, mn, tkk]
      refine ⟨⟨by omega, by omega⟩, ⟨by omega, by omega, by omega⟩, ⟨by omega, by omega⟩, vc_ok T _ _ _ ?_⟩
      simp only [go_sem, d2]
      refine ⟨⟨by omega, by omega⟩, ?_⟩
      simp only [go_sem, ev_frzU_n, frz_mat_snocA, lx, tkx, mat_snoc, en]
      refine ⟨⟨i + 1 + 1, by omega⟩, ?_, by simp only; omega⟩
      have hne2 : (exM M b).take (i + 1 + 1) ≠ [] := fun e => by rw [e] at hl2; simp at hl2
      show Wk _ (slS M b w (i + 1 + 1) ((exM M b).take (i + 1 + 1)))
      rw [slS_cons hne2, hl2]
      refine Wk.of [27] (by decide) ?_
      simp only [go_sem]
  · obtain rfl : i = M.length := by omega
    have d1 : ¬ (M.length : Int) < (M.length : Int) := by omega
    have tkE : (exM M b).take M.length = exM M b := List.take_of_length_le (by omega)
    have hred : RedOk (exM M b) (w : Nat) := ⟨⟨by omega, by omega⟩, w + 1 + M.length, S, ⟨exM_wid hW b, by omega, by omega⟩, hS, hS1, hd1⟩
    have hE := elm_EI (exM_wid hW b) w
    obtain ⟨z1, z2⟩ := elm_sz (exM_wid hW b) hS w
    have eE : elm (exM M b) w = slE M b w := rfl
    rw [tkE]
    refine AWp.seq (vc_ok T _ _ _ ?_)
    by_cases hM : M = []
    · exact absurd hM hMn
    · have hne : exM M b ≠ [] := fun e => hM (List.eq_nil_of_length_eq_zero (by rw [← lE, e]; rfl))
      rw [slS_cons hne]
      unfold mkSt
      simp only [go_sem, d1]
      refine AWp.seq (vc_ok T _ _ _ ?_)
      simp only [go_sem]
      refine AWp.seq (vc_ok T _ _ _ ?_)
      have tkE2 : (V.mat (exM M b)).take (exM M b).length = V.mat (exM M b) := List.take_of_length_le (by rw [mat_len]; exact Nat.le_refl _)
      simp only [go_sem, hred, tkE2, Int.toNat_natCast, eE]
      unfold slF slW slX
      rw [eE] at hE z1 z2
      generalize slE M b w = s at hE z1 z2
      obtain ⟨l1, l2, l3, l4, l5, -, -, -⟩ := hE
      obtain ⟨E, p, d⟩ := s
      simp only at l1 l2 l3 l4 l5 z1 z2 ⊢
      rw [lE] at l1 l3
      obtain ⟨m, em⟩ : ∃ m, M.length = m := ⟨_, rfl⟩
      have hm0 : 0 < m := by rw [← em]; exact List.length_pos_iff.2 hM
      rw [em] at l1 l2 l3 hm ⊢
      obtain ⟨np, enp⟩ : ∃ np, p.length = np := ⟨_, rfl⟩
      rw [enp] at l3 l4 l5
      refine AWp.seq (AWp.seq (vc_ok T _ _ _ ?_))
      unfold redV
      have dl : (E.drop np).length = m - np := by rw [List.length_drop, l1]
      have gd : ∀ j, (E.drop np).getD j [] = E.getD (np + j) [] := fun j => by rw [List.getD_eq_getElem?_getD, List.getD_eq_getElem?_getD, List.getElem?_drop]
      have ed : (V.mat E).drop np = V.mat (E.drop np) := by simp [V.mat]
      have et : (V.mat (E.drop np)).take (m - np) = V.mat (E.drop np) := List.take_of_length_le (by rw [mat_len, dl]; exact Nat.le_refl _)
      simp only [go_sem, enp, l1, ed, et]
      refine ⟨⟨by omega, by omega, by omega⟩, fun _ => of_eq_true (mat_wid E), by rfl, ?_⟩
      refine AWp.block ?_
      refine AWp.loops (X := { j : Nat // j ≤ m - np ∧ ∀ k, np ≤ k → k < np + j → ent E k w = 0 }) (fun j => mkSt [(7, .raw (.int .i64 (w : Nat))), (12, .pel (.agg [.lst (V.mat E), .lst (V.nats p), .Q d])), (61, .lst (V.mat (E.drop np))), (62, .raw (.int .i64 ((m - np : Nat) : Int))), (63, .raw (.int .i64 (j.1 : Nat)))] [] 0 128) (fun j => m - np - j.1) ⟨0, Nat.zero_le _, fun k h1 h2 => by omega⟩ (Wk.of [] (by decide) ?_) ?_
      · simp only [go_sem, Int.natCast_zero]
      rintro ⟨j, hj, hjz⟩
      refine AWp.seq (vc_at T ?_)
      by_cases hjn : j < m - np
      · have f1 : (j : Int) < ((m - np : Nat) : Int) := by omega
        have f2 : 0 ≤ (j : Int) := by omega
        have f3 : (j : Int) + 1 = ((j + 1 : Nat) : Int) := by omega
        have f4 : (w : Int) + 1 = ((w + 1 : Nat) : Int) := by omega
        have f5 : 0 ≤ (w : Int) := by omega
        obtain ⟨r, er⟩ : ∃ r, E.getD (np + j) [] = r := ⟨_, rfl⟩
        have lr : r.length = w + 1 + m := by rw [← er]; exact l2 (np + j) (by omega)
        have gr : (E.drop np).getD j [] = r := by rw [gd, er]
        obtain ⟨y, ey⟩ : ∃ y, cf r w = y := ⟨_, rfl⟩
        have ey2 : ent E (np + j) w = y := by show cf (E.getD (np + j) []) w = y; rw [er, ey]
        have hwr : w < r.length := by omega
        simp only [go_sem, f1]
        refine AWp.seq (vc_ok T _ _ _ ?_)
        simp only [go_sem]
        refine AWp.seq (AWp.block (AWp.seq (vc_ok T _ _ _ ?_)))
        simp only [go_sem, f2, dl, hjn, gr]
        refine ⟨by omega, AWp.seq (vc_ok T _ _ _ ?_)⟩
        by_cases hy : y = 0
        · have g2 : (sgI y.num == 0) = true := by rw [hy]; rfl
          simp only [go_sem, f5, hwr, ey, g2]
          refine ⟨by omega, vc_ok T _ _ _ ?_⟩
          simp only [go_sem, f3]
          refine ⟨⟨by omega, by omega⟩, ⟨j + 1, by omega, fun k h1 h2 => ?_⟩, Wk.of [] (by decide) ?_, by simp only; omega⟩
          · by_cases e : k = np + j
            · rw [e, ey2, hy]
            · exact hjz k h1 (by omega)
          · simp only [go_sem]
        · have g2 : (sgI y.num == 0) = false := by
            have := sgI_z y
            rw [show (!decide (y = 0)) = true by simp [hy]] at this
            simpa using this
          simp only [go_sem, f5, hwr, ey, g2]
          obtain ⟨L, eL⟩ : ∃ L, r.drop (w + 1) = L := ⟨_, rfl⟩
          have lL : L.length = m := by rw [← eL, List.length_drop]; omega
          have cL : ∀ k, cf L k = ent E (np + j) (w + 1 + k) := fun k => by
            rw [← eL]
            show _ = cf (E.getD (np + j) []) (w + 1 + k)
            rw [er]
            unfold cf
            rw [List.getD_eq_getElem?_getD, List.getD_eq_getElem?_getD, List.getElem?_drop]
          have hLn : L ≠ [] := fun e => by rw [e] at lL; simp at lL; omega
          have hLl : L.length ≤ 1000000 := by omega
          have tR : L.take (r.length - (w + 1)) = L := List.take_of_length_le (by rw [lL]; omega)
          have mR : min (r.length - (w + 1)) (r.length - (w + 1)) = m := by rw [Nat.min_self, lr]; omega
          have nR : r.length - (w + 1) = m := by omega
          have wR : (∀ y ∈ V.rats r, y.atoms.length = 4) = True := rats_wid r
          refine ⟨by omega, AWp.seq (vc_ok T _ _ _ ?_)⟩
          simp only [go_sem, f4, Int.toNat_natCast, eL, tR, mR, wR, hLn, hLl, lL]
          refine ⟨⟨by omega, by omega⟩, ⟨by omega, by omega, by omega⟩, by omega, ?_⟩
          refine AWp.seq (AWp.seq (vc_ok T _ _ _ ?_))
          simp only [go_sem]
          refine AWp.block ?_
          have q1 : qs y ≤ 5000000000000 := by have := z1 (np + j) w; rw [ey2] at this; omega
          refine AWp.loops (X := { i : Nat // i ≤ m }) (fun i => mkSt [(7, .raw (.int .i64 (w : Nat))), (14, .lst (V.rats r)), (15, .sl 0 4 0 m), (79, .raw (.int .i64 (m : Nat))), (80, .raw (.int .i64 (i.1 : Nat)))] [(0, true, ⟨41, 4, V.rats (dvS L y m i.1)⟩)] 1 128) (fun i => m - i.1) ⟨0, Nat.zero_le _⟩ (Wk.of [14] (by decide) ?_) ?_
          · have e0 : dvS L y m 0 = L := mkr_eq lL fun k hk => if_neg (Nat.not_lt_zero k)
            simp only [go_sem, e0, Int.natCast_zero]
          rintro ⟨i, hi⟩
          refine vc_at T ?_
          have li : (dvS L y m i).length = m := mkr_len _ _
          by_cases him : i < m
          · have k1 : (i : Int) < (m : Int) := by omega
            have k2 : 0 ≤ (i : Int) := by omega
            have k3 : (i : Int) + 1 = ((i + 1 : Nat) : Int) := by omega
            have k4 : cf (dvS L y m i) i = cf L i := by unfold dvS; rw [cf_mkr, if_pos him, if_neg (Nat.lt_irrefl i)]
            have q2 : qs (cf L i) ≤ 5000000000000 := by rw [cL]; have := z1 (np + j) (w + 1 + i); omega
            have k5 := dvS_set (L := L) (y := y) him
            simp only [go_sem, k1, k2, k3, k4, f5, hwr, ey, him, li, q1, q2, hy, divR, qOk, k5]
            refine ⟨by omega, by rfl, ⟨by omega, by omega⟩, ⟨i + 1, him⟩, Wk.of [0] (by decide) ?_, by simp only; omega⟩
            simp only [go_sem]
          · obtain rfl : m = i := by omega
            have k1 : ¬ (m : Int) < (m : Int) := by omega
            have hs2 : srF E np w = some (np + j) := srF_is (by omega) (by omega) (by rw [ey2]; exact hy) fun k h1 h2 => hjz k h1 h2
            have eW : dvS L y m m = mkr (fun k => ent E (np + j) (w + 1 + k) / ent E (np + j) w) m := by
              unfold dvS
              exact mkr_congr fun k hk => by rw [if_pos hk, cL, ey2]
            simp only [go_sem, k1]
            refine vc_ok T _ _ _ ?_
            rw [enp, hs2]
            simp only [← eW]
            obtain ⟨D, eD⟩ : ∃ D, dvS L y m m = D := ⟨_, rfl⟩
            rw [eD] at li
            have tkm : D.take m = D := List.take_of_length_le (by omega)
            have mm : m ≤ m := Nat.le_refl m
            simp only [go_sem, eD, li, tkm, mm]
      · obtain rfl : j = m - np := by omega
        have f1 : ¬ ((m - np : Nat) : Int) < ((m - np : Nat) : Int) := by omega
        have hs2 : srF E np w = none := srF_no fun k h1 h2 => hjz k h1 (by omega)
        rw [enp, hs2]
        simp only [go_sem, f1]
        refine AWp.seq (vc_ok T _ _ _ ?_)
        simp only [go_sem]
        by_cases hw0 : w = 0
        · have np0 : np = 0 := by
            rcases Nat.eq_zero_or_pos np with h | h
            · exact h
            · have := l4 0 h; omega
          have T0 := (tabs mixed (tbl_cons zeros0_C tbl_nil))
          have w0 : (w : Int) = 0 := by omega
          refine AWp.seq (vc_ok T0 _ _ _ ?_)
          simp only [go_sem, w0]
          refine vc_ok T _ _ _ ?_
          simp only [go_sem, enp, np0]
          refine AWp.loops (X := Unit) (fun _ => mkSt [(17, .lst []), (107, .raw (.int .i64 0)), (108, .raw (.int .i64 0))] [] 0 128) (fun _ => 0) () (Wk.of [] (by decide) ?_) ?_
          · simp only [go_sem, Int.natCast_zero]
          rintro ⟨⟩
          refine vc_at T ?_
          have k1 : ¬ (0 : Int) < 0 := by decide
          have ex : xS p E w 0 = [] := by rw [hw0]; rfl
          simp only [go_sem, k1]
          rw [np0, ex]
          exact .refl _
        · have w0 : (0 : Int) < (w : Int) := by omega
          have w1 : (w : Int) ≤ 1000000 := by omega
          have f5 : 0 ≤ (w : Int) := by omega
          refine AWp.seq (vc_ok T _ _ _ ?_)
          simp only [go_sem, w0, w1]
          refine vc_ok T _ _ _ ?_
          simp only [go_sem, enp]
          refine AWp.loops (X := { i : Nat // i ≤ np }) (fun i => mkSt [(7, .raw (.int .i64 (w : Nat))), (12, .pel (.agg [.lst (V.mat E), .lst (V.nats p), .Q d])), (17, .sl 0 4 0 w), (106, .lst (V.nats p)), (107, .raw (.int .i64 (np : Nat))), (108, .raw (.int .i64 (i.1 : Nat)))] [(0, true, ⟨41, 4, V.rats (xS p E w i.1)⟩)] 1 128) (fun i => np - i.1) ⟨0, Nat.zero_le _⟩ (Wk.of [2] (by decide) ?_) ?_
          · have e0 : xS p E w 0 = List.replicate w 0 := rfl
            simp only [go_sem, e0, Int.natCast_zero]
          rintro ⟨i, hi⟩
          refine vc_at T ?_
          have li : (xS p E w i).length = w := xS_len _ _ _ _
          by_cases hip : i < np
          · have k1 : (i : Int) < (np : Int) := by omega
            have k2 : 0 ≤ (i : Int) := by omega
            have k3 : (i : Int) + 1 = ((i + 1 : Nat) : Int) := by omega
            have k4 : pv p i < w := l4 i hip
            have k5 : 0 ≤ ((pv p i : Nat) : Int) := by omega
            have k6 : i < E.length := by omega
            have k7 : w < (E.getD i []).length := by rw [l2 i (by omega)]; omega
            have k8 : xS p E w (i + 1) = (xS p E w i).set (pv p i) (ent E i w) := rfl
            simp only [go_sem, k1, k2, k3, k4, k5, k6, k7, f5, enp, hip, li]
            refine ⟨by omega, by omega, by omega, ⟨by omega, by omega⟩, ⟨i + 1, hip⟩, Wk.of [0] (by decide) ?_, by simp only; omega⟩
            simp only [go_sem, k8]
          · obtain rfl : np = i := by omega
            have k1 : ¬ (np : Int) < (np : Int) := by omega
            have tkm : (xS p E w np).take w = xS p E w np := List.take_of_length_le (by omega)
            have mm : w ≤ w := Nat.le_refl w
            simp only [go_sem, k1, li, tkm, mm]
end Go.Proofs.Ytjjebokgckmnjaa


/- Contracts: the comparisons, rows of integers, the transpose. -/
namespace Go.Proofs.Ytjjebokgckmnjaa
set_option linter.unusedSimpArgs false
set_option linter.unusedVariables false
open Go.RowKit

theorem qpair (a b : Rat) : decide ((a.num, (a.den : Int)) = (b.num, (b.den : Int))) = decide (a = b) := by
  by_cases h : a = b
  · rw [h]; simp
  · rw [decide_eq_false h]
    refine decide_eq_false fun e => h ?_
    injection e with e1 e2
    exact Rat.ext e1 (by omega)
theorem sz_num {q : Rat} {k : Nat} (h : qs q ≤ k) : dl q.num.natAbs ≤ k := Nat.le_trans (qs_num q) h
theorem sz_den {q : Rat} {k : Nat} (h : qs q ≤ k) : dl ((q.den : Int)).natAbs ≤ k := Nat.le_trans (by simpa using qs_den q) h
def LB (l : List Rat) : Prop := l.length ≤ 1000000 ∧ ∀ k, qs (cf l k) ≤ 5000000000000
def kRList : Con := con2 pR pR fun a b => (LB a ∧ LB b, .raw (.bool (decide (a = b))))
attribute [go_sem ↓, go_sem] kRList
theorem rlist_C : Ctr Try.prog 19 kRList := Ctr.c2 (by kernel_rfl) fun a b h => by
  obtain ⟨⟨la, ha⟩, lb, hb⟩ := h
  show PCall _ _ _ (.raw (.bool (decide (a = b))))
  have T := (tabs mixed (tbl_cons r2Same_C tbl_nil))
  refine PCall.of_vc T Try.func19 rfl Try.ntmps19 Try.results19 (by simp) ?_
  by_cases hl : a.length = b.length
  · have d0 : ((a.length : Int) != (b.length : Int)) = false := by rw [hl]; simp
    simp only [go_sem, d0]
    refine AWp.loops (X := { i : Nat // i ≤ a.length ∧ ∀ j, j < i → cf a j = cf b j }) (fun i => mkSt [(0, .lst (V.rats a)), (1, .lst (V.rats b)), (5, .raw (.int .i64 (i.1 : Nat)))] [] 0 27) (fun i => a.length - i.1) ⟨0, Nat.zero_le _, fun j h => absurd h (Nat.not_lt_zero _)⟩ (Wk.of [] (by decide) ?_) ?_
    · simp only [go_sem, Int.natCast_zero]
    rintro ⟨i, hi, inv⟩
    refine vc_at T ?_
    by_cases hin : i < a.length
    · have d1 : (i : Int) < (a.length : Int) := by omega
      have d2 : (i : Int) + 1 = ((i + 1 : Nat) : Int) := by omega
      have d3 : 0 ≤ (i : Int) := by omega
      have hib : i < b.length := by omega
      have s1 : dl (cf a i).num.natAbs ≤ 30000000000000 := Nat.le_trans (sz_num (ha i)) (by decide)
      have s2 : dl ((cf a i).den : Int).natAbs ≤ 30000000000000 := Nat.le_trans (sz_den (ha i)) (by decide)
      have s3 : dl (cf b i).num.natAbs ≤ 30000000000000 := Nat.le_trans (sz_num (hb i)) (by decide)
      have s4 : dl ((cf b i).den : Int).natAbs ≤ 30000000000000 := Nat.le_trans (sz_den (hb i)) (by decide)
      by_cases he : cf a i = cf b i
      · have d4 : decide (cf a i = cf b i) = true := decide_eq_true he
        simp only [go_sem, d1, d2, d3, d4, hin, hib, s1, s2, s3, s4, qpair]
        refine ⟨by omega, by rfl, ⟨by omega, by omega⟩, ⟨i + 1, hin, fun j hj => ?_⟩, Wk.of [] (by decide) ?_, by simp only; omega⟩
        · by_cases e : j = i
          · rw [e]; exact he
          · exact inv j (by omega)
        · simp only [go_sem]
      · have d4 : decide (cf a i = cf b i) = false := decide_eq_false he
        have d5 : decide (a = b) = false := decide_eq_false fun e => he (by rw [e])
        simp only [go_sem, d1, d2, d3, d4, d5, hin, hib, s1, s2, s3, s4, qpair]
        exact ⟨by omega, by rfl⟩
    · obtain rfl : i = a.length := by omega
      have d1 : ¬ (a.length : Int) < (a.length : Int) := by omega
      have d5 : decide (a = b) = true := decide_eq_true (l_ext hl inv)
      simp only [go_sem, d1, d5]
  · have d0 : ((a.length : Int) != (b.length : Int)) = true := by simp; omega
    have d5 : decide (a = b) = false := decide_eq_false fun e => hl (by rw [e])
    simp only [go_sem, d0, d5]
def MB (M : List (List Rat)) : Prop := M.length ≤ 1000000 ∧ ∀ i, LB (M.getD i [])
def kRRows : Con := con2 pMt pMt fun a b => (MB a ∧ MB b, .raw (.bool (decide (a = b))))
attribute [go_sem ↓, go_sem] kRRows
theorem rrows_C : Ctr Try.prog 26 kRRows := Ctr.c2 (by kernel_rfl) fun a b h => by
  obtain ⟨⟨la, ha⟩, lb, hb⟩ := h
  show PCall _ _ _ (.raw (.bool (decide (a = b))))
  have T := (tabs mixed (tbl_cons rlist_C tbl_nil))
  refine PCall.of_vc T Try.func26 rfl Try.ntmps26 Try.results26 (by simp) ?_
  by_cases hl : a.length = b.length
  · have d0 : ((a.length : Int) != (b.length : Int)) = false := by rw [hl]; simp
    simp only [go_sem, d0]
    refine AWp.loops (X := { i : Nat // i ≤ a.length ∧ ∀ j, j < i → a.getD j [] = b.getD j [] }) (fun i => mkSt [(0, .lst (V.mat a)), (1, .lst (V.mat b)), (5, .raw (.int .i64 (i.1 : Nat)))] [] 0 27) (fun i => a.length - i.1) ⟨0, Nat.zero_le _, fun j h => absurd h (Nat.not_lt_zero _)⟩ (Wk.of [] (by decide) ?_) ?_
    · simp only [go_sem, Int.natCast_zero]
    rintro ⟨i, hi, inv⟩
    refine vc_at T ?_
    by_cases hin : i < a.length
    · have d1 : (i : Int) < (a.length : Int) := by omega
      have d2 : (i : Int) + 1 = ((i + 1 : Nat) : Int) := by omega
      have d3 : 0 ≤ (i : Int) := by omega
      have hib : i < b.length := by omega
      have s1 := ha i
      have s2 := hb i
      by_cases he : a.getD i [] = b.getD i []
      · have d4 : decide (a.getD i [] = b.getD i []) = true := decide_eq_true he
        simp only [go_sem, d1, d2, d3, d4, hin, hib, s1, s2]
        refine ⟨by omega, by rfl, ⟨by omega, by omega⟩, ⟨i + 1, hin, fun j hj => ?_⟩, Wk.of [] (by decide) ?_, by simp only; omega⟩
        · by_cases e : j = i
          · rw [e]; exact he
          · exact inv j (by omega)
        · simp only [go_sem]
      · have d4 : decide (a.getD i [] = b.getD i []) = false := decide_eq_false he
        have d5 : decide (a = b) = false := decide_eq_false fun e => he (by rw [e])
        simp only [go_sem, d1, d2, d3, d4, d5, hin, hib, s1, s2]
        exact ⟨by omega, by rfl⟩
    · obtain rfl : i = a.length := by omega
      have d1 : ¬ (a.length : Int) < (a.length : Int) := by omega
      have d5 : decide (a = b) = true := decide_eq_true (m_ext hl inv)
      simp only [go_sem, d1, d5]
  · have d0 : ((a.length : Int) != (b.length : Int)) = true := by simp; omega
    have d5 : decide (a = b) = false := decide_eq_false fun e => hl (by rw [e])
    simp only [go_sem, d0, d5]
def kInts : Con := con2 pNs pNs fun a b => (a.length ≤ 1000000 ∧ b.length ≤ 1000000, .raw (.bool (decide (a = b))))
attribute [go_sem ↓, go_sem] kInts
theorem ints_C : Ctr Try.prog 27 kInts := Ctr.c2 (by kernel_rfl) fun a b h => by
  obtain ⟨la, lb⟩ := h
  show PCall _ _ _ (.raw (.bool (decide (a = b))))
  have T := (tabs mixed tbl_nil)
  refine PCall.of_vc T Try.func27 rfl Try.ntmps27 Try.results27 (by simp) ?_
  by_cases hl : a.length = b.length
  · have d0 : ((a.length : Int) != (b.length : Int)) = false := by rw [hl]; simp
    simp only [go_sem, d0]
    refine AWp.loops (X := { i : Nat // i ≤ a.length ∧ ∀ j, j < i → pv a j = pv b j }) (fun i => mkSt [(0, .lst (V.nats a)), (1, .lst (V.nats b)), (5, .raw (.int .i64 (i.1 : Nat)))] [] 0 26) (fun i => a.length - i.1) ⟨0, Nat.zero_le _, fun j h => absurd h (Nat.not_lt_zero _)⟩ (Wk.of [] (by decide) ?_) ?_
    · simp only [go_sem, Int.natCast_zero]
    rintro ⟨i, hi, inv⟩
    refine vc_at T ?_
    by_cases hin : i < a.length
    · have d1 : (i : Int) < (a.length : Int) := by omega
      have d2 : (i : Int) + 1 = ((i + 1 : Nat) : Int) := by omega
      have d3 : 0 ≤ (i : Int) := by omega
      have hib : i < b.length := by omega
      by_cases he : pv a i = pv b i
      · have d4 : (((pv a i : Nat) : Int) != ((pv b i : Nat) : Int)) = false := by rw [he]; simp
        simp only [go_sem, d1, d2, d3, d4, hin, hib]
        refine ⟨by omega, by rfl, ⟨by omega, by omega⟩, ⟨i + 1, hin, fun j hj => ?_⟩, Wk.of [] (by decide) ?_, by simp only; omega⟩
        · by_cases e : j = i
          · rw [e]; exact he
          · exact inv j (by omega)
        · simp only [go_sem]
      · have d4 : (((pv a i : Nat) : Int) != ((pv b i : Nat) : Int)) = true := by simp; omega
        have d5 : decide (a = b) = false := decide_eq_false fun e => he (by rw [e])
        simp only [go_sem, d1, d2, d3, d4, d5, hin, hib]
        exact ⟨by omega, by rfl⟩
    · obtain rfl : i = a.length := by omega
      have d1 : ¬ (a.length : Int) < (a.length : Int) := by omega
      have d5 : decide (a = b) = true := decide_eq_true (List.ext_getElem hl fun i h1 h2 => by
        have := inv i h1
        unfold pv at this
        rwa [List.getD_eq_getElem?_getD, List.getD_eq_getElem?_getD, List.getElem?_eq_getElem h1, List.getElem?_eq_getElem h2] at this)
      simp only [go_sem, d1, d5]
  · have d0 : ((a.length : Int) != (b.length : Int)) = true := by simp; omega
    have d5 : decide (a = b) = false := decide_eq_false fun e => hl (by rw [e])
    simp only [go_sem, d0, d5]
end Go.Proofs.Ytjjebokgckmnjaa

