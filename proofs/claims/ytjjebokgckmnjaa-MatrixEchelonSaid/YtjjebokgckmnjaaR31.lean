/- Texts MC10 MX7 MX8 MX9 MX10 MC12 in one. -/
import Derived.Test.YtjjebokgckmnjaaR30
import Derived.Test.YtjjebokgckmnjaaR29
/- Contracts: rows of integers, the transpose, the arguments. -/
namespace Go.Proofs.Ytjjebokgckmnjaa
set_option linter.unusedSimpArgs false
set_option linter.unusedVariables false
open Go.RowKit

def V.ints (l : List Int) : List V := l.map fun z => V.raw (.int .i64 z)
@[go_sem] theorem ints_len (l : List Int) : (V.ints l).length = l.length := by simp [V.ints]
@[go_sem] theorem ints_frz (l : List Int) : frzOk (V.ints l) = True := eq_true (frzOk_map (fun a => ⟨rfl, by simp, by simp⟩) l)
def iz (l : List Int) (i : Nat) : Int := l.getD i 0
@[go_sem ↓, go_sem] theorem ev_ints_get {l : List Int} {i : Nat} {k : V → Prop} : optC (V.ints l)[i]? k = (i < l.length ∧ k (.raw (.int .i64 (iz l i)))) := by
  unfold V.ints iz
  rw [List.getElem?_map, List.getD_eq_getElem?_getD]
  by_cases h : i < l.length
  · simp [List.getElem?_eq_getElem h, optC, h]
  · simp [List.getElem?_eq_none (Nat.le_of_not_lt h), optC, h]
def uninz : List V → Option (List Int)
  | [] => some []
  | .raw (.int .i64 n) :: l => (uninz l).map (n :: ·)
  | _ => none
theorem uninz_ok : ∀ (l : List V) (m : List Int), uninz l = some m → l = V.ints m
  | [], m, h => by injection h with h; subst h; rfl
  | x :: l, m, h => by
    unfold uninz at h
    split at h
    · rename_i e; cases e
    · rename_i n l' e
      injection e with e1 e2
      subst e1 e2
      rcases hm : uninz l with _ | m' <;> rw [hm] at h
      · cases h
      · injection h with h
        subst h
        rw [uninz_ok l m' hm]
        rfl
    · cases h
@[go_sem ↓, go_sem] theorem uninz_nil : uninz [] = some [] := rfl
@[go_sem ↓, go_sem] theorem uninz_cons (n : Int) (l : List V) : uninz (.raw (.int .i64 n) :: l) = (uninz l).map (n :: ·) := rfl
/-- A list of integers. -/
def pIs : Pat (List Int) where
  p
    | .lst l => (uninz l).map fun m => (True, m)
    | _ => none
  val l := .lst (V.ints l)
  ok x c a h hc := by
    split at h
    · rename_i l
      rcases hm : uninz l with _ | m <;> rw [hm] at h
      · cases h
      · injection h with h; injection h with h1 h2; subst h2
        rw [uninz_ok l m hm]; exact .refl _
    · cases h
@[go_sem ↓, go_sem] theorem ev_pIs {l : List V} : pIs.p (.lst l) = (uninz l).map fun m => (True, m) := rfl
@[go_sem ↓, go_sem] theorem ev_pIs_mk {l : List Int} : pIs.val l = .lst (V.ints l) := rfl
def rwZ (l : List Int) : List Rat := l.map fun z : Int => (z : Rat)
def SmI (l : List Int) : Prop := l.length ≤ 100 ∧ ∀ i, -128 ≤ iz l i ∧ iz l i ≤ 127
def kRow : Con := con1 pIs fun l => (SmI l, .lst (V.rats (rwZ l)))
attribute [go_sem ↓, go_sem] kRow
set_option maxRecDepth 4000 in
theorem row_C : Ctr Try.prog 34 kRow := Ctr.c1 (by kernel_rfl) fun l h => by
  obtain ⟨hl, hz⟩ := h
  show PCall _ _ _ (.lst (V.rats (rwZ l)))
  have T := (tabs mixed (tbl_cons r2Whole_C tbl_nil))
  have mx : maxLen = 9223372036854775807 := by decide
  refine PCall.of_vc T Try.func34 rfl Try.ntmps34 Try.results34 (by simp) ?_
  simp only [go_sem]
  refine AWp.loops (X := { i : Nat // i ≤ l.length }) (fun i => mkSt [(0, .lst (V.ints l)), (2, .raw (.slice none 0 0)), (3, .sl 0 4 0 i.1), (4, .raw (.int .i64 (i.1 : Nat)))] [(0, true, ⟨41, 4, V.rats (rwZ (l.take i.1))⟩)] 1 21) (fun i => l.length - i.1) ⟨0, Nat.zero_le _⟩ (Wk.of [1] (by decide) ?_) ?_
  · simp only [go_sem, Int.natCast_zero]
    exact rfl
  rintro ⟨i, hi⟩
  refine vc_at T ?_
  have li : (rwZ (l.take i)).length = i := by simp [rwZ]; omega
  by_cases hin : i < l.length
  · have d1 : (i : Int) < (l.length : Int) := by omega
    have d2 : (i : Int) + 1 = ((i + 1 : Nat) : Int) := by omega
    have d3 : 0 ≤ (i : Int) := by omega
    have d4 : (rwZ (l.take i)).take i = rwZ (l.take i) := List.take_of_length_le (by omega)
    have tt : l.take (i + 1) = l.take i ++ [iz l i] := by
      rw [List.take_add_one, List.getElem?_eq_getElem hin]
      unfold iz
      rw [List.getD_eq_getElem?_getD, List.getElem?_eq_getElem hin]
      rfl
    have d6 : rwZ (l.take i) ++ [((iz l i : Int) : Rat)] = rwZ (l.take (i + 1)) := by
      rw [tt]
      unfold rwZ
      rw [List.map_append]
      rfl
    have d5 : V.rats (rwZ (l.take i)) ++ [V.Q ((iz l i : Int) : Rat)] = V.rats (rwZ (l.take (i + 1))) := by
      rw [← d6]
      unfold V.rats
      rw [List.map_append]
      rfl
    have hzi := hz i
    simp only [go_sem, d1, d2, d3, d4, d5, d6, hin, mx, li]
    refine ⟨⟨by omega, by omega⟩, ⟨by omega, by omega⟩, ⟨by omega, by omega⟩, ⟨i + 1, hin⟩, Wk.of [12] (by decide) ?_, by simp only; omega⟩
    simp only [go_sem]
  · obtain rfl : i = l.length := by omega
    have d1 : ¬ (l.length : Int) < (l.length : Int) := by omega
    have tk : l.take l.length = l := List.take_of_length_le (Nat.le_refl _)
    rw [tk] at li
    have tk2 : (rwZ l).take l.length = rwZ l := List.take_of_length_le (by omega)
    have mm : l.length ≤ l.length := Nat.le_refl _
    simp only [go_sem, d1, tk, li, tk2, mm]
theorem mkr_take (F : Nat → Rat) (i : Nat) : (mkr F i).take i = mkr F i := List.take_of_length_le (by rw [mkr_len]; exact Nat.le_refl _)
theorem mkr_snoc (F : Nat → Rat) (i : Nat) : V.rats (mkr F i) ++ [.Q (F i)] = V.rats (mkr F (i + 1)) := by
  rw [mkr_succ]
  unfold V.rats
  rw [List.map_append]; rfl
theorem mkr_snoc' (F : Nat → Rat) (i : Nat) : mkr F i ++ [F i] = mkr F (i + 1) := (mkr_succ F i).symm
theorem mkm_take (F : Nat → List Rat) (i : Nat) : (mkm F i).take i = mkm F i := List.take_of_length_le (by rw [mkm_len]; exact Nat.le_refl _)
def kTurned : Con := con2 pMt (pN .i64) fun M z => ((M.length ≤ 1000 ∧ 0 ≤ z ∧ z ≤ 1000) ∧ ∀ i, i < M.length → z ≤ ((M.getD i []).length : Nat), .lst (V.mat (trM M z.toNat)))
attribute [go_sem ↓, go_sem] kTurned
set_option maxRecDepth 4000 in
theorem turned_C : Ctr Try.prog 20 kTurned := Ctr.c2 (by kernel_rfl) fun M z h => by
  obtain ⟨⟨hm, hz, hz2⟩, hw⟩ := h
  obtain ⟨n, rfl⟩ : ∃ n : Nat, z = n := ⟨z.toNat, by omega⟩
  show PCall _ _ [.lst (V.mat M), .raw (.int .i64 (n : Nat))] (.lst (V.mat (trM M n)))
  have T := (tabs mixed tbl_nil)
  have mx : maxLen = 9223372036854775807 := by decide
  refine PCall.of_vc T Try.func20 rfl Try.ntmps20 Try.results20 (by simp) ?_
  unfold trM
  obtain ⟨F, eF⟩ : ∃ F : Nat → List Rat, F = fun k => mkr (fun i => ent M i k) M.length := ⟨_, rfl⟩
  rw [← eF]
  simp only [go_sem]
  refine AWp.loops (X := { c : Nat // c ≤ n }) (fun c => mkSt [(0, .lst (V.mat M)), (1, .raw (.int .i64 (n : Nat))), (4, .raw (.slice none 0 0)), (5, .sl 0 1 0 c.1), (6, .raw (.int .i64 (c.1 : Nat)))] [(0, true, ⟨33, 1, V.mat (mkm F c.1)⟩)] 1 37) (fun c => n - c.1) ⟨0, Nat.zero_le _⟩ (Wk.of [1] (by decide) ?_) ?_
  · have e0 : V.mat (mkm F 0) = [] := rfl
    simp only [go_sem, e0, Int.natCast_zero]
  rintro ⟨c, hc⟩
  refine AWp.endFrz 5 ?_
  refine vc_at T ?_
  by_cases hcn : c < n
  · have d1 : (c : Int) < (n : Int) := by omega
    have d2 : (c : Int) + 1 = ((c + 1 : Nat) : Int) := by omega
    have d3 : 0 ≤ (c : Int) := by omega
    have lc : (mkm F c).length = c := mkm_len _ _
    simp only [go_sem, d1]
    refine AWp.loops (X := { i : Nat // i ≤ M.length }) (fun i => mkSt [(0, .lst (V.mat M)), (1, .raw (.int .i64 (n : Nat))), (4, .raw (.slice none 0 0)), (5, .sl 0 1 0 c), (6, .raw (.int .i64 (c : Nat))), (7, .sl 1 4 0 i.1), (8, .raw (.int .i64 (i.1 : Nat)))] [(0, true, ⟨33, 1, V.mat (mkm F c)⟩), (1, true, ⟨41, 4, V.rats (mkr (fun i => ent M i c) i.1)⟩)] 2 37) (fun i => M.length - i.1) ⟨0, Nat.zero_le _⟩ (Wk.of [0, 4] (by decide) ?_) ?_
    · have e0 : V.rats (mkr (fun i => ent M i c) 0) = [] := rfl
      simp only [go_sem, e0, Int.natCast_zero]
    rintro ⟨i, hi⟩
    refine vc_at T ?_
    have li : (mkr (fun i => ent M i c) i).length = i := mkr_len _ _
    by_cases hin : i < M.length
    · have f1 : (i : Int) < (M.length : Int) := by omega
      have f2 : (i : Int) + 1 = ((i + 1 : Nat) : Int) := by omega
      have f3 : 0 ≤ (i : Int) := by omega
      have f4 : c < (M.getD i []).length := by have := hw i hin; omega
      have f5 : V.rats (mkr (fun i => ent M i c) i) ++ [.Q (cf (M.getD i []) c)] = V.rats (mkr (fun i => ent M i c) (i + 1)) := mkr_snoc _ _
      have f6 : mkr (fun i => ent M i c) i ++ [cf (M.getD i []) c] = mkr (fun i => ent M i c) (i + 1) := mkr_snoc' _ _
      simp only [go_sem, f1, f2, f3, f4, f5, f6, d3, hin, li, mx, mkr_take]
      refine ⟨by omega, ⟨by omega, by omega⟩, ⟨by omega, by omega⟩, ⟨i + 1, hin⟩, Wk.of [0, 15] (by decide) ?_, by simp only; omega⟩
      simp only [go_sem]
    · obtain rfl : i = M.length := by omega
      have f1 : ¬ (M.length : Int) < (M.length : Int) := by omega
      have f2 : mkr (fun i => ent M i c) M.length = F c := by rw [eF]
      have f3 : mkm F c ++ [F c] = mkm F (c + 1) := (mkm_succ F c).symm
      have lF : (F c).length = M.length := by rw [← f2]; exact li
      have tF : (F c).take M.length = F c := List.take_of_length_le (by omega)
      have mm : M.length ≤ M.length := Nat.le_refl _
      simp only [go_sem, f1, f2, d2, mx, li, lc, lF, tF, mm, ev_frzT_n, frz_mat_snocA, mat_snoc, mkm_take, f3]
      refine ⟨⟨by omega, by omega⟩, ⟨by omega, by omega⟩, ⟨c + 1, hcn⟩, Wk.of [9] (by decide) ?_, by simp only; omega⟩
      simp only [go_sem]
  · obtain rfl : c = n := by omega
    have d1 : ¬ (c : Int) < (c : Int) := by omega
    have lc : (mkm F c).length = c := mkm_len _ _
    have mm : c ≤ c := Nat.le_refl _
    simp only [go_sem, d1, lc, mkm_take, mm]
/-- The arguments of the laws. -/
structure Raw5 where
  R : Int
  C : Int
  W : List Int
def V.i16s (l : List Int) : List V := l.map fun z => V.raw (.int .i16 z)
@[go_sem] theorem i16_len (l : List Int) : (V.i16s l).length = l.length := by simp [V.i16s]
@[go_sem ↓, go_sem] theorem ev_i16_get {l : List Int} {i : Nat} {k : V → Prop} : optC (V.i16s l)[i]? k = (i < l.length ∧ k (.raw (.int .i16 (iz l i)))) := by
  unfold V.i16s iz
  rw [List.getElem?_map, List.getD_eq_getElem?_getD]
  by_cases h : i < l.length
  · simp [List.getElem?_eq_getElem h, optC, h]
  · simp [List.getElem?_eq_none (Nat.le_of_not_lt h), optC, h]
def unI16 : List V → Option (List Int)
  | [] => some []
  | .raw (.int .i16 n) :: l => (unI16 l).map (n :: ·)
  | _ => none
theorem unI16_ok : ∀ (l : List V) (m : List Int), unI16 l = some m → l = V.i16s m
  | [], m, h => by injection h with h; subst h; rfl
  | x :: l, m, h => by
    unfold unI16 at h
    split at h
    · rename_i e; cases e
    · rename_i n l' e
      injection e with e1 e2
      subst e1 e2
      rcases hm : unI16 l with _ | m' <;> rw [hm] at h
      · cases h
      · injection h with h
        subst h
        rw [unI16_ok l m' hm]
        rfl
    · cases h
@[go_sem ↓, go_sem] theorem unI16_i16 : ∀ l : List Int, unI16 (V.i16s l) = some l
  | [] => rfl
  | x :: l => by
    show (unI16 (V.i16s l)).map (x :: ·) = _
    rw [unI16_i16 l]; rfl
def Raw5.v (x : Raw5) : V := .agg [.raw (.int .u8 x.R), .raw (.int .u8 x.C), .lst (V.i16s x.W)]
def pRaw5 : Pat Raw5 where
  p
    | .agg [.raw (.int .u8 r), .raw (.int .u8 c), .lst l] => (unI16 l).map fun m => (True, ⟨r, c, m⟩)
    | _ => none
  val := Raw5.v
  ok x c a h hc := by
    split at h
    · rename_i r c l
      rcases hm : unI16 l with _ | m <;> rw [hm] at h
      · cases h
      · injection h with h; injection h with h1 h2; subst h2
        rw [unI16_ok l m hm]; exact .refl _
    · cases h
@[go_sem ↓, go_sem] theorem ev_pRaw5 {r c : Int} {l : List V} : pRaw5.p (.agg [.raw (.int .u8 r), .raw (.int .u8 c), .lst l]) = (unI16 l).map fun m => (True, ⟨r, c, m⟩) := rfl
@[go_sem ↓, go_sem] theorem ev_pRaw5_mk {x : Raw5} : pRaw5.val x = .agg [.raw (.int .u8 x.R), .raw (.int .u8 x.C), .lst (V.i16s x.W)] := rfl
def rwQ (v : Int) : Rat := mdQ (v.tmod 10) (1 + bits .and .i64 (v / 256) 1)
theorem and1_ok {z : Int} (h1 : -128 ≤ z) (h2 : z ≤ 127) : 0 ≤ bits .and .i64 z 1 ∧ bits .and .i64 z 1 ≤ 1 := by
  have key : ∀ n : Fin 256, 0 ≤ bits .and .i64 ((n.1 : Int) - 128) 1 ∧ bits .and .i64 ((n.1 : Int) - 128) 1 ≤ 1 := by decide +kernel
  have := key ⟨(z + 128).toNat, by omega⟩
  rw [show (((⟨(z + 128).toNat, by omega⟩ : Fin 256).1 : Nat) : Int) - 128 = z by simp; omega] at this
  exact this
theorem tmod10 (v : Int) : -9 ≤ v.tmod 10 ∧ v.tmod 10 ≤ 9 := by
  rw [Int.tmod_eq_emod]
  have : ((10 : Int).natAbs : Int) = 10 := rfl
  split <;> omega
structure Raw5.Ok (x : Raw5) : Prop where
  r : 0 ≤ x.R ∧ x.R ≤ 255
  c : 0 ≤ x.C ∧ x.C ≤ 255
  v : ∀ i, -32768 ≤ iz x.W i ∧ iz x.W i ≤ 32767
  l : x.W.length ≤ 9223372036854775807
def Raw5.rows (x : Raw5) : Nat := (x.R % 5).toNat
def Raw5.cols (x : Raw5) : Nat := (x.C % 6).toNat
def Raw5.m (x : Raw5) (r c : Nat) : List (List Rat) := mkm (fun i => mkr (fun k => rwQ (iz x.W (i * c + k))) c) r
def kMade5 : Con := con1 pRaw5 fun x => (x.Ok, .tup [.lst (V.mat (x.m x.rows x.cols)), .raw (.int .i64 (x.cols : Nat))])
attribute [go_sem ↓, go_sem] kMade5
set_option maxRecDepth 8000 in
theorem made5_C : Ctr Try.prog 10 kMade5 := Ctr.c1 (by kernel_rfl) fun x h => by
  obtain ⟨hr, hc, hv, hl⟩ := h
  show PCall _ _ [.agg [.raw (.int .u8 x.R), .raw (.int .u8 x.C), .lst (V.i16s x.W)]] (.tup [.lst (V.mat (x.m x.rows x.cols)), .raw (.int .i64 (x.cols : Nat))])
  have T := (tabs mixed (tbl_cons r2Made_C tbl_nil))
  have mx : maxLen = 9223372036854775807 := by decide
  refine PCall.of_vc T Try.func10 rfl Try.ntmps10 Try.results10 (by simp) ?_
  have w1 : IntKind.i64.wrap x.R = x.R := IntWalk.i64_in _ ⟨by omega, by omega⟩
  have w2 : IntKind.i64.wrap x.C = x.C := IntWalk.i64_in _ ⟨by omega, by omega⟩
  obtain ⟨r, er⟩ : ∃ r, x.rows = r := ⟨_, rfl⟩
  obtain ⟨c, ec⟩ : ∃ c, x.cols = c := ⟨_, rfl⟩
  have t1 : x.R.tmod 5 = ((r : Nat) : Int) := by
    rw [← er]
    unfold Raw5.rows
    rw [Int.tmod_eq_emod_of_nonneg hr.1]
    omega
  have t2 : x.C.tmod 6 = ((c : Nat) : Int) := by
    rw [← ec]
    unfold Raw5.cols
    rw [Int.tmod_eq_emod_of_nonneg hc.1]
    omega
  have lr : r < 5 := by rw [← er]; unfold Raw5.rows; omega
  have lc : c < 6 := by rw [← ec]; unfold Raw5.cols; omega
  rw [er, ec]
  unfold Raw5.m
  obtain ⟨F, eF⟩ : ∃ F : Nat → List Rat, F = fun i => mkr (fun k => rwQ (iz x.W (i * c + k))) c := ⟨_, rfl⟩
  rw [← eF]
  simp only [go_sem, w1, w2, t1, t2]
  have hp : allPure [V.agg [.raw (.int .u8 x.R), .raw (.int .u8 x.C), .lst (V.i16s x.W)]] := fun y hy => by
    rw [List.mem_singleton] at hy; subst hy; rfl
  refine ⟨by rfl, ?_⟩
  refine AWp.loops (X := { i : Nat // i ≤ r }) (fun i => mkSt [(1, .ptr 1 3 0 0), (4, .raw (.int .i64 (r : Nat))), (5, .raw (.int .i64 (c : Nat))), (6, .sl 0 1 0 i.1), (7, .raw (.int .i64 (i.1 : Nat)))] [(0, true, ⟨33, 1, V.mat (mkm F i.1)⟩), (1, true, ⟨24, 3, [.agg [.raw (.int .u8 x.R), .raw (.int .u8 x.C), .lst (V.i16s x.W)]]⟩)] 2 67) (fun i => r - i.1) ⟨0, Nat.zero_le _⟩ (Wk.of [11, 0] (by decide) ?_) ?_
  · have e0 : V.mat (mkm F 0) = [] := rfl
    simp only [go_sem, e0, hp, Int.natCast_zero]
  rintro ⟨i, hi⟩
  refine AWp.endFrz 6 ?_
  refine vc_at T ?_
  by_cases hir : i < r
  · have d1 : (i : Int) < (r : Int) := by omega
    have d2 : (i : Int) + 1 = ((i + 1 : Nat) : Int) := by omega
    have li : (mkm F i).length = i := mkm_len _ _
    simp only [go_sem, d1]
    refine AWp.loops (X := { k : Nat // k ≤ c }) (fun k => mkSt [(1, .ptr 1 3 0 0), (4, .raw (.int .i64 (r : Nat))), (5, .raw (.int .i64 (c : Nat))), (6, .sl 0 1 0 i), (7, .raw (.int .i64 (i : Nat))), (8, .sl 2 4 0 k.1), (9, .raw (.int .i64 (k.1 : Nat)))] [(0, true, ⟨33, 1, V.mat (mkm F i)⟩), (1, true, ⟨24, 3, [.agg [.raw (.int .u8 x.R), .raw (.int .u8 x.C), .lst (V.i16s x.W)]]⟩), (2, true, ⟨41, 4, V.rats (mkr (fun k => rwQ (iz x.W (i * c + k))) k.1)⟩)] 3 67) (fun k => c - k.1) ⟨0, Nat.zero_le _⟩ (Wk.of [0, 1, 5] (by decide) ?_) ?_
    · have e0 : V.rats (mkr (fun k => rwQ (iz x.W (i * c + k))) 0) = [] := rfl
      simp only [go_sem, e0, hp, Int.natCast_zero]
    rintro ⟨k, hk⟩
    refine vc_at T ?_
    obtain ⟨G, eG⟩ : ∃ G : Nat → Rat, G = fun k => rwQ (iz x.W (i * c + k)) := ⟨_, rfl⟩
    rw [← eG]
    have lk : (mkr G k).length = k := mkr_len _ _
    by_cases hkc : k < c
    · have f1 : (k : Int) < (c : Int) := by omega
      have f2 : (k : Int) + 1 = ((k + 1 : Nat) : Int) := by omega
      have f4 : (i : Int) * (c : Int) = ((i * c : Nat) : Int) := by simp
      have f5 : i * c + k < 100 := by
        have := Nat.mul_le_mul (show i ≤ 4 by omega) (show c ≤ 5 by omega)
        omega
      have f6 : 0 ≤ ((i * c + k : Nat) : Int) := by omega
      obtain ⟨n, en⟩ : ∃ n, i * c + k = n := ⟨_, rfl⟩
      have f3 : ((i * c : Nat) : Int) + (k : Int) = (n : Int) := by omega
      have f7 : 0 ≤ (n : Int) := by omega
      have f8 : V.rats (mkr G k) ++ [.Q (G k)] = V.rats (mkr G (k + 1)) := mkr_snoc _ _
      have f9 : mkr G k ++ [G k] = mkr G (k + 1) := mkr_snoc' _ _
      have hvn := hv n
      have htm := tmod10 (iz x.W n)
      have wt : IntKind.i64.wrap ((iz x.W n).tmod 10) = (iz x.W n).tmod 10 := IntWalk.i64_in _ ⟨by omega, by omega⟩
      have wq : IntKind.i64.wrap (iz x.W n / 256) = iz x.W n / 256 := IntWalk.i64_in _ ⟨by omega, by omega⟩
      have hand := and1_ok (z := iz x.W n / 256) (by omega) (by omega)
      have gk : mdQ ((iz x.W n).tmod 10) (1 + bits .and .i64 (iz x.W n / 256) 1) = G k := by rw [eG, ← en]; rfl
      by_cases hnl : n < x.W.length
      · have g1 : (n : Int) < (x.W.length : Int) := by omega
        simp only [go_sem, f1, f2, f3, f4, f7, hkc, lk, mx, mkr_take, hnl, g1, wt, wq, gk, f8, f9]
        refine ⟨⟨by omega, by omega⟩, ⟨by omega, by omega⟩, ⟨by omega, by omega⟩, ⟨by omega, by omega⟩, ⟨by omega, by omega⟩, ⟨⟨by omega, by omega⟩, by omega, by omega⟩, ⟨by omega, by omega⟩, ⟨by omega, by omega⟩, ⟨k + 1, hkc⟩, Wk.of [0, 1, 37] (by decide) ?_, by simp only; omega⟩
        simp only [go_sem, hp]
      · have g1 : ¬ (n : Int) < (x.W.length : Int) := by omega
        have z0 : iz x.W n = 0 := by
          unfold iz
          rw [List.getD_eq_getElem?_getD, List.getElem?_eq_none (by omega)]; rfl
        have w0 : IntKind.i64.wrap 0 = 0 := by decide
        have t0 : Int.tmod 0 10 = 0 := rfl
        have q0 : (0 : Int) / 256 = 0 := rfl
        have b0 : bits .and .i64 0 1 = 0 := by decide
        have gk2 : mdQ 0 1 = G k := by rw [← gk, z0]; rfl
        simp only [go_sem, f1, f2, f3, f4, f7, hkc, lk, mx, mkr_take, hnl, g1, w0, q0, t0, b0, gk2, f8, f9]
        refine ⟨⟨by omega, by omega⟩, ⟨by omega, by omega⟩, ⟨by omega, by omega⟩, ⟨by omega, by omega⟩, ⟨k + 1, hkc⟩, Wk.of [0, 1, 27] (by decide) ?_, by simp only; omega⟩
        simp only [go_sem, hp]
    · obtain rfl : k = c := by omega
      have f1 : ¬ (k : Int) < (k : Int) := by omega
      have f2 : mkr G k = F i := by rw [eG, eF]
      have f3 : mkm F i ++ [F i] = mkm F (i + 1) := (mkm_succ F i).symm
      have lF : (F i).length = k := by rw [← f2]; exact lk
      have tF : (F i).take k = F i := List.take_of_length_le (by omega)
      have mm : k ≤ k := Nat.le_refl _
      simp only [go_sem, f1, f2, d2, mx, li, lF, tF, mm, ev_frzT_n, frz_mat_snocA, mat_snoc, mkm_take, f3]
      refine ⟨⟨by omega, by omega⟩, ⟨by omega, by omega⟩, ⟨i + 1, hir⟩, Wk.of [9, 1] (by decide) ?_, by simp only; omega⟩
      simp only [go_sem, hp]
  · obtain rfl : i = r := by omega
    have d1 : ¬ (i : Int) < (i : Int) := by omega
    have li : (mkm F i).length = i := mkm_len _ _
    have mm : i ≤ i := Nat.le_refl _
    simp only [go_sem, d1, li, mkm_take, mm]
end Go.Proofs.Ytjjebokgckmnjaa


/- Systems of equations: solutions and alternatives. No program in sight. -/
namespace Go.Proofs.Ytjjebokgckmnjaa
set_option linter.unusedSimpArgs false
set_option linter.unusedVariables false

theorem sm_ext {f : Nat → Rat} {m : Nat} : ∀ {n}, m ≤ n → (∀ i, m ≤ i → i < n → f i = 0) → sm n f = sm m f
  | 0, h, _ => by rw [show m = 0 from by omega]
  | n + 1, h, h0 => by
    by_cases e : m = n + 1
    · rw [e]
    · rw [sm, sm_ext (n := n) (by omega) fun i h1 h2 => h0 i h1 (by omega), h0 n (by omega) (by omega)]; grind
theorem cf_hi {l : List Rat} {k : Nat} (h : l.length ≤ k) : cf l k = 0 := by
  unfold cf
  rw [List.getD_eq_getElem?_getD, List.getElem?_eq_none h]; rfl
/-- The sum of the products. -/
def dotL (a b : List Rat) : Rat := sm (min a.length b.length) fun i => cf a i * cf b i
theorem dotL_n {a b : List Rat} {n : Nat} (h : min a.length b.length ≤ n) : dotL a b = sm n fun i => cf a i * cf b i := by
  unfold dotL
  refine (sm_ext h fun i h1 _ => ?_).symm
  rcases Nat.le_total a.length b.length with hl | hl
  · rw [cf_hi (l := a) (by omega)]; grind
  · rw [cf_hi (l := b) (by omega)]; grind
end Go.Proofs.Ytjjebokgckmnjaa


/- The vectors of the free columns: numbers and ranks. No program in sight. -/
namespace Go.Proofs.Ytjjebokgckmnjaa
set_option linter.unusedSimpArgs false
set_option linter.unusedVariables false

/-- The free columns. -/
def frL (p : List Nat) : Nat → List Nat
  | 0 => []
  | c + 1 => if c ∈ p then frL p c else frL p c ++ [c]
theorem frL_lt {p : List Nat} : ∀ {c i}, i < (frL p c).length → pv (frL p c) i < c ∧ pv (frL p c) i ∉ p
  | 0, i, h => by simp [frL] at h
  | c + 1, i, h => by
    rw [frL] at h ⊢
    split at h
    · rename_i e
      rw [if_pos e]
      have := frL_lt h
      exact ⟨by omega, this.2⟩
    · rename_i e
      rw [if_neg e]
      rw [List.length_append] at h
      rw [pv_snoc]
      by_cases hi : i < (frL p c).length
      · rw [if_pos hi]
        have := frL_lt hi
        exact ⟨by omega, this.2⟩
      · simp at h
        rw [if_neg hi, if_pos (by omega)]
        exact ⟨by omega, e⟩
theorem frL_has {p : List Nat} : ∀ {c k}, k < c → k ∉ p → ∃ i, i < (frL p c).length ∧ pv (frL p c) i = k
  | 0, k, h, _ => absurd h (Nat.not_lt_zero _)
  | c + 1, k, h, hk => by
    rw [frL]
    split
    · rename_i e
      refine frL_has ?_ hk
      by_cases e2 : k = c
      · rw [e2] at hk; exact absurd e hk
      · omega
    · rename_i e
      rw [List.length_append]
      by_cases e2 : k = c
      · refine ⟨(frL p c).length, by simp, ?_⟩
        rw [pv_snoc, if_neg (Nat.lt_irrefl _), if_pos rfl, e2]
      · obtain ⟨i, h1, h2⟩ := frL_has (c := c) (by omega) hk
        exact ⟨i, by simp; omega, by rw [pv_snoc, if_pos h1, h2]⟩
theorem nulP_frL (p : List Nat) (A : List (List Rat)) (w : Nat) : ∀ c, nulP p A w c = (frL p c).map (nulR p A w)
  | 0 => rfl
  | c + 1 => by
    rw [nulP, frL, nulP_frL p A w c]
    split
    · rfl
    · rw [List.map_append]; rfl
/-- The vectors of the free columns. -/
def nulM (p : List Nat) (A : List (List Rat)) (w : Nat) : List (List Rat) := nulP p A w w
theorem nulM_len (p : List Nat) (A : List (List Rat)) (w : Nat) : (nulM p A w).length = (frL p w).length := by
  unfold nulM
  rw [nulP_frL, List.length_map]
theorem Lin.sum {S : (Nat → Rat) → Prop} (hS : Lin S) {f : Nat → Nat → Rat} {a : Nat → Rat} : ∀ n, (∀ c, c < n → a c ≠ 0 → S (f c)) → S fun k => sm n fun c => a c * f c k
  | 0, _ => hS.zero
  | n + 1, h => by
    have ih := Lin.sum hS n fun c hc => h c (by omega)
    by_cases e : a n = 0
    · have : (fun k => sm (n + 1) fun c => a c * f c k) = fun k => sm n fun c => a c * f c k := funext fun k => by rw [sm, e]; grind
      rw [this]; exact ih
    · exact hS.comb (a n) ih (h n (by omega) e) fun k => by rw [sm]
end Go.Proofs.Ytjjebokgckmnjaa


/- The determinant by elimination. No program in sight. -/
namespace Go.Proofs.Ytjjebokgckmnjaa
set_option linter.unusedSimpArgs false
set_option linter.unusedVariables false

abbrev mtx (M : List (List Rat)) : Mat := fun i j => ent M i j
theorem mtx_set {M : List (List Rat)} {i : Nat} (hi : i < M.length) (l : List Rat) : mtx (M.set i l) = upd (mtx M) i (cf l) := by
  funext a b
  show cf ((M.set i l).getD a []) b = upd (mtx M) i (cf l) a b
  rw [gd_set hi]
  unfold upd
  split
  · rfl
  · rfl
theorem det_pvI {M : List (List Rat)} {n r c : Nat} (hW : Wid n M) (hl : M.length = n) (hr : r < n) : ∀ i, i ≤ n → det n (mtx (pvI M r c i)) = (1 / ent M r c) * det n (mtx M)
  | 0, _ => by
    rw [pvI_zero c (by omega), mtx_set (by omega)]
    have h1 : upd (mtx M) r (cf (pvR M r c)) = upd (mtx M) r fun j => (1 / ent M r c) * mtx M r j + 0 * mtx M r j := by
      congr 1
      funext j
      unfold pvR
      rw [cf_rw1]
      show ent M r j * _ = _ * ent M r j + _
      grind
    rw [h1, (det_ML n).lin _ _ _ _ _ _ hr, upd_self]; grind
  | i + 1, hi => by
    by_cases e : i = r
    · have h1 := det_pvI (c := c) hW hl hr i (by omega)
      rw [e] at h1 ⊢
      rw [pvI_self]
      exact h1
    · rw [pvI_succ c (by omega) e, mtx_set (by rw [pvI_len]; omega)]
      have h1 : upd (mtx (pvI M r c i)) i (cf (rw2 (M.getD i []) (pvR M r c) (ent M i c))) = upd (mtx (pvI M r c i)) i fun j => mtx (pvI M r c i) i j + (- ent M i c) * mtx (pvI M r c i) r j := by
        congr 1
        funext j
        rw [cf_rw2 (by unfold pvR; rw [rw1_len, hW r (by omega), hW i (by omega)]; exact Nat.le_refl _)]
        show _ = cf ((pvI M r c i).getD i []) j + _ * cf ((pvI M r c i).getD r []) j
        rw [pvI_get (by omega), pvI_get (by omega), if_pos rfl, if_neg e, if_neg (Nat.lt_irrefl i)]; grind
      rw [h1, (det_ML n).addrow _ (by omega) hr e]
      exact det_pvI hW hl hr i (by omega)
theorem det_swM {M : List (List Rat)} {n k p : Nat} (hl : M.length = n) (hk : k < n) (hp : p < n) : det n (mtx (swM M k p)) = if p = k then det n (mtx M) else - det n (mtx M) := by
  split
  · rename_i e
    rw [e, swM_self (by omega)]
  · rename_i e
    rw [← (det_ML n).swap _ hk hp (fun h => e h.symm)]
    refine (det_ML n).congr fun i _ j _ => ?_
    show ent (swM M k p) i j = swp (mtx M) k p i j
    rw [ent_swM (by omega) (by omega)]
    unfold swp upd
    by_cases e1 : i = k
    · by_cases e2 : i = p
      · exact absurd (e2.symm.trans e1) e
      · rw [if_pos e1, if_neg e2, if_pos e1]
    · by_cases e2 : i = p
      · rw [if_neg e1, if_pos e2, if_pos e2]
      · rw [if_neg e1, if_neg e2, if_neg e2, if_neg e1]
/-- The sign and product of what the rows were divided by. -/
theorem elm_det {M : List (List Rat)} {n : Nat} (hW : Wid n M) (hl : M.length = n) : ∀ c, c ≤ n → (elm M c).d ≠ 0 ∧ (elm M c).d * det n (mtx (elm M c).M) = det n (mtx M)
  | 0, _ => ⟨show (1 : Rat) ≠ 0 by decide, by
    show (1 : Rat) * det n (mtx M) = det n (mtx M)
    rw [Rat.one_mul]⟩
  | c + 1, hc => by
    obtain ⟨h1, h2⟩ := elm_det hW hl c (by omega)
    obtain ⟨e1, e2, e3, e4, e5, e6, e7, _⟩ := elm_EI hW c
    show (stp (elm M c) c).d ≠ 0 ∧ (stp (elm M c) c).d * det n (mtx (stp (elm M c) c).M) = _
    obtain ⟨s, es⟩ : ∃ s, elm M c = s := ⟨_, rfl⟩
    rw [es] at h1 h2 e1 e2 e3 ⊢
    unfold stp
    split
    · exact ⟨h1, h2⟩
    · rename_i a ha
      obtain ⟨⟨f1, f2⟩, f3⟩ := srF_some ha
      have hr : s.p.length < n := by omega
      have W1 := swM_wid e2 (show s.p.length < s.M.length by omega) f2
      have g : ent (swM s.M s.p.length a) s.p.length c = ent s.M a c := by rw [ent_swM (by omega) f2, if_pos rfl]
      have hd : det n (mtx (pvt (swM s.M s.p.length a) s.p.length c)) = (1 / ent s.M a c) * (if a = s.p.length then det n (mtx s.M) else - det n (mtx s.M)) := by
        unfold pvt
        rw [det_pvI W1 (by rw [swM_len]; omega) hr _ (by rw [swM_len]; omega), g, det_swM (by omega) hr (by omega)]
      refine ⟨?_, ?_⟩
      · show (if a = s.p.length then s.d else -s.d) * ent s.M a c ≠ 0
        split <;> grind
      · show ((if a = s.p.length then s.d else -s.d) * ent s.M a c) * det n (mtx (pvt (swM s.M s.p.length a) s.p.length c)) = _
        rw [hd]
        split <;> grind
theorem inc_id {p : List Nat} {n : Nat} (hlt : ∀ i, i < p.length → pv p i < n) (hinc : ∀ i j, i < j → j < p.length → pv p i < pv p j) (hl : p.length = n) {i : Nat} (hi : i < n) : pv p i = i := by
  have lo : ∀ i, i < n → i ≤ pv p i := fun i => by
    induction i with
    | zero => exact fun _ => Nat.zero_le _
    | succ i ih => exact fun h => by have := ih (by omega); have := hinc i (i + 1) (by omega) (by omega); omega
  have hi2 : ∀ k, ∀ i, i + k + 1 = n → pv p i + k < n := fun k => by
    induction k with
    | zero => exact fun i h => by have := hlt i (by omega); omega
    | succ k ih => exact fun i h => by have := ih (i + 1) (by omega); have := hinc i (i + 1) (by omega) (by omega); omega
  have := lo i hi
  have := hi2 (n - 1 - i) i (by omega)
  omega
/-- The value of Det. -/
def dtV (M : List (List Rat)) : Rat := if (elm M M.length).p.length < M.length then 0 else (elm M M.length).d
theorem dtV_det {M : List (List Rat)} {n : Nat} (hW : Wid n M) (hl : M.length = n) : dtV M = det n (mtx M) := by
  obtain ⟨h1, h2⟩ := elm_det hW hl n (Nat.le_refl n)
  obtain ⟨e1, e2, e3, e4, e5, e6, e7, _⟩ := elm_EI hW n
  unfold dtV
  rw [hl]
  split
  · rename_i h
    rw [← h2, (det_ML n).zero _ (p := n - 1) (by omega) fun j hj => e7 (n - 1) j hj fun h' => by omega]; grind
  · rename_i h
    rw [← h2, (det_ML n).congr (M' := one) fun i hi j hj => ?_, det_one]
    · grind
    · have hp := inc_id e4 e5 (by omega) hj
      have := e6 i (by omega) j (by omega)
      rw [hp] at this
      exact this
theorem dtV_zero {M : List (List Rat)} {n : Nat} (hW : Wid n M) (hl : M.length = n) : dtV M = 0 ↔ rk M n < n := by
  obtain ⟨h1, _⟩ := elm_det hW hl n (Nat.le_refl n)
  unfold dtV rk
  rw [hl]
  split
  · rename_i h; exact ⟨fun _ => h, fun _ => rfl⟩
  · rename_i h; exact ⟨fun e => absurd e h1, fun e => absurd e h⟩
theorem frL_full {p : List Nat} {w : Nat} (hlt : ∀ i, i < p.length → pv p i < w) (hinc : ∀ i j, i < j → j < p.length → pv p i < pv p j) : ((frL p w).length = 0 ↔ p.length = w) := by
  constructor
  · intro h
    rcases Nat.lt_or_ge p.length w with h1 | h1
    · obtain ⟨c, c1, c2⟩ := free_ex hlt hinc h1
      obtain ⟨i, i1, _⟩ := frL_has (p := p) c1 fun hm => by
        obtain ⟨j, j1, j2⟩ := mem_pv.1 hm
        exact c2 j j1 j2
      omega
    · rcases Nat.lt_or_ge w p.length with h2 | h2
      · have lo : ∀ i, i < p.length → i ≤ pv p i := fun i => by
          induction i with
          | zero => exact fun _ => Nat.zero_le _
          | succ i ih => exact fun h => by have := ih (by omega); have := hinc i (i + 1) (by omega) (by omega); omega
        have := lo w h2
        have := hlt w h2
        omega
      · omega
  · intro h
    rcases Nat.lt_or_ge 0 (frL p w).length with h1 | h1
    · obtain ⟨f1, f2⟩ := frL_lt h1
      have := inc_id hlt hinc h f1
      exact absurd (mem_pv.2 ⟨_, by omega, this⟩) f2
    · omega
/-- The product of two matrices. -/
def prM (A B : List (List Rat)) : List (List Rat) := mkm (fun i => mkr (fun k => dotL (A.getD i []) ((trM B B.length).getD k [])) B.length) A.length
theorem prM_len (A B : List (List Rat)) : (prM A B).length = A.length := mkm_len _ _
theorem prM_wid (A B : List (List Rat)) : Wid B.length (prM A B) := fun i hi => by
  rw [prM_len] at hi
  unfold prM
  rw [gd_mkm, if_pos hi, mkr_len]
theorem ent_prM {A B : List (List Rat)} {n : Nat} (hA : Wid n A) (lA : A.length = n) (lB : B.length = n) {i k : Nat} (hi : i < n) (hk : k < n) : ent (prM A B) i k = sm n fun j => ent A i j * ent B j k := by
  show cf _ _ = _
  unfold prM
  rw [gd_mkm, if_pos (by omega), cf_mkr, if_pos (by omega), dotL_n (n := n) (by rw [hA i (by omega)]; omega)]
  exact sm_congr fun j hj => by
    rw [lB]
    exact congrArg (cf (A.getD i []) j * ·) (ent_trM B hk j)
theorem dtV_mul {A B : List (List Rat)} {n : Nat} (hA : Wid n A) (lA : A.length = n) (hB : Wid n B) (lB : B.length = n) : dtV (prM A B) = dtV A * dtV B := by
  have hP : Wid n (prM A B) := by have := prM_wid A B; rwa [lB] at this
  rw [dtV_det hP (by rw [prM_len, lA]), dtV_det hA lA, dtV_det hB lB, ← det_mul]
  exact (det_ML n).congr fun i hi j hj => ent_prM hA lA lB hi hj
theorem dtV_tr {A : List (List Rat)} {n : Nat} (hA : Wid n A) (lA : A.length = n) : dtV (trM A n) = dtV A := by
  have hT := trM_wid A n
  rw [lA] at hT
  rw [dtV_det hT (trM_len A n), dtV_det hA lA, ← det_tp]
  refine (det_ML n).congr fun i hi j hj => ?_
  show ent (trM A n) j i = ent A i j
  exact ent_trM A hj i
theorem dtV_sw {A : List (List Rat)} {n i k : Nat} (hA : Wid n A) (lA : A.length = n) (hi : i < n) (hk : k < n) : dtV (swM A i k) = if k = i then dtV A else - dtV A := by
  rw [dtV_det (swM_wid hA (by omega) (by omega)) (by rw [swM_len, lA]), dtV_det hA lA]
  exact det_swM lA hi hk
end Go.Proofs.Ytjjebokgckmnjaa


/- Changes of rows. No program in sight. -/
namespace Go.Proofs.Ytjjebokgckmnjaa
set_option linter.unusedSimpArgs false
set_option linter.unusedVariables false

def scR (a : List Rat) (c : Rat) : List Rat := mkr (fun j => cf a j * c) a.length
def adR (a b : List Rat) (c : Rat) : List Rat := mkr (fun j => cf a j + c * cf b j) a.length
def sbR (a b : List Rat) (c : Rat) : List Rat := mkr (fun j => cf a j - c * cf b j) a.length
/-- The change of rows that the laws use. -/
def chM (M : List (List Rat)) (t i k : Nat) (z : Int) : List (List Rat) :=
  if t = 0 then swM M i k
  else if t = 1 then (if z = 0 then M else M.set i (scR (M.getD i []) (z : Rat)))
  else if t = 2 then (if i = k then M else M.set i (adR (M.getD i []) (M.getD k []) (z : Rat)))
  else M ++ [sbR (M.getD i []) (M.getD k []) (z : Rat)]
theorem set_wid {M : List (List Rat)} {i w : Nat} {l : List Rat} (hW : Wid w M) (hi : i < M.length) (hl : l.length = w) : Wid w (M.set i l) := fun j hj => by
  rw [List.length_set] at hj
  rw [gd_set hi]
  split
  · exact hl
  · exact hW j hj
theorem gd_app {M : List (List Rat)} {l : List Rat} (j : Nat) : (M ++ [l]).getD j [] = if j < M.length then M.getD j [] else if j = M.length then l else [] := by
  rw [List.getD_eq_getElem?_getD]
  split
  · rename_i h; rw [List.getElem?_append_left h, List.getD_eq_getElem?_getD]
  · rename_i h
    rw [List.getElem?_append_right (by omega)]
    split
    · rename_i e; rw [e, Nat.sub_self]; rfl
    · rw [List.getElem?_eq_none (by simp; omega)]; rfl
theorem app_wid {M : List (List Rat)} {w : Nat} {l : List Rat} (hW : Wid w M) (hl : l.length = w) : Wid w (M ++ [l]) := fun j hj => by
  rw [List.length_append] at hj
  simp at hj
  rw [gd_app]
  split
  · rename_i h; exact hW j h
  · rw [if_pos (by omega)]; exact hl
theorem chM_wid {M : List (List Rat)} {w t i k : Nat} {z : Int} (hW : Wid w M) (hi : i < M.length) (hk : k < M.length) : Wid w (chM M t i k z) := by
  unfold chM
  split
  · exact swM_wid hW hi hk
  · split
    · split
      · exact hW
      · exact set_wid hW hi (by unfold scR; rw [mkr_len]; exact hW i hi)
    · split
      · split
        · exact hW
        · exact set_wid hW hi (by unfold adR; rw [mkr_len]; exact hW i hi)
      · exact app_wid hW (by unfold sbR; rw [mkr_len]; exact hW i hi)
theorem AllS.set {S : (Nat → Rat) → Prop} {M : List (List Rat)} {i : Nat} {l : List Rat} (hi : i < M.length) : AllS S (M.set i l) ↔ S (cf l) ∧ ∀ j, j < M.length → j ≠ i → S (cf (M.getD j [])) := by
  constructor
  · intro h
    refine ⟨?_, fun j hj hne => ?_⟩
    · have := h i (by rw [List.length_set]; exact hi)
      rwa [gd_set hi, if_pos rfl] at this
    · have := h j (by rw [List.length_set]; exact hj)
      rwa [gd_set hi, if_neg hne] at this
  · intro ⟨h1, h2⟩ j hj
    rw [List.length_set] at hj
    rw [gd_set hi]
    split
    · exact h1
    · rename_i e; exact h2 j hj e
theorem chM_same {M : List (List Rat)} {w t i k : Nat} {z : Int} (hW : Wid w M) (hi : i < M.length) (hk : k < M.length) (S : (Nat → Rat) → Prop) (hS : Lin S) : AllS S (chM M t i k z) ↔ AllS S M := by
  have wi := hW i hi
  have wk := hW k hk
  have hiw : ∀ j, ¬ j < (M.getD i []).length → cf (M.getD i []) j = 0 ∧ cf (M.getD k []) j = 0 := fun j hj => ⟨cf_hi (by omega), cf_hi (by omega)⟩
  unfold chM
  split
  · exact AllS.swap hi hk
  · split
    · split
      · exact Iff.rfl
      · rename_i hz
        have z0 : (z : Rat) ≠ 0 := fun e => hz (by exact_mod_cast e)
        have e1 : ∀ j, cf (scR (M.getD i []) (z : Rat)) j = (z : Rat) * cf (M.getD i []) j := fun j => by
          unfold scR
          rw [cf_mkr]
          split
          · grind
          · rename_i h; rw [(hiw j h).1]; grind
        rw [AllS.set hi]
        constructor
        · intro ⟨h1, h2⟩ j hj
          by_cases e : j = i
          · rw [e]
            exact hS.scale (1 / (z : Rat)) h1 fun c => by rw [e1]; grind
          · exact h2 j hj e
        · intro h
          exact ⟨hS.scale (z : Rat) (h i hi) e1, fun j hj _ => h j hj⟩
    · split
      · split
        · exact Iff.rfl
        · rename_i hne
          have e1 : ∀ j, cf (adR (M.getD i []) (M.getD k []) (z : Rat)) j = cf (M.getD i []) j + (z : Rat) * cf (M.getD k []) j := fun j => by
            unfold adR
            rw [cf_mkr]
            split
            · rfl
            · rename_i h; rw [(hiw j h).1, (hiw j h).2]; grind
          rw [AllS.set hi]
          constructor
          · intro ⟨h1, h2⟩ j hj
            by_cases e : j = i
            · rw [e]
              exact hS.comb (-(z : Rat)) h1 (h2 k hk (fun h => hne h.symm)) fun c => by rw [e1]; grind
            · exact h2 j hj e
          · intro h
            exact ⟨hS.comb (z : Rat) (h i hi) (h k hk) e1, fun j hj _ => h j hj⟩
      · have e1 : ∀ j, cf (sbR (M.getD i []) (M.getD k []) (z : Rat)) j = cf (M.getD i []) j + (-(z : Rat)) * cf (M.getD k []) j := fun j => by
          unfold sbR
          rw [cf_mkr]
          split
          · grind
          · rename_i h; rw [(hiw j h).1, (hiw j h).2]; grind
        constructor
        · intro h j hj
          have := h j (by rw [List.length_append]; simp; omega)
          rwa [gd_app, if_pos hj] at this
        · intro h j hj
          rw [List.length_append] at hj
          simp at hj
          rw [gd_app]
          split
          · rename_i hj'; exact h j hj'
          · rw [if_pos (by omega)]
            exact hS.comb (-(z : Rat)) (h i hi) (h k hk) e1
/-- A reduced row echelon form is its own form. -/
theorem rre_self {w : Nat} {p : List Nat} {A : List (List Rat)} (h : RE w p A) : (elm A w).p = p ∧ rre A w = A :=
  (elm_RE h.wid).uniq h fun S hS => rre_AllS h.wid hS
end Go.Proofs.Ytjjebokgckmnjaa


/- Contracts: products of rows, zeros, lists of numbers. -/
namespace Go.Proofs.Ytjjebokgckmnjaa
set_option linter.unusedSimpArgs false
set_option linter.unusedVariables false
open Go.RowKit

def DotOk (a b : List Rat) : Prop := (a.length ≤ 100 ∧ b.length ≤ 100) ∧ (∀ k, qs (cf a k) ≤ 10000000000) ∧ ∀ k, qs (cf b k) ≤ 10000000000
def kDot : Con := con2 pR pR fun a b => (DotOk a b, .Q (dotL a b))
attribute [go_sem ↓, go_sem] kDot
theorem dot_sz {a b : List Rat} (h : DotOk a b) : ∀ n, n ≤ 100 → qs (sm n fun i => cf a i * cf b i) ≤ 1 + n * 20000000001
  | 0, _ => qs_0
  | n + 1, hn => by
    have h1 := dot_sz h n (by omega)
    have h2 := qs_mul (cf a n) (cf b n)
    have h3 := h.2.1 n
    have h4 := h.2.2 n
    have h5 := qs_add (sm n fun i => cf a i * cf b i) (cf a n * cf b n)
    rw [sm]
    omega
theorem dot_C : Ctr Try.prog 21 kDot := Ctr.c2 (by kernel_rfl) fun a b h => by
  have T := (tabs mixed (tbl_cons r2Whole_C (tbl_cons r2Mul_C (tbl_cons r2Add_C tbl_nil))))
  have e0 : ((0 : Int) : Rat) = 0 := rfl
  show PCall _ _ _ (.Q (dotL a b))
  refine PCall.of_vc T Try.func21 rfl Try.ntmps21 Try.results21 (by simp) ?_
  simp only [go_sem, e0]
  refine AWp.loops (X := { i : Nat // i ≤ min a.length b.length }) (fun i => mkSt [(0, .lst (V.rats a)), (1, .lst (V.rats b)), (4, .ptr 0 4 0 0), (5, .ptr 1 4 0 0), (6, .raw (.int .i64 (i.1 : Nat)))] [(0, true, ⟨41, 4, [z0]⟩), (1, true, ⟨41, 4, [.Q (sm i.1 fun i => cf a i * cf b i)]⟩)] 2 32) (fun i => min a.length b.length - i.1) ⟨0, Nat.zero_le _⟩ (Wk.of [0, 2] (by decide) ?_) ?_
  · have e1 : (sm 0 fun i => cf a i * cf b i) = 0 := rfl
    simp only [go_sem, Int.natCast_zero, z0, e1]
  rintro ⟨i, hi⟩
  refine vc_at T ?_
  obtain ⟨⟨la, lb⟩, ha, hb⟩ := h
  have hs := dot_sz ⟨⟨la, lb⟩, ha, hb⟩ i (by omega)
  obtain ⟨s, es⟩ : ∃ s, (sm i fun i => cf a i * cf b i) = s := ⟨_, rfl⟩
  rw [es] at hs
  by_cases hin : i < min a.length b.length
  · have d1 : (i : Int) < (a.length : Int) := by omega
    have d1' : (i : Int) < (b.length : Int) := by omega
    have d2 : (i : Int) + 1 = ((i + 1 : Nat) : Int) := by omega
    have d3 : 0 ≤ (i : Int) := by omega
    have hia : i < a.length := by omega
    have hib : i < b.length := by omega
    have s1 : qs (cf a i) ≤ 5000000000000 := Nat.le_trans (ha i) (by decide)
    have s2 : qs (cf b i) ≤ 5000000000000 := Nat.le_trans (hb i) (by decide)
    have s3 : qs s ≤ 5000000000000 := by
      have : i * 20000000001 ≤ 100 * 20000000001 := Nat.mul_le_mul_right _ (by omega)
      omega
    have s4 : qs (cf a i * cf b i) ≤ 5000000000000 := by
      have := qs_mul (cf a i) (cf b i)
      have := ha i
      have := hb i
      omega
    have d4 : s + cf a i * cf b i = sm (i + 1) fun i => cf a i * cf b i := by rw [sm, es]
    simp only [go_sem, es, d1, d1', d2, d3, hia, hib, s1, s2, s3, s4, z0]
    refine ⟨by rfl, ⟨by omega, by omega⟩, ⟨i + 1, by omega⟩, Wk.of [0, 1] (by decide) ?_, by simp only; omega⟩
    simp only [go_sem, d4, z0]
  · obtain rfl : i = min a.length b.length := by omega
    have e1 : s = dotL a b := es.symm
    by_cases hl : a.length ≤ b.length
    · have d1 : ¬ ((min a.length b.length : Nat) : Int) < (a.length : Int) := by omega
      simp only [go_sem, es, d1, e1, z0]
    · have d1 : ((min a.length b.length : Nat) : Int) < (a.length : Int) := by omega
      have d2 : ¬ ((min a.length b.length : Nat) : Int) < (b.length : Int) := by omega
      simp only [go_sem, es, d1, d2, e1, z0]
def zrB (l : List Rat) : Bool := l.all fun q => decide (q = 0)
theorem zrB_iff {l : List Rat} : zrB l = true ↔ ∀ k, k < l.length → cf l k = 0 := by
  unfold zrB
  rw [List.all_eq_true]
  constructor
  · intro h k hk
    have := h l[k] (List.getElem_mem hk)
    rw [cf_lt hk]
    simpa using this
  · intro h q hq
    obtain ⟨k, hk, rfl⟩ := List.mem_iff_getElem.1 hq
    have := h k hk
    rw [cf_lt hk] at this
    simpa using this
def kZerosB : Con := con1 pR fun l => (l.length ≤ 1000000, .raw (.bool (zrB l)))
attribute [go_sem ↓, go_sem] kZerosB
theorem zerosB_C : Ctr Try.prog 13 kZerosB := Ctr.c1 (by kernel_rfl) fun l h => by
  have h : l.length ≤ 1000000 := h
  have T := (tabs mixed (tbl_cons r2Sign_C tbl_nil))
  show PCall _ _ _ (.raw (.bool (zrB l)))
  refine PCall.of_vc T Try.func13 rfl Try.ntmps13 Try.results13 (by simp) ?_
  simp only [go_sem]
  refine AWp.loops (X := { i : Nat // i ≤ l.length ∧ ∀ j, j < i → cf l j = 0 }) (fun i => mkSt [(0, .lst (V.rats l)), (2, .raw (.bool false)), (3, .raw (.int .i64 (i.1 : Nat)))] [] 0 16) (fun i => l.length - i.1) ⟨0, Nat.zero_le _, fun j h => absurd h (Nat.not_lt_zero _)⟩ (Wk.of [] (by decide) ?_) ?_
  · simp only [go_sem, Int.natCast_zero]
  rintro ⟨i, hi, inv⟩
  refine vc_at T ?_
  by_cases hin : i < l.length
  · have d1 : (i : Int) < (l.length : Int) := by omega
    have d2 : (i : Int) + 1 = ((i + 1 : Nat) : Int) := by omega
    have d3 : 0 ≤ (i : Int) := by omega
    by_cases h0 : cf l i = 0
    · have d4 : (sgI (cf l i).num != 0) = false := by rw [sgI_z, h0]; rfl
      simp only [go_sem, d1, d2, d3, d4, hin]
      refine ⟨⟨by omega, by omega⟩, ⟨i + 1, hin, fun j hj => ?_⟩, Wk.of [] (by decide) ?_, by simp only; omega⟩
      · by_cases e : j = i
        · rw [e]; exact h0
        · exact inv j (by omega)
      · simp only [go_sem]
    · have d4 : (sgI (cf l i).num != 0) = true := by rw [sgI_z]; simp [h0]
      have e1 : zrB l = false := by
        rcases hz : zrB l with _ | _
        · rfl
        · exact absurd (zrB_iff.1 hz i hin) h0
      simp only [go_sem, d1, d2, d3, d4, hin, e1]
  · obtain rfl : i = l.length := by omega
    have d1 : ¬ (l.length : Int) < (l.length : Int) := by omega
    have e1 : zrB l = true := zrB_iff.2 inv
    simp only [go_sem, d1, e1]
end Go.Proofs.Ytjjebokgckmnjaa

