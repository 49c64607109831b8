/- Texts MC10 MX7 MX8 MX9 MX10 in one. -/
import Derived.Test.YtjjebokgckmnjaaR30
import Derived.Test.YtjjebokgckmnjaaR29
/- Contracts: rows of integers, the transpose, the arguments. -/
namespace Go.Proofs.Ytjjebokgckmnjaa
set_option linter.unusedSimpArgs false
set_option linter.unusedVariables false
open Go.RowKit

def V.ints (l : List Int) : List V := l.map fun z => V.raw (.int .i64 z)
@[go_sem] theorem ints_len (l : List Int) : (V.ints l).length = l.length := by simp [V.ints]
@[go_sem] theorem ints_frz (l : List Int) : frzOk (V.ints l) = True := eq_true (frzOk_map (fun a => ⟨rfl, by simp, by simp⟩) l)
def iz (l : List Int) (i : Nat) : Int := l.getD i 0
@[go_sem ↓, go_sem] theorem ev_ints_get {l : List Int} {i : Nat} {k : V → Prop} : optC (V.ints l)[i]? k = (i < l.length ∧ k (.raw (.int .i64 (iz l i)))) := by
  unfold V.ints iz
  rw [List.getElem?_map, List.getD_eq_getElem?_getD]
  by_cases h : i < l.length
  · simp [List.getElem?_eq_getElem h, optC, h]
  · simp [List.getElem?_eq_none (Nat.le_of_not_lt h), optC, h]
def uninz : List V → Option (List Int)
  | [] => some []
  | .raw (.int .i64 n) :: l => (uninz l).map (n :: ·)
  | _ => none
theorem uninz_ok : ∀ (l : List V) (m : List Int), uninz l = some m → l = V.ints m
  | [], m, h => by injection h with h; subst h; rfl
  | x :: l, m, h => by
    unfold uninz at h
    split at h
    · rename_i e; cases e
    · rename_i n l' e
      injection e with e1 e2
      subst e1 e2
      rcases hm : uninz l with _ | m' <;> rw [hm] at h
      · cases h
      · injection h with h
        subst h
        rw [uninz_ok l m' hm]
        rfl
    · cases h
@[go_sem ↓, go_sem] theorem uninz_nil : uninz [] = some [] := rfl
@[go_sem ↓, go_sem] theorem uninz_cons (n : Int) (l : List V) : uninz (.raw (.int .i64 n) :: l) = (uninz l).map (n :: ·) := rfl
/-- A list of integers. -/
def pIs : Pat (List Int) where
  p
    | .lst l => (uninz l).map fun m => (True, m)
    | _ => none
  val l := .lst (V.ints l)
  ok x c a h hc := by
    split at h
    · rename_i l
      rcases hm : uninz l with _ | m <;> rw [hm] at h
      · cases h
      · injection h with h; injection h with h1 h2; subst h2
        rw [uninz_ok l m hm]; exact .refl _
    · cases h
@[go_sem ↓, go_sem] theorem ev_pIs {l : List V} : pIs.p (.lst l) = (uninz l).map fun m => (True, m) := rfl
@[go_sem ↓, go_sem] theorem ev_pIs_mk {l : List Int} : pIs.val l = .lst (V.ints l) := rfl
def rwZ (l : List Int) : List Rat := l.map fun z : Int => (z : Rat)
def SmI (l : List Int) : Prop := l.length ≤ 100 ∧ ∀ i, -128 ≤ iz l i ∧ iz l i ≤ 127
def kRow : Con := con1 pIs fun l => (SmI l, .lst (V.rats (rwZ l)))
attribute [go_sem ↓, go_sem] kRow
set_option maxRecDepth 4000 in
theorem row_C : Ctr Try.prog 34 kRow := Ctr.c1 (by kernel_rfl) fun l h => by
  obtain ⟨hl, hz⟩ := h
  show PCall _ _ _ (.lst (V.rats (rwZ l)))
  have T := (tabs mixed (tbl_cons r2Whole_C tbl_nil))
  have mx : maxLen = 9223372036854775807 := by decide
  refine PCall.of_vc T Try.func34 rfl Try.ntmps34 Try.results34 (by simp) ?_
  simp only [go_sem]
  refine AWp.loops (X := { i : Nat // i ≤ l.length }) (fun i => mkSt [(0, .lst (V.ints l)), (2, .raw (.slice none 0 0)), (3, .sl 0 4 0 i.1), (4, .raw (.int .i64 (i.1 : Nat)))] [(0, true, ⟨41, 4, V.rats (rwZ (l.take i.1))⟩)] 1 21) (fun i => l.length - i.1) ⟨0, Nat.zero_le _⟩ (Wk.of [1] (by decide) ?_) ?_
  · simp only [go_sem, Int.natCast_zero]
    exact rfl
  rintro ⟨i, hi⟩
  refine vc_at T ?_
  have li : (rwZ (l.take i)).length = i := by simp [rwZ]; omega
  by_cases hin : i < l.length
  · have d1 : (i : Int) < (l.length : Int) := by omega
    have d2 : (i : Int) + 1 = ((i + 1 : Nat) : Int) := by omega
    have d3 : 0 ≤ (i : Int) := by omega
    have d4 : (rwZ (l.take i)).take i = rwZ (l.take i) := List.take_of_length_le (by omega)
    have tt : l.take (i + 1) = l.take i ++ [iz l i] := by
      rw [List.take_add_one, List.getElem?_eq_getElem hin]
      unfold iz
      rw [List.getD_eq_getElem?_getD, List.getElem?_eq_getElem hin]
      rfl
    have d6 : rwZ (l.take i) ++ [((iz l i : Int) : Rat)] = rwZ (l.take (i + 1)) := by
      rw [tt]
      unfold rwZ
      rw [List.map_append]
      rfl
    have d5 : V.rats (rwZ (l.take i)) ++ [V.Q ((iz l i : Int) : Rat)] = V.rats (rwZ (l.take (i + 1))) := by
      rw [← d6]
      unfold V.rats
      rw [List.map_append]
      rfl
    have hzi := hz i
    simp only [go_sem, d1, d2, d3, d4, d5, d6, hin, mx, li]
    refine ⟨⟨by omega, by omega⟩, ⟨by omega, by omega⟩, ⟨by omega, by omega⟩, ⟨i + 1, hin⟩, Wk.of [12] (by decide) ?_, by simp only; omega⟩
    simp only [go_sem]
  · obtain rfl : i = l.length := by omega
    have d1 : ¬ (l.length : Int) < (l.length : Int) := by omega
    have tk : l.take l.length = l := List.take_of_length_le (Nat.le_refl _)
    rw [tk] at li
    have tk2 : (rwZ l).take l.length = rwZ l := List.take_of_length_le (by omega)
    have mm : l.length ≤ l.length := Nat.le_refl _
    simp only [go_sem, d1, tk, li, tk2, mm]
theorem mkr_take (F : Nat → Rat) (i : Nat) : (mkr F i).take i = mkr F i := List.take_of_length_le (by rw [mkr_len]; exact Nat.le_refl _)
theorem mkr_snoc (F : Nat → Rat) (i : Nat) : V.rats (mkr F i) ++ [.Q (F i)] = V.rats (mkr F (i + 1)) := by
  rw [mkr_succ]
  unfold V.rats
  rw [List.map_append]; rfl
theorem mkr_snoc' (F : Nat → Rat) (i : Nat) : mkr F i ++ [F i] = mkr F (i + 1) := (mkr_succ F i).symm
theorem mkm_take (F : Nat → List Rat) (i : Nat) : (mkm F i).take i = mkm F i := List.take_of_length_le (by rw [mkm_len]; exact Nat.le_refl _)
def kTurned : Con := con2 pMt (pN .i64) fun M z => ((M.length ≤ 1000 ∧ 0 ≤ z ∧ z ≤ 1000) ∧ ∀ i, i < M.length → z ≤ ((M.getD i []).length : Nat), .lst (V.mat (trM M z.toNat)))
attribute [go_sem ↓, go_sem] kTurned
set_option maxRecDepth 4000 in
theorem turned_C : Ctr Try.prog 20 kTurned := Ctr.c2 (by kernel_rfl) fun M z h => by
  obtain ⟨⟨hm, hz, hz2⟩, hw⟩ := h
  obtain ⟨n, rfl⟩ : ∃ n : Nat, z = n := ⟨z.toNat, by omega⟩
  show PCall _ _ [.lst (V.mat M), .raw (.int .i64 (n : Nat))] (.lst (V.mat (trM M n)))
  have T := (tabs mixed tbl_nil)
  have mx : maxLen = 9223372036854775807 := by decide
  refine PCall.of_vc T Try.func20 rfl Try.ntmps20 Try.results20 (by simp) ?_
  unfold trM
  obtain ⟨F, eF⟩ : ∃ F : Nat → List Rat, F = fun k => mkr (fun i => ent M i k) M.length := ⟨_, rfl⟩
  rw [← eF]
  simp only [go_sem]
  refine AWp.loops (X := { c : Nat // c ≤ n }) (fun c => mkSt [(0, .lst (V.mat M)), (1, .raw (.int .i64 (n : Nat))), (4, .raw (.slice none 0 0)), (5, .sl 0 1 0 c.1), (6, .raw (.int .i64 (c.1 : Nat)))] [(0, true, ⟨33, 1, V.mat (mkm F c.1)⟩)] 1 37) (fun c => n - c.1) ⟨0, Nat.zero_le _⟩ (Wk.of [1] (by decide) ?_) ?_
  · have e0 : V.mat (mkm F 0) = [] := rfl
    simp only [go_sem, e0, Int.natCast_zero]
  rintro ⟨c, hc⟩
  refine AWp.endFrz 5 ?_
  refine vc_at T ?_
  by_cases hcn : c < n
  · have d1 : (c : Int) < (n : Int) := by omega
    have d2 : (c : Int) + 1 = ((c + 1 : Nat) : Int) := by omega
    have d3 : 0 ≤ (c : Int) := by omega
    have lc : (mkm F c).length = c := mkm_len _ _
    simp only [go_sem, d1]
    refine AWp.loops (X := { i : Nat // i ≤ M.length }) (fun i => mkSt [(0, .lst (V.mat M)), (1, .raw (.int .i64 (n : Nat))), (4, .raw (.slice none 0 0)), (5, .sl 0 1 0 c), (6, .raw (.int .i64 (c : Nat))), (7, .sl 1 4 0 i.1), (8, .raw (.int .i64 (i.1 : Nat)))] [(0, true, ⟨33, 1, V.mat (mkm F c)⟩), (1, true, ⟨41, 4, V.rats (mkr (fun i => ent M i c) i.1)⟩)] 2 37) (fun i => M.length - i.1) ⟨0, Nat.zero_le _⟩ (Wk.of [0, 4] (by decide) ?_) ?_
    · have e0 : V.rats (mkr (fun i => ent M i c) 0) = [] := rfl
      simp only [go_sem, e0, Int.natCast_zero]
    rintro ⟨i, hi⟩
    refine vc_at T ?_
    have li : (mkr (fun i => ent M i c) i).length = i := mkr_len _ _
    by_cases hin : i < M.length
    · have f1 : (i : Int) < (M.length : Int) := by omega
      have f2 : (i : Int) + 1 = ((i + 1 : Nat) : Int) := by omega
      have f3 : 0 ≤ (i : Int) := by omega
      have f4 : c < (M.getD i []).length := by have := hw i hin; omega
      have f5 : V.rats (mkr (fun i => ent M i c) i) ++ [.Q (cf (M.getD i []) c)] = V.rats (mkr (fun i => ent M i c) (i + 1)) := mkr_snoc _ _
      have f6 : mkr (fun i => ent M i c) i ++ [cf (M.getD i []) c] = mkr (fun i => ent M i c) (i + 1) := mkr_snoc' _ _
      simp only [go_sem, f1, f2, f3, f4, f5, f6, d3, hin, li, mx, mkr_take]
      refine ⟨by omega, ⟨by omega, by omega⟩, ⟨by omega, by omega⟩, ⟨i + 1, hin⟩, Wk.of [0, 15] (by decide) ?_, by simp only; omega⟩
      simp only [go_sem]
    · obtain rfl : i = M.length := by omega
      have f1 : ¬ (M.length : Int) < (M.length : Int) := by omega
      have f2 : mkr (fun i => ent M i c) M.length = F c := by rw [eF]
      have f3 : mkm F c ++ [F c] = mkm F (c + 1) := (mkm_succ F c).symm
      have lF : (F c).length = M.length := by rw [← f2]; exact li
      have tF : (F c).take M.length = F c := List.take_of_length_le (by omega)
      have mm : M.length ≤ M.length := Nat.le_refl _
      simp only [go_sem, f1, f2, d2, mx, li, lc, lF, tF, mm, ev_frzT_n, frz_mat_snocA, mat_snoc, mkm_take, f3]
      refine ⟨⟨by omega, by omega⟩, ⟨by omega, by omega⟩, ⟨c + 1, hcn⟩, Wk.of [9] (by decide) ?_, by simp only; omega⟩
      simp only [go_sem]
  · obtain rfl : c = n := by omega
    have d1 : ¬ (c : Int) < (c : Int) := by omega
    have lc : (mkm F c).length = c := mkm_len _ _
    have mm : c ≤ c := Nat.le_refl _
    simp only [go_sem, d1, lc, mkm_take, mm]
/-- The arguments of the laws. -/
structure Raw5 where
  R : Int
  C : Int
  W : List Int
def V.i16s (l : List Int) : List V := l.map fun z => V.raw (.int .i16 z)
@[go_sem] theorem i16_len (l : List Int) : (V.i16s l).length = l.length := by simp [V.i16s]
@[go_sem ↓, go_sem] theorem ev_i16_get {l : List Int} {i : Nat} {k : V → Prop} : optC (V.i16s l)[i]? k = (i < l.length ∧ k (.raw (.int .i16 (iz l i)))) := by
  unfold V.i16s iz
  rw [List.getElem?_map, List.getD_eq_getElem?_getD]
  by_cases h : i < l.length
  · simp [List.getElem?_eq_getElem h, optC, h]
  · simp [List.getElem?_eq_none (Nat.le_of_not_lt h), optC, h]
def unI16 : List V → Option (List Int)
  | [] => some []
  | .raw (.int .i16 n) :: l => (unI16 l).map (n :: ·)
  | _ => none
theorem unI16_ok : ∀ (l : List V) (m : List Int), unI16 l = some m → l = V.i16s m
  | [], m, h => by injection h with h; subst h; rfl
  | x :: l, m, h => by
    unfold unI16 at h
    split at h
    · rename_i e; cases e
    · rename_i n l' e
      injection e with e1 e2
      subst e1 e2
      rcases hm : unI16 l with _ | m' <;> rw [hm] at h
      · cases h
      · injection h with h
        subst h
        rw [unI16_ok l m' hm]
        rfl
    · cases h
@[go_sem ↓, go_sem] theorem unI16_i16 : ∀ l : List Int, unI16 (V.i16s l) = some l
  | [] => rfl
  | x :: l => by
    show (unI16 (V.i16s l)).map (x :: ·) = _
    rw [unI16_i16 l]; rfl
def Raw5.v (x : Raw5) : V := .agg [.raw (.int .u8 x.R), .raw (.int .u8 x.C), .lst (V.i16s x.W)]
def pRaw5 : Pat Raw5 where
  p
    | .agg [.raw (.int .u8 r), .raw (.int .u8 c), .lst l] => (unI16 l).map fun m => (True, ⟨r, c, m⟩)
    | _ => none
  val := Raw5.v
  ok x c a h hc := by
    split at h
    · rename_i r c l
      rcases hm : unI16 l with _ | m <;> rw [hm] at h
      · cases h
      · injection h with h; injection h with h1 h2; subst h2
        rw [unI16_ok l m hm]; exact .refl _
    · cases h
@[go_sem ↓, go_sem] theorem ev_pRaw5 {r c : Int} {l : List V} : pRaw5.p (.agg [.raw (.int .u8 r), .raw (.int .u8 c), .lst l]) = (unI16 l).map fun m => (True, ⟨r, c, m⟩) := rfl
@[go_sem ↓, go_sem] theorem ev_pRaw5_mk {x : Raw5} : pRaw5.val x = .agg [.raw (.int .u8 x.R), .raw (.int .u8 x.C), .lst (V.i16s x.W)] := rfl
def rwQ (v : Int) : Rat := mdQ (v.tmod 10) (1 + bits .and .i64 (v / 256) 1)
theorem and1_ok {z : Int} (h1 : -128 ≤ z) (h2 : z ≤ 127) : 0 ≤ bits .and .i64 z 1 ∧ bits .and .i64 z 1 ≤ 1 := by
  have key : ∀ n : Fin 256, 0 ≤ bits .and .i64 ((n.1 : Int) - 128) 1 ∧ bits .and .i64 ((n.1 : Int) - 128) 1 ≤ 1 := by decide +kernel
  have := key ⟨(z + 128).toNat, by omega⟩
  rw [show (((⟨(z + 128).toNat, by omega⟩ : Fin 256).1 : Nat) : Int) - 128 = z by simp; omega] at this
  exact this
theorem tmod10 (v : Int) : -9 ≤ v.tmod 10 ∧ v.tmod 10 ≤ 9 := by
  rw [Int.tmod_eq_emod]
  have : ((10 : Int).natAbs : Int) = 10 := rfl
  split <;> omega
structure Raw5.Ok (x : Raw5) : Prop where
  r : 0 ≤ x.R ∧ x.R ≤ 255
  c : 0 ≤ x.C ∧ x.C ≤ 255
  v : ∀ i, -32768 ≤ iz x.W i ∧ iz x.W i ≤ 32767
  l : x.W.length ≤ 9223372036854775807
def Raw5.rows (x : Raw5) : Nat := (x.R % 5).toNat
def Raw5.cols (x : Raw5) : Nat := (x.C % 6).toNat
def Raw5.m (x : Raw5) (r c : Nat) : List (List Rat) := mkm (fun i => mkr (fun k => rwQ (iz x.W (i * c + k))) c) r
def kMade5 : Con := con1 pRaw5 fun x => (x.Ok, .tup [.lst (V.mat (x.m x.rows x.cols)), .raw (.int .i64 (x.cols : Nat))])
attribute [go_sem ↓, go_sem] kMade5
set_option maxRecDepth 8000 in
theorem made5_C : Ctr Try.prog 10 kMade5 := Ctr.c1 (by kernel_rfl) fun x h => by
  obtain ⟨hr, hc, hv, hl⟩ := h
  show PCall _ _ [.agg [.raw (.int .u8 x.R), .raw (.int .u8 x.C), .lst (V.i16s x.W)]] (.tup [.lst (V.mat (x.m x.rows x.cols)), .raw (.int .i64 (x.cols : Nat))])
  have T := (tabs mixed (tbl_cons r2Made_C tbl_nil))
  have mx : maxLen = 9223372036854775807 := by decide
  refine PCall.of_vc T Try.func10 rfl Try.ntmps10 Try.results10 (by simp) ?_
  have w1 : IntKind.i64.wrap x.R = x.R := IntWalk.i64_in _ ⟨by omega, by omega⟩
  have w2 : IntKind.i64.wrap x.C = x.C := IntWalk.i64_in _ ⟨by omega, by omega⟩
  obtain ⟨r, er⟩ : ∃ r, x.rows = r := ⟨_, rfl⟩
  obtain ⟨c, ec⟩ : ∃ c, x.cols = c := ⟨_, rfl⟩
  have t1 : x.R.tmod 5 = ((r : Nat) : Int) := by
    rw [← er]
    unfold Raw5.rows
    rw [Int.tmod_eq_emod_of_nonneg hr.1]
    omega
  have t2 : x.C.tmod 6 = ((c : Nat) : Int) := by
    rw [← ec]
    unfold Raw5.cols
    rw [Int.tmod_eq_emod_of_nonneg hc.1]
    omega
  have lr : r < 5 := by rw [← er]; unfold Raw5.rows; omega
  have lc : c < 6 := by rw [← ec]; unfold Raw5.cols; omega
  rw [er, ec]
  unfold Raw5.m
  obtain ⟨F, eF⟩ : ∃ F : Nat → List Rat, F = fun i => mkr (fun k => rwQ (iz x.W (i * c + k))) c := ⟨_, rfl⟩
  rw [← eF]
  simp only [go_sem, w1, w2, t1, t2]
  have hp : allPure [V.agg [.raw (.int .u8 x.R), .raw (.int .u8 x.C), .lst (V.i16s x.W)]] := fun y hy => by
    rw [List.mem_singleton] at hy; subst hy; rfl
  refine ⟨by rfl, ?_⟩
  refine AWp.loops (X := { i : Nat // i ≤ r }) (fun i => mkSt [(1, .ptr 1 3 0 0), (4, .raw (.int .i64 (r : Nat))), (5, .raw (.int .i64 (c : Nat))), (6, .sl 0 1 0 i.1), (7, .raw (.int .i64 (i.1 : Nat)))] [(0, true, ⟨33, 1, V.mat (mkm F i.1)⟩), (1, true, ⟨24, 3, [.agg [.raw (.int .u8 x.R), .raw (.int .u8 x.C), .lst (V.i16s x.W)]]⟩)] 2 67) (fun i => r - i.1) ⟨0, Nat.zero_le _⟩ (Wk.of [11, 0] (by decide) ?_) ?_
  · have e0 : V.mat (mkm F 0) = [] := rfl
    simp only [go_sem, e0, hp, Int.natCast_zero]
  rintro ⟨i, hi⟩
  refine AWp.endFrz 6 ?_
  refine vc_at T ?_
  by_cases hir : i < r
  · have d1 : (i : Int) < (r : Int) := by omega
    have d2 : (i : Int) + 1 = ((i + 1 : Nat) : Int) := by omega
    have li : (mkm F i).length = i := mkm_len _ _
    simp only [go_sem, d1]
    refine AWp.loops (X := { k : Nat // k ≤ c }) (fun k => mkSt [(1, .ptr 1 3 0 0), (4, .raw (.int .i64 (r : Nat))), (5, .raw (.int .i64 (c : Nat))), (6, .sl 0 1 0 i), (7, .raw (.int .i64 (i : Nat))), (8, .sl 2 4 0 k.1), (9, .raw (.int .i64 (k.1 : Nat)))] [(0, true, ⟨33, 1, V.mat (mkm F i)⟩), (1, true, ⟨24, 3, [.agg [.raw (.int .u8 x.R), .raw (.int .u8 x.C), .lst (V.i16s x.W)]]⟩), (2, true, ⟨41, 4, V.rats (mkr (fun k => rwQ (iz x.W (i * c + k))) k.1)⟩)] 3 67) (fun k => c - k.1) ⟨0, Nat.zero_le _⟩ (Wk.of [0, 1, 5] (by decide) ?_) ?_
    · have e0 : V.rats (mkr (fun k => rwQ (iz x.W (i * c + k))) 0) = [] := rfl
      simp only [go_sem, e0, hp, Int.natCast_zero]
    rintro ⟨k, hk⟩
    refine vc_at T ?_
    obtain ⟨G, eG⟩ : ∃ G : Nat → Rat, G = fun k => rwQ (iz x.W (i * c + k)) := ⟨_, rfl⟩
    rw [← eG]
    have lk : (mkr G k).length = k := mkr_len _ _
    by_cases hkc : k < c
    · have f1 : (k : Int) < (c : Int) := by omega
      have f2 : (k : Int) + 1 = ((k + 1 : Nat) : Int) := by omega
      have f4 : (i : Int) * (c : Int) = ((i * c : Nat) : Int) := by simp
      have f5 : i * c + k < 100 := by
        have := Nat.mul_le_mul (show i ≤ 4 by omega) (show c ≤ 5 by omega)
        omega
      have f6 : 0 ≤ ((i * c + k : Nat) : Int) := by omega
      obtain ⟨n, en⟩ : ∃ n, i * c + k = n := ⟨_, rfl⟩
      have f3 : ((i * c : Nat) : Int) + (k : Int) = (n : Int) := by omega
      have f7 : 0 ≤ (n : Int) := by omega
      have f8 : V.rats (mkr G k) ++ [.Q (G k)] = V.rats (mkr G (k + 1)) := mkr_snoc _ _
      have f9 : mkr G k ++ [G k] = mkr G (k + 1) := mkr_snoc' _ _
      have hvn := hv n
      have htm := tmod10 (iz x.W n)
      have wt : IntKind.i64.wrap ((iz x.W n).tmod 10) = (iz x.W n).tmod 10 := IntWalk.i64_in _ ⟨by omega, by omega⟩
      have wq : IntKind.i64.wrap (iz x.W n / 256) = iz x.W n / 256 := IntWalk.i64_in _ ⟨by omega, by omega⟩
      have hand := and1_ok (z := iz x.W n / 256) (by omega) (by omega)
      have gk : mdQ ((iz x.W n).tmod 10) (1 + bits .and .i64 (iz x.W n / 256) 1) = G k := by rw [eG, ← en]; rfl
      by_cases hnl : n < x.W.length
      · have g1 : (n : Int) < (x.W.length : Int) := by omega
        simp only [go_sem, f1, f2, f3, f4, f7, hkc, lk, mx, mkr_take, hnl, g1, wt, wq, gk, f8, f9]
        refine ⟨⟨by omega, by omega⟩, ⟨by omega, by omega⟩, ⟨by omega, by omega⟩, ⟨by omega, by omega⟩, ⟨by omega, by omega⟩, ⟨⟨by omega, by omega⟩, by omega, by omega⟩, ⟨by omega, by omega⟩, ⟨by omega, by omega⟩, ⟨k + 1, hkc⟩, Wk.of [0, 1, 37] (by decide) ?_, by simp only; omega⟩
        simp only [go_sem, hp]
      · have g1 : ¬ (n : Int) < (x.W.length : Int) := by omega
        have z0 : iz x.W n = 0 := by
          unfold iz
          rw [List.getD_eq_getElem?_getD, List.getElem?_eq_none (by omega)]; rfl
        have w0 : IntKind.i64.wrap 0 = 0 := by decide
        have t0 : Int.tmod 0 10 = 0 := rfl
        have q0 : (0 : Int) / 256 = 0 := rfl
        have b0 : bits .and .i64 0 1 = 0 := by decide
        have gk2 : mdQ 0 1 = G k := by rw [← gk, z0]; rfl
        simp only [go_sem, f1, f2, f3, f4, f7, hkc, lk, mx, mkr_take, hnl, g1, w0, q0, t0, b0, gk2, f8, f9]
        refine ⟨⟨by omega, by omega⟩, ⟨by omega, by omega⟩, ⟨by omega, by omega⟩, ⟨by omega, by omega⟩, ⟨k + 1, hkc⟩, Wk.of [0, 1, 27] (by decide) ?_, by simp only; omega⟩
        simp only [go_sem, hp]
    · obtain rfl : k = c := by omega
      have f1 : ¬ (k : Int) < (k : Int) := by omega
      have f2 : mkr G k = F i := by rw [eG, eF]
      have f3 : mkm F i ++ [F i] = mkm F (i + 1) := (mkm_succ F i).symm
      have lF : (F i).length = k := by rw [← f2]; exact lk
      have tF : (F i).take k = F i := List.take_of_length_le (by omega)
      have mm : k ≤ k := Nat.le_refl _
      simp only [go_sem, f1, f2, d2, mx, li, lF, tF, mm, ev_frzT_n, frz_mat_snocA, mat_snoc, mkm_take, f3]
      refine ⟨⟨by omega, by omega⟩, ⟨by omega, by omega⟩, ⟨i + 1, hir⟩, Wk.of [9, 1] (by decide) ?_, by simp only; omega⟩
      simp only [go_sem, hp]
  · obtain rfl : i = r := by omega
    have d1 : ¬ (i : Int) < (i : Int) := by omega
    have li : (mkm F i).length = i := mkm_len _ _
    have mm : i ≤ i := Nat.le_refl _
    simp only [go_sem, d1, li, mkm_take, mm]
end Go.Proofs.Ytjjebokgckmnjaa


/- Systems of equations: solutions and alternatives. No program in sight. -/
namespace Go.Proofs.Ytjjebokgckmnjaa
set_option linter.unusedSimpArgs false
set_option linter.unusedVariables false

theorem sm_ext {f : Nat → Rat} {m : Nat} : ∀ {n}, m ≤ n → (∀ i, m ≤ i → i < n → f i = 0) → sm n f = sm m f
  | 0, h, _ => by rw [show m = 0 from by omega]
  | n + 1, h, h0 => by
    by_cases e : m = n + 1
    · rw [e]
    · rw [sm, sm_ext (n := n) (by omega) fun i h1 h2 => h0 i h1 (by omega), h0 n (by omega) (by omega)]; grind
theorem cf_hi {l : List Rat} {k : Nat} (h : l.length ≤ k) : cf l k = 0 := by
  unfold cf
  rw [List.getD_eq_getElem?_getD, List.getElem?_eq_none h]; rfl
/-- The sum of the products. -/
def dotL (a b : List Rat) : Rat := sm (min a.length b.length) fun i => cf a i * cf b i
theorem dotL_n {a b : List Rat} {n : Nat} (h : min a.length b.length ≤ n) : dotL a b = sm n fun i => cf a i * cf b i := by
  unfold dotL
  refine (sm_ext h fun i h1 _ => ?_).symm
  rcases Nat.le_total a.length b.length with hl | hl
  · rw [cf_hi (l := a) (by omega)]; grind
  · rw [cf_hi (l := b) (by omega)]; grind
def rgV (M : List (List Rat)) (x : List Rat) : List Rat := mkr (fun i => dotL (M.getD i []) x) M.length
theorem rgV_len (M : List (List Rat)) (x : List Rat) : (rgV M x).length = M.length := mkr_len _ _
theorem cf_rgV {M : List (List Rat)} {w : Nat} (hW : Wid w M) (x : List Rat) {i : Nat} (hi : i < M.length) : cf (rgV M x) i = sm w fun k => ent M i k * cf x k := by
  unfold rgV
  rw [cf_mkr, if_pos hi, dotL_n (n := w) (by rw [hW i hi]; omega)]
theorem xS_cf {w : Nat} {p : List Nat} (E : List (List Rat)) (hlt : ∀ i, i < p.length → pv p i < w) (hinc : ∀ i j, i < j → j < p.length → pv p i < pv p j) : ∀ n, n ≤ p.length → ∀ k, cf (xS p E w n) k = sm n fun i => if k = pv p i then ent E i w else 0
  | 0, _, k => by
    rw [xS]
    show cf _ _ = 0
    unfold cf
    rw [List.getD_eq_getElem?_getD, List.getElem?_replicate]
    split <;> rfl
  | n + 1, hn, k => by
    rw [xS, cf_setL (by rw [xS_len]; exact hlt n (by omega)), xS_cf E hlt hinc n (by omega) k, sm]
    by_cases e : k = pv p n
    · rw [if_pos e, if_pos e, sm_zero fun i hi => if_neg fun e2 => by
        have := hinc i n hi (by omega)
        omega]
      grind
    · rw [if_neg e, if_neg e]; grind
/-- The linear forms that a list solves. -/
def Sol (w : Nat) (x : List Rat) (f : Nat → Rat) : Prop := (sm w fun k => f k * cf x k) = f w
theorem Sol_lin (w : Nat) (x : List Rat) : Lin (Sol w x) where
  zero := sm_zero fun i _ => by grind
  add f g hf hg := by
    show (sm w fun k => (f k + g k) * cf x k) = f w + g w
    rw [← hf, ← hg, ← sm_add]
    exact sm_congr fun i _ => by grind
  mul c f hf := by
    show (sm w fun k => (c * f k) * cf x k) = c * f w
    rw [← hf, ← sm_mul]
    exact sm_congr fun i _ => by grind
theorem slE_EI {M : List (List Rat)} {w : Nat} (hW : Wid w M) (b : List Rat) : EI (exM M b) (w + 1 + M.length) w (slE M b w) := elm_EI (exM_wid hW b) w
theorem slX_len (M : List (List Rat)) (b : List Rat) (w : Nat) : (slX M b w).length = w := xS_len _ _ _ _
theorem slX_ok {M : List (List Rat)} {b : List Rat} {w : Nat} (hW : Wid w M) (hF : slF M b w = none) {i : Nat} (hi : i < M.length) : (sm w fun k => ent M i k * cf (slX M b w) k) = cf b i := by
  obtain ⟨e1, e2, e3, e4, e5, e6, e7, e8⟩ := slE_EI hW b
  rw [exM_len] at e1 e3 e6
  have hx : ∀ k, cf (slX M b w) k = sm (slE M b w).p.length fun i => if k = pv (slE M b w).p i then ent (slE M b w).M i w else 0 := fun k => xS_cf _ e4 e5 _ (Nat.le_refl _) k
  have key : AllS (Sol w (slX M b w)) (slE M b w).M := fun i hi => by
    rw [e1] at hi
    show (sm w fun k => ent (slE M b w).M i k * cf (slX M b w) k) = ent (slE M b w).M i w
    have h1 : (sm w fun k => ent (slE M b w).M i k * cf (slX M b w) k) = sm (slE M b w).p.length fun j => ent (slE M b w).M i (pv (slE M b w).p j) * ent (slE M b w).M j w := by
      rw [sm_congr (g := fun k => sm (slE M b w).p.length fun j => ent (slE M b w).M i k * (if k = pv (slE M b w).p j then ent (slE M b w).M j w else 0)) fun k _ => by rw [hx k, sm_mul]]
      rw [sm_swap]
      exact sm_congr fun j hj => sm_if w (pv (slE M b w).p j) (fun k => ent (slE M b w).M i k) (ent (slE M b w).M j w) (e4 j hj)
    rw [h1]
    by_cases hip : i < (slE M b w).p.length
    · rw [sm_one i hip fun j hj hne => by rw [e6 i hi j hj, if_neg (fun e => hne e.symm)]; grind, e6 i hi i hip, if_pos rfl]; grind
    · rw [sm_zero fun j hj => by rw [e6 i hi j hj, if_neg (by omega)]; grind]
      exact (srF_none hF i (by omega) (by omega)).symm
  have := (e8 _ (Sol_lin w (slX M b w))).1 key i (by rw [exM_len]; exact hi)
  have h2 : (sm w fun k => ent (exM M b) i k * cf (slX M b w) k) = ent (exM M b) i w := this
  rw [ent_exM hW b hi, if_neg (Nat.lt_irrefl w), if_pos rfl] at h2
  rw [← h2]
  exact sm_congr fun k hk => by rw [ent_exM hW b hi, if_pos hk]
/-- What the last columns record. -/
def Rec (M : List (List Rat)) (b : List Rat) (w : Nat) (f : Nat → Rat) : Prop := (∀ k, k < w → f k = sm M.length fun j => f (w + 1 + j) * ent M j k) ∧ f w = sm M.length fun j => f (w + 1 + j) * cf b j
theorem Rec_lin (M : List (List Rat)) (b : List Rat) (w : Nat) : Lin (Rec M b w) where
  zero := ⟨fun k _ => (sm_zero fun i _ => by grind).symm, (sm_zero fun i _ => by grind).symm⟩
  add f g hf hg := by
    refine ⟨fun k hk => ?_, ?_⟩
    · show f k + g k = _
      rw [hf.1 k hk, hg.1 k hk, ← sm_add]
      exact sm_congr fun i _ => by grind
    · show f w + g w = _
      rw [hf.2, hg.2, ← sm_add]
      exact sm_congr fun i _ => by grind
  mul c f hf := by
    refine ⟨fun k hk => ?_, ?_⟩
    · show c * f k = _
      rw [hf.1 k hk, ← sm_mul]
      exact sm_congr fun i _ => by grind
    · show c * f w = _
      rw [hf.2, ← sm_mul]
      exact sm_congr fun i _ => by grind
theorem slW_len (M : List (List Rat)) (b : List Rat) (w i : Nat) : (slW M b w i).length = M.length := mkr_len _ _
theorem slW_ok {M : List (List Rat)} {b : List Rat} {w i : Nat} (hW : Wid w M) (hF : slF M b w = some i) : (∀ k, k < w → (sm M.length fun j => cf (slW M b w i) j * ent M j k) = 0) ∧ (sm M.length fun j => cf (slW M b w i) j * cf b j) = 1 := by
  obtain ⟨e1, e2, e3, e4, e5, e6, e7, e8⟩ := slE_EI hW b
  rw [exM_len] at e1 e3 e6
  obtain ⟨⟨f1, f2⟩, f3⟩ := srF_some hF
  have key : AllS (Rec M b w) (exM M b) := fun i hi => by
    rw [exM_len] at hi
    have g : ∀ j, j < M.length → ent (exM M b) i (w + 1 + j) = if j = i then 1 else 0 := fun j hj => by
      rw [ent_exM hW b hi, if_neg (by omega), if_neg (by omega)]
      by_cases e : j = i
      · rw [if_pos (by omega), if_pos e]
      · rw [if_neg (by omega), if_neg e]
    refine ⟨fun k hk => ?_, ?_⟩
    · show ent (exM M b) i k = sm M.length fun j => ent (exM M b) i (w + 1 + j) * ent M j k
      rw [sm_one i hi fun j hj hne => by rw [g j hj, if_neg hne]; grind, g i hi, if_pos rfl, ent_exM hW b hi, if_pos hk]; grind
    · show ent (exM M b) i w = sm M.length fun j => ent (exM M b) i (w + 1 + j) * cf b j
      rw [sm_one i hi fun j hj hne => by rw [g j hj, if_neg hne]; grind, g i hi, if_pos rfl, ent_exM hW b hi, if_neg (Nat.lt_irrefl w), if_pos rfl]; grind
  obtain ⟨h1, h2⟩ := (e8 _ (Rec_lin M b w)).2 key i f2
  have h2 : ent (slE M b w).M i w = sm M.length fun j => ent (slE M b w).M i (w + 1 + j) * cf b j := h2
  have h1 : ∀ k, k < w → ent (slE M b w).M i k = sm M.length fun j => ent (slE M b w).M i (w + 1 + j) * ent M j k := h1
  have hy : ∀ j, j < M.length → cf (slW M b w i) j = (1 / ent (slE M b w).M i w) * ent (slE M b w).M i (w + 1 + j) := fun j hj => by
    unfold slW
    rw [cf_mkr, if_pos hj]; grind
  refine ⟨fun k hk => ?_, ?_⟩
  · rw [sm_congr (g := fun j => (1 / ent (slE M b w).M i w) * (ent (slE M b w).M i (w + 1 + j) * ent M j k)) fun j hj => by rw [hy j hj]; grind, sm_mul, ← h1 k hk, e7 i k hk (fun h => absurd h (by omega))]; grind
  · rw [sm_congr (g := fun j => (1 / ent (slE M b w).M i w) * (ent (slE M b w).M i (w + 1 + j) * cf b j)) fun j hj => by rw [hy j hj]; grind, sm_mul, ← h2]; grind
/-- A right side that is a product has a solution. -/
theorem slF_none {M : List (List Rat)} {b : List Rat} {w : Nat} (hW : Wid w M) {v : Nat → Rat} (hb : ∀ i, i < M.length → cf b i = sm w fun k => ent M i k * v k) : slF M b w = none := by
  rcases hF : slF M b w with _ | i
  · rfl
  · obtain ⟨h1, h2⟩ := slW_ok hW hF
    rw [sm_congr (g := fun j => sm w fun k => cf (slW M b w i) j * (ent M j k * v k)) fun j hj => by rw [hb j hj, sm_mul], sm_swap, sm_zero fun k hk => by
      rw [sm_congr (g := fun j => v k * (cf (slW M b w i) j * ent M j k)) fun j _ => by grind, sm_mul, h1 k hk]; grind] at h2
    exact absurd h2 (by decide)
end Go.Proofs.Ytjjebokgckmnjaa


/- The vectors of the free columns: numbers and ranks. No program in sight. -/
namespace Go.Proofs.Ytjjebokgckmnjaa
set_option linter.unusedSimpArgs false
set_option linter.unusedVariables false

/-- The free columns. -/
def frL (p : List Nat) : Nat → List Nat
  | 0 => []
  | c + 1 => if c ∈ p then frL p c else frL p c ++ [c]
theorem frL_lt {p : List Nat} : ∀ {c i}, i < (frL p c).length → pv (frL p c) i < c ∧ pv (frL p c) i ∉ p
  | 0, i, h => by simp [frL] at h
  | c + 1, i, h => by
    rw [frL] at h ⊢
    split at h
    · rename_i e
      rw [if_pos e]
      have := frL_lt h
      exact ⟨by omega, this.2⟩
    · rename_i e
      rw [if_neg e]
      rw [List.length_append] at h
      rw [pv_snoc]
      by_cases hi : i < (frL p c).length
      · rw [if_pos hi]
        have := frL_lt hi
        exact ⟨by omega, this.2⟩
      · simp at h
        rw [if_neg hi, if_pos (by omega)]
        exact ⟨by omega, e⟩
theorem frL_inj {p : List Nat} : ∀ {c i j}, i < (frL p c).length → j < (frL p c).length → pv (frL p c) i = pv (frL p c) j → i = j
  | 0, i, j, h, _, _ => by simp [frL] at h
  | c + 1, i, j, hi, hj, e => by
    rw [frL] at hi hj e
    split at hi
    · rename_i h
      rw [if_pos h] at hj e
      exact frL_inj hi hj e
    · rename_i h
      rw [if_neg h] at hj e
      rw [List.length_append] at hi hj
      simp at hi hj
      rw [pv_snoc, pv_snoc] at e
      by_cases h1 : i < (frL p c).length
      · rw [if_pos h1] at e
        by_cases h2 : j < (frL p c).length
        · rw [if_pos h2] at e
          exact frL_inj h1 h2 e
        · rw [if_neg h2, if_pos (by omega)] at e
          have := (frL_lt h1).1; omega
      · rw [if_neg h1, if_pos (by omega)] at e
        by_cases h2 : j < (frL p c).length
        · rw [if_pos h2] at e
          have := (frL_lt h2).1; omega
        · omega
theorem frL_has {p : List Nat} : ∀ {c k}, k < c → k ∉ p → ∃ i, i < (frL p c).length ∧ pv (frL p c) i = k
  | 0, k, h, _ => absurd h (Nat.not_lt_zero _)
  | c + 1, k, h, hk => by
    rw [frL]
    split
    · rename_i e
      refine frL_has ?_ hk
      by_cases e2 : k = c
      · rw [e2] at hk; exact absurd e hk
      · omega
    · rename_i e
      rw [List.length_append]
      by_cases e2 : k = c
      · refine ⟨(frL p c).length, by simp, ?_⟩
        rw [pv_snoc, if_neg (Nat.lt_irrefl _), if_pos rfl, e2]
      · obtain ⟨i, h1, h2⟩ := frL_has (c := c) (by omega) hk
        exact ⟨i, by simp; omega, by rw [pv_snoc, if_pos h1, h2]⟩
theorem frL_len (p : List Nat) : ∀ c, (frL p c).length ≤ c
  | 0 => Nat.le_refl _
  | c + 1 => by
    have := frL_len p c
    rw [frL]
    split
    · omega
    · rw [List.length_append]; simp; omega
theorem nulP_frL (p : List Nat) (A : List (List Rat)) (w : Nat) : ∀ c, nulP p A w c = (frL p c).map (nulR p A w)
  | 0 => rfl
  | c + 1 => by
    rw [nulP, frL, nulP_frL p A w c]
    split
    · rfl
    · rw [List.map_append]; rfl
/-- The vectors of the free columns. -/
def nulM (p : List Nat) (A : List (List Rat)) (w : Nat) : List (List Rat) := nulP p A w w
theorem nulM_len (p : List Nat) (A : List (List Rat)) (w : Nat) : (nulM p A w).length = (frL p w).length := by
  unfold nulM
  rw [nulP_frL, List.length_map]
theorem nulM_get {w : Nat} {p : List Nat} {A : List (List Rat)} (h : RE w p A) {i : Nat} (hi : i < (frL p w).length) : (nulM p A w).getD i [] = mkr (nvF p A (pv (frL p w) i)) w := by
  unfold nulM
  obtain ⟨h1, h2⟩ := frL_lt hi
  rw [nulP_frL, gd_lt (by rw [List.length_map]; exact hi), List.getElem_map]
  rw [← nulR_eq h h1 fun j hj e => h2 (mem_pv.2 ⟨j, hj, e⟩)]
  unfold pv
  rw [List.getD_eq_getElem?_getD, List.getElem?_eq_getElem hi]; rfl
theorem nulM_wid {w : Nat} {p : List Nat} {A : List (List Rat)} (h : RE w p A) : Wid w (nulM p A w) := fun i hi => by
  rw [nulM_len] at hi
  rw [nulM_get h hi, mkr_len]
theorem ent_nulM {w : Nat} {p : List Nat} {A : List (List Rat)} (h : RE w p A) {i : Nat} (hi : i < (frL p w).length) {k : Nat} (hk : k < w) : ent (nulM p A w) i k = nvF p A (pv (frL p w) i) k := by
  show cf _ _ = _
  rw [nulM_get h hi, cf_mkr, if_pos hk]
theorem nulM_free {w : Nat} {p : List Nat} {A : List (List Rat)} (h : RE w p A) {i j : Nat} (hi : i < (frL p w).length) (hj : j < (frL p w).length) : ent (nulM p A w) i (pv (frL p w) j) = if j = i then 1 else 0 := by
  obtain ⟨h1, h2⟩ := frL_lt hj
  rw [ent_nulM h hi h1, nvF_free fun l hl e => h2 (mem_pv.2 ⟨l, hl, e⟩)]
  by_cases e : j = i
  · rw [if_pos e, e, if_pos rfl]
  · rw [if_neg e, if_neg fun e2 => e (frL_inj hj hi e2)]
theorem nulM_ker {M : List (List Rat)} {w : Nat} (hW : Wid w M) {i j : Nat} (hi : i < (frL (elm M w).p w).length) (hj : j < M.length) : (sm w fun k => ent M j k * ent (nulM (elm M w).p (rre M w) w) i k) = 0 := by
  have h := elm_RE hW
  obtain ⟨h1, h2⟩ := frL_lt hi
  have := (rre_AllS hW (Ker_lin w (nvF (elm M w).p (rre M w) (pv (frL (elm M w).p w) i)))).1 (nvF_ker h h1) j hj
  have h3 : (sm w fun k => ent M j k * nvF (elm M w).p (rre M w) (pv (frL (elm M w).p w) i) k) = 0 := this
  rw [← h3]
  exact sm_congr fun k hk => by rw [ent_nulM h hi hk]
/-- The vectors are independent. -/
theorem rk_nulM {w : Nat} {p : List Nat} {A : List (List Rat)} (h : RE w p A) : rk (nulM p A w) w = (nulM p A w).length := by
  have hB := nulM_wid h
  have hR := elm_RE hB
  have h1 := rk_rows hB
  refine Nat.le_antisymm h1 ?_
  rcases Nat.lt_or_ge (rk (nulM p A w) w) (nulM p A w).length with hlt | hge
  · obtain ⟨x, ⟨j, hj, hx⟩, hz⟩ := dep_ex (fun i j => ent (nulM p A w) j (pv (elm (nulM p A w) w).p i)) hlt
    have sp := (rre_AllS hB (SpA_lin _ _)).1 hR.sp
    have hjl : j < (frL p w).length := by rw [← nulM_len p A w]; exact hj
    obtain ⟨f1, f2⟩ := frL_lt hjl
    have e0 : (sm (nulM p A w).length fun i => x i * ent (nulM p A w) i (pv (frL p w) j)) = 0 := by
      rw [sm_congr (g := fun i => sm (rk (nulM p A w) w) fun l => x i * (ent (nulM p A w) i (pv (elm (nulM p A w) w).p l) * ent (rre (nulM p A w) w) l (pv (frL p w) j))) fun i hi => by
        rw [sm_mul]
        have := sp i hi (pv (frL p w) j)
        exact congrArg (x i * ·) this]
      rw [sm_swap]
      refine sm_zero fun l hl => ?_
      rw [sm_congr (g := fun i => ent (rre (nulM p A w) w) l (pv (frL p w) j) * (ent (nulM p A w) i (pv (elm (nulM p A w) w).p l) * x i)) fun i _ => by grind, sm_mul, hz l hl]; grind
    rw [sm_one j hj fun i hi hne => by
      rw [nulM_free h (by rw [← nulM_len p A w]; exact hi) hjl, if_neg (fun e => hne e.symm)]; grind, nulM_free h hjl hjl, if_pos rfl] at e0
    exact absurd (by grind) hx
  · exact hge
theorem Lin.sum {S : (Nat → Rat) → Prop} (hS : Lin S) {f : Nat → Nat → Rat} {a : Nat → Rat} : ∀ n, (∀ c, c < n → a c ≠ 0 → S (f c)) → S fun k => sm n fun c => a c * f c k
  | 0, _ => hS.zero
  | n + 1, h => by
    have ih := Lin.sum hS n fun c hc => h c (by omega)
    by_cases e : a n = 0
    · have : (fun k => sm (n + 1) fun c => a c * f c k) = fun k => sm n fun c => a c * f c k := funext fun k => by rw [sm, e]; grind
      rw [this]; exact ih
    · exact hS.comb (a n) ih (h n (by omega) e) fun k => by rw [sm]
/-- A list of the kernel adds nothing to the span. -/
theorem rk_more {M : List (List Rat)} {w : Nat} (hW : Wid w M) {g : List Rat} (hg : g.length = w) (hk : ∀ i, i < M.length → (sm w fun k => ent M i k * cf g k) = 0) : rk (nulM (elm M w).p (rre M w) w ++ [g]) w = rk (nulM (elm M w).p (rre M w) w) w := by
  have h := elm_RE hW
  have hB := nulM_wid h
  obtain ⟨B, eB⟩ : ∃ B, nulM (elm M w).p (rre M w) w = B := ⟨_, rfl⟩
  have hB' : Wid w B := eB ▸ hB
  have gl : ∀ i, i < B.length → (B ++ [g]).getD i [] = B.getD i [] := fun i hi => by
    rw [List.getD_eq_getElem?_getD, List.getD_eq_getElem?_getD, List.getElem?_append_left hi]
  have gg : (B ++ [g]).getD B.length [] = g := by
    rw [List.getD_eq_getElem?_getD, List.getElem?_append_right (Nat.le_refl _), Nat.sub_self]; rfl
  have hM : Wid w (B ++ [g]) := fun i hi => by
    rw [List.length_append] at hi
    simp at hi
    by_cases e : i < B.length
    · rw [gl i e]
      exact hB' i e
    · rw [show i = B.length from by omega, gg, hg]
  have := (rre_same (w := w) hM hB' fun S hS => ⟨fun H i hi => ?_, fun H i hi => ?_⟩).1
  · rw [eB]
    unfold rk
    rw [this]
  · have := H i (by rw [List.length_append]; simp; omega)
    rwa [gl i hi] at this
  · rw [List.length_append] at hi
    simp at hi
    by_cases e : i < B.length
    · rw [gl i e]; exact H i e
    · rw [show i = B.length from by omega, gg]
      have hker : AllS (Ker w (cf g)) (rre M w) := (rre_AllS hW (Ker_lin w (cf g))).2 fun i hi => hk i hi
      have : cf g = fun k => sm w fun c => (if ∀ i, i < (elm M w).p.length → pv (elm M w).p i ≠ c then cf g c else 0) * cf (mkr (nvF (elm M w).p (rre M w) c) w) k := funext fun k => by
        by_cases hkw : k < w
        · rw [ker_comb h hker hkw]
          exact sm_congr fun c _ => by rw [cf_mkr, if_pos hkw]
        · rw [cf_hi (by omega), sm_zero fun c _ => by rw [cf_mkr, if_neg hkw]; grind]
      rw [this]
      refine hS.sum w fun c hc h0 => ?_
      have hf : ∀ i, i < (elm M w).p.length → pv (elm M w).p i ≠ c := Classical.byContradiction fun hn => h0 (if_neg hn)
      obtain ⟨j, j1, j2⟩ := frL_has (p := (elm M w).p) hc fun hm => by
        obtain ⟨i, i1, i2⟩ := mem_pv.1 hm
        exact hf i i1 i2
      have := H j (by rw [← eB, nulM_len]; exact j1)
      rwa [← eB, nulM_get h j1, j2] at this
/-- How many pivots lie below a column. -/
def cntP (p : List Nat) (i : Nat) : Nat := i - (frL p i).length
theorem cntP_succ (p : List Nat) (i : Nat) : cntP p (i + 1) = if i ∈ p then cntP p i + 1 else cntP p i := by
  have := frL_len p i
  unfold cntP
  rw [frL]
  split
  · omega
  · rw [List.length_append]; simp
theorem cntP_ok {p : List Nat} (hinc : ∀ i j, i < j → j < p.length → pv p i < pv p j) : ∀ i, cntP p i ≤ p.length ∧ ∀ j, j < p.length → (j < cntP p i ↔ pv p j < i)
  | 0 => ⟨by show 0 - _ ≤ _; omega, fun j _ => by show j < 0 - _ ↔ _; omega⟩
  | i + 1 => by
    obtain ⟨h1, h2⟩ := cntP_ok hinc i
    have le : ∀ a b, a ≤ b → b < p.length → pv p a ≤ pv p b := fun a b hab hb => by
      by_cases e : a = b
      · rw [e]; exact Nat.le_refl _
      · exact Nat.le_of_lt (hinc a b (by omega) hb)
    rw [cntP_succ]
    split
    · rename_i hm
      obtain ⟨j0, hj0, e0⟩ := mem_pv.1 hm
      have a1 : ¬ j0 < cntP p i := fun h => by have := (h2 j0 hj0).1 h; omega
      have a2 : j0 = cntP p i := by
        rcases Nat.lt_or_ge (cntP p i) j0 with h | h
        · have := hinc (cntP p i) j0 h hj0
          have := (h2 (cntP p i) (by omega)).2 (by omega)
          omega
        · omega
      refine ⟨by omega, fun j hj => ⟨fun h => ?_, fun h => ?_⟩⟩
      · have := le j j0 (by omega) hj0; omega
      · rcases Nat.lt_or_ge j0 j with h' | h'
        · have := hinc j0 j h' hj; omega
        · omega
    · rename_i hm
      refine ⟨h1, fun j hj => ?_⟩
      have := h2 j hj
      have : pv p j ≠ i := fun e => hm (mem_pv.2 ⟨j, hj, e⟩)
      omega
theorem cntP_in {p : List Nat} (hinc : ∀ i j, i < j → j < p.length → pv p i < pv p j) {i : Nat} (h : i ∈ p) : cntP p i < p.length ∧ pv p (cntP p i) = i := by
  obtain ⟨j, hj, e⟩ := mem_pv.1 h
  obtain ⟨h1, h2⟩ := cntP_ok hinc i
  obtain ⟨_, h3⟩ := cntP_ok hinc (i + 1)
  have h3 := h3 j hj
  have h2 := h2 j hj
  rw [cntP_succ, if_pos h] at h3
  have : j = cntP p i := by omega
  rw [← this]
  exact ⟨hj, e⟩
theorem cntP_all {p : List Nat} {w : Nat} (hlt : ∀ i, i < p.length → pv p i < w) (hinc : ∀ i j, i < j → j < p.length → pv p i < pv p j) : cntP p w = p.length := by
  obtain ⟨h1, h2⟩ := cntP_ok hinc w
  rcases Nat.lt_or_ge (cntP p w) p.length with h | h
  · have := (h2 _ h).2 (hlt _ h); omega
  · omega
theorem frL_sum {p : List Nat} {w : Nat} (hlt : ∀ i, i < p.length → pv p i < w) (hinc : ∀ i j, i < j → j < p.length → pv p i < pv p j) : p.length + (frL p w).length = w := by
  have h1 := cntP_all hlt hinc
  have h2 := frL_len p w
  unfold cntP at h1
  omega
end Go.Proofs.Ytjjebokgckmnjaa


/- The determinant by elimination. No program in sight. -/
namespace Go.Proofs.Ytjjebokgckmnjaa
set_option linter.unusedSimpArgs false
set_option linter.unusedVariables false

end Go.Proofs.Ytjjebokgckmnjaa


/- Changes of rows. No program in sight. -/
namespace Go.Proofs.Ytjjebokgckmnjaa
set_option linter.unusedSimpArgs false
set_option linter.unusedVariables false

theorem gd_app {M : List (List Rat)} {l : List Rat} (j : Nat) : (M ++ [l]).getD j [] = if j < M.length then M.getD j [] else if j = M.length then l else [] := by
  rw [List.getD_eq_getElem?_getD]
  split
  · rename_i h; rw [List.getElem?_append_left h, List.getD_eq_getElem?_getD]
  · rename_i h
    rw [List.getElem?_append_right (by omega)]
    split
    · rename_i e; rw [e, Nat.sub_self]; rfl
    · rw [List.getElem?_eq_none (by simp; omega)]; rfl
theorem app_wid {M : List (List Rat)} {w : Nat} {l : List Rat} (hW : Wid w M) (hl : l.length = w) : Wid w (M ++ [l]) := fun j hj => by
  rw [List.length_append] at hj
  simp at hj
  rw [gd_app]
  split
  · rename_i h; exact hW j h
  · rw [if_pos (by omega)]; exact hl
theorem AllS.set {S : (Nat → Rat) → Prop} {M : List (List Rat)} {i : Nat} {l : List Rat} (hi : i < M.length) : AllS S (M.set i l) ↔ S (cf l) ∧ ∀ j, j < M.length → j ≠ i → S (cf (M.getD j [])) := by
  constructor
  · intro h
    refine ⟨?_, fun j hj hne => ?_⟩
    · have := h i (by rw [List.length_set]; exact hi)
      rwa [gd_set hi, if_pos rfl] at this
    · have := h j (by rw [List.length_set]; exact hj)
      rwa [gd_set hi, if_neg hne] at this
  · intro ⟨h1, h2⟩ j hj
    rw [List.length_set] at hj
    rw [gd_set hi]
    split
    · exact h1
    · rename_i e; exact h2 j hj e
end Go.Proofs.Ytjjebokgckmnjaa

