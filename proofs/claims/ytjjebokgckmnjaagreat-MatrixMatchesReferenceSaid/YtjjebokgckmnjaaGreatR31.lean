/- Texts MC10 MX7 MX8 MX9 MX10 MC12 MC13 MC11a in one. -/
import Derived.Test.YtjjebokgckmnjaaGreatR30
import Derived.Test.YtjjebokgckmnjaaGreatR29
/- Contracts: rows of integers, the transpose, the arguments. -/
namespace Go.Proofs.YtjjebokgckmnjaaGreat
set_option linter.unusedSimpArgs false
set_option linter.unusedVariables false
open Go.RowKit

def V.ints (l : List Int) : List V := l.map fun z => V.raw (.int .i64 z)
@[go_sem] theorem ints_len (l : List Int) : (V.ints l).length = l.length := by simp [V.ints]
@[go_sem] theorem ints_frz (l : List Int) : frzOk (V.ints l) = True := eq_true (frzOk_map (fun a => ⟨rfl, by simp, by simp⟩) l)
def iz (l : List Int) (i : Nat) : Int := l.getD i 0
@[go_sem ↓, go_sem] theorem ev_ints_get {l : List Int} {i : Nat} {k : V → Prop} : optC (V.ints l)[i]? k = (i < l.length ∧ k (.raw (.int .i64 (iz l i)))) := by
  unfold V.ints iz
  rw [List.getElem?_map, List.getD_eq_getElem?_getD]
  by_cases h : i < l.length
  · simp [List.getElem?_eq_getElem h, optC, h]
  · simp [List.getElem?_eq_none (Nat.le_of_not_lt h), optC, h]
def uninz : List V → Option (List Int)
  | [] => some []
  | .raw (.int .i64 n) :: l => (uninz l).map (n :: ·)
  | _ => none
theorem uninz_ok : ∀ (l : List V) (m : List Int), uninz l = some m → l = V.ints m
  | [], m, h => by injection h with h; subst h; rfl
  | x :: l, m, h => by
    unfold uninz at h
    split at h
    · rename_i e; cases e
    · rename_i n l' e
      injection e with e1 e2
      subst e1 e2
      rcases hm : uninz l with _ | m' <;> rw [hm] at h
      · cases h
      · injection h with h
        subst h
        rw [uninz_ok l m' hm]
        rfl
    · cases h
@[go_sem ↓, go_sem] theorem uninz_nil : uninz [] = some [] := rfl
@[go_sem ↓, go_sem] theorem uninz_cons (n : Int) (l : List V) : uninz (.raw (.int .i64 n) :: l) = (uninz l).map (n :: ·) := rfl
/-- A list of integers. -/
def pIs : Pat (List Int) where
  p
    | .lst l => (uninz l).map fun m => (True, m)
    | _ => none
  val l := .lst (V.ints l)
  ok x c a h hc := by
    split at h
    · rename_i l
      rcases hm : uninz l with _ | m <;> rw [hm] at h
      · cases h
      · injection h with h; injection h with h1 h2; subst h2
        rw [uninz_ok l m hm]; exact .refl _
    · cases h
@[go_sem ↓, go_sem] theorem ev_pIs {l : List V} : pIs.p (.lst l) = (uninz l).map fun m => (True, m) := rfl
@[go_sem ↓, go_sem] theorem ev_pIs_mk {l : List Int} : pIs.val l = .lst (V.ints l) := rfl
def rwZ (l : List Int) : List Rat := l.map fun z : Int => (z : Rat)
def SmI (l : List Int) : Prop := l.length ≤ 100 ∧ ∀ i, -128 ≤ iz l i ∧ iz l i ≤ 127
def kRow : Con := con1 pIs fun l => (SmI l, .lst (V.rats (rwZ l)))
attribute [go_sem ↓, go_sem] kRow
set_option maxRecDepth 4000 in
theorem row_C : Ctr Tryz.prog 20 kRow := Ctr.c1 (by kernel_rfl) fun l h => by
  obtain ⟨hl, hz⟩ := h
  show PCall _ _ _ (.lst (V.rats (rwZ l)))
  have T := (tabs mixed (tbl_cons r2Whole_C tbl_nil))
  have mx : maxLen = 9223372036854775807 := by decide
  refine PCall.of_vc T Tryz.func20 rfl Tryz.ntmps20 Tryz.results20 (by simp) ?_
  simp only [go_sem]
  refine AWp.loops (X := { i : Nat // i ≤ l.length }) (fun i => mkSt [(0, .lst (V.ints l)), (2, .raw (.slice none 0 0)), (3, .sl 0 4 0 i.1), (4, .raw (.int .i64 (i.1 : Nat)))] [(0, true, ⟨36, 4, V.rats (rwZ (l.take i.1))⟩)] 1 21) (fun i => l.length - i.1) ⟨0, Nat.zero_le _⟩ (Wk.of [1] (by decide) ?_) ?_
  · simp only [go_sem, Int.natCast_zero]
    exact rfl
  rintro ⟨i, hi⟩
  refine vc_at T ?_
  have li : (rwZ (l.take i)).length = i := by simp [rwZ]; omega
  by_cases hin : i < l.length
  · have d1 : (i : Int) < (l.length : Int) := by omega
    have d2 : (i : Int) + 1 = ((i + 1 : Nat) : Int) := by omega
    have d3 : 0 ≤ (i : Int) := by omega
    have d4 : (rwZ (l.take i)).take i = rwZ (l.take i) := List.take_of_length_le (by omega)
    have tt : l.take (i + 1) = l.take i ++ [iz l i] := by
      rw [List.take_add_one, List.getElem?_eq_getElem hin]
      unfold iz
      rw [List.getD_eq_getElem?_getD, List.getElem?_eq_getElem hin]
      rfl
    have d6 : rwZ (l.take i) ++ [((iz l i : Int) : Rat)] = rwZ (l.take (i + 1)) := by
      rw [tt]
      unfold rwZ
      rw [List.map_append]
      rfl
    have d5 : V.rats (rwZ (l.take i)) ++ [V.Q ((iz l i : Int) : Rat)] = V.rats (rwZ (l.take (i + 1))) := by
      rw [← d6]
      unfold V.rats
      rw [List.map_append]
      rfl
    have hzi := hz i
    simp only [go_sem, d1, d2, d3, d4, d5, d6, hin, mx, li]
    refine ⟨⟨by omega, by omega⟩, ⟨by omega, by omega⟩, ⟨by omega, by omega⟩, ⟨i + 1, hin⟩, Wk.of [12] (by decide) ?_, by simp only; omega⟩
    simp only [go_sem]
  · obtain rfl : i = l.length := by omega
    have d1 : ¬ (l.length : Int) < (l.length : Int) := by omega
    have tk : l.take l.length = l := List.take_of_length_le (Nat.le_refl _)
    rw [tk] at li
    have tk2 : (rwZ l).take l.length = rwZ l := List.take_of_length_le (by omega)
    have mm : l.length ≤ l.length := Nat.le_refl _
    simp only [go_sem, d1, tk, li, tk2, mm]
theorem mkr_take (F : Nat → Rat) (i : Nat) : (mkr F i).take i = mkr F i := List.take_of_length_le (by rw [mkr_len]; exact Nat.le_refl _)
theorem mkr_snoc (F : Nat → Rat) (i : Nat) : V.rats (mkr F i) ++ [.Q (F i)] = V.rats (mkr F (i + 1)) := by
  rw [mkr_succ]
  unfold V.rats
  rw [List.map_append]; rfl
theorem mkr_snoc' (F : Nat → Rat) (i : Nat) : mkr F i ++ [F i] = mkr F (i + 1) := (mkr_succ F i).symm
theorem mkm_take (F : Nat → List Rat) (i : Nat) : (mkm F i).take i = mkm F i := List.take_of_length_le (by rw [mkm_len]; exact Nat.le_refl _)
/-- The arguments of the laws. -/
structure Raw5 where
  R : Int
  C : Int
  W : List Int
def V.i16s (l : List Int) : List V := l.map fun z => V.raw (.int .i16 z)
@[go_sem] theorem i16_len (l : List Int) : (V.i16s l).length = l.length := by simp [V.i16s]
@[go_sem ↓, go_sem] theorem ev_i16_get {l : List Int} {i : Nat} {k : V → Prop} : optC (V.i16s l)[i]? k = (i < l.length ∧ k (.raw (.int .i16 (iz l i)))) := by
  unfold V.i16s iz
  rw [List.getElem?_map, List.getD_eq_getElem?_getD]
  by_cases h : i < l.length
  · simp [List.getElem?_eq_getElem h, optC, h]
  · simp [List.getElem?_eq_none (Nat.le_of_not_lt h), optC, h]
def unI16 : List V → Option (List Int)
  | [] => some []
  | .raw (.int .i16 n) :: l => (unI16 l).map (n :: ·)
  | _ => none
theorem unI16_ok : ∀ (l : List V) (m : List Int), unI16 l = some m → l = V.i16s m
  | [], m, h => by injection h with h; subst h; rfl
  | x :: l, m, h => by
    unfold unI16 at h
    split at h
    · rename_i e; cases e
    · rename_i n l' e
      injection e with e1 e2
      subst e1 e2
      rcases hm : unI16 l with _ | m' <;> rw [hm] at h
      · cases h
      · injection h with h
        subst h
        rw [unI16_ok l m' hm]
        rfl
    · cases h
@[go_sem ↓, go_sem] theorem unI16_i16 : ∀ l : List Int, unI16 (V.i16s l) = some l
  | [] => rfl
  | x :: l => by
    show (unI16 (V.i16s l)).map (x :: ·) = _
    rw [unI16_i16 l]; rfl
def Raw5.v (x : Raw5) : V := .agg [.raw (.int .u8 x.R), .raw (.int .u8 x.C), .lst (V.i16s x.W)]
def pRaw5 : Pat Raw5 where
  p
    | .agg [.raw (.int .u8 r), .raw (.int .u8 c), .lst l] => (unI16 l).map fun m => (True, ⟨r, c, m⟩)
    | _ => none
  val := Raw5.v
  ok x c a h hc := by
    split at h
    · rename_i r c l
      rcases hm : unI16 l with _ | m <;> rw [hm] at h
      · cases h
      · injection h with h; injection h with h1 h2; subst h2
        rw [unI16_ok l m hm]; exact .refl _
    · cases h
@[go_sem ↓, go_sem] theorem ev_pRaw5 {r c : Int} {l : List V} : pRaw5.p (.agg [.raw (.int .u8 r), .raw (.int .u8 c), .lst l]) = (unI16 l).map fun m => (True, ⟨r, c, m⟩) := rfl
@[go_sem ↓, go_sem] theorem ev_pRaw5_mk {x : Raw5} : pRaw5.val x = .agg [.raw (.int .u8 x.R), .raw (.int .u8 x.C), .lst (V.i16s x.W)] := rfl
def rwQ (v : Int) : Rat := mdQ (v.tmod 10) (1 + bits .and .i64 (v / 256) 1)
theorem and1_ok {z : Int} (h1 : -128 ≤ z) (h2 : z ≤ 127) : 0 ≤ bits .and .i64 z 1 ∧ bits .and .i64 z 1 ≤ 1 := by
  have key : ∀ n : Fin 256, 0 ≤ bits .and .i64 ((n.1 : Int) - 128) 1 ∧ bits .and .i64 ((n.1 : Int) - 128) 1 ≤ 1 := by decide +kernel
  have := key ⟨(z + 128).toNat, by omega⟩
  rw [show (((⟨(z + 128).toNat, by omega⟩ : Fin 256).1 : Nat) : Int) - 128 = z by simp; omega] at this
  exact this
theorem tmod10 (v : Int) : -9 ≤ v.tmod 10 ∧ v.tmod 10 ≤ 9 := by
  rw [Int.tmod_eq_emod]
  have : ((10 : Int).natAbs : Int) = 10 := rfl
  split <;> omega
structure Raw5.Ok (x : Raw5) : Prop where
  r : 0 ≤ x.R ∧ x.R ≤ 255
  c : 0 ≤ x.C ∧ x.C ≤ 255
  v : ∀ i, -32768 ≤ iz x.W i ∧ iz x.W i ≤ 32767
  l : x.W.length ≤ 9223372036854775807
def Raw5.rows (x : Raw5) : Nat := (x.R % 5).toNat
def Raw5.cols (x : Raw5) : Nat := (x.C % 6).toNat
def Raw5.m (x : Raw5) (r c : Nat) : List (List Rat) := mkm (fun i => mkr (fun k => rwQ (iz x.W (i * c + k))) c) r
def kMade5 : Con := con1 pRaw5 fun x => (x.Ok, .tup [.lst (V.mat (x.m x.rows x.cols)), .raw (.int .i64 (x.cols : Nat))])
attribute [go_sem ↓, go_sem] kMade5
set_option maxRecDepth 8000 in
theorem made5_C : Ctr Tryz.prog 5 kMade5 := Ctr.c1 (by kernel_rfl) fun x h => by
  obtain ⟨hr, hc, hv, hl⟩ := h
  show PCall _ _ [.agg [.raw (.int .u8 x.R), .raw (.int .u8 x.C), .lst (V.i16s x.W)]] (.tup [.lst (V.mat (x.m x.rows x.cols)), .raw (.int .i64 (x.cols : Nat))])
  have T := (tabs mixed (tbl_cons r2Made_C tbl_nil))
  have mx : maxLen = 9223372036854775807 := by decide
  refine PCall.of_vc T Tryz.func5 rfl Tryz.ntmps5 Tryz.results5 (by simp) ?_
  have w1 : IntKind.i64.wrap x.R = x.R := IntWalk.i64_in _ ⟨by omega, by omega⟩
  have w2 : IntKind.i64.wrap x.C = x.C := IntWalk.i64_in _ ⟨by omega, by omega⟩
  obtain ⟨r, er⟩ : ∃ r, x.rows = r := ⟨_, rfl⟩
  obtain ⟨c, ec⟩ : ∃ c, x.cols = c := ⟨_, rfl⟩
  have t1 : x.R.tmod 5 = ((r : Nat) : Int) := by
    rw [← er]
    unfold Raw5.rows
    rw [Int.tmod_eq_emod_of_nonneg hr.1]
    omega
  have t2 : x.C.tmod 6 = ((c : Nat) : Int) := by
    rw [← ec]
    unfold Raw5.cols
    rw [Int.tmod_eq_emod_of_nonneg hc.1]
    omega
  have lr : r < 5 := by rw [← er]; unfold Raw5.rows; omega
  have lc : c < 6 := by rw [← ec]; unfold Raw5.cols; omega
  rw [er, ec]
  unfold Raw5.m
  obtain ⟨F, eF⟩ : ∃ F : Nat → List Rat, F = fun i => mkr (fun k => rwQ (iz x.W (i * c + k))) c := ⟨_, rfl⟩
  rw [← eF]
  simp only [go_sem, w1, w2, t1, t2]
  have hp : allPure [V.agg [.raw (.int .u8 x.R), .raw (.int .u8 x.C), .lst (V.i16s x.W)]] := fun y hy => by
    rw [List.mem_singleton] at hy; subst hy; rfl
  refine ⟨by rfl, ?_⟩
  refine AWp.loops (X := { i : Nat // i ≤ r }) (fun i => mkSt [(1, .ptr 1 3 0 0), (4, .raw (.int .i64 (r : Nat))), (5, .raw (.int .i64 (c : Nat))), (6, .sl 0 1 0 i.1), (7, .raw (.int .i64 (i.1 : Nat)))] [(0, true, ⟨40, 1, V.mat (mkm F i.1)⟩), (1, true, ⟨24, 3, [.agg [.raw (.int .u8 x.R), .raw (.int .u8 x.C), .lst (V.i16s x.W)]]⟩)] 2 67) (fun i => r - i.1) ⟨0, Nat.zero_le _⟩ (Wk.of [11, 0] (by decide) ?_) ?_
  · have e0 : V.mat (mkm F 0) = [] := rfl
    simp only [go_sem, e0, hp, Int.natCast_zero]
  rintro ⟨i, hi⟩
  refine AWp.endFrz 6 ?_
  refine vc_at T ?_
  by_cases hir : i < r
  · have d1 : (i : Int) < (r : Int) := by omega
    have d2 : (i : Int) + 1 = ((i + 1 : Nat) : Int) := by omega
    have li : (mkm F i).length = i := mkm_len _ _
    simp only [go_sem, d1]
    refine AWp.loops (X := { k : Nat // k ≤ c }) (fun k => mkSt [(1, .ptr 1 3 0 0), (4, .raw (.int .i64 (r : Nat))), (5, .raw (.int .i64 (c : Nat))), (6, .sl 0 1 0 i), (7, .raw (.int .i64 (i : Nat))), (8, .sl 2 4 0 k.1), (9, .raw (.int .i64 (k.1 : Nat)))] [(0, true, ⟨40, 1, V.mat (mkm F i)⟩), (1, true, ⟨24, 3, [.agg [.raw (.int .u8 x.R), .raw (.int .u8 x.C), .lst (V.i16s x.W)]]⟩), (2, true, ⟨36, 4, V.rats (mkr (fun k => rwQ (iz x.W (i * c + k))) k.1)⟩)] 3 67) (fun k => c - k.1) ⟨0, Nat.zero_le _⟩ (Wk.of [0, 1, 5] (by decide) ?_) ?_
    · have e0 : V.rats (mkr (fun k => rwQ (iz x.W (i * c + k))) 0) = [] := rfl
      simp only [go_sem, e0, hp, Int.natCast_zero]
    rintro ⟨k, hk⟩
    refine vc_at T ?_
    obtain ⟨G, eG⟩ : ∃ G : Nat → Rat, G = fun k => rwQ (iz x.W (i * c + k)) := ⟨_, rfl⟩
    rw [← eG]
    have lk : (mkr G k).length = k := mkr_len _ _
    by_cases hkc : k < c
    · have f1 : (k : Int) < (c : Int) := by omega
      have f2 : (k : Int) + 1 = ((k + 1 : Nat) : Int) := by omega
      have f4 : (i : Int) * (c : Int) = ((i * c : Nat) : Int) := by simp
      have f5 : i * c + k < 100 := by
        have := Nat.mul_le_mul (show i ≤ 4 by omega) (show c ≤ 5 by omega)
        omega
      have f6 : 0 ≤ ((i * c + k : Nat) : Int) := by omega
      obtain ⟨n, en⟩ : ∃ n, i * c + k = n := ⟨_, rfl⟩
      have f3 : ((i * c : Nat) : Int) + (k : Int) = (n : Int) := by omega
      have f7 : 0 ≤ (n : Int) := by omega
      have f8 : V.rats (mkr G k) ++ [.Q (G k)] = V.rats (mkr G (k + 1)) := mkr_snoc _ _
      have f9 : mkr G k ++ [G k] = mkr G (k + 1) := mkr_snoc' _ _
      have hvn := hv n
      have htm := tmod10 (iz x.W n)
      have wt : IntKind.i64.wrap ((iz x.W n).tmod 10) = (iz x.W n).tmod 10 := IntWalk.i64_in _ ⟨by omega, by omega⟩
      have wq : IntKind.i64.wrap (iz x.W n / 256) = iz x.W n / 256 := IntWalk.i64_in _ ⟨by omega, by omega⟩
      have hand := and1_ok (z := iz x.W n / 256) (by omega) (by omega)
      have gk : mdQ ((iz x.W n).tmod 10) (1 + bits .and .i64 (iz x.W n / 256) 1) = G k := by rw [eG, ← en]; rfl
      by_cases hnl : n < x.W.length
      · have g1 : (n : Int) < (x.W.length : Int) := by omega
        simp only [go_sem, f1, f2, f3, f4, f7, hkc, lk, mx, mkr_take, hnl, g1, wt, wq, gk, f8, f9]
        refine ⟨⟨by omega, by omega⟩, ⟨by omega, by omega⟩, ⟨by omega, by omega⟩, ⟨by omega, by omega⟩, ⟨by omega, by omega⟩, ⟨⟨by omega, by omega⟩, by omega, by omega⟩, ⟨by omega, by omega⟩, ⟨by omega, by omega⟩, ⟨k + 1, hkc⟩, Wk.of [0, 1, 37] (by decide) ?_, by simp only; omega⟩
        simp only [go_sem, hp]
      · have g1 : ¬ (n : Int) < (x.W.length : Int) := by omega
        have z0 : iz x.W n = 0 := by
          unfold iz
          rw [List.getD_eq_getElem?_getD, List.getElem?_eq_none (by omega)]; rfl
        have w0 : IntKind.i64.wrap 0 = 0 := by decide
        have t0 : Int.tmod 0 10 = 0 := rfl
        have q0 : (0 : Int) / 256 = 0 := rfl
        have b0 : bits .and .i64 0 1 = 0 := by decide
        have gk2 : mdQ 0 1 = G k := by rw [← gk, z0]; rfl
        simp only [go_sem, f1, f2, f3, f4, f7, hkc, lk, mx, mkr_take, hnl, g1, w0, q0, t0, b0, gk2, f8, f9]
        refine ⟨⟨by omega, by omega⟩, ⟨by omega, by omega⟩, ⟨by omega, by omega⟩, ⟨by omega, by omega⟩, ⟨k + 1, hkc⟩, Wk.of [0, 1, 27] (by decide) ?_, by simp only; omega⟩
        simp only [go_sem, hp]
    · obtain rfl : k = c := by omega
      have f1 : ¬ (k : Int) < (k : Int) := by omega
      have f2 : mkr G k = F i := by rw [eG, eF]
      have f3 : mkm F i ++ [F i] = mkm F (i + 1) := (mkm_succ F i).symm
      have lF : (F i).length = k := by rw [← f2]; exact lk
      have tF : (F i).take k = F i := List.take_of_length_le (by omega)
      have mm : k ≤ k := Nat.le_refl _
      simp only [go_sem, f1, f2, d2, mx, li, lF, tF, mm, ev_frzT_n, frz_mat_snocA, mat_snoc, mkm_take, f3]
      refine ⟨⟨by omega, by omega⟩, ⟨by omega, by omega⟩, ⟨i + 1, hir⟩, Wk.of [9, 1] (by decide) ?_, by simp only; omega⟩
      simp only [go_sem, hp]
  · obtain rfl : i = r := by omega
    have d1 : ¬ (i : Int) < (i : Int) := by omega
    have li : (mkm F i).length = i := mkm_len _ _
    have mm : i ≤ i := Nat.le_refl _
    simp only [go_sem, d1, li, mkm_take, mm]
end Go.Proofs.YtjjebokgckmnjaaGreat


/- Systems of equations: solutions and alternatives. No program in sight. -/
namespace Go.Proofs.YtjjebokgckmnjaaGreat
set_option linter.unusedSimpArgs false
set_option linter.unusedVariables false

theorem cf_hi {l : List Rat} {k : Nat} (h : l.length ≤ k) : cf l k = 0 := by
  unfold cf
  rw [List.getD_eq_getElem?_getD, List.getElem?_eq_none h]; rfl
theorem slX_len (M : List (List Rat)) (b : List Rat) (w : Nat) : (slX M b w).length = w := xS_len _ _ _ _
end Go.Proofs.YtjjebokgckmnjaaGreat


/- The vectors of the free columns: numbers and ranks. No program in sight. -/
namespace Go.Proofs.YtjjebokgckmnjaaGreat
set_option linter.unusedSimpArgs false
set_option linter.unusedVariables false

/-- The free columns. -/
def frL (p : List Nat) : Nat → List Nat
  | 0 => []
  | c + 1 => if c ∈ p then frL p c else frL p c ++ [c]
theorem frL_lt {p : List Nat} : ∀ {c i}, i < (frL p c).length → pv (frL p c) i < c ∧ pv (frL p c) i ∉ p
  | 0, i, h => by simp [frL] at h
  | c + 1, i, h => by
    rw [frL] at h ⊢
    split at h
    · rename_i e
      rw [if_pos e]
      have := frL_lt h
      exact ⟨by omega, this.2⟩
    · rename_i e
      rw [if_neg e]
      rw [List.length_append] at h
      rw [pv_snoc]
      by_cases hi : i < (frL p c).length
      · rw [if_pos hi]
        have := frL_lt hi
        exact ⟨by omega, this.2⟩
      · simp at h
        rw [if_neg hi, if_pos (by omega)]
        exact ⟨by omega, e⟩
theorem frL_len (p : List Nat) : ∀ c, (frL p c).length ≤ c
  | 0 => Nat.le_refl _
  | c + 1 => by
    have := frL_len p c
    rw [frL]
    split
    · omega
    · rw [List.length_append]; simp; omega
theorem nulP_frL (p : List Nat) (A : List (List Rat)) (w : Nat) : ∀ c, nulP p A w c = (frL p c).map (nulR p A w)
  | 0 => rfl
  | c + 1 => by
    rw [nulP, frL, nulP_frL p A w c]
    split
    · rfl
    · rw [List.map_append]; rfl
/-- The vectors of the free columns. -/
def nulM (p : List Nat) (A : List (List Rat)) (w : Nat) : List (List Rat) := nulP p A w w
theorem nulM_len (p : List Nat) (A : List (List Rat)) (w : Nat) : (nulM p A w).length = (frL p w).length := by
  unfold nulM
  rw [nulP_frL, List.length_map]
theorem nulM_get {w : Nat} {p : List Nat} {A : List (List Rat)} (h : RE w p A) {i : Nat} (hi : i < (frL p w).length) : (nulM p A w).getD i [] = mkr (nvF p A (pv (frL p w) i)) w := by
  unfold nulM
  obtain ⟨h1, h2⟩ := frL_lt hi
  rw [nulP_frL, gd_lt (by rw [List.length_map]; exact hi), List.getElem_map]
  rw [← nulR_eq h h1 fun j hj e => h2 (mem_pv.2 ⟨j, hj, e⟩)]
  unfold pv
  rw [List.getD_eq_getElem?_getD, List.getElem?_eq_getElem hi]; rfl
theorem nulM_wid {w : Nat} {p : List Nat} {A : List (List Rat)} (h : RE w p A) : Wid w (nulM p A w) := fun i hi => by
  rw [nulM_len] at hi
  rw [nulM_get h hi, mkr_len]
theorem Lin.sum {S : (Nat → Rat) → Prop} (hS : Lin S) {f : Nat → Nat → Rat} {a : Nat → Rat} : ∀ n, (∀ c, c < n → a c ≠ 0 → S (f c)) → S fun k => sm n fun c => a c * f c k
  | 0, _ => hS.zero
  | n + 1, h => by
    have ih := Lin.sum hS n fun c hc => h c (by omega)
    by_cases e : a n = 0
    · have : (fun k => sm (n + 1) fun c => a c * f c k) = fun k => sm n fun c => a c * f c k := funext fun k => by rw [sm, e]; grind
      rw [this]; exact ih
    · exact hS.comb (a n) ih (h n (by omega) e) fun k => by rw [sm]
/-- How many pivots lie below a column. -/
def cntP (p : List Nat) (i : Nat) : Nat := i - (frL p i).length
theorem cntP_succ (p : List Nat) (i : Nat) : cntP p (i + 1) = if i ∈ p then cntP p i + 1 else cntP p i := by
  have := frL_len p i
  unfold cntP
  rw [frL]
  split
  · omega
  · rw [List.length_append]; simp
theorem cntP_ok {p : List Nat} (hinc : ∀ i j, i < j → j < p.length → pv p i < pv p j) : ∀ i, cntP p i ≤ p.length ∧ ∀ j, j < p.length → (j < cntP p i ↔ pv p j < i)
  | 0 => ⟨by show 0 - _ ≤ _; omega, fun j _ => by show j < 0 - _ ↔ _; omega⟩
  | i + 1 => by
    obtain ⟨h1, h2⟩ := cntP_ok hinc i
    have le : ∀ a b, a ≤ b → b < p.length → pv p a ≤ pv p b := fun a b hab hb => by
      by_cases e : a = b
      · rw [e]; exact Nat.le_refl _
      · exact Nat.le_of_lt (hinc a b (by omega) hb)
    rw [cntP_succ]
    split
    · rename_i hm
      obtain ⟨j0, hj0, e0⟩ := mem_pv.1 hm
      have a1 : ¬ j0 < cntP p i := fun h => by have := (h2 j0 hj0).1 h; omega
      have a2 : j0 = cntP p i := by
        rcases Nat.lt_or_ge (cntP p i) j0 with h | h
        · have := hinc (cntP p i) j0 h hj0
          have := (h2 (cntP p i) (by omega)).2 (by omega)
          omega
        · omega
      refine ⟨by omega, fun j hj => ⟨fun h => ?_, fun h => ?_⟩⟩
      · have := le j j0 (by omega) hj0; omega
      · rcases Nat.lt_or_ge j0 j with h' | h'
        · have := hinc j0 j h' hj; omega
        · omega
    · rename_i hm
      refine ⟨h1, fun j hj => ?_⟩
      have := h2 j hj
      have : pv p j ≠ i := fun e => hm (mem_pv.2 ⟨j, hj, e⟩)
      omega
theorem cntP_in {p : List Nat} (hinc : ∀ i j, i < j → j < p.length → pv p i < pv p j) {i : Nat} (h : i ∈ p) : cntP p i < p.length ∧ pv p (cntP p i) = i := by
  obtain ⟨j, hj, e⟩ := mem_pv.1 h
  obtain ⟨h1, h2⟩ := cntP_ok hinc i
  obtain ⟨_, h3⟩ := cntP_ok hinc (i + 1)
  have h3 := h3 j hj
  have h2 := h2 j hj
  rw [cntP_succ, if_pos h] at h3
  have : j = cntP p i := by omega
  rw [← this]
  exact ⟨hj, e⟩
end Go.Proofs.YtjjebokgckmnjaaGreat


/- The determinant by elimination. No program in sight. -/
namespace Go.Proofs.YtjjebokgckmnjaaGreat
set_option linter.unusedSimpArgs false
set_option linter.unusedVariables false

abbrev mtx (M : List (List Rat)) : Mat := fun i j => ent M i j
theorem mtx_set {M : List (List Rat)} {i : Nat} (hi : i < M.length) (l : List Rat) : mtx (M.set i l) = upd (mtx M) i (cf l) := by
  funext a b
  show cf ((M.set i l).getD a []) b = upd (mtx M) i (cf l) a b
  rw [gd_set hi]
  unfold upd
  split
  · rfl
  · rfl
theorem det_pvI {M : List (List Rat)} {n r c : Nat} (hW : Wid n M) (hl : M.length = n) (hr : r < n) : ∀ i, i ≤ n → det n (mtx (pvI M r c i)) = (1 / ent M r c) * det n (mtx M)
  | 0, _ => by
    rw [pvI_zero c (by omega), mtx_set (by omega)]
    have h1 : upd (mtx M) r (cf (pvR M r c)) = upd (mtx M) r fun j => (1 / ent M r c) * mtx M r j + 0 * mtx M r j := by
      congr 1
      funext j
      unfold pvR
      rw [cf_rw1]
      show ent M r j * _ = _ * ent M r j + _
      grind
    rw [h1, (det_ML n).lin _ _ _ _ _ _ hr, upd_self]; grind
  | i + 1, hi => by
    by_cases e : i = r
    · have h1 := det_pvI (c := c) hW hl hr i (by omega)
      rw [e] at h1 ⊢
      rw [pvI_self]
      exact h1
    · rw [pvI_succ c (by omega) e, mtx_set (by rw [pvI_len]; omega)]
      have h1 : upd (mtx (pvI M r c i)) i (cf (rw2 (M.getD i []) (pvR M r c) (ent M i c))) = upd (mtx (pvI M r c i)) i fun j => mtx (pvI M r c i) i j + (- ent M i c) * mtx (pvI M r c i) r j := by
        congr 1
        funext j
        rw [cf_rw2 (by unfold pvR; rw [rw1_len, hW r (by omega), hW i (by omega)]; exact Nat.le_refl _)]
        show _ = cf ((pvI M r c i).getD i []) j + _ * cf ((pvI M r c i).getD r []) j
        rw [pvI_get (by omega), pvI_get (by omega), if_pos rfl, if_neg e, if_neg (Nat.lt_irrefl i)]; grind
      rw [h1, (det_ML n).addrow _ (by omega) hr e]
      exact det_pvI hW hl hr i (by omega)
theorem det_swM {M : List (List Rat)} {n k p : Nat} (hl : M.length = n) (hk : k < n) (hp : p < n) : det n (mtx (swM M k p)) = if p = k then det n (mtx M) else - det n (mtx M) := by
  split
  · rename_i e
    rw [e, swM_self (by omega)]
  · rename_i e
    rw [← (det_ML n).swap _ hk hp (fun h => e h.symm)]
    refine (det_ML n).congr fun i _ j _ => ?_
    show ent (swM M k p) i j = swp (mtx M) k p i j
    rw [ent_swM (by omega) (by omega)]
    unfold swp upd
    by_cases e1 : i = k
    · by_cases e2 : i = p
      · exact absurd (e2.symm.trans e1) e
      · rw [if_pos e1, if_neg e2, if_pos e1]
    · by_cases e2 : i = p
      · rw [if_neg e1, if_pos e2, if_pos e2]
      · rw [if_neg e1, if_neg e2, if_neg e2, if_neg e1]
/-- The sign and product of what the rows were divided by. -/
theorem elm_det {M : List (List Rat)} {n : Nat} (hW : Wid n M) (hl : M.length = n) : ∀ c, c ≤ n → (elm M c).d ≠ 0 ∧ (elm M c).d * det n (mtx (elm M c).M) = det n (mtx M)
  | 0, _ => ⟨show (1 : Rat) ≠ 0 by decide, by
    show (1 : Rat) * det n (mtx M) = det n (mtx M)
    rw [Rat.one_mul]⟩
  | c + 1, hc => by
    obtain ⟨h1, h2⟩ := elm_det hW hl c (by omega)
    obtain ⟨e1, e2, e3, e4, e5, e6, e7, _⟩ := elm_EI hW c
    show (stp (elm M c) c).d ≠ 0 ∧ (stp (elm M c) c).d * det n (mtx (stp (elm M c) c).M) = _
    obtain ⟨s, es⟩ : ∃ s, elm M c = s := ⟨_, rfl⟩
    rw [es] at h1 h2 e1 e2 e3 ⊢
    unfold stp
    split
    · exact ⟨h1, h2⟩
    · rename_i a ha
      obtain ⟨⟨f1, f2⟩, f3⟩ := srF_some ha
      have hr : s.p.length < n := by omega
      have W1 := swM_wid e2 (show s.p.length < s.M.length by omega) f2
      have g : ent (swM s.M s.p.length a) s.p.length c = ent s.M a c := by rw [ent_swM (by omega) f2, if_pos rfl]
      have hd : det n (mtx (pvt (swM s.M s.p.length a) s.p.length c)) = (1 / ent s.M a c) * (if a = s.p.length then det n (mtx s.M) else - det n (mtx s.M)) := by
        unfold pvt
        rw [det_pvI W1 (by rw [swM_len]; omega) hr _ (by rw [swM_len]; omega), g, det_swM (by omega) hr (by omega)]
      refine ⟨?_, ?_⟩
      · show (if a = s.p.length then s.d else -s.d) * ent s.M a c ≠ 0
        split <;> grind
      · show ((if a = s.p.length then s.d else -s.d) * ent s.M a c) * det n (mtx (pvt (swM s.M s.p.length a) s.p.length c)) = _
        rw [hd]
        split <;> grind
theorem inc_id {p : List Nat} {n : Nat} (hlt : ∀ i, i < p.length → pv p i < n) (hinc : ∀ i j, i < j → j < p.length → pv p i < pv p j) (hl : p.length = n) {i : Nat} (hi : i < n) : pv p i = i := by
  have lo : ∀ i, i < n → i ≤ pv p i := fun i => by
    induction i with
    | zero => exact fun _ => Nat.zero_le _
    | succ i ih => exact fun h => by have := ih (by omega); have := hinc i (i + 1) (by omega) (by omega); omega
  have hi2 : ∀ k, ∀ i, i + k + 1 = n → pv p i + k < n := fun k => by
    induction k with
    | zero => exact fun i h => by have := hlt i (by omega); omega
    | succ k ih => exact fun i h => by have := ih (i + 1) (by omega); have := hinc i (i + 1) (by omega) (by omega); omega
  have := lo i hi
  have := hi2 (n - 1 - i) i (by omega)
  omega
/-- The value of Det. -/
def dtV (M : List (List Rat)) : Rat := if (elm M M.length).p.length < M.length then 0 else (elm M M.length).d
theorem dtV_det {M : List (List Rat)} {n : Nat} (hW : Wid n M) (hl : M.length = n) : dtV M = det n (mtx M) := by
  obtain ⟨h1, h2⟩ := elm_det hW hl n (Nat.le_refl n)
  obtain ⟨e1, e2, e3, e4, e5, e6, e7, _⟩ := elm_EI hW n
  unfold dtV
  rw [hl]
  split
  · rename_i h
    rw [← h2, (det_ML n).zero _ (p := n - 1) (by omega) fun j hj => e7 (n - 1) j hj fun h' => by omega]; grind
  · rename_i h
    rw [← h2, (det_ML n).congr (M' := one) fun i hi j hj => ?_, det_one]
    · grind
    · have hp := inc_id e4 e5 (by omega) hj
      have := e6 i (by omega) j (by omega)
      rw [hp] at this
      exact this
end Go.Proofs.YtjjebokgckmnjaaGreat


/- Changes of rows. No program in sight. -/
namespace Go.Proofs.YtjjebokgckmnjaaGreat
set_option linter.unusedSimpArgs false
set_option linter.unusedVariables false

theorem AllS.set {S : (Nat → Rat) → Prop} {M : List (List Rat)} {i : Nat} {l : List Rat} (hi : i < M.length) : AllS S (M.set i l) ↔ S (cf l) ∧ ∀ j, j < M.length → j ≠ i → S (cf (M.getD j [])) := by
  constructor
  · intro h
    refine ⟨?_, fun j hj hne => ?_⟩
    · have := h i (by rw [List.length_set]; exact hi)
      rwa [gd_set hi, if_pos rfl] at this
    · have := h j (by rw [List.length_set]; exact hj)
      rwa [gd_set hi, if_neg hne] at this
  · intro ⟨h1, h2⟩ j hj
    rw [List.length_set] at hj
    rw [gd_set hi]
    split
    · exact h1
    · rename_i e; exact h2 j hj e
end Go.Proofs.YtjjebokgckmnjaaGreat


/- Contracts: products of rows, zeros, lists of numbers. -/
namespace Go.Proofs.YtjjebokgckmnjaaGreat
set_option linter.unusedSimpArgs false
set_option linter.unusedVariables false
open Go.RowKit

end Go.Proofs.YtjjebokgckmnjaaGreat


/- Contracts: lists of numbers, square matrices, products. -/
namespace Go.Proofs.YtjjebokgckmnjaaGreat
set_option linter.unusedSimpArgs false
set_option linter.unusedVariables false
open Go.RowKit

def pI16 : Pat (List Int) where
  p
    | .lst l => (unI16 l).map fun m => (True, m)
    | _ => none
  val l := .lst (V.i16s l)
  ok x c a h hc := by
    split at h
    · rename_i l
      rcases hm : unI16 l with _ | m <;> rw [hm] at h
      · cases h
      · injection h with h; injection h with h1 h2; subst h2
        rw [unI16_ok l m hm]; exact .refl _
    · cases h
@[go_sem ↓, go_sem] theorem ev_pI16 {l : List V} : pI16.p (.lst l) = (unI16 l).map fun m => (True, m) := rfl
@[go_sem ↓, go_sem] theorem ev_pI16_mk {l : List Int} : pI16.val l = .lst (V.i16s l) := rfl
def vq (l : List Int) (i : Nat) : Rat := mdQ ((iz l i).tmod 10) 1
def vecQ (l : List Int) (n : Nat) : List Rat := mkr (vq l) n
theorem vecQ_len (l : List Int) (n : Nat) : (vecQ l n).length = n := mkr_len _ _
def VecOk (l : List Int) (z : Int) : Prop := (l.length ≤ 9223372036854775807 ∧ ∀ i, -32768 ≤ iz l i ∧ iz l i ≤ 32767) ∧ 0 ≤ z ∧ z ≤ 1000
def kVector : Con := con2 pI16 (pN .i64) fun l z => (VecOk l z, .lst (V.rats (vecQ l z.toNat)))
attribute [go_sem ↓, go_sem] kVector
theorem vector_C : Ctr Tryz.prog 11 kVector := Ctr.c2 (by kernel_rfl) fun l z h => by
  obtain ⟨⟨hl, hv⟩, hz, hz2⟩ := h
  obtain ⟨n, rfl⟩ : ∃ n : Nat, z = n := ⟨z.toNat, by omega⟩
  have T := (tabs mixed (tbl_cons r2Made_C tbl_nil))
  have mx : maxLen = 9223372036854775807 := by decide
  show PCall _ _ [.lst (V.i16s l), .raw (.int .i64 (n : Nat))] (.lst (V.rats (vecQ l n)))
  refine PCall.of_vc T Tryz.func11 rfl Tryz.ntmps11 Tryz.results11 (by simp) ?_
  unfold vecQ
  obtain ⟨F, eF⟩ : ∃ F : Nat → Rat, F = vq l := ⟨_, rfl⟩
  rw [← eF]
  simp only [go_sem]
  have hp : allPure [V.lst (V.i16s l)] := fun y hy => by
    rw [List.mem_singleton] at hy; subst hy; rfl
  refine AWp.loops (X := { i : Nat // i ≤ n }) (fun i => mkSt [(0, .lst (V.i16s l)), (1, .raw (.int .i64 (n : Nat))), (4, .raw (.slice none 0 0)), (5, .sl 0 4 0 i.1), (6, .raw (.int .i64 (i.1 : Nat)))] [(0, true, ⟨36, 4, V.rats (mkr F i.1)⟩)] 1 30) (fun i => n - i.1) ⟨0, Nat.zero_le _⟩ (Wk.of [1] (by decide) ?_) ?_
  · have e0 : V.rats (mkr F 0) = [] := rfl
    simp only [go_sem, e0, Int.natCast_zero]
  rintro ⟨i, hi⟩
  refine vc_at T ?_
  have li : (mkr F i).length = i := mkr_len _ _
  by_cases hin : i < n
  · have d1 : (i : Int) < (n : Int) := by omega
    have d2 : (i : Int) + 1 = ((i + 1 : Nat) : Int) := by omega
    have d3 : 0 ≤ (i : Int) := by omega
    have f5 : V.rats (mkr F i) ++ [.Q (F i)] = V.rats (mkr F (i + 1)) := mkr_snoc _ _
    have f6 : mkr F i ++ [F i] = mkr F (i + 1) := mkr_snoc' _ _
    have hvn := hv i
    have htm := tmod10 (iz l i)
    have wt : IntKind.i64.wrap ((iz l i).tmod 10) = (iz l i).tmod 10 := IntWalk.i64_in _ ⟨by omega, by omega⟩
    have gk : mdQ ((iz l i).tmod 10) 1 = F i := by rw [eF]; rfl
    by_cases hnl : i < l.length
    · have g1 : (i : Int) < (l.length : Int) := by omega
      simp only [go_sem, d1, d2, d3, hin, hnl, g1, wt, gk, li, mx, mkr_take, f5, f6]
      refine ⟨⟨by omega, by omega⟩, ⟨by omega, by omega⟩, ⟨by omega, by omega⟩, ⟨i + 1, hin⟩, Wk.of [20] (by decide) ?_, by simp only; omega⟩
      simp only [go_sem]
    · have g1 : ¬ (i : Int) < (l.length : Int) := by omega
      have z0 : iz l i = 0 := by
        unfold iz
        rw [List.getD_eq_getElem?_getD, List.getElem?_eq_none (by omega)]; rfl
      have w0 : IntKind.i64.wrap 0 = 0 := by decide
      have t0 : Int.tmod 0 10 = 0 := rfl
      have gk2 : mdQ 0 1 = F i := by rw [← gk, z0]; rfl
      simp only [go_sem, d1, d2, d3, hin, hnl, g1, w0, t0, gk2, li, mx, mkr_take, f5, f6]
      refine ⟨⟨by omega, by omega⟩, ⟨by omega, by omega⟩, ⟨i + 1, hin⟩, Wk.of [15] (by decide) ?_, by simp only; omega⟩
      simp only [go_sem]
  · obtain rfl : i = n := by omega
    have d1 : ¬ (i : Int) < (i : Int) := by omega
    have mm : i ≤ i := Nat.le_refl _
    simp only [go_sem, d1, li, mkr_take, mm]
end Go.Proofs.YtjjebokgckmnjaaGreat


/- Sizes of small matrices. -/
namespace Go.Proofs.YtjjebokgckmnjaaGreat
set_option linter.unusedSimpArgs false
set_option linter.unusedVariables false
open Go.RowKit

def qsB (q : Rat) : Bool := decide (q.num.natAbs < 4294967296) && decide (q.den < 4294967296)
theorem qsB_ok {q : Rat} (h : qsB q = true) : qs q ≤ 1 := by
  simp only [qsB, Bool.and_eq_true, decide_eq_true_eq] at h
  exact Nat.max_le.2 ⟨(dl_le (k := 1)).2 (by simpa using h.1), (dl_le (k := 1)).2 (by simpa using h.2)⟩
theorem sS_le {S k : Nat} (hS : S ≤ 20000000) (hk : k ≤ 5) : sS S k ≤ 1000000000000 ∧ dS S k ≤ 100000000000 := by
  have h1 := sS_mono S hk
  have h2 := dS_mono S hk
  have e1 : sS S 5 = 4 * (4 * (4 * (4 * (4 * S + 2) + 2) + 2) + 2) + 2 := rfl
  have e2 : dS S 5 = ((((1 + S) + (4 * S + 2)) + (4 * (4 * S + 2) + 2)) + (4 * (4 * (4 * S + 2) + 2) + 2)) + (4 * (4 * (4 * (4 * S + 2) + 2) + 2) + 2) := rfl
  omega
theorem redOk_of {M : List (List Rat)} {w S z : Nat} (hl : M.length ≤ 400) (hW : Wid w M) (hw : w ≤ 400) (hz : z ≤ w) (h5 : z ≤ 5) (hq : ∀ i k, qs (ent M i k) ≤ S) (hS : S ≤ 20000000) : RedOk M (z : Nat) := by
  have := sS_le hS h5
  refine ⟨⟨by omega, by omega⟩, w, S, ⟨hW, by omega, by omega⟩, hq, ?_⟩
  rw [Int.toNat_natCast]
  omega
/-- A small matrix that is given. -/
def mdB (M : List (List Rat)) : Bool := (M.all fun r => r.all qsB && decide (r.length = wdt M)) && decide (M.length ≤ 4)
theorem cf_qsB {r : List Rat} (h : r.all qsB = true) (k : Nat) : qs (cf r k) ≤ 1 := by
  by_cases hk : k < r.length
  · rw [cf_lt hk]
    exact qsB_ok (List.all_eq_true.1 h _ (List.getElem_mem hk))
  · rw [cf_ge (by omega)]
    exact Nat.le_trans qs_0 (by omega)
theorem mdB_ok {M : List (List Rat)} (h : mdB M = true) : M.length ≤ 4 ∧ Wid (wdt M) M ∧ ∀ i k, qs (ent M i k) ≤ 1 := by
  simp only [mdB, Bool.and_eq_true, decide_eq_true_eq, List.all_eq_true] at h
  refine ⟨h.2, fun i hi => ?_, fun i k => ?_⟩
  · rw [gd_lt hi]
    exact (h.1 _ (List.getElem_mem hi)).2
  · by_cases hi : i < M.length
    · show qs (cf (M.getD i []) k) ≤ 1
      rw [gd_lt hi]
      exact cf_qsB (List.all_eq_true.2 (h.1 _ (List.getElem_mem hi)).1) k
    · rw [ent_ge (by omega)]
      exact Nat.le_trans qs_0 (by omega)
theorem mdB_red {M : List (List Rat)} (h : mdB M = true) (hw : wdt M ≤ 5) : RedOk M (wdt M : Nat) := by
  obtain ⟨h1, h2, h3⟩ := mdB_ok h
  exact redOk_of (by omega) h2 (by omega) (Nat.le_refl _) hw h3 (by decide)
theorem mdB_MB {M : List (List Rat)} (h : mdB M = true) (hw : wdt M ≤ 5) : MB M := by
  obtain ⟨h1, h2, h3⟩ := mdB_ok h
  refine ⟨by omega, fun i => ⟨?_, fun k => Nat.le_trans (h3 i k) (by decide)⟩⟩
  by_cases hi : i < M.length
  · rw [h2 i hi]; omega
  · rw [gd_ge (by omega)]; decide
theorem exM_sz {M : List (List Rat)} {b : List Rat} {S : Nat} (hW : Wid (wdt M) M) (h1 : 1 ≤ S) (hM : ∀ i k, qs (ent M i k) ≤ S) (hb : ∀ k, qs (cf b k) ≤ S) (i k : Nat) : qs (ent (exM M b) i k) ≤ S := by
  by_cases hi : i < M.length
  · rw [ent_exM hW b hi]
    split
    · exact hM i k
    · split
      · exact hb i
      · split
        · exact Nat.le_trans (qsB_ok (by decide +kernel)) h1
        · exact Nat.le_trans qs_0 h1
  · rw [ent_ge (by rw [exM_len]; omega)]
    exact Nat.le_trans qs_0 h1
theorem solOk_of {M : List (List Rat)} {b : List Rat} {S : Nat} (hb : b.length = M.length) (hl : M.length ≤ 400) (hW : Wid (wdt M) M) (hw : wdt M ≤ 5) (h1 : 1 ≤ S) (hM : ∀ i k, qs (ent M i k) ≤ S) (hbS : ∀ k, qs (cf b k) ≤ S) (hS : S ≤ 20000000) : SolOk M b := by
  have := sS_le hS hw
  exact ⟨⟨hb, hl⟩, S, ⟨hW, by omega⟩, exM_sz hW h1 hM hbS, this.1, by omega⟩
theorem mdB_sol {M : List (List Rat)} {b : List Rat} (h : mdB M = true) (hw : wdt M ≤ 5) (hb : b.length = M.length) (hq : b.all qsB = true) : SolOk M b := by
  obtain ⟨h1, h2, h3⟩ := mdB_ok h
  exact solOk_of hb (by omega) h2 hw (Nat.le_refl _) h3 (cf_qsB hq) (by decide)
theorem smI_ok (l : List Int) (h : ((l.all fun z => decide (-128 ≤ z) && decide (z ≤ 127)) && decide (l.length ≤ 100)) = true) : SmI l := by
  simp only [Bool.and_eq_true, decide_eq_true_eq, List.all_eq_true] at h
  refine ⟨h.2, fun i => ?_⟩
  unfold iz
  rw [List.getD_eq_getElem?_getD]
  by_cases hi : i < l.length
  · rw [List.getElem?_eq_getElem hi]
    exact h.1 _ (List.getElem_mem hi)
  · rw [List.getElem?_eq_none (by omega)]
    exact ⟨by decide, by decide⟩
theorem LB_of {l : List Rat} (h : (l.all qsB && decide (l.length ≤ 100)) = true) : LB l := by
  simp only [Bool.and_eq_true, decide_eq_true_eq] at h
  exact ⟨by omega, fun k => Nat.le_trans (cf_qsB h.1 k) (by decide)⟩
end Go.Proofs.YtjjebokgckmnjaaGreat

