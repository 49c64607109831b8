/- Texts S30 ST16 S31 in one. -/
import Derived.Test.YtlhapagililgmaaGreatR35
import Derived.Test.YtlhapagililgmaaGreatR18
/- Contracts: the reference of package sturm, lists of roots and divisors. -/
namespace Go.Proofs.YtlhapagililgmaaGreat
set_option linter.unusedSimpArgs false
set_option linter.unusedVariables false
open Go.RowKit

def V.ints (l : List Int) : List V := l.map fun z => V.raw (.int .i64 z)
@[go_sem] theorem ints_len (l : List Int) : (V.ints l).length = l.length := by simp [V.ints]
@[go_sem] theorem ints_frz (l : List Int) : frzOk (V.ints l) = True := eq_true (frzOk_map (fun a => ⟨rfl, by simp, by simp⟩) l)
def iz (l : List Int) (i : Nat) : Int := l.getD i 0
@[go_sem ↓, go_sem] theorem ev_ints_get {l : List Int} {i : Nat} {k : V → Prop} : optC (V.ints l)[i]? k = (i < l.length ∧ k (.raw (.int .i64 (iz l i)))) := by
 unfold V.ints iz
 rw [List.getElem?_map, List.getD_eq_getElem?_getD]
 by_cases h : i < l.length
 ·simp [List.getElem?_eq_getElem h, optC, h]
 ·simp [List.getElem?_eq_none (Nat.le_of_not_lt h), optC, h]
def uninz : List V → Option (List Int)
 | [] => some []
 | .raw (.int .i64 n) :: l => (uninz l).map (n :: ·)
 | _ => none
theorem uninz_ok : ∀ (l : List V) (m : List Int), uninz l = some m → l = V.ints m
 | [], m, h => by injection h with h; subst h; rfl
 | x :: l, m, h => by
   unfold uninz at h
   split at h
   ·rename_i e; cases e
   ·rename_i n l' e
    injection e with e1 e2
    subst e1 e2
    rcases hm : uninz l with _ | m' <;> rw [hm] at h
    ·cases h
    ·injection h with h
     subst h
     rw [uninz_ok l m' hm]
     rfl
   ·cases h
@[go_sem ↓, go_sem] theorem uninz_nil : uninz [] = some [] := rfl
@[go_sem ↓, go_sem] theorem uninz_cons (n : Int) (l : List V) : uninz (.raw (.int .i64 n) :: l) = (uninz l).map (n :: ·) := rfl
def pIs : Pat (List Int) where
 p
  | .lst l => (uninz l).map fun m => (True, m)
  | _ => none
 val l := .lst (V.ints l)
 ok x c a h hc := by
  split at h
  ·rename_i l
   rcases hm : uninz l with _ | m <;> rw [hm] at h
   ·cases h
   ·injection h with h; injection h with h1 h2; subst h2
    rw [uninz_ok l m hm]; exact .refl _
  ·cases h
@[go_sem ↓, go_sem] theorem ev_pIs {l : List V} : pIs.p (.lst l) = (uninz l).map fun m => (True, m) := rfl
@[go_sem ↓, go_sem] theorem ev_pIs_mk {l : List Int} : pIs.val l = .lst (V.ints l) := rfl
@[go_sem ↓, go_sem] theorem uninz_ints (l : List Int) : uninz (V.ints l) = some l := by
 induction l with
 | nil => rfl
 | cons x l ih =>
   show (uninz (V.ints l)).map (x :: ·) = _
   rw [ih]; rfl
@[go_sem] theorem ints_pure (l : List Int) : allPure (V.ints l) = True := eq_true fun y hy => by obtain ⟨z, _, rfl⟩ := List.mem_map.1 hy; rfl
theorem ints_snocV (l : List Int) (z : Int) : V.ints l ++ [.raw (.int .i64 z)] = V.ints (l ++ [z]) := by simp [V.ints]
theorem ints_takeV (l : List Int) : (V.ints l).take l.length = V.ints l := List.take_of_length_le (by rw [ints_len]; exact Nat.le_refl _)
def kIns : Con := con2 pR pQ fun l r => ((LB l ∧ l.Pairwise (· < ·)) ∧ qs r ≤ 5000000000000, .lst (V.rats (insR l r)))
attribute [go_sem ↓, go_sem] kIns
set_option maxRecDepth 8000 in
theorem ins_C : Ctr Tryz.prog 94 kIns := Ctr.c2 (by kernel_rfl) fun R r h => by
 obtain ⟨⟨⟨lR, qR⟩, iR⟩, qr2⟩ := h
 show PCall _ _ _ (.lst (V.rats (insR R r)))
 have T := (tabs mixed (tbl_cons r2Cmp_C (tbl_cons r2Same_C tbl_nil)))
 have mx : maxLen = 9223372036854775807 := by decide
 refine PCall.of_vc T Tryz.func94 rfl Tryz.ntmps94 Tryz.results94 (by simp) ?_
 simp only [go_sem]
 obtain ⟨A, aL, aLt, aAt, aM, aI⟩ : ∃ A, A ≤ R.length ∧ (∀ k, k < A → cf R k < r) ∧ (A < R.length → ¬ cf R A < r) ∧ (r ∈ R ↔ A < R.length ∧ cf R A = r) ∧ insR R r = if r ∈ R then R else R.take A ++ r :: R.drop A := ⟨atR R r, atR_le R r, atR_lt R r, atR_at R r, atR_mem iR r, rfl⟩
 refine AWp.loops (X := { a : Nat // a ≤ A }) (fun a => mkSt [(0, .lst (V.rats R)), (3, .ptr 0 4 0 0), (5, .raw (.int .i64 (a.1 : Nat)))]
  [(0, true, ⟨46, 4, [.Q r]⟩)] 1 49) (fun a => A - a.1) ⟨0, Nat.zero_le _⟩ (Wk.of [0] (by decide) ?_) ?_
 ·simp only [go_sem, Int.natCast_zero]
 rintro ⟨a, ha⟩
 refine vc_at T ?_
 have qa := qR a
 have d3 : 0 ≤ (a : Int) := by omega
 have s1 := eq_true (show dl (cf R a).num.natAbs ≤ 30000000000000 from Nat.le_trans (sz_num (qR a)) (by decide))
 have s2 := eq_true (show dl ((cf R a).den : Int).natAbs ≤ 30000000000000 from Nat.le_trans (sz_den (qR a)) (by decide))
 have s3 := eq_true (show dl r.num.natAbs ≤ 30000000000000 from Nat.le_trans (sz_num qr2) (by decide))
 have s4 := eq_true (show dl (r.den : Int).natAbs ≤ 30000000000000 from Nat.le_trans (sz_den qr2) (by decide))
 by_cases haa : a < A
 ·have hal : a < R.length := by omega
  have d1' : (a : Int) < (R.length : Int) := by omega
  have d2 : (a : Int) + 1 = ((a + 1 : Nat) : Int) := by omega
  have d4 : cmpQ (cf R a) r < 0 := by
   unfold cmpQ
   rw [if_pos (aLt a haa)]; decide
  simp only [go_sem, hal, d1', d2, d3, d4, qa, qr2]
  refine ⟨by rfl, ⟨by omega, by omega⟩, ⟨a + 1, haa⟩, Wk.of [0] (by decide) ?_, by simp only; omega⟩
  simp only [go_sem]
 ·obtain rfl : a = A := by omega
  have l1 : a + (R.length - a) ≤ R.length := by omega
  have l2 : List.take (R.length - a) (List.drop a R) = List.drop a R := List.take_of_length_le (by rw [List.length_drop]; exact Nat.le_refl _)
  have l3 : (List.drop a R).length = R.length - a := List.length_drop
  have l4 : (List.take a R).length = a := by rw [List.length_take]; omega
  have l5 : a ≤ R.length := aL
  have l6 : (a : Int) ≤ (R.length : Int) := by omega
  have l7 : List.take a (List.take a R) = List.take a R := List.take_of_length_le (by omega)
  have l8 : a + 1 + (R.length - a) ≤ a + 1 + (R.length - a) := Nat.le_refl _
  have w4 : (∀ y : V, y ∈ V.rats R → y.atoms.length = 4) = True := eq_true fun y hy => by obtain ⟨q, _, rfl⟩ := List.mem_map.1 hy; rfl
  have w5 : (¬ a = 0 → True) = True := eq_true fun _ => trivial
  have xK : List.take (a + 1 + (R.length - a)) (insR R r) = insR R r := List.take_of_length_le (by have := insR_len R r; omega)
  have lI : r ∉ R → a + 1 + (R.length - a) ≤ (insR R r).length := fun h => by
   rw [aI, if_neg h, List.length_append, List.length_cons, l4, l3]; omega
  have tk : List.take (a + 1) (List.take a R ++ [r]) = List.take a R ++ [r] := List.take_of_length_le (by rw [List.length_append, l4]; exact Nat.le_refl _)
  by_cases hal : a < R.length
  ·have d1' : (a : Int) < (R.length : Int) := by omega
   have d4 : ¬ cmpQ (cf R a) r < 0 := by
    have := aAt hal
    unfold cmpQ
    rw [if_neg this]
    split <;> decide
   by_cases hs : cf R a = r
   ·have d5 : decide (cf R a = r) = true := decide_eq_true hs
    have xI : insR R r = R := by rw [aI, if_pos (aM.2 ⟨hal, hs⟩)]
    rw [xI]
    simp only [go_sem, hal, d1', d3, d4, d5, qa, qr2, s1, s2, s3, s4, qpair]
    exact ⟨by rfl, by rfl⟩
   ·have d5 : decide (cf R a = r) = false := decide_eq_false hs
    have xI : insR R r = R.take a ++ r :: R.drop a := by rw [aI, if_neg fun h => hs (aM.1 h).2]
    have lI2 := lI fun h => hs (aM.1 h).2
    have xJ : (List.take a R ++ [r]) ++ List.drop a R = insR R r := by rw [xI, List.append_assoc]; rfl
    simp only [go_sem, hal, d1', d3, d4, d5, qa, qr2, s1, s2, s3, s4, qpair, mx, l1, l2, l3, l4, l5, l6, tk, l7, l8, w4, w5, xJ, xK, lI2, Nat.min_self]
    refine ⟨by rfl, by rfl, ⟨by omega, by omega⟩, ⟨by omega, by omega⟩, by omega, by omega, by omega⟩
  ·have xI : insR R r = R.take a ++ r :: R.drop a := by rw [aI, if_neg fun h => hal (aM.1 h).1]
   have lI2 := lI fun h => hal (aM.1 h).1
   have xJ : (List.take a R ++ [r]) ++ List.drop a R = insR R r := by rw [xI, List.append_assoc]; rfl
   have d1' : ¬ (a : Int) < (R.length : Int) := by omega
   by_cases a0 : a = 0
   ·have R0 : R = [] := List.eq_nil_of_length_eq_zero (by omega)
    subst R0 a0
    have m1 : V.rats [] = [] := rfl
    have xI2 : insR [] r = [r] := xI
    rw [xI2]
    simp only [go_sem, m1, mx, List.length_nil, Int.natCast_zero]
    exact ⟨by rfl, by rfl, .refl _⟩
   ·simp only [go_sem, hal, a0, d1', d3, mx, l1, l2, l3, l4, l5, l6, tk, l7, l8, w4, w5, xJ, xK, lI2, Nat.min_self]
    refine ⟨by rfl, by rfl, ⟨by omega, by omega⟩, ⟨by omega, by omega⟩, by omega, by omega, by omega⟩
def dvL (n : Int) : Nat → List Int
 | 0 => []
 | d + 1 => if n.tmod ((d + 1 : Nat) : Int) = 0 then dvL n d ++ [((d + 1 : Nat) : Int)] else dvL n d
theorem dvL_mem (n : Int) : ∀ (m : Nat) (z : Int), z ∈ dvL n m ↔ (1 ≤ z ∧ z ≤ m) ∧ n.tmod z = 0
 | 0, z => ⟨fun h => (by cases h), fun h => by omega⟩
 | m + 1, z => by
   have ih := dvL_mem n m z
   rw [dvL]
   split
   ·rename_i h
    rw [List.mem_append, ih, List.mem_singleton]
    constructor
    ·rintro (⟨⟨h1, h2⟩, h3⟩ | rfl)
     ·exact ⟨⟨h1, by omega⟩, h3⟩
     ·exact ⟨⟨by omega, by omega⟩, h⟩
    ·rintro ⟨⟨h1, h2⟩, h3⟩
     by_cases e : z = ((m + 1 : Nat) : Int)
     ·exact .inr e
     ·exact .inl ⟨⟨h1, by omega⟩, h3⟩
   ·rename_i h
    rw [ih]
    constructor
    ·rintro ⟨⟨h1, h2⟩, h3⟩; exact ⟨⟨h1, by omega⟩, h3⟩
    ·rintro ⟨⟨h1, h2⟩, h3⟩
     refine ⟨⟨h1, ?_⟩, h3⟩
     by_cases e : z = ((m + 1 : Nat) : Int)
     ·rw [e] at h3; exact absurd h3 h
     ·omega
theorem dvL_len (n : Int) : ∀ m, (dvL n m).length ≤ m
 | 0 => Nat.le_refl _
 | m + 1 => by
   have := dvL_len n m
   rw [dvL]
   split
   ·rw [List.length_append, List.length_singleton]; omega
   ·omega
def kDivs : Con := con1 (pN .i64) fun n => (-1000000 ≤ n ∧ n ≤ 1000000, .lst (V.ints (dvL n n.natAbs)))
attribute [go_sem ↓, go_sem] kDivs
set_option maxRecDepth 4000 in
theorem divs_C : Ctr Tryz.prog 95 kDivs := Ctr.c1 (by kernel_rfl) fun n h => by
 obtain ⟨n1, n2⟩ := h
 show PCall _ _ _ (.lst (V.ints (dvL n n.natAbs)))
 have T : Tabs Tryz.prog (tbl []) noGab := tabs mixed tbl_nil
 have mx : maxLen = 9223372036854775807 := by decide
 refine PCall.of_vc T Tryz.func95 rfl Tryz.ntmps95 Tryz.results95 (by simp) ?_
 simp only [go_sem]
 refine AWp.loops (X := { d : Nat // d ≤ n.natAbs }) (fun d => mkSt [(0, .raw (.int .i64 n)), (3, .sl 0 1 0 (dvL n d.1).length), (4, .raw (.int .i64 ((d.1 + 1 : Nat) : Int)))] [(0, true, ⟨2, 1, V.ints (dvL n d.1)⟩)] 1 23) (fun d => n.natAbs - d.1) ⟨0, Nat.zero_le _⟩ (Wk.of [1] (by decide) ?_) ?_
 ·have e0 : dvL n 0 = [] := rfl
  have e1 : V.ints [] = [] := rfl
  simp only [go_sem, e0, e1, List.length_nil]
  try rfl
 rintro ⟨d, hd⟩
 refine vc_at T ?_
 have hl := dvL_len n d
 have e1 : (if n < -n then -n else n) = (n.natAbs : Int) := by split <;> omega
 have n0 : ¬ n = -9223372036854775808 := by omega
 obtain ⟨M, eM⟩ : ∃ M, dvL n d = M := ⟨_, rfl⟩
 rw [eM] at hl
 have tk := ints_takeV M
 have x3 : ((d + 1 + 1 : Nat) : Int) = ((d + 2 : Nat) : Int) := rfl
 by_cases hlt : d < n.natAbs
 ·have c1 : ((d + 1 : Nat) : Int) ≤ (n.natAbs : Int) := by omega
  have c2 : ((d + 1 : Nat) : Int) + 1 = ((d + 2 : Nat) : Int) := by omega
  have c3 : 1 ≤ ((d + 1 : Nat) : Int) := by omega
  by_cases hm : n.tmod ((d + 1 : Nat) : Int) = 0
  ·have c4 : (n.tmod ((d + 1 : Nat) : Int) == 0) = true := by rw [hm]; rfl
   have x1 : dvL n (d + 1) = M ++ [((d + 1 : Nat) : Int)] := by rw [dvL, if_pos hm, eM]
   have x2 : (dvL n (d + 1)).length = M.length + 1 := by rw [x1, List.length_append]; rfl
   simp only [go_sem, eM, e1, n0, c1, c2, c3, c4, mx, tk, ints_snocV]
   refine ⟨⟨by omega, by omega⟩, ⟨by omega, by omega⟩, ⟨by omega, by omega⟩, ⟨d + 1, hlt⟩, Wk.of [14] (by decide) ?_, by simp only; omega⟩
   simp only [go_sem, x1, x2, x3]
  ·have c4 : (n.tmod ((d + 1 : Nat) : Int) == 0) = false := beqF hm
   have x1 : dvL n (d + 1) = M := by rw [dvL, if_neg hm, eM]
   simp only [go_sem, eM, e1, n0, c1, c2, c3, c4]
   refine ⟨⟨by omega, by omega⟩, ⟨by omega, by omega⟩, ⟨d + 1, hlt⟩, Wk.of [0] (by decide) ?_, by simp only; omega⟩
   simp only [go_sem, x1, x3]
 ·obtain rfl : d = n.natAbs := by omega
  have c1 : ¬ ((n.natAbs + 1 : Nat) : Int) ≤ (n.natAbs : Int) := by omega
  simp only [go_sem, eM, e1, n0, c1, tk]
  exact ⟨by omega, by omega⟩
def vnS (c : List Int) (a b : Int) : Nat → Int × Int
 | 0 => (0, 1)
 | k + 1 => (((vnS c a b k).1 * a.tmod 1000003 + (iz c (c.length - 1 - k)).tmod 1000003 * (vnS c a b k).2).tmod 1000003, ((vnS c a b k).2 * b.tmod 1000003).tmod 1000003)
theorem tm_bd (x : Int) : -1000003 < x.tmod 1000003 ∧ x.tmod 1000003 < 1000003 := ⟨Int.lt_tmod_of_pos _ (by decide), Int.tmod_lt_of_pos _ (by decide)⟩
theorem vnS_bd (c : List Int) (a b : Int) : ∀ k, (-1000003 < (vnS c a b k).1 ∧ (vnS c a b k).1 < 1000003) ∧ -1000003 < (vnS c a b k).2 ∧ (vnS c a b k).2 < 1000003
 | 0 => by show (-1000003 < (0 : Int) ∧ (0 : Int) < 1000003) ∧ -1000003 < (1 : Int) ∧ (1 : Int) < 1000003; decide
 | k + 1 => ⟨tm_bd _, tm_bd _⟩
theorem mul_bd {x y : Int} (h1 : -1000003 < x ∧ x < 1000003) (h2 : -1000003 < y ∧ y < 1000003) : -1000006000009 ≤ x * y ∧ x * y ≤ 1000006000009 := by
 have h : (x * y).natAbs ≤ 1000003 * 1000003 := by
  rw [Int.natAbs_mul]
  exact Nat.mul_le_mul (by omega) (by omega)
 omega
def vnB (c : List Int) (a b : Int) : Bool := (vnS c a b c.length).1 == 0
def kVan : Con := con3 pIs (pN .i64) (pN .i64) fun c a b => (c.length ≤ 1000, .raw (.bool (vnB c a b)))
attribute [go_sem ↓, go_sem] kVan
set_option maxRecDepth 4000 in
theorem van_C : Ctr Tryz.prog 96 kVan := Ctr.c3 (by kernel_rfl) fun c a b hl => by
 show PCall _ _ _ (.raw (.bool (vnB c a b)))
 have T : Tabs Tryz.prog (tbl []) noGab := tabs mixed tbl_nil
 refine PCall.of_vc T Tryz.func96 rfl Tryz.ntmps96 Tryz.results96 (by simp) ?_
 simp only [go_sem]
 refine ⟨⟨by omega, by omega⟩, ?_⟩
 refine AWp.loops (X := { k : Nat // k ≤ c.length }) (fun k => mkSt [(0, .lst (V.ints c)), (1, .raw (.int .i64 a)), (2, .raw (.int .i64 b)), (7, .raw (.int .i64 (vnS c a b k.1).1)), (8, .raw (.int .i64 (vnS c a b k.1).2)), (9, .raw (.int .i64 ((c.length : Int) - 1 - (k.1 : Nat))))] [] 0 37) (fun k => c.length - k.1) ⟨0, Nat.zero_le _⟩ (Wk.of [] (by decide) ?_) ?_
 ·have e0 : vnS c a b 0 = (0, 1) := rfl
  simp only [go_sem, e0, Int.natCast_zero, Int.sub_zero]
 rintro ⟨k, hk⟩
 refine vc_at T ?_
 by_cases hlt : k < c.length
 ·have c1 : 0 ≤ (c.length : Int) - 1 - (k : Int) := by omega
  have c2 : (c.length : Int) - 1 - (k : Int) = ((c.length - 1 - k : Nat) : Int) := by omega
  have c3 : 0 ≤ ((c.length - 1 - k : Nat) : Int) := by omega
  have c4 : c.length - 1 - k < c.length := by omega
  have c5 : ((c.length - 1 - k : Nat) : Int) - 1 = (c.length : Int) - 1 - ((k + 1 : Nat) : Int) := by omega
  obtain ⟨⟨b1, b2⟩, b3, b4⟩ := vnS_bd c a b k
  have e1 : vnS c a b (k + 1) = (((vnS c a b k).1 * a.tmod 1000003 + (iz c (c.length - 1 - k)).tmod 1000003 * (vnS c a b k).2).tmod 1000003, ((vnS c a b k).2 * b.tmod 1000003).tmod 1000003) := rfl
  obtain ⟨s, es⟩ : ∃ s, (vnS c a b k).1 = s := ⟨_, rfl⟩
  obtain ⟨w, ew⟩ : ∃ s, (vnS c a b k).2 = s := ⟨_, rfl⟩
  obtain ⟨x, ex⟩ : ∃ s, a.tmod 1000003 = s := ⟨_, rfl⟩
  obtain ⟨y, ey⟩ : ∃ s, b.tmod 1000003 = s := ⟨_, rfl⟩
  obtain ⟨z, ez⟩ : ∃ s, (iz c (c.length - 1 - k)).tmod 1000003 = s := ⟨_, rfl⟩
  rw [es, ew, ex, ey, ez] at e1
  rw [es] at b1 b2
  rw [ew] at b3 b4
  have m1 := mul_bd ⟨b1, b2⟩ (ex ▸ tm_bd a)
  have m2 := mul_bd (ez ▸ tm_bd (iz c (c.length - 1 - k))) ⟨b3, b4⟩
  have m3 := mul_bd ⟨b3, b4⟩ (ey ▸ tm_bd b)
  have t1 := tm_bd (s * x + z * w)
  have t2 := tm_bd (w * y)
  simp only [go_sem, c2, c3, c4, es, ew, ex, ey, ez]
  refine ⟨⟨by omega, by omega⟩, by omega, ⟨by omega, by omega⟩, ⟨by omega, by omega⟩, ⟨by omega, by omega⟩, ⟨by omega, by omega⟩, ⟨k + 1, hlt⟩, Wk.of [] (by decide) ?_, by simp only; omega⟩
  simp only [go_sem, e1, c5]
 ·obtain rfl : k = c.length := by omega
  have c1 : ¬ 0 ≤ (c.length : Int) - 1 - (c.length : Int) := by omega
  have e1 : ((vnS c a b c.length).1 == 0) = vnB c a b := rfl
  simp only [go_sem, c1, e1]
  try exact .refl _
end Go.Proofs.YtlhapagililgmaaGreat


/- Numerators and denominators of rational roots; the check by a prime number. -/
namespace Go.Proofs.YtlhapagililgmaaGreat
set_option linter.unusedSimpArgs false
set_option linter.unusedVariables false
open Go.RowKit

theorem zz_ogL (p : List Rat) {n i : Nat} (h : i < n) : zz (ogL p n) i = ogI p i := by
 unfold zz ogL
 rw [List.getD_eq_getElem?_getD, List.getElem?_map, List.getElem?_range h]; rfl
theorem iz_zz (l : List Int) (i : Nat) : iz l i = zz l i := rfl
theorem og_mul (p : List Rat) {i : Nat} (h : i < p.length) : cf p i * (dnL p p.length : Rat) = (ogI p i : Rat) := by
 obtain ⟨u, hu⟩ := dnL_dvd p p.length i h
 have qp := (cf p i).den_pos
 have e1 : ogI p i = (cf p i).num * u := by
  unfold ogI
  rw [hu, Int.mul_ediv_cancel_left _ (by omega)]
 have e2 := rat_md (cf p i)
 rw [e1, hu, Rat.intCast_mul, Rat.intCast_mul, ← e2]
 have : (((cf p i).den : Int) : Rat) = ((cf p i).den : Rat) := rfl
 rw [this]; grind
theorem ev_ogL {p : List Rat} {x : Rat} (hx : ev p x = 0) : (hsZ x (ogL p p.length)).1 = 0 := by
 have h1 := evZ_mul (ogL p p.length) p (dnL p p.length : Rat) x (ogL_len _ _) fun i hi => by rw [zz_ogL p hi, ← og_mul p hi, Rat.mul_comm]
 rw [hx, Rat.mul_zero] at h1
 have h2 := hsZ_ev x (ogL p p.length)
 rw [h1, Rat.zero_mul] at h2
 have d0 : (x.den : Rat) ≠ 0 := natR_ne x.den_pos
 rcases Rat.mul_eq_zero.1 h2 with h | h
 ·have : (((hsZ x (ogL p p.length)).1 : Int) : Rat) = ((0 : Int) : Rat) := h
  exact intCast_inj4 this
 ·exact absurd h d0
theorem den_last {x : Rat} {l : List Int} (l0 : l ≠ []) (h : (hsZ x l).1 = 0) : (x.den : Int) ∣ zz l (l.length - 1) := by
 obtain ⟨⟨k, hk⟩, _⟩ := hsZ_low x l l0
 rw [h] at hk
 have h3 : (x.den : Int) ∣ zz l (l.length - 1) * x.num ^ (l.length - 1) := ⟨-k, by
  generalize x.num ^ (l.length - 1) = w at *
  grind⟩
 have h4 : x.den ∣ (zz l (l.length - 1)).natAbs * x.num.natAbs ^ (l.length - 1) := by
  have := Int.natAbs_dvd_natAbs.2 h3
  rwa [Int.natAbs_natCast, Int.natAbs_mul, Int.natAbs_pow] at this
 have h5 : Nat.Coprime x.den (x.num.natAbs ^ (l.length - 1)) := Nat.Coprime.pow_right _ x.reduced.symm
 have h6 := Nat.Coprime.dvd_of_dvd_mul_right h5 h4
 exact Int.natAbs_dvd_natAbs.1 (by rwa [Int.natAbs_natCast])
theorem hsZ_den (x : Rat) : ∀ l : List Int, (hsZ x l).2 = (x.den : Int) ^ l.length
 | [] => rfl
 | c :: l => by
   show (hsZ x l).2 * (x.den : Int) = _
   rw [hsZ_den x l, List.length_cons, Int.pow_succ]
theorem num_first {x : Rat} (hx : x.num ≠ 0) : ∀ (l : List Int) (k : Nat), (hsZ x l).1 = 0 → (∀ j, j < k → zz l j = 0) → x.num ∣ zz l k
 | [], k, _, _ => by
   have : zz [] k = 0 := by unfold zz; simp
   rw [this]; exact Int.dvd_zero _
 | c :: l, k, h, hz => by
   have e : (hsZ x (c :: l)).1 = (hsZ x l).1 * x.num + c * (hsZ x l).2 := rfl
   rw [e] at h
   cases k with
   | zero =>
     have e0 : zz (c :: l) 0 = c := rfl
     rw [e0]
     rw [hsZ_den] at h
     have h3 : x.num ∣ c * (x.den : Int) ^ l.length := ⟨-(hsZ x l).1, by
      generalize (x.den : Int) ^ l.length = w at *
      grind⟩
     have h4 : x.num.natAbs ∣ c.natAbs * x.den ^ l.length := by
      have := Int.natAbs_dvd_natAbs.2 h3
      rwa [Int.natAbs_mul, Int.natAbs_pow, Int.natAbs_natCast] at this
     have h5 : Nat.Coprime x.num.natAbs (x.den ^ l.length) := Nat.Coprime.pow_right _ x.reduced
     exact Int.natAbs_dvd_natAbs.1 (Nat.Coprime.dvd_of_dvd_mul_right h5 h4)
   | succ k =>
     have c0 : c = 0 := hz 0 (by omega)
     rw [c0, Int.zero_mul, Int.add_zero] at h
     have h1 : (hsZ x l).1 = 0 := (Int.mul_eq_zero.1 h).resolve_right hx
     exact num_first hx l k h1 fun j hj => hz (j + 1) (by omega)
theorem tm_dvd (m x : Int) : ∃ u, x = x.tmod m + m * u := ⟨x.tdiv m, by have := Int.tmod_add_mul_tdiv x m; omega⟩
theorem vn_hs (c : List Int) (x : Rat) : ∀ k, k ≤ c.length → (∃ u, (hsZ x (c.drop (c.length - k))).1 = (vnS c x.num (x.den : Int) k).1 + 1000003 * u) ∧ ∃ u, (hsZ x (c.drop (c.length - k))).2 = (vnS c x.num (x.den : Int) k).2 + 1000003 * u
 | 0, _ => by
   rw [Nat.sub_zero, List.drop_length]
   exact ⟨⟨0, rfl⟩, ⟨0, rfl⟩⟩
 | k + 1, hk => by
   obtain ⟨⟨u, hu⟩, v, hv⟩ := vn_hs c x k (by omega)
   have hlt : c.length - (k + 1) < c.length := by omega
   have e : c.drop (c.length - (k + 1)) = zz c (c.length - 1 - k) :: c.drop (c.length - k) := by
    rw [List.drop_eq_getElem_cons hlt, show c.length - (k + 1) + 1 = c.length - k by omega]
    unfold zz
    rw [List.getD_eq_getElem?_getD, show c.length - 1 - k = c.length - (k + 1) by omega, List.getElem?_eq_getElem hlt]; rfl
   rw [e]
   show (∃ t, (hsZ x (c.drop (c.length - k))).1 * x.num + zz c (c.length - 1 - k) * (hsZ x (c.drop (c.length - k))).2 = (((vnS c x.num (x.den : Int) k).1 * x.num.tmod 1000003 + (iz c (c.length - 1 - k)).tmod 1000003 * (vnS c x.num (x.den : Int) k).2).tmod 1000003) + 1000003 * t) ∧ ∃ t, (hsZ x (c.drop (c.length - k))).2 * (x.den : Int) = (((vnS c x.num (x.den : Int) k).2 * (x.den : Int).tmod 1000003).tmod 1000003) + 1000003 * t
   rw [hu, hv, iz_zz]
   obtain ⟨s, es⟩ : ∃ s, (vnS c x.num (x.den : Int) k).1 = s := ⟨_, rfl⟩
   obtain ⟨w, ew⟩ : ∃ s, (vnS c x.num (x.den : Int) k).2 = s := ⟨_, rfl⟩
   rw [es, ew]
   obtain ⟨a, ha⟩ := tm_dvd 1000003 x.num
   obtain ⟨b, hb⟩ := tm_dvd 1000003 (x.den : Int)
   obtain ⟨d, hd⟩ := tm_dvd 1000003 (zz c (c.length - 1 - k))
   obtain ⟨f, hf⟩ := tm_dvd 1000003 (s * x.num.tmod 1000003 + (zz c (c.length - 1 - k)).tmod 1000003 * w)
   obtain ⟨g, hg⟩ := tm_dvd 1000003 (w * (x.den : Int).tmod 1000003)
   generalize (s * x.num.tmod 1000003 + (zz c (c.length - 1 - k)).tmod 1000003 * w).tmod 1000003 = F at *
   generalize (w * (x.den : Int).tmod 1000003).tmod 1000003 = G at *
   generalize x.num.tmod 1000003 = A at *
   generalize (x.den : Int).tmod 1000003 = B at *
   generalize (zz c (c.length - 1 - k)).tmod 1000003 = D at *
   generalize zz c (c.length - 1 - k) = z at *
   generalize x.num = n at *
   generalize (x.den : Int) = m at *
   refine ⟨⟨f + (u * n + s * a + d * (w + 1000003 * v) + D * v), ?_⟩, g + (v * m + w * b), ?_⟩
   ·subst ha hd
    grind
   ·subst hb
    grind
theorem van_root {p : List Rat} {x : Rat} (hx : ev p x = 0) : vnB (ogL p p.length) x.num (x.den : Int) = true := by
 obtain ⟨⟨u, hu⟩, _⟩ := vn_hs (ogL p p.length) x (ogL p p.length).length (Nat.le_refl _)
 rw [Nat.sub_self, List.drop_zero, ev_ogL hx] at hu
 obtain ⟨⟨h1, h2⟩, _⟩ := vnS_bd (ogL p p.length) x.num (x.den : Int) (ogL p p.length).length
 unfold vnB
 rw [beq_iff_eq]
 omega
structure RtI (p : List Rat) (o : List Rat) : Prop where
 inc : o.Pairwise (· < ·)
 root : ∀ r ∈ o, ev p r = 0
theorem RtI.nil (p : List Rat) : RtI p [] := ⟨List.Pairwise.nil, fun r h => by cases h⟩
theorem RtI.ins {p o : List Rat} (h : RtI p o) {r : Rat} (hr : ev p r = 0) : RtI p (insR o r) := ⟨insR_inc h.inc r, fun s hs => by
 rcases (insR_mem o r s).1 hs with rfl | hs
 ·exact hr
 ·exact h.root s hs⟩
theorem inc_len : ∀ {a b : List Rat}, a.Pairwise (· < ·) → b.Pairwise (· < ·) → (∀ r ∈ a, r ∈ b) → a.length ≤ b.length
 | [], b, _, _, _ => Nat.zero_le _
 | x :: a, [], _, _, h => by have := h x (by simp); cases this
 | x :: a, y :: b, ha, hb, h => by
   obtain ⟨a1, a2⟩ := List.pairwise_cons.1 ha
   obtain ⟨b1, b2⟩ := List.pairwise_cons.1 hb
   have := inc_len a2 b2 fun r hr => by
    rcases List.mem_cons.1 (h r (by simp [hr])) with e | e
    ·subst e
     rcases List.mem_cons.1 (h x (by simp)) with e2 | e2
     ·subst e2; exact absurd (a1 x hr) Rat.lt_irrefl
     ·have h3 := a1 r hr
      have h4 := b1 x e2
      grind
    ·exact e
   rw [List.length_cons, List.length_cons]; omega
theorem RtI.lb {p o : List Rat} (h : RtI p o) (hl : Lw p) (h2 : 2 ≤ p.length) : LB o ∧ o.length ≤ 8 := by
 have p0 : p ≠ [] := fun e => by rw [e] at h2; simp at h2
 obtain ⟨a1, a2⟩ := ratL_ok hl.can h2
 obtain ⟨_, b2, b3⟩ := ratL_LB (hl.pn p0) (hl.lq p0)
 have hsub : ∀ r ∈ o, r ∈ ratL p := fun r hr => (a1 r).2 (h.root r hr)
 have l1 := inc_len h.inc a2 hsub
 refine ⟨⟨by omega, fun k => ?_⟩, by omega⟩
 by_cases hk : k < o.length
 ·obtain ⟨j, _, hj⟩ := mem_cf.1 (hsub _ (mem_cf.2 ⟨k, hk, rfl⟩))
  rw [← hj]
  exact Nat.le_trans (b2 j) (by decide)
 ·rw [cf_ge (by omega)]
  exact Nat.le_trans qs_0 (by decide)
theorem RtI.fin {p o : List Rat} (h : RtI p o) (hp : Can p) (h2 : 2 ≤ p.length) (hall : ∀ r, ev p r = 0 → r ∈ o) : o = ratL p := by
 obtain ⟨a1, a2⟩ := ratL_ok hp h2
 exact inc_uniqQ h.inc a2 fun r => ⟨fun hr => (a1 r).2 (h.root r hr), fun hr => hall r ((a1 r).1 hr)⟩
theorem mdQ_nd (r : Rat) : mdQ r.num (r.den : Int) = r := by
 have := r.den_pos
 unfold mdQ
 rw [if_neg (by omega)]
 exact Rat.num_divInt_den r
end Go.Proofs.YtlhapagililgmaaGreat


/- Contracts: the reference of package sturm, integral coefficients and integer roots. -/
namespace Go.Proofs.YtlhapagililgmaaGreat
set_option linter.unusedSimpArgs false
set_option linter.unusedVariables false
open Go.RowKit

theorem ogL_take (p : List Rat) {n i : Nat} (h : i < n) : (ogL p n).take (i + 1) = (ogL p n).take i ++ [ogI p i] := by
 rw [List.take_add_one]
 unfold ogL
 rw [List.getElem?_map, List.getElem?_range h]; rfl
def kIntR : Con := con1 pR fun p => (Lw p, .lst (V.ints (ogL p p.length)))
attribute [go_sem ↓, go_sem] kIntR
set_option maxRecDepth 8000 in
theorem intR_C : Ctr Tryz.prog 93 kIntR := Ctr.c1 (by kernel_rfl) fun p h => by
 show PCall _ _ _ (.lst (V.ints (ogL p p.length)))
 have T := (tabs mixed (tbl_cons rof_C (tbl_cons rgcd_C (tbl_cons rdm_C (tbl_cons rmul_C (tbl_cons rWhole4_C (tbl_cons r2Mul_C (tbl_cons rsmall_C tbl_nil))))))))
 have mx : maxLen = 9223372036854775807 := by decide
 have hl := h.len
 have hb := h.sz.pb
 have dn : ∀ n, (dnL p n).natAbs ≤ 2520 := fun n => by
  obtain ⟨t, ⟨a, b⟩, c⟩ := h.tb
  have d1 := dnL_lcm (p := p) (t := t) (fun j => den_dvd_n (c j).choose_spec.1) n
  have := Nat.le_of_dvd (by omega) d1
  omega
 have dnd : ∀ n, dl (dnL p n).natAbs ≤ 1 := fun n => (dl_le (k := 1)).2 (by have := dn n; simp; omega)
 refine PCall.of_vc T Tryz.func93 rfl Tryz.ntmps93 Tryz.results93 (by simp) ?_
 simp only [go_sem]
 refine AWp.loops (X := { i : Nat // i ≤ p.length }) (fun i => mkSt [(0, .lst (V.rats p)), (3, .ptr 0 2 0 0), (4, .sl 1 1 0 0), (5, .raw (.int .i64 (i.1 : Nat)))]
  [(0, true, ⟨44, 2, [.I (dnL p i.1)]⟩), (1, true, ⟨2, 1, []⟩)] 2 63) (fun i => p.length - i.1) ⟨0, Nat.zero_le _⟩ (Wk.of [3, 2] (by decide) ?_) ?_
 ·simp only [go_sem, dnL, Int.natCast_zero]
 ·rintro ⟨i, hi⟩
  refine vc_at T ?_
  by_cases hlt : i < p.length
  ·have c1 : (i : Int) < (p.length : Int) := by omega
   have c2 : (i : Int) + 1 = ((i + 1 : Nat) : Int) := by omega
   have c3 : 0 ≤ (i : Int) := by omega
   have z1 := dnd i
   have z2 : dl (cf p i).den ≤ 1 := Nat.le_trans (qs_den _) (hb i)
   obtain ⟨G, hG⟩ : ∃ G, G = Nat.gcd (dnL p i).natAbs (cf p i).den := ⟨_, rfl⟩
   have z4 : dl G ≤ 1 := by rw [hG]; exact gcd_dl _ _ _ z1 z2
   have hG0 : 0 < G := by rw [hG]; exact Nat.gcd_pos_of_pos_right _ (cf p i).den_pos
   have z5 := dl_ediv ((cf p i).den : Int) (G : Nat)
   rw [Int.natAbs_natCast] at z5
   have hdm : ∀ x : Int, dmR x (G : Nat) = .tup [.I (x / (G : Nat)), .I (x % (G : Nat)), .raw (.int .i64 0)] := fun x => if_neg (by omega)
   have e1 : dnL p i * ((cf p i).den / ((G : Nat) : Int)) = dnL p (i + 1) := by rw [hG]; rfl
   simp only [go_sem, c1, c2, c3, hlt, Int.natAbs_natCast, ← hG, hdm, e1]
   refine ⟨⟨by omega, by omega⟩, ⟨by omega, by omega⟩, by rfl, ⟨by omega, by omega⟩, ⟨by omega, by omega⟩, ⟨i + 1, hlt⟩, Wk.of [0, 1] (by decide) ?_, by simp only; omega⟩
   simp only [go_sem]
  ·obtain rfl : i = p.length := by omega
   have c1 : ¬ (p.length : Int) < (p.length : Int) := by omega
   simp only [go_sem, c1]
   refine AWp.loops (X := { i : Nat // i ≤ p.length }) (fun i => mkSt [(0, .lst (V.rats p)), (3, .ptr 0 2 0 0), (4, .sl 1 1 0 i.1), (9, .raw (.int .i64 (i.1 : Nat)))]
    [(0, true, ⟨44, 2, [.I (dnL p p.length)]⟩), (1, true, ⟨2, 1, V.ints ((ogL p p.length).take i.1)⟩)] 2 63) (fun i => p.length - i.1) ⟨0, Nat.zero_le _⟩ (Wk.of [0, 1] (by decide) ?_) ?_
   ·have e1 : V.ints [] = [] := rfl
    simp only [go_sem, List.take_zero, e1, Int.natCast_zero]
   ·rintro ⟨i, hi⟩
    refine vc_at T ?_
    have li : ((ogL p p.length).take i).length = i := by rw [List.length_take, ogL_len]; omega
    by_cases hlt : i < p.length
    ·have c1 : (i : Int) < (p.length : Int) := by omega
     have c2 : (i : Int) + 1 = ((i + 1 : Nat) : Int) := by omega
     have c3 : 0 ≤ (i : Int) := by omega
     have q1 : qs (cf p i) ≤ 5000000000000 := Nat.le_trans (hb i) (by decide)
     have q2 : qs (dnL p p.length : Rat) ≤ 5000000000000 := Nat.le_trans (qs_int _) (Nat.max_le.2 ⟨Nat.le_trans (dnd _) (by decide), by decide⟩)
     have e1 := og_mul p hlt
     have h0 := ogI_le h.tb hlt
     have e2 : ((ogI p i : Rat)).num = ogI p i := rfl
     have e3 : rsmV (ogI p i) = ogI p i := rsmV_ok (by unfold smallB; simp; omega)
     have tk : (V.ints ((ogL p p.length).take i)).take i = V.ints ((ogL p p.length).take i) := List.take_of_length_le (by rw [ints_len, li]; exact Nat.le_refl _)
     have x1 := ogL_take p hlt
     simp only [go_sem, c1, c2, c3, hlt, q1, q2, e1, e2, e3, tk, mx, ints_snocV, li]
     refine ⟨by rfl, ⟨by omega, by omega⟩, ⟨by omega, by omega⟩, ⟨i + 1, hlt⟩, Wk.of [0, 23] (by decide) ?_, by simp only; omega⟩
     simp only [go_sem, x1]
    ·obtain rfl : i = p.length := by omega
     have c1 : ¬ (p.length : Int) < (p.length : Int) := by omega
     have tk : (ogL p p.length).take p.length = ogL p p.length := List.take_of_length_le (by rw [ogL_len]; exact Nat.le_refl _)
     have tk2 : (V.ints (ogL p p.length)).take p.length = V.ints (ogL p p.length) := List.take_of_length_le (by rw [ints_len, ogL_len]; exact Nat.le_refl _)
     simp only [go_sem, c1, tk, tk2, ogL_len]
def rtT (p : List Rat) (b : Int) : Nat → List Int
 | 0 => []
 | k + 1 => if ev p ((-b + (k : Nat) : Int) : Rat) = 0 then rtT p b k ++ [-b + (k : Nat)] else rtT p b k
theorem rtT_mem (p : List Rat) (b : Int) : ∀ (k : Nat) (z : Int), z ∈ rtT p b k ↔ (-b ≤ z ∧ z < -b + k) ∧ ev p (z : Rat) = 0
 | 0, z => ⟨fun h => (by cases h), fun h => by omega⟩
 | k + 1, z => by
   have ih := rtT_mem p b k z
   rw [rtT]
   split
   ·rename_i h
    rw [List.mem_append, ih, List.mem_singleton]
    constructor
    ·rintro (⟨⟨h1, h2⟩, h3⟩ | rfl)
     ·exact ⟨⟨h1, by omega⟩, h3⟩
     ·exact ⟨⟨by omega, by omega⟩, h⟩
    ·rintro ⟨⟨h1, h2⟩, h3⟩
     by_cases e : z = -b + (k : Nat)
     ·exact .inr e
     ·exact .inl ⟨⟨h1, by omega⟩, h3⟩
   ·rename_i h
    rw [ih]
    constructor
    ·rintro ⟨⟨h1, h2⟩, h3⟩; exact ⟨⟨h1, by omega⟩, h3⟩
    ·rintro ⟨⟨h1, h2⟩, h3⟩
     refine ⟨⟨h1, ?_⟩, h3⟩
     by_cases e : z = -b + (k : Nat)
     ·rw [e] at h3; exact absurd h3 h
     ·omega
theorem rtT_inc (p : List Rat) (b : Int) : ∀ k : Nat, (rtT p b k).Pairwise (· < ·)
 | 0 => List.Pairwise.nil
 | k + 1 => by
   have ih := rtT_inc p b k
   rw [rtT]
   split
   ·refine List.pairwise_append.2 ⟨ih, by simp, fun x hx y hy => ?_⟩
    have := (rtT_mem p b k x).1 hx
    rw [List.mem_singleton] at hy
    omega
   ·exact ih
theorem rtT_len (p : List Rat) (b : Int) : ∀ k : Nat, (rtT p b k).length ≤ k
 | 0 => Nat.le_refl _
 | k + 1 => by
   have := rtT_len p b k
   rw [rtT]
   split
   ·rw [List.length_append, List.length_singleton]; omega
   ·omega
theorem rtT_all {p : List Rat} (hp : Can p) (p0 : p ≠ []) : rtT p (bndZ p) (2 * bndZ p + 1).toNat = intL p := by
 obtain ⟨h1, h2⟩ := intL_ok hp p0
 have h0 := bndZ_nn p
 refine inc_uniqZ (rtT_inc _ _ _) h2 fun z => ?_
 rw [rtT_mem, h1]
 refine ⟨fun h => h.2, fun h => ⟨?_, h⟩⟩
 obtain ⟨_, hb⟩ := root_bnd hp p0 h
 obtain ⟨b1, b2⟩ := ab_le.1 (Std.le_of_lt hb)
 have b1 : ((-bndZ p : Int) : Rat) ≤ (z : Rat) := by rw [Rat.intCast_neg]; exact b1
 have b1 := Rat.intCast_le_intCast.1 b1
 have b2 := Rat.intCast_le_intCast.1 b2
 have : (((2 * bndZ p + 1).toNat : Nat) : Int) = 2 * bndZ p + 1 := Int.toNat_of_nonneg (by omega)
 omega
def kIntsR : Con := con1 pR fun p => (Lw p ∧ bndZ p ≤ 2000, .lst (V.zs (intL p)))
attribute [go_sem ↓, go_sem] kIntsR
set_option maxRecDepth 8000 in
theorem intsR_C : Ctr Tryz.prog 41 kIntsR := Ctr.c1 (by kernel_rfl) fun p h => by
 obtain ⟨h, hb⟩ := h
 show PCall _ _ _ (.lst (V.zs (intL p)))
 have T := (tabs mixed (tbl_cons rBound_C (tbl_cons rsmall_C (tbl_cons r2Whole_C (tbl_cons rEval_C (tbl_cons r2Sign_C (tbl_cons rof_C tbl_nil)))))))
 have mx : maxLen = 9223372036854775807 := by decide
 refine PCall.of_vc T Tryz.func41 rfl Tryz.ntmps41 Tryz.results41 (by simp) ?_
 by_cases p0 : p = []
 ·subst p0
  have e1 : intL [] = [] := if_pos rfl
  have e2 : V.zs [] = [] := rfl
  have c1 : ((([] : List Rat).length : Int) == 0) = true := rfl
  rw [e1]
  simp only [go_sem, c1, e2]
 ·have c1 : ((p.length : Int) == 0) = false := beqF (by have := List.length_pos_iff.2 p0; omega)
  have hp := h.pn p0
  have t1 := eq_true hp.Bd
  have b0 := bndZ_nn p
  have hall := rtT_all h.can p0
  obtain ⟨b, eb⟩ : ∃ b, bndZ p = b := ⟨_, rfl⟩
  rw [eb] at hb b0 hall
  have e1 : smallB b = true := by unfold smallB; simp; omega
  have e2 := rsmV_ok e1
  have e3 : ¬ 2000 < b := by omega
  have e4 : ¬ b = -9223372036854775808 := by omega
  simp only [go_sem, c1, t1, eb, e1, e2, e3, e4]
  refine ⟨⟨by omega, by omega⟩, ?_⟩
  refine AWp.loops (X := { k : Nat // k ≤ (2 * b + 1).toNat }) (fun k => mkSt [(0, .lst (V.rats p)), (3, .sl 0 2 0 (rtT p b k.1).length), (5, .raw (.int .i64 b)), (7, .raw (.int .i64 (-b + (k.1 : Nat))))]
   [(0, true, ⟨44, 2, V.zs (rtT p b k.1)⟩)] 1 52) (fun k => (2 * b + 1).toNat - k.1) ⟨0, Nat.zero_le _⟩ (Wk.of [1] (by decide) ?_) ?_
  ·have x0 : rtT p b 0 = [] := rfl
   have x1 : V.zs [] = [] := rfl
   simp only [go_sem, x0, x1, List.length_nil, Int.natCast_zero, Int.add_zero]
  rintro ⟨k, hk⟩
  refine vc_at T ?_
  have hl := rtT_len p b k
  obtain ⟨M, eM⟩ : ∃ M, rtT p b k = M := ⟨_, rfl⟩
  rw [eM] at hl
  obtain ⟨z, ez⟩ : ∃ z, -b + (k : Int) = z := ⟨_, rfl⟩
  have tk : (V.zs M).take M.length = V.zs M := List.take_of_length_le (by rw [zs_len]; exact Nat.le_refl _)
  by_cases hlt : k < (2 * b + 1).toNat
  ·have d1 : z ≤ b := by omega
   have d2 : z + 1 = -b + ((k + 1 : Nat) : Int) := by omega
   have qz : qs (z : Rat) ≤ 1000 := Nat.le_trans (qs_int _) (Nat.max_le.2 ⟨Nat.le_trans ((dl_le (k := 1)).2 (by simp; omega)) (by decide), by decide⟩)
   obtain ⟨⟨v1, v2, v3⟩, v4⟩ := Sz.ce h.sz qz (by decide)
   have v1 := eq_true v1
   have v2 := eq_true v2
   have v3 := eq_true v3
   have v4 := eq_true v4
   by_cases hr : ev p (z : Rat) = 0
   ·have g1 : (sgI (ev p (z : Rat)).num == 0) = true := by rw [sgI_num, hr]; rfl
    have ck : rtT p b (k + 1) = M ++ [z] := by rw [rtT, ez, if_pos hr, eM]
    have lk : (M ++ [z]).length = M.length + 1 := by rw [List.length_append]; rfl
    simp only [go_sem, eM, ez, d1, d2, v1, v2, v3, v4, g1, tk, mx]
    refine ⟨⟨by omega, by omega⟩, ⟨by omega, by omega⟩, ⟨by omega, by omega⟩, ⟨by omega, by omega⟩, ⟨k + 1, hlt⟩, Wk.of [14] (by decide) ?_, by simp only; omega⟩
    simp only [go_sem, ck, lk]
   ·have g1 : (sgI (ev p (z : Rat)).num == 0) = false := by
     rw [sgI_num, beq_eq_false_iff_ne]
     exact fun e => hr ((sgQ_zero _).1 e)
    have ck : rtT p b (k + 1) = M := by rw [rtT, ez, if_neg hr, eM]
    simp only [go_sem, eM, ez, d1, d2, v1, v2, v3, v4, g1]
    refine ⟨⟨by omega, by omega⟩, ⟨by omega, by omega⟩, ⟨k + 1, hlt⟩, Wk.of [0] (by decide) ?_, by simp only; omega⟩
    simp only [go_sem, ck]
  ·obtain rfl : k = (2 * b + 1).toNat := by omega
   have d1 : ¬ z ≤ b := by omega
   rw [hall] at eM
   have eM' := hall.trans eM
   simp only [go_sem, eM', ez, eM, d1, tk]
end Go.Proofs.YtlhapagililgmaaGreat

