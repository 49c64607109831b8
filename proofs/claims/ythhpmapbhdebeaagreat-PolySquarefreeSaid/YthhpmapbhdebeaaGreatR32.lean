/- Texts PM21 SZ11 SZ12 H13 H14 in one. -/
import Derived.Test.YthhpmapbhdebeaaGreatR30
import Derived.Test.YthhpmapbhdebeaaGreatR31
import Derived.Test.YthhpmapbhdebeaaGreatR27
import Derived.Test.YthhpmapbhdebeaaGreatR28
import Derived.Test.YthhpmapbhdebeaaGreatR20
/- The squarefree parts: products of powers, order, coprimality. No program in sight. -/
namespace Go.Proofs.YthhpmapbhdebeaaGreat
set_option linter.unusedSimpArgs false
set_option linter.unusedVariables false

theorem mulpow (a b : Rat) : ∀ n : Nat, (a * b) ^ n = a ^ n * b ^ n
  | 0 => by rw [Rat.pow_zero, Rat.pow_zero, Rat.pow_zero]; grind
  | n + 1 => by rw [Rat.pow_succ, Rat.pow_succ, Rat.pow_succ, mulpow a b n]; grind
theorem onepow : ∀ n : Nat, (1 : Rat) ^ n = 1
  | 0 => Rat.pow_zero _
  | n + 1 => by rw [Rat.pow_succ, onepow n]; grind
theorem ev_PwL_cons (y : List Rat × Nat) (l : Fac) (x : Rat) : ev (PwL (y :: l)) x = ev y.1 x ^ y.2 * ev (PwL l) x := by rw [PwL, ev_pMul, ev_pwr]
theorem ev_PwL_nil (x : Rat) : ev (PwL []) x = 1 := ev1 x
theorem PwL_app : ∀ (l m : Fac) (x : Rat), ev (PwL (l ++ m)) x = ev (PwL l) x * ev (PwL m) x
  | [], m, x => by rw [List.nil_append, ev_PwL_nil]; grind
  | y :: l, m, x => by rw [List.cons_append, ev_PwL_cons, ev_PwL_cons, PwL_app l m x]; grind
theorem filt_Pw (f : List Rat × Nat → Bool) : ∀ (l : Fac) (x : Rat), ev (PwL l) x = ev (PwL (l.filter f)) x * ev (PwL (l.filter fun y => !f y)) x
  | [], x => by rw [List.filter_nil, List.filter_nil, ev_PwL_nil]; grind
  | y :: l, x => by
    have ih := filt_Pw f l x
    by_cases h : f y = true
    · rw [List.filter_cons_of_pos h, List.filter_cons_of_neg (by simp [h]), ev_PwL_cons, ev_PwL_cons, ih]; grind
    · rw [List.filter_cons_of_neg h, List.filter_cons_of_pos (by simpa using h), ev_PwL_cons, ev_PwL_cons, ih]; grind
theorem PwL_one {n : Nat} : ∀ {l : Fac}, (∀ y ∈ l, y.2 = n) → ∀ x, ev (PwL l) x = ev (PiL l) x ^ n
  | [], _, x => by
    rw [ev_PwL_nil, show PiL [] = [1] from rfl, ev1, onepow]
  | y :: l, h, x => by
    rw [ev_PwL_cons, PiL, ev_pMul, mulpow, PwL_one (fun z hz => h z (by simp [hz])) x, h y (by simp)]
theorem partsL_Pw {l : Fac} : ∀ (k n : Nat) (x : Rat), ev (PwL (partsL l k n)) x = ev (PwL (l.filter fun y => decide (n ≤ y.2) && decide (y.2 < n + k))) x
  | 0, n, x => by
    have : (l.filter fun y => decide (n ≤ y.2) && decide (y.2 < n + 0)) = [] := List.filter_eq_nil_iff.2 fun y _ => by simp
    rw [this]; rfl
  | k + 1, n, x => by
    have ih := partsL_Pw (l := l) k (n + 1) x
    have e1 : (l.filter fun y => decide (n ≤ y.2) && decide (y.2 < n + (k + 1))).filter (fun y => y.2 == n) = l.filter fun y => y.2 == n := filt_and fun y => by
      by_cases e : y.2 = n
      · simp [e]
      · simp [e]
    have e2 : (l.filter fun y => decide (n ≤ y.2) && decide (y.2 < n + (k + 1))).filter (fun y => !(y.2 == n)) = l.filter fun y => decide (n + 1 ≤ y.2) && decide (y.2 < n + 1 + k) := filt_and fun y => by
      by_cases e : y.2 = n
      · have : ¬ n + 1 ≤ y.2 := by omega
        simp [e]
        omega
      · by_cases e1 : n ≤ y.2 <;> by_cases e2 : y.2 < n + (k + 1) <;> by_cases e3 : n + 1 ≤ y.2 <;> by_cases e4 : y.2 < n + 1 + k <;> simp [e, e1, e2, e3, e4] <;> omega
    have h := filt_Pw (fun y => y.2 == n) (l.filter fun y => decide (n ≤ y.2) && decide (y.2 < n + (k + 1))) x
    rw [e1, e2] at h
    rw [h, ← ih, partsL]
    split
    · rename_i hz
      rw [hz, ev_PwL_nil]; grind
    · rw [ev_PwL_cons, PwL_one (n := n) (l := l.filter fun y => y.2 == n) fun y hy => by simpa using (List.mem_filter.1 hy).2]
/-- The product of powers, step by step. -/
def pmS (o p : List Rat) : Nat → List Rat
  | 0 => o
  | k + 1 => pMul (pmS o p k) p
def fcP (fs : Fac) (i : Nat) : List Rat := (fs.getD i ([], 0)).1
def fcN (fs : Fac) (i : Nat) : Nat := (fs.getD i ([], 0)).2
def prE (fs : Fac) : Nat → List Rat
  | 0 => [1]
  | i + 1 => pmS (prE fs i) (fcP fs i) (fcN fs i)
theorem pmS_ev (o p : List Rat) (x : Rat) : ∀ k, ev (pmS o p k) x = ev o x * ev p x ^ k
  | 0 => by rw [pmS, Rat.pow_zero]; grind
  | k + 1 => by rw [pmS, ev_pMul, pmS_ev o p x k, Rat.pow_succ]; grind
theorem fc_mem {fs : Fac} {i : Nat} (h : i < fs.length) : fs.getD i ([], 0) ∈ fs := by
  rw [List.getD_eq_getElem?_getD, List.getElem?_eq_getElem h]; exact List.getElem_mem h
theorem fc_take {fs : Fac} {i : Nat} (h : i < fs.length) : fs.take (i + 1) = fs.take i ++ [fs.getD i ([], 0)] := by
  rw [List.take_add_one, List.getD_eq_getElem?_getD, List.getElem?_eq_getElem h]; rfl
theorem prE_ev (fs : Fac) (x : Rat) : ∀ i, i ≤ fs.length → ev (prE fs i) x = ev (PwL (fs.take i)) x
  | 0, _ => rfl
  | i + 1, h => by
    rw [prE, pmS_ev, prE_ev fs x i (by omega), fc_take (by omega), PwL_app, ev_PwL_cons, ev_PwL_nil]
    unfold fcP fcN; grind
theorem PwL_split {fs : Fac} {i : Nat} (h : i < fs.length) (x : Rat) : ev (PwL fs) x = ev (prE fs i) x * ev (fcP fs i) x ^ fcN fs i * ev (PwL (fs.drop (i + 1))) x := by
  rw [prE_ev fs x i (by omega)]
  have e : fs = fs.take i ++ (fs.getD i ([], 0) :: fs.drop (i + 1)) := by
    rw [List.getD_eq_getElem?_getD, List.getElem?_eq_getElem h]
    show fs = fs.take i ++ (fs[i] :: fs.drop (i + 1))
    rw [← List.drop_eq_getElem_cons h, List.take_append_drop]
  have h2 : ev (PwL fs) x = ev (PwL (fs.take i ++ (fs.getD i ([], 0) :: fs.drop (i + 1)))) x := congrArg (fun l => ev (PwL l) x) e
  rw [h2, PwL_app, ev_PwL_cons]
  unfold fcP fcN; grind
theorem rpow_add (x : Rat) (m : Nat) : ∀ n, x ^ (m + n) = x ^ m * x ^ n
  | 0 => by rw [Nat.add_zero, Rat.pow_zero]; grind
  | n + 1 => by rw [← Nat.add_assoc, Rat.pow_succ, Rat.pow_succ, rpow_add x m n]; grind
/-- What the product reaches divides the whole. -/
theorem pmS_dvd {fs : Fac} {i k : Nat} (h : i < fs.length) (hk : k ≤ fcN fs i) : pDvd (pmS (prE fs i) (fcP fs i) k) (PwL fs) := by
  refine ⟨pMul (pwr (fcP fs i) (fcN fs i - k)) (PwL (fs.drop (i + 1))), can_pMul _ _, fun x => ?_⟩
  have e := rpow_add (ev (fcP fs i) x) k (fcN fs i - k)
  rw [show k + (fcN fs i - k) = fcN fs i by omega] at e
  rw [PwL_split h x, e, ev_pMul, ev_pwr, pmS_ev]; grind
theorem fcP_dvd {fs : Fac} {i : Nat} (h : i < fs.length) (hk : 1 ≤ fcN fs i) : pDvd (fcP fs i) (PwL fs) := by
  refine ⟨pMul (prE fs i) (pMul (pwr (fcP fs i) (fcN fs i - 1)) (PwL (fs.drop (i + 1)))), can_pMul _ _, fun x => ?_⟩
  have e := rpow_add (ev (fcP fs i) x) 1 (fcN fs i - 1)
  rw [show 1 + (fcN fs i - 1) = fcN fs i by omega, show (1 : Nat) = 0 + 1 from rfl, Rat.pow_succ, Rat.pow_zero] at e
  rw [PwL_split h x, e, ev_pMul, ev_pMul, ev_pwr]; grind
/-- A monic polynomial. -/
structure Mon (a : List Rat) : Prop where
  can : Can a
  ne : a ≠ []
  one : lead a = 1
theorem Mon.mul {a b : List Rat} (ha : Mon a) (hb : Mon b) : Mon (pMul a b) := ⟨can_pMul _ _, fun h => ((pMul_eq_nil ha.can hb.can).1 h).elim ha.ne hb.ne, by
  rw [lead_pMul ha.can hb.can ha.ne hb.ne, ha.one, hb.one]; grind⟩
theorem Mon.unit : Mon [1] := ⟨can1, by simp, rfl⟩
theorem Mon.pmS {o p : List Rat} (ho : Mon o) (hp : Mon p) : ∀ k, Mon (pmS o p k)
  | 0 => ho
  | k + 1 => (Mon.pmS ho hp k).mul hp
theorem Mon.prE {fs : Fac} (h : ∀ i, i < fs.length → Mon (fcP fs i)) : ∀ i, i ≤ fs.length → Mon (prE fs i)
  | 0, _ => Mon.unit
  | i + 1, hi => (Mon.prE h i (by omega)).pmS (h i (by omega)) _
theorem Good.inj : ∀ {l : Fac}, Good l → ∀ y ∈ l, ∀ z ∈ l, y.1 = z.1 → y = z
  | [], _, y, hy, _, _, _ => by cases hy
  | w :: l, ⟨_, h2, h3⟩, y, hy, z, hz, e => by
    rcases List.mem_cons.1 hy with hy1 | hy1
    · rcases List.mem_cons.1 hz with hz1 | hz1
      · rw [hy1, hz1]
      · rw [hy1] at e
        exact absurd e (h2 z hz1)
    · rcases List.mem_cons.1 hz with hz1 | hz1
      · rw [hz1] at e
        exact absurd e.symm (h2 y hy1)
      · exact h3.inj y hy1 z hz1 e
theorem parts_cop {l : Fac} (hl : Good l) {m n : Nat} (hmn : m ≠ n) : cop (PiL (l.filter fun y => y.2 == m)) (PiL (l.filter fun y => y.2 == n)) := by
  refine cop_PiL fun y hy => (cop_PiL fun z hz => ?_).symm
  obtain ⟨y1, y2⟩ := List.mem_filter.1 hy
  obtain ⟨z1, z2⟩ := List.mem_filter.1 hz
  refine (hl.mem y y1).1.cop' (hl.mem z z1).1 fun e => hmn ?_
  have := hl.inj y y1 z z1 e
  have e1 : y.2 = n := by simpa using y2
  have e2 : z.2 = m := by simpa using z2
  rw [← e1, ← e2, this]
theorem partsL_inc {l : Fac} : ∀ (k n : Nat), (partsL l k n).Pairwise fun a b => a.2 < b.2
  | 0, _ => List.Pairwise.nil
  | k + 1, n => by
    rw [partsL]
    split
    · exact partsL_inc k (n + 1)
    · exact List.Pairwise.cons (fun b hb => by have := (partsL_mem k (n + 1) b hb).1; show n < b.2; omega) (partsL_inc k (n + 1))
theorem partsL_len {l : Fac} : ∀ (k n : Nat), (partsL l k n).length ≤ k
  | 0, _ => Nat.le_refl _
  | k + 1, n => by
    rw [partsL]
    have := partsL_len (l := l) k (n + 1)
    split
    · omega
    · rw [List.length_cons]; omega
/-- What the law says of the parts. -/
structure Parts (K : Nat) (a : List Rat) (fs : Fac) : Prop where
  len : fs.length < K
  nil : a.length < 2 → fs = []
  mon : ∀ i, i < fs.length → Mon (fcP fs i)
  two : ∀ i, i < fs.length → 2 ≤ (fcP fs i).length
  exp : ∀ i, i < fs.length → 1 ≤ fcN fs i ∧ fcN fs i < K
  inc : ∀ i j, i < j → j < fs.length → fcN fs i < fcN fs j
  sqf : ∀ i, i < fs.length → (pGcd (fcP fs i) (pDiff (fcP fs i))).length = 1
  cop : ∀ i j, i < j → j < fs.length → (pGcd (fcP fs j) (fcP fs i)).length = 1
  dvd : ∀ i k, i < fs.length → k ≤ fcN fs i → pDvd (pmS (prE fs i) (fcP fs i) k) a
  dvp : ∀ i, i < fs.length → pDvd (fcP fs i) a
  prd : 2 ≤ a.length → prE fs fs.length = pMonic a
theorem parts_nil {K : Nat} {a : List Rat} (hK : 1 ≤ K) (h : a.length < 2) : Parts K a [] :=
  ⟨hK, fun _ => rfl, fun _ h => absurd h (Nat.not_lt_zero _), fun _ h => absurd h (Nat.not_lt_zero _), fun _ h => absurd h (Nat.not_lt_zero _), fun _ _ _ h => absurd h (Nat.not_lt_zero _), fun _ h => absurd h (Nat.not_lt_zero _), fun _ _ _ h => absurd h (Nat.not_lt_zero _), fun _ _ h => absurd h (Nat.not_lt_zero _), fun _ h => absurd h (Nat.not_lt_zero _), fun h2 => by omega⟩
theorem parts_all {a : List Rat} (ha : Can a) (h2 : 2 ≤ a.length) {c : Rat} {l : Fac} (hc : c ≠ 0) (hl : Good l) (e : ∀ x, ev a x = c * ev (PwL l) x) {K : Nat} (hK : a.length ≤ K) : Parts K a (partsL l (K - 1) 1) := by
  have e1 : a = pSc c (PwL l) := ev_inj ha (can_pSc _ _) fun x => by rw [e x, ev_pSc]
  have hl1 : (PwL l).length = a.length := by rw [e1, len_pSc' hc (can_PwL l)]
  obtain ⟨⟨p1, p2⟩, p3⟩ := lead_PwL hl
  have hle : ∀ y ∈ l, y.2 ≤ K - 1 := fun y hy => by have := p3 y hy; omega
  obtain ⟨fs, efs⟩ : ∃ fs, partsL l (K - 1) 1 = fs := ⟨_, rfl⟩
  have hmem : ∀ i, i < fs.length → (1 ≤ fcN fs i ∧ fcN fs i < 1 + (K - 1)) ∧ fcP fs i = PiL (l.filter fun z => z.2 == fcN fs i) ∧ (l.filter fun z => z.2 == fcN fs i) ≠ [] := fun i hi => by
    have := fc_mem hi
    rw [← efs] at this ⊢
    exact partsL_mem (K - 1) 1 _ this
  have hPw : ∀ x, ev (PwL fs) x = ev (PwL l) x := fun x => by
    rw [← efs, partsL_Pw]
    have : (l.filter fun y => decide (1 ≤ y.2) && decide (y.2 < 1 + (K - 1))) = l := List.filter_eq_self.2 fun y hy => by
      have h1 := (hl.mem y hy).2
      have h2 := hle y hy
      simp; omega
    rw [this]
  have hdv : ∀ p, pDvd p (PwL fs) → pDvd p a := fun p ⟨q, hq, h⟩ => ⟨pSc c q, can_pSc _ _, fun x => by rw [e x, ← hPw, h x, ev_pSc]; grind⟩
  have hg : ∀ n, Good (l.filter fun z => z.2 == n) := fun n => hl.filter
  have hmon : ∀ i, i < fs.length → Mon (fcP fs i) := fun i hi => by
    rw [(hmem i hi).2.1]
    obtain ⟨g1, g2, _⟩ := lead_PiL (hg (fcN fs i))
    exact ⟨can_PiL _, g2, g1⟩
  have hinc : ∀ i j, i < j → j < fs.length → fcN fs i < fcN fs j := fun i j hij hj => by
    have h := partsL_inc (l := l) (K - 1) 1
    rw [efs] at h
    have h := List.pairwise_iff_getElem.1 h i j (by omega) hj hij
    unfold fcN
    rw [List.getD_eq_getElem?_getD, List.getD_eq_getElem?_getD, List.getElem?_eq_getElem hj, List.getElem?_eq_getElem (show i < fs.length by omega)]
    exact h
  rw [efs]
  refine ⟨by have := partsL_len (l := l) (K - 1) 1; rw [efs] at this; omega, fun h => by omega, hmon, fun i hi => ?_, fun i hi => by have := (hmem i hi).1; omega, hinc, fun i hi => ?_, fun i j hij hj => ?_, fun i k hi hk => hdv _ (pmS_dvd hi hk), fun i hi => hdv _ (fcP_dvd hi (hmem i hi).1.1), fun _ => ?_⟩
  · rw [(hmem i hi).2.1]
    exact (lead_PiL (hg (fcN fs i))).2.2 (hmem i hi).2.2
  · rw [cop_gcd1 (hmon i hi).can (can_pDiff _) (by rw [(hmem i hi).2.1]; exact PiL_sqf (hg _))]; rfl
  · have := hinc i j hij hj
    rw [cop_gcd1 (hmon j hj).can (hmon i (by omega)).can (by rw [(hmem i (by omega)).2.1, (hmem j hj).2.1]; exact parts_cop hl (by omega))]; rfl
  · have hm := Mon.prE hmon fs.length (Nat.le_refl _)
    refine ev_inj hm.can (can_pMonic a) fun x => ?_
    have a0 : a ≠ [] := fun h => by rw [h] at h2; simp at h2
    have la : lead a = c := by rw [e1, lead_pSc hc (can_PwL l), p1]; grind
    rw [prE_ev fs x _ (Nat.le_refl _), List.take_length, hPw, ev_pMonic a0, la, e x]
    have : 1 / c * c = 1 := by rw [Rat.div_def, Rat.one_mul]; exact Rat.inv_mul_cancel _ hc
    rw [← Rat.mul_assoc, this]; grind
end Go.Proofs.YthhpmapbhdebeaaGreat


/- Sizes of monic factors, by integers. No program in sight. -/
namespace Go.Proofs.YthhpmapbhdebeaaGreat
set_option linter.unusedSimpArgs false
set_option linter.unusedVariables false
open Go.RowKit

/-- A multiple of the polynomial has integer coefficients within a bound. -/
def Ht (H : Nat) (a : List Rat) : Prop := ∃ t : Rat, t ≠ 0 ∧ IB H (pSc t a)
theorem mag_den (q : Rat) : ∃ z : Int, (q.den : Rat) * q = (z : Rat) ∧ z.natAbs ≤ mag q ∧ 1 ≤ q.den ∧ q.den ≤ mag q := by
  refine ⟨q.num, ?_, Nat.le_max_left _ _, q.den_pos, Nat.le_max_right _ _⟩
  have h0 : (q.den : Rat) ≠ 0 := natR_ne q.den_pos
  have h1 : q = (q.num : Rat) / (q.den : Rat) := by
    have := Rat.divInt_eq_div q.num (q.den : Int)
    rw [Rat.num_divInt_den] at this
    exact this
  have h2 : (q.den : Rat) * ((q.num : Rat) / (q.den : Rat)) = (q.num : Rat) := by
    rw [Rat.div_def, Rat.mul_comm, Rat.mul_assoc, Rat.inv_mul_cancel _ h0, Rat.mul_one]
  rw [← h1] at h2
  exact h2
theorem Bd.mulI {M N : Nat} {x y : Rat} (hx : IsI x) (hy : IsI y) (h : Bd M x) (g : Bd N y) : Bd (M * N) (x * y) := by
  obtain ⟨a, rfl⟩ := hx
  obtain ⟨b, rfl⟩ := hy
  rw [← Rat.intCast_mul]
  rw [Bd_int] at *
  rw [Int.natAbs_mul]
  exact Nat.mul_le_mul h g
theorem MB_int : ∀ (a : List Rat), MB a 128 → ∃ D : Nat, 1 ≤ D ∧ D ≤ 128 ^ a.length ∧ ∀ i, IsI ((D : Rat) * cf a i) ∧ Bd (128 ^ (a.length + 1)) ((D : Rat) * cf a i)
  | [], _ => ⟨1, by decide, by decide, fun i => by
    rw [cf_nil, Rat.mul_zero]
    exact ⟨⟨0, rfl⟩, by
      have : Bd 0 (0 : Rat) := by unfold Bd; decide
      exact this.mono (Nat.zero_le _)⟩⟩
  | c :: a, h => by
    obtain ⟨D, h1, h2, h3⟩ := MB_int a fun i => h (i + 1)
    obtain ⟨z, z1, z2, z3, z4⟩ := mag_den c
    have hc : mag c ≤ 128 := h 0
    refine ⟨c.den * D, Nat.mul_pos z3 h1, ?_, fun i => ?_⟩
    · rw [List.length_cons, Nat.pow_succ, Nat.mul_comm]
      exact Nat.mul_le_mul h2 (by omega)
    · rw [natR_mul, List.length_cons]
      cases i with
      | zero =>
        rw [cf_zero, show (c.den : Rat) * (D : Rat) * c = (D : Rat) * ((c.den : Rat) * c) from by grind, z1]
        refine ⟨(IsI.nat D).mul (IsI.int z), ?_⟩
        have hz : Bd 128 (z : Rat) := Bd_int.2 (by omega)
        refine (hz.natMul h2).mono ?_
        rw [show a.length + 1 + 1 = a.length + 2 from rfl, show 128 ^ (a.length + 2) = 128 ^ a.length * 128 * 128 from by rw [Nat.pow_succ, Nat.pow_succ]]
        exact Nat.le_mul_of_pos_right _ (by decide)
      | succ i =>
        rw [cf_succ, Rat.mul_assoc]
        obtain ⟨g1, g2⟩ := h3 i
        refine ⟨(IsI.nat c.den).mul g1, (g2.natMul (show c.den ≤ 128 by omega)).mono ?_⟩
        rw [show 128 ^ (a.length + 1 + 1) = 128 ^ (a.length + 1) * 128 from Nat.pow_succ _ _, Nat.mul_comm]
        exact Nat.le_refl _
theorem IB.mono {H K : Nat} {A : List Rat} (h : IB H A) (hk : H ≤ K) : IB K A := fun i => ⟨(h i).1, (h i).2.mono hk⟩
theorem MB_Ht {a : List Rat} (h : MB a 128) (hl : a.length ≤ 5) : Ht (128 ^ 6) a := by
  obtain ⟨D, h1, _, h3⟩ := MB_int a h
  refine ⟨(D : Rat), natR_ne h1, fun i => ?_⟩
  rw [cf_pSc]
  exact ⟨(h3 i).1, (h3 i).2.mono (Nat.pow_le_pow_right (by decide) (by omega))⟩
theorem IB_mulL {H K : Nat} {b : List Rat} (hb : IB K b) : ∀ a : List Rat, IB H a → IB (a.length * (H * K)) (mulL a b)
  | [], _ => fun i => ⟨⟨0, rfl⟩, by
    rw [show cf (mulL [] b) i = 0 from rfl, List.length_nil, Nat.zero_mul]
    unfold Bd; decide⟩
  | c :: a, ha => fun i => by
    have ih := IB_mulL hb a fun i => ha (i + 1)
    have hc := ha 0
    rw [cf_zero] at hc
    rw [List.length_cons, Nat.add_mul, Nat.one_mul]
    have one : ∀ j, Bd (H * K) (c * cf b j) := fun j => Bd.mulI hc.1 (hb j).1 hc.2 (hb j).2
    cases i with
    | zero =>
      rw [cf_mulL_z]
      exact ⟨hc.1.mul (hb 0).1, (one 0).mono (by omega)⟩
    | succ i =>
      rw [cf_mulL_s]
      exact ⟨(hc.1.mul (hb (i + 1)).1).add (ih i).1, ((one (i + 1)).add (ih i).2).mono (by omega)⟩
theorem IB_mul {H K n : Nat} {a b : List Rat} (ha : IB H a) (hb : IB K b) (hn : a.length ≤ n) : IB (n * (H * K)) (pMul a b) := fun i => by
  unfold pMul
  rw [cf_tr]
  exact ⟨(IB_mulL hb a ha i).1, (IB_mulL hb a ha i).2.mono (Nat.mul_le_mul_right _ hn)⟩
theorem Ht.mul {H K n : Nat} {a b : List Rat} (ha : Ht H a) (hb : Ht K b) (hn : a.length ≤ n) : Ht (n * (H * K)) (pMul a b) := by
  obtain ⟨t, t0, h1⟩ := ha
  obtain ⟨s, s0, h2⟩ := hb
  refine ⟨t * s, fun h => (Rat.mul_eq_zero.1 h).elim t0 s0, ?_⟩
  have e : pSc (t * s) (pMul a b) = pMul (pSc t a) (pSc s b) := ev_inj (can_pSc _ _) (can_pMul _ _) fun x => by
    rw [ev_pSc, ev_pMul, ev_pMul, ev_pSc, ev_pSc]; grind
  rw [e]
  exact IB_mul h1 h2 (Nat.le_trans (len_pSc _ _) hn)
theorem Ht.mono {H K : Nat} {a : List Rat} (h : Ht H a) (hk : H ≤ K) : Ht K a := by
  obtain ⟨t, t0, h1⟩ := h
  exact ⟨t, t0, h1.mono hk⟩
/-- Monic factors are small. -/
theorem dvd_sz {H S : Nat} {a p : List Rat} (hH : H < 4294967296 ^ S ∧ ipB 9 (vlB H 9) < 4294967296 ^ S ∧ 1 ≤ S) (ha : Can a) (a0 : a ≠ []) (h : Ht H a) (la : a.length ≤ 9) (hp : Can p) (p1 : lead p = 1) (hd : pDvd p a) : Sz p 9 S := by
  obtain ⟨t, t0, hI⟩ := h
  obtain ⟨k, hk, e⟩ := hd
  have k0 : k ≠ [] := fun h => a0 (ev_inj ha Can_nil fun x => by rw [e x, h]; show (0 : Rat) * _ = 0; rw [Rat.zero_mul])
  have lA : (pSc t a).length ≤ 9 := by rw [len_pSc' t0 ha]; exact la
  have lk := lead_ne hk k0
  have A0 : pSc t a ≠ [] := fun h => by
    have := len_pSc' t0 ha
    rw [h] at this
    exact a0 (List.eq_nil_of_length_eq_zero this.symm)
  have p0 : p ≠ [] := fun h => by rw [h] at p1; exact absurd p1 (by decide)
  have eL : lead (pSc t a) = t * lead k := by
    rw [lead_pSc t0 ha]
    have e1 : a = pMul k p := ev_inj ha (can_pMul _ _) fun x => by rw [e x, ev_pMul]
    rw [e1, lead_pMul hk hp k0 p0, p1, Rat.mul_one]
  obtain ⟨L, hL⟩ := (hI ((pSc t a).length - 1)).1
  have hL : lead (pSc t a) = (L : Rat) := hL
  have hL0 : L ≠ 0 := fun h0 => by
    have := lead_ne (can_pSc t a) A0
    rw [hL, h0] at this
    exact this rfl
  obtain ⟨d, d1, d2, hdd⟩ := fac_bd (q := pMonic k) (L := L) (can_pSc t a) hI lA hL0 hp p1 (can_pMonic k) (lead_pMonic hk k0) fun x => by
    rw [ev_pSc, e x, ev_pMonic k0, ← hL, eL]
    have : lead k * (1 / lead k) = 1 := by rw [Rat.div_def, Rat.one_mul]; exact Rat.mul_inv_cancel _ lk
    rw [show t * lead k * (ev p x * (1 / lead k * ev k x)) = t * (ev p x * (lead k * (1 / lead k) * ev k x)) from by grind, this]; grind
  refine ⟨Nat.le_trans (dvd_len ha hp ⟨k, hk, e⟩ a0).1 la, fun i => ?_, hp⟩
  obtain ⟨z, hz, hzb⟩ := hdd i
  have hd0 := natR_ne d1
  have ez : cf p i = Rat.divInt z (d : Int) := by
    rw [Rat.divInt_eq_div]
    have := congrArg (fun y => (d : Rat)⁻¹ * y) hz
    simp only [← Rat.mul_assoc, Rat.inv_mul_cancel _ hd0, Rat.one_mul] at this
    rw [this, Rat.div_def, Rat.mul_comm]; rfl
  rw [ez]
  refine Nat.le_trans (qs_divInt _ _) ?_
  have h1 : dl z.natAbs ≤ S := dl_le.2 (by omega)
  have h2 : dl (d : Int).natAbs ≤ S := dl_le.2 (by rw [Int.natAbs_natCast]; omega)
  omega
end Go.Proofs.YthhpmapbhdebeaaGreat


/- The squarefree decomposition of small polynomials: sizes and facts. No program in sight. -/
namespace Go.Proofs.YthhpmapbhdebeaaGreat
set_option linter.unusedSimpArgs false
set_option linter.unusedVariables false
open Go.RowKit

def HB : Nat := 5 * (128 ^ 6 * 128 ^ 6)
theorem HB_ok : HB < 4294967296 ^ 6 ∧ ipB 9 (vlB HB 9) < 4294967296 ^ 6 ∧ 1 ≤ 6 := by decide +kernel
theorem sf_tab : ∀ n : Fin 8, sfC2 6 23 (n.1 + 1) 16 = true := by decide +kernel
/-- A polynomial that the law decomposes. -/
structure SqIn (a : List Rat) : Prop where
  sz : Sz a 9 16
  ht : Ht HB a
structure SqO (a : List Rat) (fs : Fac) : Prop where
  val : pSqf 10 a = some fs
  ok : SfOk 10 a
  pt : Parts 10 a fs
  fac : ∀ p, Mon p → pDvd p a → 2 ≤ a.length → Sz p 9 6
theorem sq_all {a : List Rat} (h : SqIn a) : ∃ fs, SqO a fs := by
  obtain ⟨⟨hl, hp, ha⟩, ht⟩ := h
  by_cases h2 : 2 ≤ a.length
  · have a0 : a ≠ [] := fun e => by rw [e] at h2; simp at h2
    obtain ⟨c, l, hc, hg, e⟩ := factor a.length a (Nat.le_refl _) ha a0
    have hsf := sf_tab ⟨a.length - 2, by omega⟩
    have e1 : a.length - 2 + 1 = a.length - 1 := by omega
    simp only [e1] at hsf
    have e2 : a = pSc c (PwL l) := ev_inj ha (can_pSc _ _) fun x => by rw [e x, ev_pSc]
    obtain ⟨⟨p1, p0⟩, _⟩ := lead_PwL hg
    have la : lead a = c := by rw [e2, lead_pSc hc (can_PwL l), p1]; grind
    have qc : qs c ≤ 16 := by rw [← la]; exact hp _
    have dv : ∀ p, Mon p → pDvd p (PwL l) → PB p 6 := fun p hm ⟨q, hq, h⟩ => (dvd_sz HB_ok ha a0 ht hl hm.can hm.one ⟨pSc c q, can_pSc _ _, fun x => by rw [e x, h x, ev_pSc]; grind⟩).pb
    have mon : ∀ l' : Fac, Good l' → Mon (PiL l') := fun l' h => by
      obtain ⟨g1, g2, _⟩ := lead_PiL h
      exact ⟨can_PiL _, g2, g1⟩
    have hpi : ∀ f : List Rat × Nat → Bool, PB (PiL (l.filter f)) 6 := fun f => dv _ (mon _ hg.filter) ⟨pMul (GL l) (PiL (l.filter fun y => !f y)), can_pMul _ _, fun x => by
      rw [GL_Pi hg x, filt_Pi f l x, ev_pMul]; grind⟩
    have hgl : PB (GL l) 6 := by
      obtain ⟨g1, g0⟩ := lead_GL hg
      exact dv _ ⟨can_GL l, g0, g1⟩ ⟨PiL l, can_PiL l, fun x => by rw [GL_Pi hg x]; grind⟩
    have h1 := sf_ok2 (K := 10) hsf ha (by omega) hp hc hg e (by omega) (fun n i => by
      unfold yB
      rw [cf_pSc]
      have h1 := qs_mul c (cf (PiL (l.filter fun y => decide (n ≤ y.2))) i)
      have h2 := hpi (fun y => decide (n ≤ y.2)) i
      omega) (fun n => hpi _) hgl
    exact ⟨_, yun ha h2 hc hg e (by omega), h1, parts_all ha h2 hc hg e (by omega), fun p hm hd _ => dvd_sz HB_ok ha a0 ht hl hm.can hm.one hd⟩
  · exact ⟨[], by unfold pSqf; rw [if_pos (by omega)], ⟨by decide, by omega, fun h => absurd h h2⟩, parts_nil (by decide) (by omega), fun _ _ _ h => absurd h h2⟩
theorem SqO.two {a : List Rat} {fs : Fac} (h : SqO a fs) {i : Nat} (hi : i < fs.length) : 2 ≤ a.length := by
  by_cases h2 : 2 ≤ a.length
  · exact h2
  · have := h.pt.nil (by omega)
    rw [this] at hi
    exact absurd hi (Nat.not_lt_zero _)
theorem SqO.psz {a : List Rat} {fs : Fac} (h : SqO a fs) {i : Nat} (hi : i < fs.length) : Sz (fcP fs i) 9 6 := h.fac _ (h.pt.mon i hi) (h.pt.dvp i hi) (h.two hi)
theorem SqO.msz {a : List Rat} {fs : Fac} (h : SqO a fs) {i k : Nat} (hi : i < fs.length) (hk : k ≤ fcN fs i) : Sz (pmS (prE fs i) (fcP fs i) k) 9 6 :=
  h.fac _ ((Mon.prE h.pt.mon i (by omega)).pmS (h.pt.mon i hi) k) (h.pt.dvd i k hi hk) (h.two hi)
end Go.Proofs.YthhpmapbhdebeaaGreat


/- Contracts: the product of a decomposition. -/
namespace Go.Proofs.YthhpmapbhdebeaaGreat
set_option linter.unusedSimpArgs false
set_option linter.unusedVariables false
open Go.RowKit

theorem fzs_back : ∀ m : List (List Rat × Int), (m.all fun p => decide (0 ≤ p.2)) = true → V.fzs m = V.facs (m.map fun p => (p.1, p.2.toNat))
  | [], _ => rfl
  | x :: m, h => by
    rw [List.all_cons, Bool.and_eq_true] at h
    have h1 : 0 ≤ x.2 := of_decide_eq_true h.1
    have h2 := fzs_back m h.2
    show .agg [.lst (V.rats x.1), .raw (.int .i64 x.2)] :: V.fzs m = .agg [.lst (V.rats x.1), .raw (.int .i64 ((x.2.toNat : Nat) : Int))] :: V.facs (m.map fun p => (p.1, p.2.toNat))
    rw [h2, Int.toNat_of_nonneg h1]
/-- A decomposition. -/
def pFcs : Pat (List (List Rat × Nat)) where
  p
    | .lst l => (unfac l).bind fun m => if (m.all fun p => decide (0 ≤ p.2)) = true then some (True, m.map fun p => (p.1, p.2.toNat)) else none
    | _ => none
  val l := .lst (V.facs l)
  ok x c a h hc := by
    split at h
    · rename_i l
      rcases hm : unfac l with _ | m <;> rw [hm] at h
      · cases h
      · have h : (if (m.all fun p => decide (0 ≤ p.2)) = true then some (True, m.map fun p => (p.1, p.2.toNat)) else none) = some (c, a) := h
        split at h
        · rename_i hall
          injection h with h; injection h with h1 h2; subst h2
          rw [unfac_ok l m hm, fzs_back m hall]; exact .refl _
        · cases h
    · cases h
@[go_sem ↓, go_sem] theorem ev_pFcs {l : List (List Rat × Nat)} : pFcs.p (.lst (V.facs l)) = some (True, l) := by
  show ((unfac (V.facs l)).bind fun m => if (m.all fun p => decide (0 ≤ p.2)) = true then some (True, m.map fun p => (p.1, p.2.toNat)) else none) = _
  rw [unfac_facs]
  have h1 : ((facZ l).all fun p => decide (0 ≤ p.2)) = true := by
    rw [List.all_eq_true]
    intro y hy
    obtain ⟨z, _, rfl⟩ := List.mem_map.1 hy
    exact decide_eq_true (by show (0 : Int) ≤ ((z.2 : Nat) : Int); omega)
  show (if ((facZ l).all fun p => decide (0 ≤ p.2)) = true then _ else _) = _
  rw [if_pos h1]
  have h2 : (facZ l).map (fun p => (p.1, p.2.toNat)) = l := by
    unfold facZ
    rw [List.map_map]
    conv => rhs; rw [← List.map_id l]
    exact List.map_congr_left fun a _ => rfl
  rw [h2]
@[go_sem ↓, go_sem] theorem ev_pFcs_mk {l : List (List Rat × Nat)} : pFcs.val l = .lst (V.facs l) := rfl
@[go_sem ↓, go_sem] theorem ev_facs_get {l : List (List Rat × Nat)} {i : Nat} {k : V → Prop} : optC (V.facs l)[i]? k = (i < l.length ∧ k (.agg [.lst (V.rats (fcP l i)), .raw (.int .i64 (fcN l i : Nat))])) := by
  unfold V.facs fcP fcN
  rw [List.getElem?_map, List.getD_eq_getElem?_getD]
  by_cases h : i < l.length
  · simp [List.getElem?_eq_getElem h, optC, h]
  · simp [List.getElem?_eq_none (Nat.le_of_not_lt h), optC, h]
/-- The condition of one product. -/
def MlOk (a b : List Rat) : Prop := (a.length + b.length ≤ 1000000 ∧ PB a 5000000000000 ∧ PB b 5000000000000) ∧ ∃ j k, (PB a j ∧ PB b k) ∧ a.length * (j + k + 1) ≤ 4999999999999
def PdOk (fs : Fac) : Prop := fs.length ≤ 1000000 ∧ ∀ i, i < fs.length → fcN fs i ≤ 64 ∧ ∀ k, k < fcN fs i → MlOk (pmS (prE fs i) (fcP fs i) k) (fcP fs i)
def kRProd : Con := con1 pFcs fun fs => (PdOk fs, .lst (V.rats (prE fs fs.length)))
attribute [go_sem ↓, go_sem] kRProd
set_option maxRecDepth 4000 in
theorem rProd_C : Ctr Tryz.prog 19 kRProd := Ctr.c1 (by kernel_rfl) fun fs h => by
  obtain ⟨hl, hfs⟩ := h
  show PCall _ _ _ (.lst (V.rats (prE fs fs.length)))
  have T := (tabs mixed (tbl_cons rOne_C (tbl_cons rPMul_C tbl_nil)))
  refine PCall.of_vc T Tryz.func19 rfl Tryz.ntmps19 Tryz.results19 (by simp) ?_
  simp only [go_sem]
  refine AWp.frzS 3 ?_
  simp only [go_sem]
  refine AWp.loops (X := { i : Nat // i ≤ fs.length }) (fun i => mkSt [(0, .lst (V.facs fs)), (2, .raw (.slice none 0 0)), (3, .lst (V.rats (prE fs i.1))), (4, .raw (.int .i64 (i.1 : Nat)))] [] 0 35) (fun i => fs.length - i.1) ⟨0, Nat.zero_le _⟩ (Wk.of [] (by decide) ?_) ?_
  · have e0 : V.rats (prE fs 0) = [.Q 1] := rfl
    simp only [go_sem, e0, Int.natCast_zero]
  rintro ⟨i, hi⟩
  refine vc_at T ?_
  by_cases hin : i < fs.length
  · obtain ⟨hn, hm⟩ := hfs i hin
    have c1 : (i : Int) < (fs.length : Int) := by omega
    have c2 : (i : Int) + 1 = ((i + 1 : Nat) : Int) := by omega
    simp only [go_sem, c1]
    refine AWp.loops (X := { k : Nat // k ≤ fcN fs i }) (fun k => mkSt [(0, .lst (V.facs fs)), (2, .raw (.slice none 0 0)), (3, .lst (V.rats (pmS (prE fs i) (fcP fs i) k.1))), (4, .raw (.int .i64 (i : Nat))), (5, .raw (.int .i64 (k.1 : Nat)))] [] 0 35) (fun k => fcN fs i - k.1) ⟨0, Nat.zero_le _⟩ (Wk.of [] (by decide) ?_) ?_
    · have e0 : pmS (prE fs i) (fcP fs i) 0 = prE fs i := rfl
      simp only [go_sem, e0, Int.natCast_zero]
    rintro ⟨k, hk⟩
    refine vc_at T ?_
    by_cases hkn : k < fcN fs i
    · have d1 : (k : Int) < (fcN fs i : Int) := by omega
      have d2 : (k : Int) < 64 := by omega
      have d3 : (k : Int) + 1 = ((k + 1 : Nat) : Int) := by omega
      obtain ⟨m1, m2⟩ := hm k hkn
      simp only [go_sem, d1, d2, d3, hin, m1, m2]
      refine ⟨⟨by omega, by omega⟩, ⟨by omega, by omega⟩, ⟨by omega, by omega⟩, ⟨k + 1, hkn⟩, Wk.of [] (by decide) ?_, by simp only; omega⟩
      have e0 : pmS (prE fs i) (fcP fs i) (k + 1) = pMul (pmS (prE fs i) (fcP fs i) k) (fcP fs i) := rfl
      simp only [go_sem, e0]
    · obtain rfl : k = fcN fs i := by omega
      have d1 : ¬ (fcN fs i : Int) < (fcN fs i : Int) := by omega
      simp only [go_sem, d1, c2, hin]
      refine ⟨⟨by omega, by omega⟩, ⟨by omega, by omega⟩, ⟨i + 1, hin⟩, Wk.of [] (by decide) ?_, by simp only; omega⟩
      have e0 : prE fs (i + 1) = pmS (prE fs i) (fcP fs i) (fcN fs i) := rfl
      simp only [go_sem, e0]
  · obtain rfl : i = fs.length := by omega
    have c1 : ¬ (fs.length : Int) < (fs.length : Int) := by omega
    simp only [go_sem, c1]
end Go.Proofs.YthhpmapbhdebeaaGreat


/- Contracts: products of linear factors. -/
namespace Go.Proofs.YthhpmapbhdebeaaGreat
set_option linter.unusedSimpArgs false
set_option linter.unusedVariables false
open Go.RowKit

theorem lt_nine (r : Int) : Mon [((-r : Int) : Rat), 1] := ⟨by rw [Can_cons]; simp [Can_cons], by simp, rfl⟩
/-- Multiplied by x - r, as long as there are fewer than nine coefficients. -/
def lnS (r : Int) (o : List Rat) : Nat → List Rat
  | 0 => o
  | k + 1 => if (lnS r o k).length < 9 then pMul (lnS r o k) [((-r : Int) : Rat), 1] else lnS r o k
theorem lnS_stop (r : Int) (o : List Rat) {k : Nat} (h : 9 ≤ (lnS r o k).length) : ∀ j, lnS r o (k + j) = lnS r o k
  | 0 => rfl
  | j + 1 => by
    rw [← Nat.add_assoc, lnS, lnS_stop r o h j, if_neg (by omega)]
def lnA (c : Rat) (R : List Int) (N : List Nat) : Nat → List Rat
  | 0 => [c]
  | i + 1 => lnS (R.getD i 0) (lnA c R N i) (at0 N i % 4)
structure LnI (o : List Rat) : Prop where
  ex : ∃ (c : Rat) (B : List Rat), (c ≠ 0 ∧ qs c ≤ 1) ∧ o = pSc c B ∧ Mon B ∧ IB (129 ^ (B.length - 1)) B
  len : o.length ≤ 9
theorem LnI.one {c : Rat} (h0 : c ≠ 0) (h : qs c ≤ 1) : LnI [c] := ⟨⟨c, [1], ⟨h0, h⟩, by
  refine ev_inj (by rw [Can_cons]; simpa using h0) (can_pSc _ _) fun x => ?_
  rw [ev_pSc]; simp only [ev]; grind, Mon.unit, fun i => by
    cases i with
    | zero => exact ⟨⟨1, rfl⟩, by rw [cf_zero]; unfold Bd; decide⟩
    | succ i => exact ⟨⟨0, rfl⟩, by rw [cf_succ, cf_nil]; unfold Bd; decide⟩⟩, by simp⟩
theorem LnI.mul {o : List Rat} (h : LnI o) (hl : o.length < 9) {r : Int} (hr : B8 r) : LnI (pMul o [((-r : Int) : Rat), 1]) := by
  obtain ⟨⟨c, B, ⟨c0, c1⟩, e, hB, hI⟩, _⟩ := h
  have lo : o.length = B.length := by rw [e, len_pSc' c0 hB.can]
  have hm := hB.mul (lt_nine r)
  have lm := len_pMul hB.can (lt_nine r).can hB.ne (lt_nine r).ne
  have lB := List.length_pos_iff.2 hB.ne
  have l2 : ([((-r : Int) : Rat), 1] : List Rat).length = 2 := rfl
  rw [l2] at lm
  have e2 : pMul o [((-r : Int) : Rat), 1] = pSc c (pMul B [((-r : Int) : Rat), 1]) := ev_inj (can_pMul _ _) (can_pSc _ _) fun x => by
    rw [ev_pMul, e, ev_pSc, ev_pSc, ev_pMul]; grind
  refine ⟨⟨c, _, ⟨c0, c1⟩, e2, hm, fun i => ?_⟩, ?_⟩
  · rw [lm]
    obtain ⟨h1, h2⟩ := hr
    have hrI : Bd 128 ((-r : Int) : Rat) := Bd_int.2 (by omega)
    have e3 : 129 ^ (B.length + 2 - 1 - 1) = 128 * 129 ^ (B.length - 1) + 129 ^ (B.length - 1) := by
      rw [show B.length + 2 - 1 - 1 = B.length - 1 + 1 by omega, Nat.pow_succ]; omega
    unfold pMul
    rw [cf_tr, cf_mulL_comm, e3]
    cases i with
    | zero =>
      rw [cf_mulL_z]
      exact ⟨(IsI.int _).mul (hI 0).1, (Bd.mulI (IsI.int _) (hI 0).1 hrI (hI 0).2).mono (by omega)⟩
    | succ i =>
      have e4 : cf (mulL [1] B) i = cf B i := cf_of_ev (fun x => by rw [ev_mulL]; simp only [ev]; grind) i
      rw [cf_mulL_s, e4]
      exact ⟨((IsI.int _).mul (hI (i + 1)).1).add (hI i).1, (Bd.mulI (IsI.int _) (hI (i + 1)).1 hrI (hI (i + 1)).2).add (hI i).2⟩
  · rw [e2, len_pSc' c0 hm.can, lm]
    omega
theorem LnI.step {o : List Rat} {r : Int} (hr : B8 r) (h : LnI o) : ∀ k, LnI (lnS r o k)
  | 0 => h
  | k + 1 => by
    rw [lnS]
    split
    · exact (LnI.step hr h k).mul ‹_› hr
    · exact LnI.step hr h k
theorem LnI.all {c : Rat} (h0 : c ≠ 0) (h : qs c ≤ 1) {R : List Int} (hR : ∀ z ∈ R, B8 z) (N : List Nat) : ∀ i, LnI (lnA c R N i)
  | 0 => LnI.one h0 h
  | i + 1 => (LnI.all h0 h hR N i).step (B8.get hR i) _
theorem LnI.sz {o : List Rat} (h : LnI o) : Sz o 9 3 ∧ Ht (129 ^ 8) o ∧ o ≠ [] := by
  obtain ⟨⟨c, B, ⟨c0, c1⟩, e, hB, hI⟩, hl⟩ := h
  have lo : o.length = B.length := by rw [e, len_pSc' c0 hB.can]
  have hp : 129 ^ (B.length - 1) ≤ 129 ^ 8 := Nat.pow_le_pow_right (by decide) (by omega)
  refine ⟨⟨hl, fun i => ?_, by rw [e]; exact can_pSc _ _⟩, ⟨1 / c, fun h => ?_, fun i => ?_⟩, fun h => hB.ne (List.eq_nil_of_length_eq_zero (by rw [← lo, h]; rfl))⟩
  · rw [e, cf_pSc]
    obtain ⟨⟨z, hz⟩, hb⟩ := hI i
    rw [hz] at hb ⊢
    have hb := Bd_int.1 hb
    have e1 : (129 : Nat) ^ 8 < 4294967296 ^ 2 := by decide
    have h1 : qs (z : Rat) ≤ 2 := Nat.le_trans (qs_int z) (Nat.max_le.2 ⟨dl_le.2 (by omega), by decide⟩)
    have := qs_mul c (z : Rat)
    omega
  · have h2 : 1 / c * c = 1 := by rw [Rat.div_def, Rat.one_mul]; exact Rat.inv_mul_cancel _ c0
    rw [h, Rat.zero_mul] at h2
    exact absurd h2 (by decide)
  · have h2 : 1 / c * c = 1 := by rw [Rat.div_def, Rat.one_mul]; exact Rat.inv_mul_cancel _ c0
    rw [cf_pSc, e, cf_pSc, ← Rat.mul_assoc, h2, Rat.one_mul]
    exact ⟨(hI i).1, (hI i).2.mono hp⟩
theorem LnI.ml {o : List Rat} (h : LnI o) {r : Int} (hr : B8 r) : MlOk o [((-r : Int) : Rat), 1] := by
  obtain ⟨hs, _, _⟩ := h.sz
  obtain ⟨h1, h2⟩ := hr
  have q : qs ((-r : Int) : Rat) ≤ 1 := Nat.le_trans (qs_int _) (Nat.max_le.2 ⟨dl_le.2 (by omega), Nat.le_refl _⟩)
  have hp : PB [((-r : Int) : Rat), 1] 1 := PB_cons q (PB_cons qs_1 (PB_nil (Nat.le_refl _)))
  have l2 : ([((-r : Int) : Rat), 1] : List Rat).length = 2 := rfl
  have hl := hs.len
  exact ⟨⟨by omega, hs.pb.mono (by decide), hp.mono (by decide)⟩, 3, 1, ⟨hs.pb, hp⟩, by omega⟩
/-- The description of a product of linear factors. -/
structure Rts where
  R : List Int
  N : List Nat
  C : Int × Int
def Rts.v (y : Rts) : V := .agg [.lst (V.i8s y.R), .lst (V.bytes y.N), .agg [.raw (.int .i8 y.C.1), .raw (.int .i8 y.C.2)]]
structure Rts.Ok (y : Rts) : Prop where
  r : ∀ z ∈ y.R, B8 z
  n : ∀ x ∈ y.N, x < 256
  c1 : B8 y.C.1
  c2 : B8 y.C.2
  lr : y.R.length ≤ 9223372036854775807
  ln : y.N.length ≤ 9223372036854775807
def or1 (z : Int) : Int := bits .or .i64 z 1
theorem or1_ok {z : Int} (h : B8 z) : B8 (or1 z) ∧ or1 z ≠ 0 := by
  obtain ⟨h1, h2⟩ := h
  have key : ∀ n : Fin 256, (-128 ≤ or1 ((n.1 : Int) - 128) ∧ or1 ((n.1 : Int) - 128) ≤ 127) ∧ or1 ((n.1 : Int) - 128) ≠ 0 := by decide +kernel
  have := key ⟨(z + 128).toNat, by omega⟩
  rw [show (((⟨(z + 128).toNat, by omega⟩ : Fin 256).1 : Nat) : Int) - 128 = z by simp; omega] at this
  exact this
def Rts.c (y : Rts) : Rat := mdQ (or1 y.C.1) y.C.2
def Rts.p (y : Rts) : List Rat := lnA y.c y.R y.N (min (min y.R.length y.N.length) 3)
theorem Rts.Ok.c0 {y : Rts} (h : y.Ok) : y.c ≠ 0 ∧ qs y.c ≤ 1 := by
  obtain ⟨h1, h2⟩ := or1_ok h.c1
  refine ⟨fun e => ?_, qs_mdQ h1 h.c2⟩
  unfold Rts.c mdQ at e
  obtain ⟨d, hd⟩ : ∃ d : Int, (if y.C.2 = 0 then 1 else y.C.2) = d := ⟨_, rfl⟩
  have d0 : d ≠ 0 := by rw [← hd]; split <;> omega
  rw [hd, Rat.divInt_eq_div] at e
  have d1 : (d : Rat) ≠ 0 := fun h => d0 (intCast_inj h)
  have e1 := congrArg (fun t => t * (d : Rat)) e
  simp only [Rat.div_def, Rat.mul_assoc, Rat.inv_mul_cancel _ d1, Rat.mul_one, Rat.zero_mul] at e1
  exact h2 (intCast_inj e1)
theorem Rts.Ok.p {y : Rts} (h : y.Ok) : LnI y.p := LnI.all h.c0.1 h.c0.2 h.r y.N _
def pRts : Pat Rts where
  p
    | .agg [.lst r, .lst n, .agg [.raw (.int .i8 x), .raw (.int .i8 y)]] => (uni8 r).bind fun r => (unB n).map fun m => (n = V.bytes m, ⟨r, m, (x, y)⟩)
    | _ => none
  val := Rts.v
  ok x c a h hc := by
    split at h
    · rename_i r n x y
      rcases hr : uni8 r with _ | r' <;> simp only [hr, bind_none, bind_some] at h
      · cases h
      · rcases hn : unB n with _ | n' <;> rw [hn] at h
        · cases h
        · injection h with h; injection h with h1 h2; subst h2
          rw [← h1] at hc
          rw [uni8_ok _ _ hr, hc]; exact .refl _
    · cases h
@[go_sem ↓, go_sem] theorem ev_pRts {y : Rts} : pRts.p (.agg [.lst (V.i8s y.R), .lst (V.bytes y.N), .agg [.raw (.int .i8 y.C.1), .raw (.int .i8 y.C.2)]]) = some (True, y) := by
  show ((uni8 (V.i8s y.R)).bind fun r => (unB (V.bytes y.N)).map fun m => (V.bytes y.N = V.bytes m, (⟨r, m, (y.C.1, y.C.2)⟩ : Rts))) = _
  rw [uni8_i8s, unB_bytes]
  show some (V.bytes y.N = V.bytes y.N, (⟨y.R, y.N, (y.C.1, y.C.2)⟩ : Rts)) = _
  rw [eq_true rfl]
@[go_sem ↓, go_sem] theorem ev_pRts_mk {z : Rts} : pRts.val z = .agg [.lst (V.i8s z.R), .lst (V.bytes z.N), .agg [.raw (.int .i8 z.C.1), .raw (.int .i8 z.C.2)]] := rfl
def kLinear : Con := con1 pRts fun y => (y.Ok, .lst (V.rats y.p))
attribute [go_sem ↓, go_sem] kLinear
set_option maxRecDepth 8000 in
theorem linear_C : Ctr Tryz.prog 13 kLinear := Ctr.c1 (by kernel_rfl) fun y h => by
  show PCall _ _ _ (.lst (V.rats y.p))
  have T := (tabs mixed (tbl_cons r2Made_C (tbl_cons r2Whole_C (tbl_cons rPMul_C tbl_nil))))
  refine PCall.of_vc T Tryz.func13 rfl Tryz.ntmps13 Tryz.results13 (by simp) ?_
  obtain ⟨⟨a1, a2⟩, a3⟩ := or1_ok h.c1
  have cc := h.c2
  obtain ⟨a4, a5⟩ := cc
  have cc := h.c1
  obtain ⟨a6, a7⟩ := cc
  have f0 : IntKind.i64.wrap y.C.1 = y.C.1 := IntWalk.i64_in _ ⟨by omega, by omega⟩
  have f1 : IntKind.i64.wrap y.C.2 = y.C.2 := IntWalk.i64_in _ ⟨by omega, by omega⟩
  have f2 : bits .or .i64 y.C.1 1 = or1 y.C.1 := rfl
  have f3 : mdQ (or1 y.C.1) y.C.2 = y.c := rfl
  have f4 : -9223372036854775808 ≤ or1 y.C.1 ∧ or1 y.C.1 ≤ 9223372036854775807 := ⟨by omega, by omega⟩
  have f5 : -9223372036854775808 ≤ y.C.2 ∧ y.C.2 ≤ 9223372036854775807 := ⟨by omega, by omega⟩
  simp only [go_sem, f0, f1, f2, f3, f4, f5]
  refine AWp.frzS 3 ?_
  simp only [go_sem]
  obtain ⟨m, em⟩ : ∃ m, min (min y.R.length y.N.length) 3 = m := ⟨_, rfl⟩
  have ep : y.p = lnA y.c y.R y.N m := by rw [← em]; rfl
  have hlr := h.lr
  have hln := h.ln
  rw [ep]
  refine AWp.loops (X := { i : Nat // i ≤ m }) (fun i => mkSt [(1, .ptr 0 4 0 0), (2, .raw (.slice none 0 0)), (3, .lst (V.rats (lnA y.c y.R y.N i.1))), (4, .raw (.int .i64 (i.1 : Nat)))] [(0, false, ⟨30, 4, [.agg [.lst (V.i8s y.R), .lst (V.bytes y.N), .agg [.raw (.int .i8 y.C.1), .raw (.int .i8 y.C.2)]]]⟩)] 1 64) (fun i => m - i.1) ⟨0, Nat.zero_le _⟩ (Wk.of [0] (by decide) ?_) ?_
  · have e0 : V.rats (lnA y.c y.R y.N 0) = [.Q y.c] := rfl
    simp only [go_sem, e0, Int.natCast_zero]
    exact renV_pure rfl
  rintro ⟨i, hi⟩
  refine vc_at T ?_
  by_cases hin : i < m
  · have c1 : (i : Int) < (y.R.length : Int) := by omega
    have c2 : (i : Int) < (y.N.length : Int) := by omega
    have c3 : (i : Int) < 3 := by omega
    have c4 : (i : Int) + 1 = ((i + 1 : Nat) : Int) := by omega
    have c5 : 0 ≤ (i : Int) := by omega
    have c6 : i < y.R.length := by omega
    have c7 : i < y.N.length := by omega
    simp only [go_sem, i8s_len, bytes_len, c1, c2, c3]
    obtain ⟨r, er⟩ : ∃ r, y.R.getD i 0 = r := ⟨_, rfl⟩
    have hr : B8 r := by rw [← er]; exact B8.get h.r i
    have hr1 := hr.1
    have hr2 := hr.2
    obtain ⟨o, eo⟩ : ∃ o, lnA y.c y.R y.N i = o := ⟨_, rfl⟩
    have ho : LnI o := by rw [← eo]; exact LnI.all h.c0.1 h.c0.2 h.r y.N i
    obtain ⟨n, en⟩ : ∃ n, at0 y.N i % 4 = n := ⟨_, rfl⟩
    have hn4 : n < 4 := by omega
    have en' : ((at0 y.N i : Nat) : Int) % 4 = (n : Int) := by omega
    rw [eo]
    refine AWp.loops (X := { k : Nat // k ≤ n }) (fun k => mkSt [(1, .ptr 0 4 0 0), (2, .raw (.slice none 0 0)), (3, .lst (V.rats (lnS r o k.1))), (4, .raw (.int .i64 (i : Nat))), (5, .raw (.int .i64 (k.1 : Nat)))] [(0, false, ⟨30, 4, [.agg [.lst (V.i8s y.R), .lst (V.bytes y.N), .agg [.raw (.int .i8 y.C.1), .raw (.int .i8 y.C.2)]]]⟩)] 1 64) (fun k => n - k.1) ⟨0, Nat.zero_le _⟩ (Wk.of [0] (by decide) ?_) ?_
    · have e0 : lnS r o 0 = o := rfl
      simp only [go_sem, e0, Int.natCast_zero]
      exact renV_pure rfl
    rintro ⟨k, hk⟩
    refine vc_at T ?_
    have hq : LnI (lnS r o k) := ho.step hr k
    have w0 : IntKind.i64.wrap (n : Int) = (n : Int) := IntWalk.i64_in _ ⟨by omega, by omega⟩
    have w1 : IntKind.i64.wrap r = r := IntWalk.i64_in _ ⟨by have := hr.1; omega, by have := hr.2; omega⟩
    have w2 : -9223372036854775808 ≤ -r ∧ -r ≤ 9223372036854775807 := ⟨by have := hr.2; omega, by have := hr.1; omega⟩
    have nx : lnA y.c y.R y.N (i + 1) = lnS r o n := by rw [← er, ← eo, ← en]; rfl
    by_cases hkn : k < n
    · have d1 : (k : Int) < (n : Int) := by omega
      have d3 : (k : Int) + 1 = ((k + 1 : Nat) : Int) := by omega
      by_cases h9 : (lnS r o k).length < 9
      · have d2 : ((lnS r o k).length : Int) < 9 := by omega
        obtain ⟨⟨m0, m1, m3⟩, m2⟩ := hq.ml hr
        have m4 : (lnS r o k).length ≤ 999998 := by omega
        have rn : (r = -9223372036854775808) = False := eq_false (by have := hr.1; omega)
        have e0 : lnS r o (k + 1) = pMul (lnS r o k) [((-r : Int) : Rat), 1] := by rw [lnS, if_pos h9]
        have one : ((1 : Int) : Rat) = 1 := rfl
        simp only [go_sem, i8s_len, bytes_len, c5, c6, c7, d1, d2, d3, en', w0, w1, w2, er, one, rn, if_false, m1, m2, m3, m4]
        refine ⟨c2, by omega, c1, ⟨by omega, by omega⟩, ⟨by omega, by omega⟩, ⟨k + 1, hkn⟩, Wk.of [0] (by decide) ?_, by simp only; omega⟩
        simp only [go_sem, e0]
        exact renV_pure rfl
      · have d2 : ¬ ((lnS r o k).length : Int) < 9 := by omega
        have st : lnS r o n = lnS r o k := by
          have := lnS_stop r o (k := k) (by omega) (n - k)
          rwa [show k + (n - k) = n by omega] at this
        simp only [go_sem, i8s_len, bytes_len, c4, c5, c6, c7, d1, d2, en', w0]
        refine ⟨c2, by omega, ⟨by omega, by omega⟩, ⟨i + 1, hin⟩, Wk.of [0] (by decide) ?_, by simp only; omega⟩
        simp only [go_sem, nx, st]
        exact renV_pure rfl
    · obtain rfl : k = n := by omega
      have d1 : ¬ (k : Int) < (k : Int) := by omega
      simp only [go_sem, i8s_len, bytes_len, c4, c5, c6, c7, d1, en', w0]
      refine ⟨c2, by omega, ⟨by omega, by omega⟩, ⟨i + 1, hin⟩, Wk.of [0] (by decide) ?_, by simp only; omega⟩
      simp only [go_sem, nx]
      exact renV_pure rfl
  · obtain rfl : i = m := by omega
    by_cases g1 : i < y.R.length
    · have c1 : (i : Int) < (y.R.length : Int) := by omega
      by_cases g2 : i < y.N.length
      · have c2 : (i : Int) < (y.N.length : Int) := by omega
        have c3 : ¬ (i : Int) < 3 := by omega
        simp only [go_sem, i8s_len, bytes_len, c1, c2, c3]
      · have c2 : ¬ (i : Int) < (y.N.length : Int) := by omega
        simp only [go_sem, i8s_len, bytes_len, c1, c2]
    · have c1 : ¬ (i : Int) < (y.R.length : Int) := by omega
      simp only [go_sem, i8s_len, bytes_len, c1]
end Go.Proofs.YthhpmapbhdebeaaGreat

