/- Texts SZ2 LC1 LC2 LC3 LC5 LC6 in one. -/
import Derived.Test.YthhpmapbhdebeaaGreatR26
import Derived.Test.YthhpmapbhdebeaaGreatR20
import Derived.Test.YthhpmapbhdebeaaGreatR23
/- Sizes along Euclid's algorithm. No program in sight. -/
namespace Go.Proofs.YthhpmapbhdebeaaGreat
set_option linter.unusedSimpArgs false
set_option linter.unusedVariables false
open Go.RowKit

theorem cf_mulL_cons (x : Rat) (l b : List Rat) (i : Nat) : cf (mulL (x :: l) b) i = x * cf b i + (if i = 0 then 0 else cf (mulL l b) (i - 1)) := by
  show cf (addL (scL x b) (0 :: mulL l b)) i = _
  rw [cf_addL, cf_scL]
  cases i with
  | zero => rfl
  | succ i => rfl
theorem cf_mon_mul (c : Rat) (b : List Rat) : ∀ (k i : Nat), cf (mulL (mon c k) b) i = if k ≤ i then c * cf b (i - k) else 0
  | 0, i => by
    show cf (mulL [c] b) i = _
    rw [cf_mulL_cons, if_pos (Nat.zero_le _), Nat.sub_zero]
    have e : (if i = 0 then (0 : Rat) else cf (mulL [] b) (i - 1)) = 0 := by split <;> rfl
    rw [e, Rat.add_zero]
  | k + 1, i => by
    have e : mon c (k + 1) = 0 :: mon c k := by simp [mon, List.replicate_succ]
    rw [e, cf_mulL_cons, Rat.zero_mul, Rat.zero_add]
    cases i with
    | zero => rfl
    | succ i =>
      rw [if_neg (by omega), Nat.add_sub_cancel, cf_mon_mul c b k i]
      by_cases h : k ≤ i
      · rw [if_pos h, if_pos (by omega), show i + 1 - (k + 1) = i - k from by omega]
      · rw [if_neg h, if_neg (by omega)]
theorem dmF_PB {b : List Rat} {t : Nat} (hb : Can b) (h0 : b ≠ []) (hbt : PB b t) : ∀ (n : Nat) (q r : List Rat) (s Z K : Nat), Can r → PB r s → s + 2 * t + 1 ≤ Z → PB q K → (∀ i, i + b.length ≤ r.length → cf q i = 0) → 2 ^ (r.length + 1 - b.length) * Z ≤ K →
    PB (dmF n q r b).1 K ∧ PB (dmF n q r b).2 (K - (2 * t + 1))
  | 0, q, r, s, Z, K, hr, hs, hz, hq, _, hk => by
    have hZK : Z ≤ K := Nat.le_trans (Nat.le_mul_of_pos_left Z (Nat.two_pow_pos _)) hk
    exact ⟨hq, hs.mono (by omega)⟩
  | n + 1, q, r, s, Z, K, hr, hs, hz, hq, hqz, hk => by
    have hZK : Z ≤ K := Nat.le_trans (Nat.le_mul_of_pos_left Z (Nat.two_pow_pos _)) hk
    unfold dmF
    split
    · exact ⟨hq, hs.mono (by omega)⟩
    · rename_i h
      have hbl := List.length_pos_iff.2 h0
      have hst := dm_step hr hb h0 (by omega)
      obtain ⟨c, hc⟩ : ∃ c, lead r / lead b = c := ⟨_, rfl⟩
      obtain ⟨k, hkk⟩ : ∃ k, r.length - b.length = k := ⟨_, rfl⟩
      rw [hc, hkk] at hst ⊢
      have qc : qs c ≤ s + t := by rw [← hc]; exact Nat.le_trans (qs_div _ _) (Nat.add_le_add (hs _) (hbt _))
      have pr : PB (pSub r (pMul (mon c k) b)) (2 * s + 2 * t + 1) := fun i => by
        rw [cf_pSub]
        unfold pMul
        rw [cf_tr, cf_mon_mul]
        have h1 := qs_sub (cf r i) (if k ≤ i then c * cf b (i - k) else 0)
        have h2 : qs (if k ≤ i then c * cf b (i - k) else 0) ≤ s + 2 * t := by
          split
          · have := qs_mul c (cf b (i - k)); have := hbt (i - k); omega
          · have := qs_0; have := hs.pos; omega
        have := hs i
        omega
      refine dmF_PB hb h0 hbt n _ _ (2 * s + 2 * t + 1) (2 * Z) K (can_pSub _ _) pr (by omega) (fun i => ?_) (fun i hi => ?_) ?_
      · rw [cf_pAdd]
        by_cases e : i = k
        · subst e
          rw [mon_top, hqz i (by omega), Rat.zero_add]
          omega
        · rw [mon_low c k i e, Rat.add_zero]
          exact hq i
      · rw [cf_pAdd, mon_low c k i (by omega), hqz i (by omega), Rat.add_zero]
      · generalize (pSub r (pMul (mon c k) b)).length = m at hst
        have e : 2 ^ (m + 1 - b.length) * (2 * Z) = 2 ^ (m + 1 - b.length + 1) * Z := by rw [Nat.pow_succ, Nat.mul_assoc]
        rw [e]
        exact Nat.le_trans (Nat.mul_le_mul_right Z (Nat.pow_le_pow_right (by decide) (by omega))) hk
theorem div_PB {a b : List Rat} {s t S : Nat} (ha : Can a) (hb : Can b) (h0 : b ≠ []) (hs : PB a s) (ht : PB b t) (hS : s + 2 * t + 1 ≤ S) : PB (pDiv a b) (2 ^ (a.length - b.length + 1) * S) ∧ PB (pMod a b) (2 ^ (a.length - b.length + 1) * S) := by
  have hp : 1 ≤ 2 ^ (a.length - b.length + 1) * S := Nat.le_trans (show 1 ≤ S by omega) (Nat.le_mul_of_pos_left S (Nat.two_pow_pos _))
  have h := dmF_PB hb h0 ht a.length [] a s S _ ha hs hS (PB_nil hp) (fun i _ => rfl) (Nat.mul_le_mul_right S (Nat.pow_le_pow_right (by decide) (by omega)))
  exact ⟨h.1, h.2.mono (Nat.sub_le _ _)⟩
theorem mod_PB {a b : List Rat} {s t S : Nat} (ha : Can a) (hb : Can b) (h0 : b ≠ []) (hs : PB a s) (ht : PB b t) (hS : s + 2 * t + 1 ≤ S) : PB (pMod a b) (2 ^ (a.length - b.length + 1) * S - (2 * t + 1)) := by
  have hp : 1 ≤ 2 ^ (a.length - b.length + 1) * S := Nat.le_trans (show 1 ≤ S by omega) (Nat.le_mul_of_pos_left S (Nat.two_pow_pos _))
  exact (dmF_PB hb h0 ht a.length [] a s S _ ha hs hS (PB_nil hp) (fun i _ => rfl) (Nat.mul_le_mul_right S (Nat.pow_le_pow_right (by decide) (by omega)))).2
theorem two_nine : ∀ d : Nat, 2 ^ (d + 3) + 1 ≤ 9 ^ (d + 1)
  | 0 => by decide
  | d + 1 => by
    have h := two_nine d
    have e1 : 2 ^ (d + 1 + 3) = 2 ^ (d + 3) * 2 := Nat.pow_succ ..
    have e2 : 9 ^ (d + 1 + 1) = 9 ^ (d + 1) * 9 := Nat.pow_succ ..
    omega
theorem gc_sz {K : Nat} (hK : K ≤ 2500000000000) : ∀ (n : Nat) (a b : List Rat) (s t S : Nat), Can a → Can b → b.length < a.length → b.length < n → a.length ≤ 1000 → PB a s → PB b t → s + 2 * t + 1 ≤ S → (b ≠ [] → 9 ^ (a.length - 1) * S ≤ K) → s ≤ K → 2 ^ (a.length + 1) * (s + 3) ≤ 2500000000000 →
    GcOk n a b ∧ PB (pG a b) K
  | 0, a, b, _, _, _, _, _, _, hn, _, _, _, _, _, _, _ => by omega
  | n + 1, a, b, s, t, S, ca, cb, hab, hn, la, pa, pb, hS, hP, hsK, hA => by
    by_cases b0 : b = []
    · subst b0
      refine ⟨⟨⟨⟨ca, cb⟩, by simp only [List.length_nil]; omega, s, 1, ⟨pa, PB_nil (Nat.le_refl _)⟩, ?_⟩, ?_⟩, ?_⟩
      · rw [show a.length - ([] : List Rat).length + 1 = a.length + 1 from rfl, show s + 2 * 1 + 1 = s + 3 from by omega]
        exact hA
      · rw [if_pos rfl]
        exact ⟨s, pa, by omega⟩
      · rw [pG_nil]; exact pa.mono hsK
    · have hbl := List.length_pos_iff.2 b0
      have hP' := hP b0
      obtain ⟨⟨cq, cr⟩, hrl, _⟩ := dm_ok ca cb b0
      obtain ⟨pq, pr⟩ := div_PB ca cb b0 pa pb hS
      have p1 := pa.pos
      have p2 := pb.pos
      obtain ⟨d, hd⟩ : ∃ d, a.length = d + 2 := ⟨a.length - 2, by omega⟩
      obtain ⟨f, hf⟩ : ∃ f, a.length - b.length = f + 1 := ⟨a.length - b.length - 1, by omega⟩
      have t1 := two_nine d
      have t2 := two_nine f
      have e1 : 2 ^ a.length ≤ 9 ^ (a.length - 1) := by
        rw [hd, show d + 2 - 1 = d + 1 from by omega]
        have : 2 ^ (d + 3) = 2 ^ (d + 2) * 2 := Nat.pow_succ ..
        omega
      have m1 : 2 ^ a.length * S ≤ K := Nat.le_trans (Nat.mul_le_mul_right S e1) hP'
      have SK : S ≤ K := Nat.le_trans (Nat.le_mul_of_pos_left S (Nat.two_pow_pos _)) m1
      have dv : DvOk a b := ⟨⟨ca, cb⟩, by omega, s, t, ⟨pa, pb⟩, by
        refine Nat.le_trans (Nat.mul_le_mul (Nat.pow_le_pow_right (by decide) (show a.length - b.length + 1 ≤ a.length by omega)) hS) ?_
        omega⟩
      have key := gc_sz hK n b (pMod a b) t (2 ^ (a.length - b.length + 1) * S) (9 ^ (a.length - b.length) * S) cb cr hrl (by omega) (by omega) pb pr (by
          rw [hf]
          have h1 : 2 ^ (f + 3) * S + S ≤ 9 ^ (f + 1) * S := by
            have := Nat.mul_le_mul_right S t2
            rw [Nat.add_mul] at this; omega
          have h2 : 2 * (2 ^ (f + 1 + 1) * S) = 2 ^ (f + 3) * S := by
            rw [← Nat.mul_assoc, show f + 3 = f + 1 + 1 + 1 from rfl, Nat.pow_succ 2 (f + 1 + 1), Nat.mul_comm 2]
          omega) (fun _ => by
          rw [← Nat.mul_assoc, ← Nat.pow_add, show b.length - 1 + (a.length - b.length) = a.length - 1 from by omega]
          exact hP') (by omega) (by
          refine Nat.le_trans (Nat.mul_le_mul (Nat.pow_le_pow_right (by decide) (show b.length + 1 ≤ a.length by omega)) (show t + 3 ≤ S by omega)) ?_
          omega)
      exact ⟨⟨dv, by rw [if_neg b0]; exact key.1⟩, by rw [pG_step ca cb b0]; exact key.2⟩
theorem gc_start {N s : Nat} {a b : List Rat} (ha : Sz a N s) (hb : Sz b N s) (h1 : (1 ≤ N ∧ N ≤ 999) ∧ 5 * 9 ^ (N - 1) * (3 * s + 1) ≤ 2500000000000 ∧ 2 ^ (N + 1) * (s + 3) ≤ 2500000000000) : GcOk (b.length + 2) a b ∧ PB (pG a b) (5 * 9 ^ (N - 1) * (3 * s + 1)) := by
  obtain ⟨⟨n1, n2⟩, h1, h2⟩ := h1
  have s1 := ha.pb.pos
  have l1 := ha.len
  have l2 := hb.len
  obtain ⟨K, eK⟩ : ∃ K, 5 * 9 ^ (N - 1) * (3 * s + 1) = K := ⟨_, rfl⟩
  have hS : 3 * s + 1 ≤ K := by
    rw [← eK]
    exact Nat.le_mul_of_pos_left _ (Nat.mul_pos (by decide) (Nat.pow_pos (by decide)))
  rw [eK] at h1 ⊢
  have hA : ∀ m, m ≤ N → 2 ^ (m + 1) * (s + 3) ≤ 2500000000000 := fun m hm => Nat.le_trans (Nat.mul_le_mul_right _ (Nat.pow_le_pow_right (by decide) (by omega))) h2
  by_cases b0 : b = []
  · subst b0
    refine ⟨⟨⟨⟨ha.can, hb.can⟩, by simp only [List.length_nil]; omega, s, 1, ⟨ha.pb, PB_nil (Nat.le_refl _)⟩, ?_⟩, ?_⟩, ?_⟩
    · rw [show a.length - ([] : List Rat).length + 1 = a.length + 1 from rfl, show s + 2 * 1 + 1 = s + 3 from by omega]
      exact hA _ l1
    · rw [if_pos rfl]
      exact ⟨s, ha.pb, by omega⟩
    · rw [pG_nil]; exact ha.pb.mono (by omega)
  · have hbl := List.length_pos_iff.2 b0
    obtain ⟨⟨cq, cr⟩, hrl, _⟩ := dm_ok ha.can hb.can b0
    obtain ⟨pq, pr⟩ := div_PB (S := 3 * s + 1) ha.can hb.can b0 ha.pb hb.pb (by omega)
    have pw : ∀ m, m ≤ N - 1 → 5 * 9 ^ m * (3 * s + 1) ≤ K := fun m hm => by
      rw [← eK]
      exact Nat.mul_le_mul_right _ (Nat.mul_le_mul_left _ (Nat.pow_le_pow_right (by decide) hm))
    have f5 : 2 ^ (a.length - b.length + 2) + 1 ≤ 5 * 9 ^ (a.length - b.length) := by
      rcases hδ : a.length - b.length with _ | d
      · decide
      · have := two_nine d
        rw [show d + 1 + 2 = d + 3 from rfl]
        omega
    have dv : DvOk a b := ⟨⟨ha.can, hb.can⟩, by omega, s, s, ⟨ha.pb, hb.pb⟩, by
      have h3 := pw (a.length - b.length) (by omega)
      have h4 := Nat.mul_le_mul_right (3 * s + 1) f5
      have h5 : 2 ^ (a.length - b.length + 2) = 2 ^ (a.length - b.length + 1) * 2 := Nat.pow_succ ..
      have h6 : 2 ^ (a.length - b.length + 1) * (3 * s + 1) ≤ (2 ^ (a.length - b.length + 2) + 1) * (3 * s + 1) := Nat.mul_le_mul_right _ (by omega)
      rw [show s + 2 * s + 1 = 3 * s + 1 from by omega]
      omega⟩
    have key := gc_sz h1 (b.length + 1) b (pMod a b) s (2 ^ (a.length - b.length + 1) * (3 * s + 1)) (5 * 9 ^ (a.length - b.length) * (3 * s + 1)) hb.can cr hrl (by omega) (by omega) hb.pb pr (by
        have h4 := Nat.mul_le_mul_right (3 * s + 1) f5
        rw [Nat.add_mul] at h4
        have h5 : 2 * (2 ^ (a.length - b.length + 1) * (3 * s + 1)) = 2 ^ (a.length - b.length + 2) * (3 * s + 1) := by
          rw [← Nat.mul_assoc, Nat.pow_succ 2 (a.length - b.length + 1), Nat.mul_comm 2]
        omega) (fun _ => by
        have e : 9 ^ (b.length - 1) * (5 * 9 ^ (a.length - b.length) * (3 * s + 1)) = 5 * 9 ^ (b.length - 1 + (a.length - b.length)) * (3 * s + 1) := by
          rw [Nat.pow_add, ← Nat.mul_assoc, ← Nat.mul_assoc, Nat.mul_comm (9 ^ (b.length - 1)) 5, Nat.mul_assoc 5]
        rw [e]
        exact pw _ (by omega)) (by omega) (hA _ l2)
    exact ⟨⟨dv, by rw [if_neg b0]; exact key.1⟩, by rw [pG_step ha.can hb.can b0]; exact key.2⟩
end Go.Proofs.YthhpmapbhdebeaaGreat


/- The helpers of the laws of polynomials: sanity, made, number. -/
namespace Go.Proofs.YthhpmapbhdebeaaGreat
set_option linter.unusedSimpArgs false
set_option linter.unusedVariables false
open Go.RowKit

def kSqf (k : Nat) (l : List (List Rat × Nat)) : Con := con1 pR fun a => (pSqf k a = some l ∧ SfOk k a, .lst (V.facs l))
attribute [go_sem ↓, go_sem] kSqf
theorem sqf_C (k : Nat) (l : List (List Rat × Nat)) : Ctr Tryz.prog 14 (kSqf k l) := Ctr.c1 (by kernel_rfl) fun a h => sqf_V k a l h.2 h.1
theorem b8 (l : List Int) (h : (l.all fun z => decide (-128 ≤ z) && decide (z ≤ 127)) = true) : ∀ z ∈ l, B8 z := fun z hz => by
  have := List.all_eq_true.1 h z hz
  simp only [Bool.and_eq_true, decide_eq_true_eq] at this
  exact this
theorem app_cons {α : Type} (a : α) (l m : List α) : List.append (a :: l) m = a :: List.append l m := rfl
theorem app_nil {α : Type} (m : List α) : List.append [] m = m := rfl
set_option maxRecDepth 20000 in
set_option maxHeartbeats 2000000 in
theorem sanity3_V : PCall Tryz.prog 10 [] (.raw (.bool true)) := by
  obtain ⟨p1, h1⟩ : ∃ p : List Rat, p = [-1, 0, 0, 1] := ⟨_, rfl⟩
  obtain ⟨p2, h2⟩ : ∃ p : List Rat, p = [-1, 1] := ⟨_, rfl⟩
  obtain ⟨p3, h3⟩ : ∃ p : List Rat, p = [0, 0, 2, 2] := ⟨_, rfl⟩
  obtain ⟨p4, h4⟩ : ∃ p : List Rat, p = [1, 1] := ⟨_, rfl⟩
  obtain ⟨p5, h5⟩ : ∃ p : List Rat, p = [0, 1] := ⟨_, rfl⟩
  obtain ⟨p6, h6⟩ : ∃ p : List Rat, p = [2] := ⟨_, rfl⟩
  obtain ⟨p7, h7⟩ : ∃ p : List Rat, p = [1, 1, 1] := ⟨_, rfl⟩
  obtain ⟨p8, h8⟩ : ∃ p : List Rat, p = [-2, 0, 1] := ⟨_, rfl⟩
  obtain ⟨p9, h9⟩ : ∃ p : List Rat, p = [1] := ⟨_, rfl⟩
  obtain ⟨p10, h10⟩ : ∃ p : List Rat, p = [0, 0, 3] := ⟨_, rfl⟩
  have z1 : zsL [-1, 0, 0, 1] 4 = p1 := by rw [h1]; decide +kernel
  have z2 : zsL [-1, 1] 2 = p2 := by rw [h2]; decide +kernel
  have z3 : zsL [0, 0, 2, 2] 4 = p3 := by rw [h3]; decide +kernel
  have z4 : zsL [1, 1] 2 = p4 := by rw [h4]; decide +kernel
  have z5 : zsL [0, 1] 2 = p5 := by rw [h5]; decide +kernel
  have z6 : zsL [2] 1 = p6 := by rw [h6]; decide +kernel
  have z7 : zsL [1, 1, 1] 3 = p7 := by rw [h7]; decide +kernel
  have z8 : zsL [-2, 0, 1] 3 = p8 := by rw [h8]; decide +kernel
  have z9 : zsL [1] 1 = p9 := by rw [h9]; decide +kernel
  have z10 : zsL [0, 0, 3] 3 = p10 := by rw [h10]; decide +kernel
  have w1 : (∀ z ∈ ([-1, 0, 0, 1] : List Int), B8 z) = True := eq_true (b8 _ (by decide))
  have w2 : (∀ z ∈ ([-1, 1] : List Int), B8 z) = True := eq_true (b8 _ (by decide))
  have w3 : (∀ z ∈ ([0, 0, 2, 2] : List Int), B8 z) = True := eq_true (b8 _ (by decide))
  have w4 : (∀ z ∈ ([1, 1] : List Int), B8 z) = True := eq_true (b8 _ (by decide))
  have w5 : (∀ z ∈ ([0, 1] : List Int), B8 z) = True := eq_true (b8 _ (by decide))
  have w6 : (∀ z ∈ ([2] : List Int), B8 z) = True := eq_true (b8 _ (by decide))
  have w7 : (∀ z ∈ ([1, 1, 1] : List Int), B8 z) = True := eq_true (b8 _ (by decide))
  have w8 : (∀ z ∈ ([-2, 0, 1] : List Int), B8 z) = True := eq_true (b8 _ (by decide))
  have w9 : (∀ z ∈ ([1] : List Int), B8 z) = True := eq_true (b8 _ (by decide))
  have w10 : (∀ z ∈ ([0, 0, 3] : List Int), B8 z) = True := eq_true (b8 _ (by decide))
  have y1 : mdQ 1 2 = 1 / 2 := by decide +kernel
  have y2 : mdQ (-7) 8 = -7 / 8 := by decide +kernel
  have y3 : mdQ (-1) 2 = -1 / 2 := by decide +kernel
  have y4 : ((-1 : Int) : Rat) = -1 := by decide +kernel
  have d1 : dmP p1 p2 = .tup [.lst (V.rats p7), .lst (V.rats []), .raw (.int .i64 0)] := by
    rw [h1, h2, h7]
    unfold dmP
    rw [if_neg (by decide), show pDiv [-1, 0, 0, 1] [-1, 1] = [1, 1, 1] from by decide +kernel, show pMod [-1, 0, 0, 1] [-1, 1] = [] from by decide +kernel]
  have d2 : dmP p1 [] = .tup [.lst (V.rats []), .lst (V.rats []), .raw (.int .i64 3)] := if_pos rfl
  have e1 : pExt p5 p6 = (p9, [], [mdQ 1 2]) := by rw [h5, h6, h9, y1]; decide +kernel
  have r1 : pRes p8 p2 = ((-1 : Int) : Rat) := by rw [h8, h2, y4]; decide +kernel
  have v1 : ev p1 (mdQ 1 2) = mdQ (-7) 8 := by rw [h1, y1, y2]; decide +kernel
  have s1 : pShift (mdQ 1 2) p2 = [mdQ (-1) 2, ((1 : Int) : Rat)] := by rw [h2, y1, y3]; decide +kernel
  have g1 : pDiff p1 = p10 := by rw [h1, h10]; decide +kernel
  have t0 : tr [((0 : Int) : Rat)] = [] := by decide +kernel
  have t1 : tr [] = [] := rfl
  have c0 : ∀ a : Rat, cmpQ a a = 0 := fun a => by
    have := cmpQ_eq0 a a
    simpa using this
  have dd : ∀ l : List Rat, decide (l = l) = true := fun l => decide_eq_true rfl
  have df : ∀ l : List (List Rat × Int), decide (l = l) = true := fun l => decide_eq_true rfl
  have fz : facZ [(p4, 1), (p5, 2)] = [(p4, 1), (p5, 2)] := rfl
  have sq : pSqf 5 p3 = some [(p4, 1), (p5, 2)] := by rw [h3, h4, h5]; decide +kernel
  have so : SfOk 5 p3 := by rw [h3]; exact sfB_ok (by decide +kernel)
  have q1 : DvOk p1 p2 := by rw [h1, h2]; exact dvB_ok (by decide +kernel)
  have q2 : DvOk p1 [] := by rw [h1]; exact dvB_ok (by decide +kernel)
  have q3 : ∃ n, ExOk n p5 p6 [1] [] [] [1] := ⟨10, by rw [h5, h6]; exact exB_ok (by decide +kernel)⟩
  have q5 : ∃ n, ReOk n 1 p8 p2 := ⟨10, by rw [h8, h2]; exact reB_ok (by decide +kernel)⟩
  have sm : ∀ l : List Rat, smL l = true → l.length ≤ 1000000 ∧ PB l 5000000000000 := fun l h => ⟨Nat.le_trans (smL_len h) (by decide), smL_PB h (by decide)⟩
  have m1 := sm p1 (by rw [h1]; decide +kernel)
  have m2 := sm p2 (by rw [h2]; decide +kernel)
  have m4 := sm p4 (by rw [h4]; decide +kernel)
  have m5 := sm p5 (by rw [h5]; decide +kernel)
  have m7 := sm p7 (by rw [h7]; decide +kernel)
  have m9 := sm p9 (by rw [h9]; decide +kernel)
  have m10 := sm p10 (by rw [h10]; decide +kernel)
  have m11 := sm [] (by decide)
  have m12 := sm [mdQ 1 2] (by rw [y1]; decide +kernel)
  have m13 := sm [mdQ (-1) 2, ((1 : Int) : Rat)] (by rw [y3]; decide +kernel)
  have m14 := sm [((0 : Int) : Rat)] (by decide +kernel)
  have qh : qs (mdQ 1 2) ≤ 2000000000000 := by rw [y1]; exact smq_ok (by decide +kernel) (by decide)
  have qh' : qs (mdQ 1 2) ≤ 5000000000000 := by omega
  have q6 : EvOk p1 (mdQ 1 2) := by rw [h1, y1]; exact evB_ok (by decide +kernel)
  have q7 : ShOk p2.length (mdQ 1 2) p2 := by rw [h2, y1]; exact shB_ok (by decide +kernel)
  have q8 : Can p2 := by rw [h2]; exact cnB_ok (by decide +kernel)
  have qa : qs (mdQ (-7) 8) ≤ 5000000000000 := by rw [y2]; exact smq_ok (by decide +kernel) (by decide)
  have qb : qs ((-1 : Int) : Rat) ≤ 5000000000000 := by rw [y4]; exact smq_ok (by decide +kernel) (by decide)
  have fb : FB [(p4, 1), (p5, 2)] := ⟨by simp, fun i => by
    rcases i with _ | _ | i
    · exact m4
    · exact m5
    · exact m11⟩
  refine PCall.of_awp Tryz.func10 rfl Tryz.ntmps10 Tryz.results10 (by simp) ?_
  have T1 := (tabs mixed (tbl_cons rInts_C (tbl_cons pDM_C (tbl_cons ext_C (tbl_cons r2Made_C tbl_nil)))))
  refine AWp.seq (vc_ok T1 _ _ _ ?_)
  simp only [go_sem, z1, z2, z3, z4, z5, z6, z7, z8, z9, z10, w1, w2, w3, w4, w5, w6, w7, w8, w9, w10, d1, d2, e1, r1, v1, s1, g1, t0, t1, c0, dd, df, fz, sq, so, q1, q2, q3, q5, q6, q7, q8, m1, m2, m4, m5, m7, m9, m10, m11, m12, m13, m14, qh, qh', qa, qb, fb]
  refine AWp.seq (vc_ok T1 _ _ _ ?_)
  simp only [go_sem, z1, z2, z3, z4, z5, z6, z7, z8, z9, z10, w1, w2, w3, w4, w5, w6, w7, w8, w9, w10, d1, d2, e1, r1, v1, s1, g1, t0, t1, c0, dd, df, fz, sq, so, q1, q2, q3, q5, q6, q7, q8, m1, m2, m4, m5, m7, m9, m10, m11, m12, m13, m14, qh, qh', qa, qb, fb]
  refine AWp.seq (vc_ok T1 _ _ _ ?_)
  simp only [go_sem, z1, z2, z3, z4, z5, z6, z7, z8, z9, z10, w1, w2, w3, w4, w5, w6, w7, w8, w9, w10, d1, d2, e1, r1, v1, s1, g1, t0, t1, c0, dd, df, fz, sq, so, q1, q2, q3, q5, q6, q7, q8, m1, m2, m4, m5, m7, m9, m10, m11, m12, m13, m14, qh, qh', qa, qb, fb]
  refine AWp.seq (vc_ok T1 _ _ _ ?_)
  simp only [go_sem, z1, z2, z3, z4, z5, z6, z7, z8, z9, z10, w1, w2, w3, w4, w5, w6, w7, w8, w9, w10, d1, d2, e1, r1, v1, s1, g1, t0, t1, c0, dd, df, fz, sq, so, q1, q2, q3, q5, q6, q7, q8, m1, m2, m4, m5, m7, m9, m10, m11, m12, m13, m14, qh, qh', qa, qb, fb]
  refine AWp.seq (vc_ok T1 _ _ _ ?_)
  simp only [go_sem, z1, z2, z3, z4, z5, z6, z7, z8, z9, z10, w1, w2, w3, w4, w5, w6, w7, w8, w9, w10, d1, d2, e1, r1, v1, s1, g1, t0, t1, c0, dd, df, fz, sq, so, q1, q2, q3, q5, q6, q7, q8, m1, m2, m4, m5, m7, m9, m10, m11, m12, m13, m14, qh, qh', qa, qb, fb]
  refine AWp.seq (vc_ok T1 _ _ _ ?_)
  simp only [go_sem, z1, z2, z3, z4, z5, z6, z7, z8, z9, z10, w1, w2, w3, w4, w5, w6, w7, w8, w9, w10, d1, d2, e1, r1, v1, s1, g1, t0, t1, c0, dd, df, fz, sq, so, q1, q2, q3, q5, q6, q7, q8, m1, m2, m4, m5, m7, m9, m10, m11, m12, m13, m14, qh, qh', qa, qb, fb]
  refine AWp.seq (vc_ok T1 _ _ _ ?_)
  simp only [go_sem, z1, z2, z3, z4, z5, z6, z7, z8, z9, z10, w1, w2, w3, w4, w5, w6, w7, w8, w9, w10, d1, d2, e1, r1, v1, s1, g1, t0, t1, c0, dd, df, fz, sq, so, q1, q2, q3, q5, q6, q7, q8, m1, m2, m4, m5, m7, m9, m10, m11, m12, m13, m14, qh, qh', qa, qb, fb]
  refine AWp.seq (vc_ok T1 _ _ _ ?_)
  simp only [go_sem, z1, z2, z3, z4, z5, z6, z7, z8, z9, z10, w1, w2, w3, w4, w5, w6, w7, w8, w9, w10, d1, d2, e1, r1, v1, s1, g1, t0, t1, c0, dd, df, fz, sq, so, q1, q2, q3, q5, q6, q7, q8, m1, m2, m4, m5, m7, m9, m10, m11, m12, m13, m14, qh, qh', qa, qb, fb]
  refine AWp.seq (vc_ok T1 _ _ _ ?_)
  simp only [go_sem, z1, z2, z3, z4, z5, z6, z7, z8, z9, z10, w1, w2, w3, w4, w5, w6, w7, w8, w9, w10, d1, d2, e1, r1, v1, s1, g1, t0, t1, c0, dd, df, fz, sq, so, q1, q2, q3, q5, q6, q7, q8, m1, m2, m4, m5, m7, m9, m10, m11, m12, m13, m14, qh, qh', qa, qb, fb]
  refine AWp.seq (AWp.from (Wk.of (ss := [(1, .lst (V.rats p1)), (2, .lst (V.rats p2)), (3, .lst (V.rats p7)), (4, .lst (V.rats [])), (5, .raw (.int .i64 0)), (8, .raw (.int .i64 3)), (9, .lst (V.rats p3)), (10, .sl 0 2 0 2), (11, .lst (V.rats p9)), (12, .lst (V.rats [])), (13, .lst (V.rats [mdQ 1 2])), (14, .ptr 1 4 0 0)])
    (hs := [(0, false, ⟨42, 2, [.agg [.lst (V.rats p4), .raw (.int .i64 1)], .agg [.lst (V.rats p5), .raw (.int .i64 2)]]⟩), (1, false, ⟨51, 4, [.Q (mdQ 1 2)]⟩)]) (n := 2) (N := 140) [35, 50] (by decide) ?_) (AWp.regs ?_))
  · simp only [go_sem]
    exact ⟨⟨renV_pure rfl, renV_pure rfl⟩, renV_pure rfl⟩
  have T2 := (tabs mixed (tbl_cons rInts_C (tbl_cons r2Made_C (tbl_cons rPEq_C (tbl_cons (sqf_C 5 [(p4, 1), (p5, 2)]) (tbl_cons rSame_C (tbl_cons res_C (tbl_cons r2Whole_C (tbl_cons r2Cmp_C (tbl_cons pEval_C (tbl_cons pShift_C (tbl_cons pDiff_C (tbl_cons pValid_C (tbl_cons rTrim_C (tbl_cons trim_C tbl_nil)))))))))))))))
  simp only [app_cons, app_nil]
  refine RegI.cut T2 0 9 rfl rfl (by decide) ?_
  simp only [go_sem, mkSt_eq, z1, z2, z3, z4, z5, z6, z7, z8, z9, z10, w1, w2, w3, w4, w5, w6, w7, w8, w9, w10, d1, d2, e1, r1, v1, s1, g1, t0, t1, c0, dd, df, fz, sq, so, q1, q2, q3, q5, q6, q7, q8, m1, m2, m4, m5, m7, m9, m10, m11, m12, m13, m14, qh, qh', qa, qb, fb]
  refine ⟨_, Wk.of (ss := [(1, .lst (V.rats p1)), (2, .lst (V.rats p2)), (3, .lst (V.rats p7)), (4, .lst (V.rats [])), (5, .raw (.int .i64 0)), (8, .raw (.int .i64 3)), (9, .lst (V.rats p3)), (10, .sl 0 2 0 2), (11, .lst (V.rats p9)), (12, .lst (V.rats [])), (13, .lst (V.rats [mdQ 1 2])), (14, .ptr 1 4 0 0), (59, .raw (.bool true))]) (hs := [(0, false, ⟨42, 2, [.agg [.lst (V.rats p4), .raw (.int .i64 1)], .agg [.lst (V.rats p5), .raw (.int .i64 2)]]⟩), (1, false, ⟨51, 4, [.Q (mdQ 1 2)]⟩)]) (n := 2) (N := 140) [0, 1] (by decide) ?_, ?_⟩
  · simp only [go_sem]
    exact ⟨⟨renV_pure rfl, renV_pure rfl⟩, renV_pure rfl⟩
  refine RegI.cut T2 9 17 rfl rfl (by decide) ?_
  simp only [go_sem, mkSt_eq, z1, z2, z3, z4, z5, z6, z7, z8, z9, z10, w1, w2, w3, w4, w5, w6, w7, w8, w9, w10, d1, d2, e1, r1, v1, s1, g1, t0, t1, c0, dd, df, fz, sq, so, q1, q2, q3, q5, q6, q7, q8, m1, m2, m4, m5, m7, m9, m10, m11, m12, m13, m14, qh, qh', qa, qb, fb]
  refine ⟨_, Wk.of (ss := [(1, .lst (V.rats p1)), (2, .lst (V.rats p2)), (3, .lst (V.rats p7)), (4, .lst (V.rats [])), (5, .raw (.int .i64 0)), (8, .raw (.int .i64 3)), (9, .lst (V.rats p3)), (10, .sl 0 2 0 2), (11, .lst (V.rats p9)), (12, .lst (V.rats [])), (13, .lst (V.rats [mdQ 1 2])), (14, .ptr 1 4 0 0), (67, .raw (.bool true))]) (hs := [(0, false, ⟨42, 2, [.agg [.lst (V.rats p4), .raw (.int .i64 1)], .agg [.lst (V.rats p5), .raw (.int .i64 2)]]⟩), (1, false, ⟨51, 4, [.Q (mdQ 1 2)]⟩)]) (n := 2) (N := 140) [0, 1] (by decide) ?_, ?_⟩
  · simp only [go_sem]
    exact ⟨⟨renV_pure rfl, renV_pure rfl⟩, renV_pure rfl⟩
  refine RegI.cut T2 17 23 rfl rfl (by decide) ?_
  simp only [go_sem, mkSt_eq, z1, z2, z3, z4, z5, z6, z7, z8, z9, z10, w1, w2, w3, w4, w5, w6, w7, w8, w9, w10, d1, d2, e1, r1, v1, s1, g1, t0, t1, c0, dd, df, fz, sq, so, q1, q2, q3, q5, q6, q7, q8, m1, m2, m4, m5, m7, m9, m10, m11, m12, m13, m14, qh, qh', qa, qb, fb]
  refine ⟨_, Wk.of (ss := [(1, .lst (V.rats p1)), (2, .lst (V.rats p2)), (3, .lst (V.rats p7)), (4, .lst (V.rats [])), (5, .raw (.int .i64 0)), (8, .raw (.int .i64 3)), (9, .lst (V.rats p3)), (10, .sl 0 2 0 2), (11, .lst (V.rats p9)), (12, .lst (V.rats [])), (13, .lst (V.rats [mdQ 1 2])), (14, .ptr 1 4 0 0), (73, .raw (.bool true))]) (hs := [(0, false, ⟨42, 2, [.agg [.lst (V.rats p4), .raw (.int .i64 1)], .agg [.lst (V.rats p5), .raw (.int .i64 2)]]⟩), (1, false, ⟨51, 4, [.Q (mdQ 1 2)]⟩)]) (n := 2) (N := 140) [0, 1] (by decide) ?_, ?_⟩
  · simp only [go_sem]
    exact ⟨⟨renV_pure rfl, renV_pure rfl⟩, renV_pure rfl⟩
  refine RegI.cut T2 23 32 rfl rfl (by decide) ?_
  simp only [go_sem, mkSt_eq, z1, z2, z3, z4, z5, z6, z7, z8, z9, z10, w1, w2, w3, w4, w5, w6, w7, w8, w9, w10, d1, d2, e1, r1, v1, s1, g1, t0, t1, c0, dd, df, fz, sq, so, q1, q2, q3, q5, q6, q7, q8, m1, m2, m4, m5, m7, m9, m10, m11, m12, m13, m14, qh, qh', qa, qb, fb]
  refine ⟨_, Wk.of (ss := [(1, .lst (V.rats p1)), (2, .lst (V.rats p2)), (3, .lst (V.rats p7)), (4, .lst (V.rats [])), (5, .raw (.int .i64 0)), (8, .raw (.int .i64 3)), (9, .lst (V.rats p3)), (10, .sl 0 2 0 2), (11, .lst (V.rats p9)), (12, .lst (V.rats [])), (13, .lst (V.rats [mdQ 1 2])), (14, .ptr 1 4 0 0), (82, .raw (.bool true))]) (hs := [(0, false, ⟨42, 2, [.agg [.lst (V.rats p4), .raw (.int .i64 1)], .agg [.lst (V.rats p5), .raw (.int .i64 2)]]⟩), (1, false, ⟨51, 4, [.Q (mdQ 1 2)]⟩)]) (n := 2) (N := 140) [0, 1] (by decide) ?_, ?_⟩
  · simp only [go_sem]
    exact ⟨⟨renV_pure rfl, renV_pure rfl⟩, renV_pure rfl⟩
  refine RegI.cut T2 32 38 rfl rfl (by decide) ?_
  simp only [go_sem, mkSt_eq, z1, z2, z3, z4, z5, z6, z7, z8, z9, z10, w1, w2, w3, w4, w5, w6, w7, w8, w9, w10, d1, d2, e1, r1, v1, s1, g1, t0, t1, c0, dd, df, fz, sq, so, q1, q2, q3, q5, q6, q7, q8, m1, m2, m4, m5, m7, m9, m10, m11, m12, m13, m14, qh, qh', qa, qb, fb]
  refine ⟨_, Wk.of (ss := [(1, .lst (V.rats p1)), (2, .lst (V.rats p2)), (3, .lst (V.rats p7)), (4, .lst (V.rats [])), (5, .raw (.int .i64 0)), (8, .raw (.int .i64 3)), (9, .lst (V.rats p3)), (10, .sl 0 2 0 2), (11, .lst (V.rats p9)), (12, .lst (V.rats [])), (13, .lst (V.rats [mdQ 1 2])), (14, .ptr 1 4 0 0), (88, .raw (.bool true))]) (hs := [(0, false, ⟨42, 2, [.agg [.lst (V.rats p4), .raw (.int .i64 1)], .agg [.lst (V.rats p5), .raw (.int .i64 2)]]⟩), (1, false, ⟨51, 4, [.Q (mdQ 1 2)]⟩)]) (n := 2) (N := 140) [0, 1] (by decide) ?_, ?_⟩
  · simp only [go_sem]
    exact ⟨⟨renV_pure rfl, renV_pure rfl⟩, renV_pure rfl⟩
  refine RegI.cut T2 38 43 rfl rfl (by decide) ?_
  simp only [go_sem, mkSt_eq, z1, z2, z3, z4, z5, z6, z7, z8, z9, z10, w1, w2, w3, w4, w5, w6, w7, w8, w9, w10, d1, d2, e1, r1, v1, s1, g1, t0, t1, c0, dd, df, fz, sq, so, q1, q2, q3, q5, q6, q7, q8, m1, m2, m4, m5, m7, m9, m10, m11, m12, m13, m14, qh, qh', qa, qb, fb]
  refine ⟨_, Wk.of (ss := [(1, .lst (V.rats p1)), (2, .lst (V.rats p2)), (3, .lst (V.rats p7)), (4, .lst (V.rats [])), (5, .raw (.int .i64 0)), (8, .raw (.int .i64 3)), (9, .lst (V.rats p3)), (10, .sl 0 2 0 2), (11, .lst (V.rats p9)), (12, .lst (V.rats [])), (13, .lst (V.rats [mdQ 1 2])), (14, .ptr 1 4 0 0), (93, .raw (.bool true))]) (hs := [(0, false, ⟨42, 2, [.agg [.lst (V.rats p4), .raw (.int .i64 1)], .agg [.lst (V.rats p5), .raw (.int .i64 2)]]⟩), (1, false, ⟨51, 4, [.Q (mdQ 1 2)]⟩)]) (n := 2) (N := 140) [0, 1] (by decide) ?_, ?_⟩
  · simp only [go_sem]
    exact ⟨⟨renV_pure rfl, renV_pure rfl⟩, renV_pure rfl⟩
  refine RegI.cut T2 43 49 rfl rfl (by decide) ?_
  simp only [go_sem, mkSt_eq, z1, z2, z3, z4, z5, z6, z7, z8, z9, z10, w1, w2, w3, w4, w5, w6, w7, w8, w9, w10, d1, d2, e1, r1, v1, s1, g1, t0, t1, c0, dd, df, fz, sq, so, q1, q2, q3, q5, q6, q7, q8, m1, m2, m4, m5, m7, m9, m10, m11, m12, m13, m14, qh, qh', qa, qb, fb]
  refine ⟨_, Wk.of (ss := [(1, .lst (V.rats p1)), (2, .lst (V.rats p2)), (3, .lst (V.rats p7)), (4, .lst (V.rats [])), (5, .raw (.int .i64 0)), (8, .raw (.int .i64 3)), (9, .lst (V.rats p3)), (10, .sl 0 2 0 2), (11, .lst (V.rats p9)), (12, .lst (V.rats [])), (13, .lst (V.rats [mdQ 1 2])), (14, .ptr 1 4 0 0), (99, .raw (.bool true))]) (hs := [(0, false, ⟨42, 2, [.agg [.lst (V.rats p4), .raw (.int .i64 1)], .agg [.lst (V.rats p5), .raw (.int .i64 2)]]⟩), (1, false, ⟨51, 4, [.Q (mdQ 1 2)]⟩)]) (n := 2) (N := 140) [0, 1] (by decide) ?_, ?_⟩
  · simp only [go_sem]
    exact ⟨⟨renV_pure rfl, renV_pure rfl⟩, renV_pure rfl⟩
  refine RegI.cut T2 49 57 rfl rfl (by decide) ?_
  simp only [go_sem, mkSt_eq, z1, z2, z3, z4, z5, z6, z7, z8, z9, z10, w1, w2, w3, w4, w5, w6, w7, w8, w9, w10, d1, d2, e1, r1, v1, s1, g1, t0, t1, c0, dd, df, fz, sq, so, q1, q2, q3, q5, q6, q7, q8, m1, m2, m4, m5, m7, m9, m10, m11, m12, m13, m14, qh, qh', qa, qb, fb]
  refine ⟨_, Wk.of (ss := [(1, .lst (V.rats p1)), (2, .lst (V.rats p2)), (3, .lst (V.rats p7)), (4, .lst (V.rats [])), (5, .raw (.int .i64 0)), (8, .raw (.int .i64 3)), (9, .lst (V.rats p3)), (10, .sl 0 2 0 2), (11, .lst (V.rats p9)), (12, .lst (V.rats [])), (13, .lst (V.rats [mdQ 1 2])), (14, .ptr 1 4 0 0), (107, .raw (.bool true))]) (hs := [(0, false, ⟨42, 2, [.agg [.lst (V.rats p4), .raw (.int .i64 1)], .agg [.lst (V.rats p5), .raw (.int .i64 2)]]⟩), (1, false, ⟨51, 4, [.Q (mdQ 1 2)]⟩)]) (n := 2) (N := 140) [0, 1] (by decide) ?_, ?_⟩
  · simp only [go_sem]
    exact ⟨⟨renV_pure rfl, renV_pure rfl⟩, renV_pure rfl⟩
  refine RegI.cut T2 57 66 rfl rfl (by decide) ?_
  simp only [go_sem, mkSt_eq, z1, z2, z3, z4, z5, z6, z7, z8, z9, z10, w1, w2, w3, w4, w5, w6, w7, w8, w9, w10, d1, d2, e1, r1, v1, s1, g1, t0, t1, c0, dd, df, fz, sq, so, q1, q2, q3, q5, q6, q7, q8, m1, m2, m4, m5, m7, m9, m10, m11, m12, m13, m14, qh, qh', qa, qb, fb]
  refine ⟨_, Wk.of (ss := [(1, .lst (V.rats p1)), (2, .lst (V.rats p2)), (3, .lst (V.rats p7)), (4, .lst (V.rats [])), (5, .raw (.int .i64 0)), (8, .raw (.int .i64 3)), (9, .lst (V.rats p3)), (10, .sl 0 2 0 2), (11, .lst (V.rats p9)), (12, .lst (V.rats [])), (13, .lst (V.rats [mdQ 1 2])), (14, .ptr 1 4 0 0), (116, .raw (.bool true))]) (hs := [(0, false, ⟨42, 2, [.agg [.lst (V.rats p4), .raw (.int .i64 1)], .agg [.lst (V.rats p5), .raw (.int .i64 2)]]⟩), (1, false, ⟨51, 4, [.Q (mdQ 1 2)]⟩)]) (n := 2) (N := 140) [0, 1] (by decide) ?_, ?_⟩
  · simp only [go_sem]
    exact ⟨⟨renV_pure rfl, renV_pure rfl⟩, renV_pure rfl⟩
  refine RegI.cut T2 66 73 rfl rfl (by decide) ?_
  simp only [go_sem, mkSt_eq, z1, z2, z3, z4, z5, z6, z7, z8, z9, z10, w1, w2, w3, w4, w5, w6, w7, w8, w9, w10, d1, d2, e1, r1, v1, s1, g1, t0, t1, c0, dd, df, fz, sq, so, q1, q2, q3, q5, q6, q7, q8, m1, m2, m4, m5, m7, m9, m10, m11, m12, m13, m14, qh, qh', qa, qb, fb]
  refine ⟨_, Wk.of (ss := [(1, .lst (V.rats p1)), (2, .lst (V.rats p2)), (3, .lst (V.rats p7)), (4, .lst (V.rats [])), (5, .raw (.int .i64 0)), (8, .raw (.int .i64 3)), (9, .lst (V.rats p3)), (10, .sl 0 2 0 2), (11, .lst (V.rats p9)), (12, .lst (V.rats [])), (13, .lst (V.rats [mdQ 1 2])), (14, .ptr 1 4 0 0), (123, .raw (.bool true))]) (hs := [(0, false, ⟨42, 2, [.agg [.lst (V.rats p4), .raw (.int .i64 1)], .agg [.lst (V.rats p5), .raw (.int .i64 2)]]⟩), (1, false, ⟨51, 4, [.Q (mdQ 1 2)]⟩)]) (n := 2) (N := 140) [0, 1] (by decide) ?_, ?_⟩
  · simp only [go_sem]
    exact ⟨⟨renV_pure rfl, renV_pure rfl⟩, renV_pure rfl⟩
  refine RegI.cut T2 73 79 rfl rfl (by decide) ?_
  simp only [go_sem, mkSt_eq, z1, z2, z3, z4, z5, z6, z7, z8, z9, z10, w1, w2, w3, w4, w5, w6, w7, w8, w9, w10, d1, d2, e1, r1, v1, s1, g1, t0, t1, c0, dd, df, fz, sq, so, q1, q2, q3, q5, q6, q7, q8, m1, m2, m4, m5, m7, m9, m10, m11, m12, m13, m14, qh, qh', qa, qb, fb]
  refine ⟨_, Wk.of (ss := [(1, .lst (V.rats p1)), (2, .lst (V.rats p2)), (3, .lst (V.rats p7)), (4, .lst (V.rats [])), (5, .raw (.int .i64 0)), (8, .raw (.int .i64 3)), (9, .lst (V.rats p3)), (10, .sl 0 2 0 2), (11, .lst (V.rats p9)), (12, .lst (V.rats [])), (13, .lst (V.rats [mdQ 1 2])), (14, .ptr 1 4 0 0), (129, .raw (.bool true))]) (hs := [(0, false, ⟨42, 2, [.agg [.lst (V.rats p4), .raw (.int .i64 1)], .agg [.lst (V.rats p5), .raw (.int .i64 2)]]⟩), (1, false, ⟨51, 4, [.Q (mdQ 1 2)]⟩)]) (n := 2) (N := 140) [0, 1] (by decide) ?_, ?_⟩
  · simp only [go_sem]
    exact ⟨⟨renV_pure rfl, renV_pure rfl⟩, renV_pure rfl⟩
  refine RegI.fin T2 79 rfl ?_
  simp only [go_sem, mkSt_eq, z1, z2, z3, z4, z5, z6, z7, z8, z9, z10, w1, w2, w3, w4, w5, w6, w7, w8, w9, w10, d1, d2, e1, r1, v1, s1, g1, t0, t1, c0, dd, df, fz, sq, so, q1, q2, q3, q5, q6, q7, q8, m1, m2, m4, m5, m7, m9, m10, m11, m12, m13, m14, qh, qh', qa, qb, fb]
  refine AWp.from (Wk.of (ss := [(0, .raw (.bool true))]) (hs := []) (n := 0) (N := 140) [] (by decide) ?_) (vc_at T2 ?_)
  · simp only [go_sem]
  · simp only [go_sem]
def kSanity3 : Con := con0 (True, .raw (.bool true))
attribute [go_sem ↓, go_sem] kSanity3
theorem sanity3_C : Ctr Tryz.prog 10 kSanity3 := Ctr.c0 (by kernel_rfl) fun _ => sanity3_V
end Go.Proofs.YthhpmapbhdebeaaGreat


/- The helpers of the laws of polynomials: made, number; the arguments. -/
namespace Go.Proofs.YthhpmapbhdebeaaGreat
set_option linter.unusedSimpArgs false
set_option linter.unusedVariables false
open Go.RowKit

theorem qs_mdQ {n d : Int} (hn : B8 n) (hd : B8 d) : qs (mdQ n d) ≤ 1 := by
  unfold mdQ
  obtain ⟨h1, h2⟩ := hn
  obtain ⟨h3, h4⟩ := hd
  refine Nat.le_trans (qs_divInt _ _) ?_
  have e1 : dl n.natAbs ≤ 1 := dl_le.2 (by simp only [Nat.pow_one]; omega)
  have e2 : dl (if d = 0 then (1 : Int) else d).natAbs ≤ 1 := dl_le.2 (by simp only [Nat.pow_one]; split <;> omega)
  omega
theorem psL_sz {l : List (Int × Int)} (h : P8 l) (n : Nat) : Sz (psL l (n : Nat)) n 1 := ⟨by
  unfold psL
  refine Nat.le_trans (tr_len _) ?_
  rw [rg_len]; omega, fun i => by
  unfold psL
  rw [cf_tr, cf_rg]
  split
  · have := B8.get2 h.2 i
    exact qs_mdQ this.1 this.2
  · exact qs_0, tr_can _⟩
/-- The argument of the laws. -/
structure Th where
  A : List (Int × Int)
  B : List (Int × Int)
  C : List (Int × Int)
  X : Int × Int
def Th.v (x : Th) : V := .agg [.lst (V.prs x.A), .lst (V.prs x.B), .lst (V.prs x.C), .agg [.raw (.int .i8 x.X.1), .raw (.int .i8 x.X.2)]]
def Th.Ok (x : Th) : Prop := (P8 x.A ∧ P8 x.B ∧ P8 x.C) ∧ B8 x.X.1 ∧ B8 x.X.2
def pTh : Pat Th where
  p
    | .agg [.lst a, .lst b, .lst c, .agg [.raw (.int .i8 x), .raw (.int .i8 y)]] => (unprs a).bind fun a => (unprs b).bind fun b => (unprs c).map fun c => (True, ⟨a, b, c, (x, y)⟩)
    | _ => none
  val := Th.v
  ok x c a h hc := by
    split at h
    · rename_i a b c x y
      rcases ha : unprs a with _ | a' <;> simp only [ha, bind_none, bind_some] at h
      · cases h
      · rcases hb : unprs b with _ | b' <;> simp only [hb, bind_none, bind_some] at h
        · cases h
        · rcases hc : unprs c with _ | c' <;> rw [hc] at h
          · cases h
          · injection h with h; injection h with h1 h2; subst h2
            rw [unprs_ok _ _ ha, unprs_ok _ _ hb, unprs_ok _ _ hc]; exact .refl _
    · cases h
@[go_sem ↓, go_sem] theorem ev_pTh {a b c : List V} {x y : Int} : pTh.p (.agg [.lst a, .lst b, .lst c, .agg [.raw (.int .i8 x), .raw (.int .i8 y)]]) = (unprs a).bind fun a => (unprs b).bind fun b => (unprs c).map fun c => (True, ⟨a, b, c, (x, y)⟩) := rfl
@[go_sem ↓, go_sem] theorem ev_pTh_mk {z : Th} : pTh.val z = .agg [.lst (V.prs z.A), .lst (V.prs z.B), .lst (V.prs z.C), .agg [.raw (.int .i8 z.X.1), .raw (.int .i8 z.X.2)]] := rfl
def kMade3 : Con := con1 pTh fun z => (P8 z.A ∧ P8 z.B ∧ P8 z.C, .tup [.lst (V.rats (psL z.A 5)), .lst (V.rats (psL z.B 5)), .lst (V.rats (psL z.C 3))])
attribute [go_sem ↓, go_sem] kMade3
theorem made3_C : Ctr Tryz.prog 11 kMade3 := Ctr.c1 (by kernel_rfl) fun z h => by
  obtain ⟨h1, h2, h3⟩ := h
  refine PCall.of_vc (tabs mixed (tbl_cons rPolyMade_C tbl_nil)) Tryz.func11 rfl Tryz.ntmps11 Tryz.results11 (by simp) ?_
  simp only [go_sem]
  exact ⟨h1, h2, h3, by rfl⟩
theorem list_prs {P : Program} {n : Nat} {e b : TypeId} (he : P.underlying e = some (.array 2 b)) (hb : P.underlying b = some (.int .i8)) : ∀ (l : List V), (∀ y ∈ l, Fits P (n + 2) e y) → ∃ A : List (Int × Int), l = V.prs A ∧ ∀ z ∈ A, B8 z.1 ∧ B8 z.2
  | [], _ => ⟨[], rfl, fun z hz => by simp at hz⟩
  | y :: l, h => by
    obtain ⟨A, rfl, hA⟩ := list_prs he hb l fun y hy => h y (by simp [hy])
    obtain ⟨m, rfl, hm⟩ := fits_arr he (h y (by simp))
    obtain ⟨x1, m1, rfl, g1, hm⟩ := fitL_cons hm
    obtain ⟨x2, m2, rfl, g2, hm⟩ := fitL_cons hm
    have := fitL_nil hm
    subst this
    obtain ⟨z1, w1, rfl⟩ := fits_int hb g1
    obtain ⟨z2, w2, rfl⟩ := fits_int hb g2
    exact ⟨(z1, z2) :: A, rfl, fun z hz => by
      rcases List.mem_cons.1 hz with rfl | hz
      · exact ⟨wf_i8 w1, wf_i8 w2⟩
      · exact hA z hz⟩
theorem fits_prs {P : Program} {n : Nat} {t e b : TypeId} {X : V} (hu : P.underlying t = some (.slice e)) (he : P.underlying e = some (.array 2 b)) (hb : P.underlying b = some (.int .i8)) (h : Fits P (n + 3) t X) : ∃ A, X = .lst (V.prs A) ∧ P8 A := by
  obtain ⟨l, rfl, hl, hy⟩ := fits_sl hu h
  obtain ⟨A, rfl, hA⟩ := list_prs he hb l hy
  rw [prs_len] at hl
  exact ⟨A, rfl, hl, hA⟩
theorem fits_pr {P : Program} {n : Nat} {e b : TypeId} {X : V} (he : P.underlying e = some (.array 2 b)) (hb : P.underlying b = some (.int .i8)) (h : Fits P (n + 2) e X) : ∃ z : Int × Int, X = .agg [.raw (.int .i8 z.1), .raw (.int .i8 z.2)] ∧ B8 z.1 ∧ B8 z.2 := by
  obtain ⟨A, e1, hA⟩ := list_prs he hb [X] fun y hy => by
    rw [List.mem_singleton.1 hy]; exact h
  match A, e1 with
  | [z], e1 =>
    injection e1 with e1 _
    exact ⟨z, e1, hA z (by simp)⟩
set_option maxRecDepth 20000 in
theorem fits_three {X : V} (h : Fits Tryz.prog 6 26 X) : ∃ x : Th, X = x.v ∧ x.Ok := by
  have u1 : Tryz.prog.underlying 22 = some (.slice 24) := by kernel_rfl
  have u2 : Tryz.prog.underlying 24 = some (.array 2 23) := by kernel_rfl
  have u3 : Tryz.prog.underlying 23 = some (.int .i8) := by kernel_rfl
  obtain ⟨l, rfl, hl⟩ := fits_struct Tryz.underlying26 h
  obtain ⟨x1, m, rfl, g1, hl⟩ := fitL_cons hl
  obtain ⟨x2, m, rfl, g2, hl⟩ := fitL_cons hl
  obtain ⟨x3, m, rfl, g3, hl⟩ := fitL_cons hl
  obtain ⟨x4, m, rfl, g4, hl⟩ := fitL_cons hl
  have := fitL_nil hl
  subst this
  obtain ⟨A, rfl, hA⟩ := fits_prs u1 u2 u3 g1
  obtain ⟨B, rfl, hB⟩ := fits_prs u1 u2 u3 g2
  obtain ⟨C, rfl, hC⟩ := fits_prs u1 u2 u3 g3
  obtain ⟨z, rfl, hz⟩ := fits_pr u2 u3 g4
  exact ⟨⟨A, B, C, z⟩, rfl, ⟨hA, hB, hC⟩, hz⟩
end Go.Proofs.YthhpmapbhdebeaaGreat


/- The law of rings: sums and products of polynomials. -/
namespace Go.Proofs.YthhpmapbhdebeaaGreat
set_option linter.unusedSimpArgs false
set_option linter.unusedVariables false
open Go.RowKit

theorem beq_len0 (l : List Rat) : ((l.length : Int) == 0) = decide (l = []) := by
  cases l with
  | nil => rfl
  | cons x l => rw [decide_eq_false (by simp)]; simp; omega
end Go.Proofs.YthhpmapbhdebeaaGreat


/- The law of division: quotients, remainders and common divisors of polynomials. -/
namespace Go.Proofs.YthhpmapbhdebeaaGreat
set_option linter.unusedSimpArgs false
set_option linter.unusedVariables false
open Go.RowKit

/-- How large a number is. -/
def mag (q : Rat) : Nat := max q.num.natAbs q.den
theorem mag_divInt (n d : Int) (hd : d ≠ 0) : mag (Rat.divInt n d) ≤ max n.natAbs d.natAbs := by
  unfold mag
  rw [Rat.num_divInt, Rat.den_divInt, if_neg hd]
  have h1 : (d.sign * n / (Int.gcd d n : Nat)).natAbs ≤ n.natAbs := by
    refine Nat.le_trans (Int.natAbs_ediv_le_natAbs _ _) ?_
    rw [Int.natAbs_mul]
    have : d.sign.natAbs ≤ 1 := by rw [Int.natAbs_sign]; split <;> omega
    exact Nat.le_trans (Nat.mul_le_mul_right _ this) (by omega)
  have h2 : d.natAbs / Int.gcd d n ≤ d.natAbs := Nat.div_le_self _ _
  omega
def MB (l : List Rat) (k : Nat) : Prop := ∀ i, mag (cf l i) ≤ k
theorem mag_mdQ {n d : Int} (hn : B8 n) (hd : B8 d) : mag (mdQ n d) ≤ 128 := by
  unfold mdQ
  obtain ⟨h1, h2⟩ := hn
  obtain ⟨h3, h4⟩ := hd
  refine Nat.le_trans (mag_divInt _ _ (by split <;> omega)) ?_
  split <;> omega
theorem psL_MB {l : List (Int × Int)} (h : P8 l) (n : Int) : MB (psL l n) 128 := fun i => by
  unfold psL
  rw [cf_tr, cf_rg]
  split
  · have := B8.get2 h.2 i
    exact mag_mdQ this.1 this.2
  · decide
theorem Sz.monic {a : List Rat} {n k : Nat} (ha : Sz a n k) : Sz (pMonic a) n (2 * k + 1) := ⟨by rw [len_pMonic ha.can]; exact ha.len, fun i => by
  unfold pMonic
  split
  · exact Nat.le_trans qs_0 (by omega)
  · rw [cf_pSc]
    have h1 := qs_mul (1 / lead a) (cf a i)
    have h2 := qs_inv1 (lead a) (ha.pb (a.length - 1))
    have := ha.pb i
    omega, can_pMonic a⟩
theorem Sz.dv {a b : List Rat} {n m j k : Nat} (ha : Sz a n j) (hb : Sz b m k) (h : (n ≤ 100 ∧ m ≤ 100) ∧ 2 ^ (n + 1) * (j + 2 * k + 1) ≤ 2500000000000 := by decide) : DvOk a b :=
  ⟨⟨ha.can, hb.can⟩, by have := ha.len; have := hb.len; omega, j, k, ⟨ha.pb, hb.pb⟩, Nat.le_trans (Nat.mul_le_mul_right _ (Nat.pow_le_pow_right (by decide) (by have := ha.len; omega))) h.2⟩
end Go.Proofs.YthhpmapbhdebeaaGreat


/- The law of division of polynomials. -/
namespace Go.Proofs.YthhpmapbhdebeaaGreat
set_option linter.unusedSimpArgs false
set_option linter.unusedVariables false
open Go.RowKit

theorem len0 (l : List Rat) : (0 : Int) < (l.length : Int) ↔ l ≠ [] := by
  cases l with
  | nil => simp
  | cons x l => simp
end Go.Proofs.YthhpmapbhdebeaaGreat

