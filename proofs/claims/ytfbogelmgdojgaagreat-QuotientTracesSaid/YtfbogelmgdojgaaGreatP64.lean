/- Texts SZ2 LC5 LC6 in one. -/
import Derived.Test.YtfbogelmgdojgaaGreatP60
import Derived.Test.YtfbogelmgdojgaaGreatP61
/- Sizes along Euclid's algorithm. No program in sight. -/
namespace Go.Proofs.YtfbogelmgdojgaaGreat
set_option linter.unusedSimpArgs false
set_option linter.unusedVariables false
open Go.RowKit

theorem cf_mulL_cons (x : Rat) (l b : List Rat) (i : Nat) : cf (mulL (x :: l) b) i = x * cf b i + (if i = 0 then 0 else cf (mulL l b) (i - 1)) := by
  show cf (addL (scL x b) (0 :: mulL l b)) i = _
  rw [cf_addL, cf_scL]
  cases i with
  | zero => rfl
  | succ i => rfl
theorem cf_mon_mul (c : Rat) (b : List Rat) : ∀ (k i : Nat), cf (mulL (mon c k) b) i = if k ≤ i then c * cf b (i - k) else 0
  | 0, i => by
    show cf (mulL [c] b) i = _
    rw [cf_mulL_cons, if_pos (Nat.zero_le _), Nat.sub_zero]
    have e : (if i = 0 then (0 : Rat) else cf (mulL [] b) (i - 1)) = 0 := by split <;> rfl
    rw [e, Rat.add_zero]
  | k + 1, i => by
    have e : mon c (k + 1) = 0 :: mon c k := by simp [mon, List.replicate_succ]
    rw [e, cf_mulL_cons, Rat.zero_mul, Rat.zero_add]
    cases i with
    | zero => rfl
    | succ i =>
      rw [if_neg (by omega), Nat.add_sub_cancel, cf_mon_mul c b k i]
      by_cases h : k ≤ i
      · rw [if_pos h, if_pos (by omega), show i + 1 - (k + 1) = i - k from by omega]
      · rw [if_neg h, if_neg (by omega)]
theorem dmF_PB {b : List Rat} {t : Nat} (hb : Can b) (h0 : b ≠ []) (hbt : PB b t) : ∀ (n : Nat) (q r : List Rat) (s Z K : Nat), Can r → PB r s → s + 2 * t + 1 ≤ Z → PB q K → (∀ i, i + b.length ≤ r.length → cf q i = 0) → 2 ^ (r.length + 1 - b.length) * Z ≤ K →
    PB (dmF n q r b).1 K ∧ PB (dmF n q r b).2 (K - (2 * t + 1))
  | 0, q, r, s, Z, K, hr, hs, hz, hq, _, hk => by
    have hZK : Z ≤ K := Nat.le_trans (Nat.le_mul_of_pos_left Z (Nat.two_pow_pos _)) hk
    exact ⟨hq, hs.mono (by omega)⟩
  | n + 1, q, r, s, Z, K, hr, hs, hz, hq, hqz, hk => by
    have hZK : Z ≤ K := Nat.le_trans (Nat.le_mul_of_pos_left Z (Nat.two_pow_pos _)) hk
    unfold dmF
    split
    · exact ⟨hq, hs.mono (by omega)⟩
    · rename_i h
      have hbl := List.length_pos_iff.2 h0
      have hst := dm_step hr hb h0 (by omega)
      obtain ⟨c, hc⟩ : ∃ c, lead r / lead b = c := ⟨_, rfl⟩
      obtain ⟨k, hkk⟩ : ∃ k, r.length - b.length = k := ⟨_, rfl⟩
      rw [hc, hkk] at hst ⊢
      have qc : qs c ≤ s + t := by rw [← hc]; exact Nat.le_trans (qs_div _ _) (Nat.add_le_add (hs _) (hbt _))
      have pr : PB (pSub r (pMul (mon c k) b)) (2 * s + 2 * t + 1) := fun i => by
        rw [cf_pSub]
        unfold pMul
        rw [cf_tr, cf_mon_mul]
        have h1 := qs_sub (cf r i) (if k ≤ i then c * cf b (i - k) else 0)
        have h2 : qs (if k ≤ i then c * cf b (i - k) else 0) ≤ s + 2 * t := by
          split
          · have := qs_mul c (cf b (i - k)); have := hbt (i - k); omega
          · have := qs_0; have := hs.pos; omega
        have := hs i
        omega
      refine dmF_PB hb h0 hbt n _ _ (2 * s + 2 * t + 1) (2 * Z) K (can_pSub _ _) pr (by omega) (fun i => ?_) (fun i hi => ?_) ?_
      · rw [cf_pAdd]
        by_cases e : i = k
        · subst e
          rw [mon_top, hqz i (by omega), Rat.zero_add]
          omega
        · rw [mon_low c k i e, Rat.add_zero]
          exact hq i
      · rw [cf_pAdd, mon_low c k i (by omega), hqz i (by omega), Rat.add_zero]
      · generalize (pSub r (pMul (mon c k) b)).length = m at hst
        have e : 2 ^ (m + 1 - b.length) * (2 * Z) = 2 ^ (m + 1 - b.length + 1) * Z := by rw [Nat.pow_succ, Nat.mul_assoc]
        rw [e]
        exact Nat.le_trans (Nat.mul_le_mul_right Z (Nat.pow_le_pow_right (by decide) (by omega))) hk
theorem div_PB {a b : List Rat} {s t S : Nat} (ha : Can a) (hb : Can b) (h0 : b ≠ []) (hs : PB a s) (ht : PB b t) (hS : s + 2 * t + 1 ≤ S) : PB (pDiv a b) (2 ^ (a.length - b.length + 1) * S) ∧ PB (pMod a b) (2 ^ (a.length - b.length + 1) * S) := by
  have hp : 1 ≤ 2 ^ (a.length - b.length + 1) * S := Nat.le_trans (show 1 ≤ S by omega) (Nat.le_mul_of_pos_left S (Nat.two_pow_pos _))
  have h := dmF_PB hb h0 ht a.length [] a s S _ ha hs hS (PB_nil hp) (fun i _ => rfl) (Nat.mul_le_mul_right S (Nat.pow_le_pow_right (by decide) (by omega)))
  exact ⟨h.1, h.2.mono (Nat.sub_le _ _)⟩
theorem mod_PB {a b : List Rat} {s t S : Nat} (ha : Can a) (hb : Can b) (h0 : b ≠ []) (hs : PB a s) (ht : PB b t) (hS : s + 2 * t + 1 ≤ S) : PB (pMod a b) (2 ^ (a.length - b.length + 1) * S - (2 * t + 1)) := by
  have hp : 1 ≤ 2 ^ (a.length - b.length + 1) * S := Nat.le_trans (show 1 ≤ S by omega) (Nat.le_mul_of_pos_left S (Nat.two_pow_pos _))
  exact (dmF_PB hb h0 ht a.length [] a s S _ ha hs hS (PB_nil hp) (fun i _ => rfl) (Nat.mul_le_mul_right S (Nat.pow_le_pow_right (by decide) (by omega)))).2
theorem div_len {a b : List Rat} (ha : Can a) (hb : Can b) (h0 : b ≠ []) : (pDiv a b).length ≤ a.length - b.length + 1 := by
  obtain ⟨⟨cq, cr⟩, hl, he⟩ := dm_ok ha hb h0
  by_cases q0 : pDiv a b = []
  · rw [q0]; exact Nat.zero_le _
  · have e : pMul (pDiv a b) b = pSub a (pMod a b) := ev_inj (can_pMul _ _) (can_pSub _ _) fun x => by
      rw [ev_pMul, ev_pSub]
      have := he x
      grind
    have h1 := len_pMul cq hb q0 h0
    have h2 := len_pSub a (pMod a b)
    rw [e] at h1
    have h3 := List.length_pos_iff.2 q0
    omega
theorem two_nine : ∀ d : Nat, 2 ^ (d + 3) + 1 ≤ 9 ^ (d + 1)
  | 0 => by decide
  | d + 1 => by
    have h := two_nine d
    have e1 : 2 ^ (d + 1 + 3) = 2 ^ (d + 3) * 2 := Nat.pow_succ ..
    have e2 : 9 ^ (d + 1 + 1) = 9 ^ (d + 1) * 9 := Nat.pow_succ ..
    omega
theorem gc_sz {K : Nat} (hK : K ≤ 5000000000) : ∀ (n : Nat) (a b : List Rat) (s t S : Nat), Can a → Can b → b.length < a.length → b.length < n → a.length ≤ 1000 → PB a s → PB b t → s + 2 * t + 1 ≤ S → (b ≠ [] → 9 ^ (a.length - 1) * S ≤ K) → s ≤ K → 2 ^ (a.length + 1) * (s + 3) ≤ 5000000000 →
    GcOk n a b ∧ PB (pG a b) K
  | 0, a, b, _, _, _, _, _, _, hn, _, _, _, _, _, _, _ => by omega
  | n + 1, a, b, s, t, S, ca, cb, hab, hn, la, pa, pb, hS, hP, hsK, hA => by
    by_cases b0 : b = []
    · subst b0
      refine ⟨⟨⟨⟨ca, cb⟩, by simp only [List.length_nil]; omega, s, 1, ⟨pa, PB_nil (Nat.le_refl _)⟩, ?_⟩, ?_⟩, ?_⟩
      · rw [show a.length - ([] : List Rat).length + 1 = a.length + 1 from rfl, show s + 2 * 1 + 1 = s + 3 from by omega]
        exact hA
      · rw [if_pos rfl]
        exact ⟨s, pa, by omega⟩
      · rw [pG_nil]; exact pa.mono hsK
    · have hbl := List.length_pos_iff.2 b0
      have hP' := hP b0
      obtain ⟨⟨cq, cr⟩, hrl, _⟩ := dm_ok ca cb b0
      obtain ⟨pq, pr⟩ := div_PB ca cb b0 pa pb hS
      have p1 := pa.pos
      have p2 := pb.pos
      obtain ⟨d, hd⟩ : ∃ d, a.length = d + 2 := ⟨a.length - 2, by omega⟩
      obtain ⟨f, hf⟩ : ∃ f, a.length - b.length = f + 1 := ⟨a.length - b.length - 1, by omega⟩
      have t1 := two_nine d
      have t2 := two_nine f
      have e1 : 2 ^ a.length ≤ 9 ^ (a.length - 1) := by
        rw [hd, show d + 2 - 1 = d + 1 from by omega]
        have : 2 ^ (d + 3) = 2 ^ (d + 2) * 2 := Nat.pow_succ ..
        omega
      have m1 : 2 ^ a.length * S ≤ K := Nat.le_trans (Nat.mul_le_mul_right S e1) hP'
      have SK : S ≤ K := Nat.le_trans (Nat.le_mul_of_pos_left S (Nat.two_pow_pos _)) m1
      have dv : DvOk a b := ⟨⟨ca, cb⟩, by omega, s, t, ⟨pa, pb⟩, by
        refine Nat.le_trans (Nat.mul_le_mul (Nat.pow_le_pow_right (by decide) (show a.length - b.length + 1 ≤ a.length by omega)) hS) ?_
        omega⟩
      have key := gc_sz hK n b (pMod a b) t (2 ^ (a.length - b.length + 1) * S) (9 ^ (a.length - b.length) * S) cb cr hrl (by omega) (by omega) pb pr (by
          rw [hf]
          have h1 : 2 ^ (f + 3) * S + S ≤ 9 ^ (f + 1) * S := by
            have := Nat.mul_le_mul_right S t2
            rw [Nat.add_mul] at this; omega
          have h2 : 2 * (2 ^ (f + 1 + 1) * S) = 2 ^ (f + 3) * S := by
            rw [← Nat.mul_assoc, show f + 3 = f + 1 + 1 + 1 from rfl, Nat.pow_succ 2 (f + 1 + 1), Nat.mul_comm 2]
          omega) (fun _ => by
          rw [← Nat.mul_assoc, ← Nat.pow_add, show b.length - 1 + (a.length - b.length) = a.length - 1 from by omega]
          exact hP') (by omega) (by
          refine Nat.le_trans (Nat.mul_le_mul (Nat.pow_le_pow_right (by decide) (show b.length + 1 ≤ a.length by omega)) (show t + 3 ≤ S by omega)) ?_
          omega)
      exact ⟨⟨dv, by rw [if_neg b0]; exact key.1⟩, by rw [pG_step ca cb b0]; exact key.2⟩
theorem gc_start {N s : Nat} {a b : List Rat} (ha : Sz a N s) (hb : Sz b N s) (h1 : (1 ≤ N ∧ N ≤ 999) ∧ 5 * 9 ^ (N - 1) * (3 * s + 1) ≤ 5000000000 ∧ 2 ^ (N + 1) * (s + 3) ≤ 5000000000) : GcOk (b.length + 2) a b ∧ PB (pG a b) (5 * 9 ^ (N - 1) * (3 * s + 1)) := by
  obtain ⟨⟨n1, n2⟩, h1, h2⟩ := h1
  have s1 := ha.pb.pos
  have l1 := ha.len
  have l2 := hb.len
  obtain ⟨K, eK⟩ : ∃ K, 5 * 9 ^ (N - 1) * (3 * s + 1) = K := ⟨_, rfl⟩
  have hS : 3 * s + 1 ≤ K := by
    rw [← eK]
    exact Nat.le_mul_of_pos_left _ (Nat.mul_pos (by decide) (Nat.pow_pos (by decide)))
  rw [eK] at h1 ⊢
  have hA : ∀ m, m ≤ N → 2 ^ (m + 1) * (s + 3) ≤ 5000000000 := fun m hm => Nat.le_trans (Nat.mul_le_mul_right _ (Nat.pow_le_pow_right (by decide) (by omega))) h2
  by_cases b0 : b = []
  · subst b0
    refine ⟨⟨⟨⟨ha.can, hb.can⟩, by simp only [List.length_nil]; omega, s, 1, ⟨ha.pb, PB_nil (Nat.le_refl _)⟩, ?_⟩, ?_⟩, ?_⟩
    · rw [show a.length - ([] : List Rat).length + 1 = a.length + 1 from rfl, show s + 2 * 1 + 1 = s + 3 from by omega]
      exact hA _ l1
    · rw [if_pos rfl]
      exact ⟨s, ha.pb, by omega⟩
    · rw [pG_nil]; exact ha.pb.mono (by omega)
  · have hbl := List.length_pos_iff.2 b0
    obtain ⟨⟨cq, cr⟩, hrl, _⟩ := dm_ok ha.can hb.can b0
    obtain ⟨pq, pr⟩ := div_PB (S := 3 * s + 1) ha.can hb.can b0 ha.pb hb.pb (by omega)
    have pw : ∀ m, m ≤ N - 1 → 5 * 9 ^ m * (3 * s + 1) ≤ K := fun m hm => by
      rw [← eK]
      exact Nat.mul_le_mul_right _ (Nat.mul_le_mul_left _ (Nat.pow_le_pow_right (by decide) hm))
    have f5 : 2 ^ (a.length - b.length + 2) + 1 ≤ 5 * 9 ^ (a.length - b.length) := by
      rcases hδ : a.length - b.length with _ | d
      · decide
      · have := two_nine d
        rw [show d + 1 + 2 = d + 3 from rfl]
        omega
    have dv : DvOk a b := ⟨⟨ha.can, hb.can⟩, by omega, s, s, ⟨ha.pb, hb.pb⟩, by
      have h3 := pw (a.length - b.length) (by omega)
      have h4 := Nat.mul_le_mul_right (3 * s + 1) f5
      have h5 : 2 ^ (a.length - b.length + 2) = 2 ^ (a.length - b.length + 1) * 2 := Nat.pow_succ ..
      have h6 : 2 ^ (a.length - b.length + 1) * (3 * s + 1) ≤ (2 ^ (a.length - b.length + 2) + 1) * (3 * s + 1) := Nat.mul_le_mul_right _ (by omega)
      rw [show s + 2 * s + 1 = 3 * s + 1 from by omega]
      omega⟩
    have key := gc_sz h1 (b.length + 1) b (pMod a b) s (2 ^ (a.length - b.length + 1) * (3 * s + 1)) (5 * 9 ^ (a.length - b.length) * (3 * s + 1)) hb.can cr hrl (by omega) (by omega) hb.pb pr (by
        have h4 := Nat.mul_le_mul_right (3 * s + 1) f5
        rw [Nat.add_mul] at h4
        have h5 : 2 * (2 ^ (a.length - b.length + 1) * (3 * s + 1)) = 2 ^ (a.length - b.length + 2) * (3 * s + 1) := by
          rw [← Nat.mul_assoc, Nat.pow_succ 2 (a.length - b.length + 1), Nat.mul_comm 2]
        omega) (fun _ => by
        have e : 9 ^ (b.length - 1) * (5 * 9 ^ (a.length - b.length) * (3 * s + 1)) = 5 * 9 ^ (b.length - 1 + (a.length - b.length)) * (3 * s + 1) := by
          rw [Nat.pow_add, ← Nat.mul_assoc, ← Nat.mul_assoc, Nat.mul_comm (9 ^ (b.length - 1)) 5, Nat.mul_assoc 5]
        rw [e]
        exact pw _ (by omega)) (by omega) (hA _ l2)
    exact ⟨⟨dv, by rw [if_neg b0]; exact key.1⟩, by rw [pG_step ha.can hb.can b0]; exact key.2⟩
theorem tw {d S : Nat} (h1 : 1 ≤ d) (h8 : d ≤ 8) (h4 : 4 ≤ S) : (d + 1) * (2 ^ (d + 1) * S + S + 1) + S + 2 ≤ 12 ^ d * S ∧ S + 2 * (2 ^ (d + 1) * S) ≤ 12 ^ d * S := by
  have h : d = 1 ∨ d = 2 ∨ d = 3 ∨ d = 4 ∨ d = 5 ∨ d = 6 ∨ d = 7 ∨ d = 8 := by omega
  rcases h with rfl | rfl | rfl | rfl | rfl | rfl | rfl | rfl
  · show 2 * (4 * S + S + 1) + S + 2 ≤ 12 * S ∧ S + 2 * (4 * S) ≤ 12 * S; omega
  · show 3 * (8 * S + S + 1) + S + 2 ≤ 144 * S ∧ S + 2 * (8 * S) ≤ 144 * S; omega
  · show 4 * (16 * S + S + 1) + S + 2 ≤ 1728 * S ∧ S + 2 * (16 * S) ≤ 1728 * S; omega
  · show 5 * (32 * S + S + 1) + S + 2 ≤ 20736 * S ∧ S + 2 * (32 * S) ≤ 20736 * S; omega
  · show 6 * (64 * S + S + 1) + S + 2 ≤ 248832 * S ∧ S + 2 * (64 * S) ≤ 248832 * S; omega
  · show 7 * (128 * S + S + 1) + S + 2 ≤ 2985984 * S ∧ S + 2 * (128 * S) ≤ 2985984 * S; omega
  · show 8 * (256 * S + S + 1) + S + 2 ≤ 35831808 * S ∧ S + 2 * (256 * S) ≤ 35831808 * S; omega
  · show 9 * (512 * S + S + 1) + S + 2 ≤ 429981696 * S ∧ S + 2 * (512 * S) ≤ 429981696 * S; omega
/-- One step of the cofactors. -/
theorem co_step {q s u : List Rat} {Q S N : Nat} (hq : PB q Q) (lq : q.length ≤ N) (hs : PB s S) (hu : PB u S) : PB (pSub s (pMul q u)) (N * (Q + S + 1) + S + 2) := fun i => by
  rw [cf_pSub]
  unfold pMul
  rw [cf_tr]
  have h1 := qs_sub (cf s i) (cf (mulL q u) i)
  have h2 := mulL_PB hu hq i
  have h3 := Nat.mul_le_mul_right (Q + S + 1) lq
  have := hs i
  omega
theorem co_ls {q s u : List Rat} {Q S N : Nat} (hq : PB q Q) (lq : q.length ≤ N) (hs : PB s S) (hu : PB u S) (h : N * (Q + S + 1) ≤ 9999999999 ∧ S ≤ 10000000000) (hl : (N ≤ 1000 ∧ s.length ≤ 1000) ∧ u.length ≤ 1000) : LsOk q s u :=
  ⟨⟨⟨by omega, by omega⟩, Q, S, ⟨hq, hu⟩, Nat.le_trans (Nat.mul_le_mul_right _ lq) h.1⟩, hs.mono h.2⟩
theorem co_len {q s u : List Rat} {N M : Nat} (lq : q.length ≤ N) (hs : s.length ≤ M) (hu : u.length ≤ M) : (pSub s (pMul q u)).length ≤ M + N := by
  have h1 := len_pSub s (pMul q u)
  have h2 := len_pMul_le q u
  omega
theorem ex_sz {K L : Nat} (hK : K ≤ 999999999) (hL : L ≤ 1000) : ∀ (n : Nat) (a b s u t v : List Rat) (x y S M : Nat), Can a → Can b → b.length < a.length → b.length < n → a.length ≤ 9 → PB a x → PB b y → x + 2 * y + 1 ≤ S → (PB s S ∧ PB u S ∧ PB t S ∧ PB v S) →
    (s.length ≤ M ∧ u.length ≤ M ∧ t.length ≤ M ∧ v.length ≤ M) → M + 9 * b.length ≤ L → 12 ^ (a.length - 1) * S ≤ K →
    ExOk n a b s u t v ∧ (PB (exF n a b s u t v).2.1 K ∧ (exF n a b s u t v).2.1.length ≤ L) ∧ PB (exF n a b s u t v).2.2 K ∧ (exF n a b s u t v).2.2.length ≤ L
  | 0, a, b, _, _, _, _, _, _, _, _, _, _, _, hn, _, _, _, _, _, _, _, _ => by omega
  | n + 1, a, b, s, u, t, v, x, y, S, M, ca, cb, hab, hn, la, pa, pb, hS, ⟨ps, pu, pt, pv⟩, ⟨ls, lu, lt, lv⟩, hM, hP => by
    have p1 := pa.pos
    have p2 := pb.pos
    have SK : S ≤ K := Nat.le_trans (Nat.le_mul_of_pos_left S (Nat.pow_pos (by decide))) hP
    by_cases b0 : b = []
    · subst b0
      have e : exF (n + 1) a [] s u t v = (a, s, t) := if_pos rfl
      rw [e]
      refine ⟨⟨⟨ca, cb⟩, ⟨by omega, by simp⟩, ?_⟩, ⟨ps.mono SK, by show s.length ≤ L; omega⟩, pt.mono SK, by show t.length ≤ L; omega⟩
      rw [if_pos rfl]
      exact ⟨K, ⟨pa.mono (by omega), by omega⟩, ⟨by omega, ps.mono (by omega)⟩, by omega, pt.mono (by omega)⟩
    · have hbl := List.length_pos_iff.2 b0
      have e : exF (n + 1) a b s u t v = exF n b (pMod a b) u (pSub s (pMul (pDiv a b) u)) v (pSub t (pMul (pDiv a b) v)) := if_neg b0
      rw [e]
      obtain ⟨⟨cq, cr⟩, hrl, _⟩ := dm_ok ca cb b0
      obtain ⟨pq, pr⟩ := div_PB ca cb b0 pa pb hS
      have lq := div_len ca cb b0
      obtain ⟨w1, w2⟩ := tw (d := a.length - b.length) (S := S) (by omega) (by omega) (by omega)
      have hP' : 12 ^ (b.length - 1) * (12 ^ (a.length - b.length) * S) ≤ K := by
        rw [← Nat.mul_assoc, ← Nat.pow_add, show b.length - 1 + (a.length - b.length) = a.length - 1 from by omega]
        exact hP
      have hq' : 12 ^ (a.length - b.length) * S ≤ K := Nat.le_trans (Nat.le_mul_of_pos_left _ (Nat.pow_pos (by decide))) hP'
      generalize 12 ^ (a.length - b.length) * S = S' at w1 w2 hP' hq'
      generalize hQ : 2 ^ (a.length - b.length + 1) * S = Q at pq pr w1 w2
      have hb' : (a.length - b.length + 1) * (Q + S + 1) ≤ 9999999999 ∧ S ≤ 10000000000 := ⟨by omega, by omega⟩
      have n9 : a.length - b.length + 1 ≤ 9 := by omega
      have l1 : LsOk (pDiv a b) a b := co_ls pq lq (pa.mono (by omega)) (pb.mono (by omega)) hb' ⟨⟨by omega, by omega⟩, by omega⟩
      have l2 : LsOk (pDiv a b) s u := co_ls pq lq ps pu hb' ⟨⟨by omega, by omega⟩, by omega⟩
      have l3 : LsOk (pDiv a b) t v := co_ls pq lq pt pv hb' ⟨⟨by omega, by omega⟩, by omega⟩
      have c1 := (co_step pq lq ps pu).mono w1
      have c2 := (co_step pq lq pt pv).mono w1
      have m1 := co_len lq ls lu
      have m2 := co_len lq lt lv
      have dv : DvOk a b := ⟨⟨ca, cb⟩, by omega, x, y, ⟨pa, pb⟩, by
        refine Nat.le_trans (Nat.mul_le_mul_left _ hS) ?_
        rw [hQ]
        omega⟩
      have key := ex_sz hK hL n b (pMod a b) u (pSub s (pMul (pDiv a b) u)) v (pSub t (pMul (pDiv a b) v)) y Q S' (M + 9) cb cr hrl (by omega) (by omega) pb pr (by omega) ⟨pu.mono (by omega), c1, pv.mono (by omega), c2⟩ ⟨by omega, by omega, by omega, by omega⟩ (by omega) hP'
      refine ⟨⟨⟨ca, cb⟩, ⟨by omega, by omega⟩, ?_⟩, key.2⟩
      rw [if_neg b0]
      exact ⟨dv, ⟨l1, l2, l3⟩, key.1⟩
theorem ex_start {a b : List Rat} (ha : Sz a 5 1) (hb : Sz b 5 1) : (∃ n, ExOk n a b [1] [] [] [1]) ∧ (PB (pX a b).2.1 414720 ∧ (pX a b).2.1.length ≤ 60) ∧ PB (pX a b).2.2 414720 ∧ (pX a b).2.2.length ≤ 60 := by
  have la := ha.len
  have lb := hb.len
  have one : PB [1] 1 := PB_cons qs_1 (PB_nil (Nat.le_refl _))
  have nil1 : PB [] 1 := PB_nil (Nat.le_refl _)
  unfold pX
  by_cases b0 : b = []
  · subst b0
    have e : exF (([] : List Rat).length + 1) a [] [1] [] [] [1] = (a, [1], []) := if_pos rfl
    rw [e]
    refine ⟨⟨1, ⟨ha.can, hb.can⟩, ⟨by omega, by simp⟩, ?_⟩, ⟨one.mono (by decide), (show (1 : Nat) ≤ 60 by decide)⟩, nil1.mono (by decide), (show (0 : Nat) ≤ 60 by decide)⟩
    rw [if_pos rfl]
    exact ⟨1, ⟨ha.pb, by decide⟩, ⟨by decide, one.mono (by decide)⟩, by decide, nil1.mono (by decide)⟩
  · have hbl := List.length_pos_iff.2 b0
    have e : exF (b.length + 1) a b [1] [] [] [1] = exF b.length b (pMod a b) [] (pSub [1] (pMul (pDiv a b) [])) [1] (pSub [] (pMul (pDiv a b) [1])) := if_neg b0
    rw [e]
    obtain ⟨⟨cq, cr⟩, hrl, _⟩ := dm_ok ha.can hb.can b0
    obtain ⟨pq, pr⟩ := div_PB (S := 4) ha.can hb.can b0 ha.pb hb.pb (by decide)
    have lq := div_len ha.can hb.can b0
    have hd : a.length - b.length ≤ 4 := by omega
    have hx : a.length - b.length + (b.length - 1) ≤ 4 := by omega
    have hdv : 2 ^ (a.length - b.length + 1) * (1 + 2 * 1 + 1) ≤ 5000000000 := Nat.le_trans (Nat.mul_le_mul_right _ (Nat.pow_le_pow_right (by decide) (show a.length - b.length + 1 ≤ 5 by omega))) (by decide)
    have hP : 12 ^ (b.length - 1) * (20 * 12 ^ (a.length - b.length)) ≤ 414720 := by
      have e2 : 12 ^ (b.length - 1) * (20 * 12 ^ (a.length - b.length)) = 20 * 12 ^ (a.length - b.length + (b.length - 1)) := by
        rw [Nat.pow_add, Nat.mul_left_comm, Nat.mul_comm (12 ^ (b.length - 1)) (12 ^ (a.length - b.length))]
      rw [e2]
      exact Nat.le_trans (Nat.mul_le_mul_left 20 (Nat.pow_le_pow_right (by decide) hx)) (by decide)
    have w : (a.length - b.length + 1) * (2 ^ (a.length - b.length + 1) * 4 + 1 + 1) + 1 + 2 ≤ 20 * 12 ^ (a.length - b.length) ∧ 1 + 2 * (2 ^ (a.length - b.length + 1) * 4) + 1 ≤ 20 * 12 ^ (a.length - b.length) ∧ 1 ≤ 20 * 12 ^ (a.length - b.length) := by
      generalize a.length - b.length = d at hd
      have h : d = 0 ∨ d = 1 ∨ d = 2 ∨ d = 3 ∨ d = 4 := by omega
      rcases h with rfl | rfl | rfl | rfl | rfl <;> decide
    have hb' : (a.length - b.length + 1) * (2 ^ (a.length - b.length + 1) * 4 + 1 + 1) ≤ 9999999999 ∧ 1 ≤ 10000000000 := ⟨by
      refine Nat.le_trans (Nat.mul_le_mul (show a.length - b.length + 1 ≤ 5 by omega) (Nat.add_le_add_right (Nat.add_le_add_right (Nat.mul_le_mul_right 4 (Nat.pow_le_pow_right (by decide) (show a.length - b.length + 1 ≤ 5 by omega))) 1) 1)) (by decide), by decide⟩
    have c1 := co_step pq lq one nil1
    have c2 := co_step pq lq nil1 one
    have l1 : LsOk (pDiv a b) a b := co_ls pq lq ha.pb hb.pb hb' ⟨⟨by omega, by omega⟩, by omega⟩
    have l2 : LsOk (pDiv a b) [1] [] := co_ls pq lq one nil1 hb' ⟨⟨by omega, by decide⟩, by decide⟩
    have l3 : LsOk (pDiv a b) [] [1] := co_ls pq lq nil1 one hb' ⟨⟨by omega, by decide⟩, by decide⟩
    have m1 := co_len (s := [1]) (u := []) (M := 1) lq (by decide) (by decide)
    have m2 := co_len (s := []) (u := [1]) (M := 1) lq (by decide) (by decide)
    have key := ex_sz (K := 414720) (L := 60) (by decide) (by decide) b.length b (pMod a b) [] (pSub [1] (pMul (pDiv a b) [])) [1] (pSub [] (pMul (pDiv a b) [1])) 1 _ (20 * 12 ^ (a.length - b.length)) 10 hb.can cr hrl hrl (by omega) hb.pb pr w.2.1
      ⟨nil1.mono w.2.2, c1.mono w.1, one.mono w.2.2, c2.mono w.1⟩ ⟨by decide, by omega, by decide, by omega⟩ (by omega) hP
    refine ⟨⟨b.length + 1, ⟨ha.can, hb.can⟩, ⟨by omega, by omega⟩, ?_⟩, key.2⟩
    rw [if_neg b0]
    exact ⟨⟨⟨ha.can, hb.can⟩, by omega, 1, 1, ⟨ha.pb, hb.pb⟩, hdv⟩, ⟨l1, l2, l3⟩, key.1⟩
end Go.Proofs.YtfbogelmgdojgaaGreat

/- The law of division: quotients, remainders and common divisors of polynomials. -/
namespace Go.Proofs.YtfbogelmgdojgaaGreat
set_option linter.unusedSimpArgs false
set_option linter.unusedVariables false
open Go.RowKit

/-- How large a number is. -/
def mag (q : Rat) : Nat := max q.num.natAbs q.den
theorem mag_pos (q : Rat) : 1 ≤ mag q := Nat.le_trans q.den_pos (Nat.le_max_right _ _)
theorem mag_divInt (n d : Int) (hd : d ≠ 0) : mag (Rat.divInt n d) ≤ max n.natAbs d.natAbs := by
  unfold mag
  rw [Rat.num_divInt, Rat.den_divInt, if_neg hd]
  have h1 : (d.sign * n / (Int.gcd d n : Nat)).natAbs ≤ n.natAbs := by
    refine Nat.le_trans (Int.natAbs_ediv_le_natAbs _ _) ?_
    rw [Int.natAbs_mul]
    have : d.sign.natAbs ≤ 1 := by rw [Int.natAbs_sign]; split <;> omega
    exact Nat.le_trans (Nat.mul_le_mul_right _ this) (by omega)
  have h2 : d.natAbs / Int.gcd d n ≤ d.natAbs := Nat.div_le_self _ _
  omega
theorem mag_mul (a b : Rat) : mag (a * b) ≤ mag a * mag b := by
  rw [← mul_dI]
  have hd : ((a.den : Int) * b.den) ≠ 0 := by
    have h1 := a.den_pos
    have h2 := b.den_pos
    exact Int.mul_ne_zero (by omega) (by omega)
  refine Nat.le_trans (mag_divInt _ _ hd) ?_
  rw [Int.natAbs_mul, Int.natAbs_mul, Int.natAbs_natCast, Int.natAbs_natCast]
  exact Nat.max_le.2 ⟨Nat.mul_le_mul (Nat.le_max_left _ _) (Nat.le_max_left _ _), Nat.mul_le_mul (Nat.le_max_right _ _) (Nat.le_max_right _ _)⟩
theorem mag_add (a b : Rat) : mag (a + b) ≤ 2 * (mag a * mag b) := by
  rw [← add_dI]
  have hd : ((a.den : Int) * b.den) ≠ 0 := by
    have h1 := a.den_pos
    have h2 := b.den_pos
    exact Int.mul_ne_zero (by omega) (by omega)
  refine Nat.le_trans (mag_divInt _ _ hd) ?_
  have h1 : a.num.natAbs * b.den ≤ mag a * mag b := Nat.mul_le_mul (Nat.le_max_left _ _) (Nat.le_max_right _ _)
  have h2 : b.num.natAbs * a.den ≤ mag a * mag b := by rw [Nat.mul_comm]; exact Nat.mul_le_mul (Nat.le_max_right _ _) (Nat.le_max_left _ _)
  have h3 : a.den * b.den ≤ mag a * mag b := Nat.mul_le_mul (Nat.le_max_right _ _) (Nat.le_max_right _ _)
  have h4 : (a.num * (b.den : Int) + b.num * (a.den : Int)).natAbs ≤ a.num.natAbs * b.den + b.num.natAbs * a.den := by
    refine Nat.le_trans (Int.natAbs_add_le _ _) ?_
    rw [Int.natAbs_mul, Int.natAbs_mul, Int.natAbs_natCast, Int.natAbs_natCast]
    exact Nat.le_refl _
  have h5 : ((a.den : Int) * (b.den : Int)).natAbs = a.den * b.den := by rw [Int.natAbs_mul, Int.natAbs_natCast, Int.natAbs_natCast]
  omega
def MB (l : List Rat) (k : Nat) : Prop := ∀ i, mag (cf l i) ≤ k
theorem MB_mulL {b : List Rat} {j k : Nat} (hb : MB b k) : ∀ {a : List Rat}, MB a j → MB (mulL a b) ((2 * (j * k)) ^ a.length)
  | [], _ => fun i => by
    show mag 0 ≤ 1
    decide
  | x :: a, ha => fun i => by
    have ih := MB_mulL hb (a := a) (j := j) fun i => ha (i + 1)
    have hx : mag x ≤ j := ha 0
    rw [cf_mulL_cons]
    have h1 := mag_add (x * cf b i) (if i = 0 then 0 else cf (mulL a b) (i - 1))
    have h2 : mag (x * cf b i) ≤ j * k := Nat.le_trans (mag_mul _ _) (Nat.mul_le_mul hx (hb i))
    have p : 1 ≤ 2 * (j * k) := by
      have := mag_pos (x * cf b i)
      omega
    have h3 : mag (if i = 0 then 0 else cf (mulL a b) (i - 1)) ≤ (2 * (j * k)) ^ a.length := by
      split
      · exact Nat.le_trans (show mag 0 ≤ 1 by decide) (Nat.pow_pos p)
      · exact ih _
    have h4 := Nat.mul_le_mul h2 h3
    rw [List.length_cons, Nat.pow_succ]
    have e : (2 * (j * k)) ^ a.length * (2 * (j * k)) = 2 * (j * k * (2 * (j * k)) ^ a.length) := by
      rw [Nat.mul_comm, Nat.mul_assoc]
    rw [e]
    exact Nat.le_trans h1 (Nat.mul_le_mul_left 2 h4)
theorem mag_qs {q : Rat} (h : mag q < 18446744073709551616) : qs q ≤ 2 := by
  have h1 : q.num.natAbs ≤ mag q := Nat.le_max_left _ _
  have h2 : q.den ≤ mag q := Nat.le_max_right _ _
  have e : (4294967296 : Nat) ^ 2 = 18446744073709551616 := by decide
  exact Nat.max_le.2 ⟨dl_le.2 (by rw [e]; omega), dl_le.2 (by rw [e]; omega)⟩
theorem mag_mdQ {n d : Int} (hn : B8 n) (hd : B8 d) : mag (mdQ n d) ≤ 128 := by
  unfold mdQ
  obtain ⟨h1, h2⟩ := hn
  obtain ⟨h3, h4⟩ := hd
  refine Nat.le_trans (mag_divInt _ _ (by split <;> omega)) ?_
  split <;> omega
theorem psL_MB {l : List (Int × Int)} (h : P8 l) (n : Int) : MB (psL l n) 128 := fun i => by
  unfold psL
  rw [cf_tr, cf_rg]
  split
  · have := B8.get2 h.2 i
    exact mag_mdQ this.1 this.2
  · decide
/-- The product with a list of three coefficients. -/
theorem three_sz {a c : List Rat} (ha : Sz a 5 1) (hc : Sz c 3 1) (ma : MB a 128) (mc : MB c 128) : Sz (pMul a c) 7 2 := by
  have h := ha.mul hc
  refine ⟨h.len, fun i => ?_, h.can⟩
  have e : pMul a c = pMul c a := ev_inj (can_pMul _ _) (can_pMul _ _) fun x => by rw [ev_pMul, ev_pMul]; grind
  rw [e]
  unfold pMul
  rw [cf_tr]
  have h1 := MB_mulL ma mc i
  have h2 : (2 * (128 * 128)) ^ c.length ≤ (2 * (128 * 128)) ^ 3 := Nat.pow_le_pow_right (by decide) hc.len
  have h3 : (2 * (128 * 128)) ^ 3 = 35184372088832 := by decide
  exact mag_qs (by omega)
theorem pG_len {a b : List Rat} {n : Nat} (ha : Can a) (hb : Can b) (la : a.length ≤ n) (lb : b.length ≤ n) : (pG a b).length ≤ n := by
  obtain ⟨h1, h2⟩ := pG_dvd ha hb
  have hc := can_pG ha hb
  by_cases a0 : a = []
  · by_cases b0 : b = []
    · rw [(pG_eq_nil ha hb).2 ⟨a0, b0⟩]; exact Nat.zero_le _
    · exact Nat.le_trans (dvd_len hb hc h2 b0).1 lb
  · exact Nat.le_trans (dvd_len ha hc h1 a0).1 la
theorem Sz.monic {a : List Rat} {n k : Nat} (ha : Sz a n k) : Sz (pMonic a) n (2 * k + 1) := ⟨by rw [len_pMonic ha.can]; exact ha.len, fun i => by
  unfold pMonic
  split
  · exact Nat.le_trans qs_0 (by omega)
  · rw [cf_pSc]
    have h1 := qs_mul (1 / lead a) (cf a i)
    have h2 := qs_inv1 (lead a) (ha.pb (a.length - 1))
    have := ha.pb i
    omega, can_pMonic a⟩
theorem dvd_monic {a g : List Rat} (hg : Can g) (h : pDvd g a) : pDvd (pMonic g) a := by
  by_cases g0 : g = []
  · subst g0; exact h
  · obtain ⟨q, hq, he⟩ := h
    refine ⟨pSc (lead g) q, can_pSc _ _, fun x => ?_⟩
    rw [he x, ev_pSc, ev_pMonic g0]
    have := lead_ne hg g0
    grind
theorem ext_sz {a b : List Rat} (ha : Sz a 5 1) (hb : Sz b 5 1) : (∃ n, ExOk n a b [1] [] [] [1]) ∧ Sz (pGcd a b) 5 262441 ∧ Sz (pExt a b).2.1 60 545941 ∧ Sz (pExt a b).2.2 60 545941 := by
  obtain ⟨h1, ⟨h2, h3⟩, h4, h5⟩ := ex_start ha hb
  obtain ⟨g1, g2⟩ := gc_start ha hb (by decide)
  obtain ⟨e1, ⟨c1, c2⟩, _⟩ := pExt_ok ha.can hb.can
  obtain ⟨x1, _⟩ := pX_ok ha.can hb.can
  have sG : Sz (pG a b) 5 131220 := ⟨pG_len ha.can hb.can ha.len hb.len, g2, can_pG ha.can hb.can⟩
  refine ⟨h1, sG.monic, ?_⟩
  have hq : qs (1 / lead (pX a b).1) ≤ 131221 := by
    rw [x1]
    exact qs_inv1 (lead (pG a b)) (sG.pb ((pG a b).length - 1))
  have gen : ∀ l : List Rat, PB l 414720 → PB (pSc (1 / lead (pX a b).1) l) 545941 := fun l hl i => by
    rw [cf_pSc]
    have := qs_mul (1 / lead (pX a b).1) (cf l i)
    have := hl i
    omega
  by_cases h : (pX a b).1 = []
  · have e : pExt a b = pX a b := by unfold pExt; exact if_pos h
    rw [e] at c1 c2 ⊢
    exact ⟨⟨h3, h2.mono (by decide), c1⟩, h5, h4.mono (by decide), c2⟩
  · have e : pExt a b = (pSc (1 / lead (pX a b).1) (pX a b).1, pSc (1 / lead (pX a b).1) (pX a b).2.1, pSc (1 / lead (pX a b).1) (pX a b).2.2) := by unfold pExt; exact if_neg h
    rw [e] at c1 c2 ⊢
    exact ⟨⟨Nat.le_trans (len_pSc _ _) h3, gen _ h2, c1⟩, Nat.le_trans (len_pSc _ _) h5, gen _ h4, c2⟩
theorem Sz.dv {a b : List Rat} {n m j k : Nat} (ha : Sz a n j) (hb : Sz b m k) (h : (n ≤ 100 ∧ m ≤ 100) ∧ 2 ^ (n + 1) * (j + 2 * k + 1) ≤ 5000000000 := by decide) : DvOk a b :=
  ⟨⟨ha.can, hb.can⟩, by have := ha.len; have := hb.len; omega, j, k, ⟨ha.pb, hb.pb⟩, Nat.le_trans (Nat.mul_le_mul_right _ (Nat.pow_le_pow_right (by decide) (by have := ha.len; omega))) h.2⟩
end Go.Proofs.YtfbogelmgdojgaaGreat

/- The law of division of polynomials. -/
namespace Go.Proofs.YtfbogelmgdojgaaGreat
set_option linter.unusedSimpArgs false
set_option linter.unusedVariables false
open Go.RowKit

theorem len0 (l : List Rat) : (0 : Int) < (l.length : Int) ↔ l ≠ [] := by
  cases l with
  | nil => simp
  | cons x l => simp
end Go.Proofs.YtfbogelmgdojgaaGreat
