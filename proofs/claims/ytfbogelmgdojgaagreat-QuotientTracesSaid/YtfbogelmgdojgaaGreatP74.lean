/- Texts SZ4 J3 in one. -/
import Derived.Test.YtfbogelmgdojgaaGreatP71
import Derived.Test.YtfbogelmgdojgaaGreatP61
/- Sizes along Euclid's algorithm, by computation over all lengths. No program in sight. -/
namespace Go.Proofs.YtfbogelmgdojgaaGreat
set_option linter.unusedSimpArgs false
set_option linter.unusedVariables false
open Go.RowKit

/-- The size of a remainder. -/
def rmB (la sa lb sb : Nat) : Nat := 2 ^ (la - lb + 1) * (sa + 2 * sb + 1) - (2 * sb + 1)
def dvC (la sa lb sb : Nat) : Bool := decide (la + lb ≤ 1000000) && decide (2 ^ (la - lb + 1) * (sa + 2 * sb + 1) ≤ 5000000000)
theorem dvC_ok {la sa lb sb : Nat} {a b : List Rat} (h : dvC la sa lb sb = true) (ha : Can a) (hb : Can b) (la' : a.length ≤ la) (lb' : b.length = lb) (pa : PB a sa) (pb : PB b sb) : DvOk a b := by
  simp only [dvC, Bool.and_eq_true, decide_eq_true_eq] at h
  subst lb'
  exact ⟨⟨ha, hb⟩, by omega, sa, sb, ⟨pa, pb⟩, Nat.le_trans (Nat.mul_le_mul_right _ (Nat.pow_le_pow_right (by decide) (by omega))) h.2⟩
theorem rm_PB {a b : List Rat} {sa sb : Nat} (ha : Can a) (hb : Can b) (b0 : b ≠ []) (pa : PB a sa) (pb : PB b sb) : PB (pMod a b) (rmB a.length sa b.length sb) := mod_PB ha hb b0 pa pb (Nat.le_refl _)
/-- Whether all lengths below a bound pass. -/
def allB : Nat → (Nat → Bool) → Bool
  | 0, _ => true
  | n + 1, f => f n && allB n f
theorem allB_ok : ∀ {n : Nat} {f : Nat → Bool}, allB n f = true → ∀ i, i < n → f i = true
  | n + 1, f, h, i, hi => by
    simp only [allB, Bool.and_eq_true] at h
    by_cases e : i = n
    · rw [e]; exact h.1
    · exact allB_ok h.2 i (by omega)
def gcC : Nat → Nat → Nat → Nat → Nat → Bool
  | 0, _, _, _, _ => false
  | n + 1, la, sa, lb, sb => (dvC la sa lb sb && decide (sa ≤ 5000000000)) && (if lb = 0 then true else if la < lb then gcC n lb sb la sa else allB lb fun l => gcC n lb sb l (rmB la sa lb sb))
def mxB : Nat → (Nat → Nat) → Nat
  | 0, _ => 0
  | n + 1, f => max (f n) (mxB n f)
theorem mxB_ok : ∀ {n : Nat} {f : Nat → Nat}, ∀ i, i < n → f i ≤ mxB n f
  | n + 1, f, i, hi => by
    simp only [mxB]
    by_cases e : i = n
    · rw [e]; omega
    · have := mxB_ok (f := f) i (show i < n by omega); omega
def gcM : Nat → Nat → Nat → Nat → Nat → Nat
  | 0, _, _, _, _ => 0
  | n + 1, la, sa, lb, sb => if lb = 0 then sa else if la < lb then gcM n lb sb la sa else mxB lb fun l => gcM n lb sb l (rmB la sa lb sb)
theorem gcC_ok : ∀ (n : Nat) {la sa lb sb : Nat} {a b : List Rat}, gcC n la sa lb sb = true → Can a → Can b → a.length = la → b.length = lb → PB a sa → PB b sb → GcOk n a b ∧ PB (pG a b) (gcM n la sa lb sb)
  | 0, _, _, _, _, _, _, h, _, _, _, _, _, _ => by cases h
  | n + 1, la, sa, lb, sb, a, b, h, ca, cb, e1, e2, pa, pb => by
    subst e1 e2
    simp only [gcC, Bool.and_eq_true, decide_eq_true_eq] at h
    obtain ⟨⟨h1, h2⟩, h3⟩ := h
    have dv := dvC_ok h1 ca cb (Nat.le_refl _) rfl pa pb
    by_cases b0 : b = []
    · subst b0
      exact ⟨⟨dv, by rw [if_pos rfl]; exact ⟨sa, pa, h2⟩⟩, by rw [pG_nil]; exact pa⟩
    · have hbl := List.length_pos_iff.2 b0
      rw [if_neg (by omega)] at h3
      unfold GcOk gcM
      rw [if_neg b0, if_neg (by omega), pG_step ca cb b0]
      by_cases hlt : a.length < b.length
      · rw [if_pos hlt] at h3 ⊢
        rw [(dm_small ca cb hlt).2]
        have := gcC_ok n h3 cb ca rfl rfl pb pa
        exact ⟨⟨dv, this.1⟩, this.2⟩
      · rw [if_neg hlt] at h3 ⊢
        obtain ⟨⟨_, cr⟩, hr, _⟩ := dm_ok ca cb b0
        have := gcC_ok n (allB_ok h3 _ hr) cb cr rfl rfl pb (rm_PB ca cb b0 pa pb)
        exact ⟨⟨dv, this.1⟩, this.2.mono (mxB_ok (f := fun l => gcM n b.length sb l (rmB a.length sa b.length sb)) _ hr)⟩
/-- The resultant. -/
def pwC (c n : Nat) : Bool := decide (n ≤ 1000000) && (decide (n * c + 1 ≤ 5000000000) && decide (c ≤ 5000000000))
theorem pwC_ok {c n m : Nat} {x : Rat} (h : pwC c n = true) (hx : qs x ≤ c) (hm : m ≤ n) : PwOk x m ∧ qs (x ^ m) ≤ n * c + 1 := by
  simp only [pwC, Bool.and_eq_true, decide_eq_true_eq] at h
  have h1 := Nat.mul_le_mul hm hx
  exact ⟨⟨by omega, by omega, by omega⟩, by have := qs_pow x m; omega⟩
def reC : Nat → Nat → Nat → Nat → Nat → Nat → Bool
  | 0, _, _, _, _, _ => false
  | n + 1, so, la, sa, lb, sb => (decide (la ≤ 1000000) && (decide (lb ≤ 1000000) && decide (so ≤ 5000000000))) &&
    (if la = 0 ∨ lb = 0 then true else if lb = 1 then pwC sb (la - 1) else if la = 1 then pwC sa (lb - 1) else
      if la < lb then reC n so lb sb la sa else dvC la sa lb sb && allB lb fun l => if l = 0 then true else pwC sb (la - l) && (decide (so + ((la - l) * sb + 1) ≤ 5000000000) && reC n (so + ((la - l) * sb + 1)) lb sb l (rmB la sa lb sb)))
theorem qs_sgm (m n : Nat) (x : Rat) : qs (sgm m n x) = qs x := by
  unfold sgm
  split
  · exact qs_neg x
  · rfl
theorem reC_ok : ∀ (n : Nat) {so la sa lb sb : Nat} {o : Rat} {a b : List Rat}, reC n so la sa lb sb = true → qs o ≤ so → Can a → Can b → a.length = la → b.length = lb → PB a sa → PB b sb → ReOk n o a b
  | 0, _, _, _, _, _, _, _, _, h, _, _, _, _, _, _, _ => by cases h
  | n + 1, so, la, sa, lb, sb, o, a, b, h, ho, ca, cb, e1, e2, pa, pb => by
    subst e1 e2
    simp only [reC, Bool.and_eq_true, decide_eq_true_eq] at h
    obtain ⟨⟨h1, h2, h3⟩, h4⟩ := h
    refine ⟨⟨ca, cb⟩, ⟨h1, h2⟩, by omega, ?_⟩
    have en : ∀ l : List Rat, l = [] ↔ l.length = 0 := fun l => ⟨fun e => by rw [e]; rfl, List.eq_nil_of_length_eq_zero⟩
    by_cases h0 : a = [] ∨ b = []
    · rw [if_pos h0]; trivial
    · rw [if_neg h0]
      rw [if_neg (by rw [← en, ← en]; exact h0)] at h4
      have a0 : a ≠ [] := fun e => h0 (.inl e)
      have b0 : b ≠ [] := fun e => h0 (.inr e)
      by_cases hb1 : b.length = 1
      · rw [if_pos hb1] at h4 ⊢
        exact (pwC_ok h4 (pb 0) (Nat.le_refl _)).1
      · rw [if_neg hb1] at h4 ⊢
        by_cases ha1 : a.length = 1
        · rw [if_pos ha1] at h4 ⊢
          exact (pwC_ok h4 (pa 0) (Nat.le_refl _)).1
        · rw [if_neg ha1] at h4 ⊢
          by_cases hlt : a.length < b.length
          · rw [if_pos hlt] at h4 ⊢
            exact reC_ok n h4 (by rw [qs_sgm]; exact ho) cb ca rfl rfl pb pa
          · rw [if_neg hlt] at h4 ⊢
            simp only [Bool.and_eq_true] at h4
            obtain ⟨⟨_, cr⟩, hr, _⟩ := dm_ok ca cb b0
            refine ⟨dvC_ok h4.1 ca cb (Nat.le_refl _) rfl pa pb, ?_⟩
            by_cases r0 : pMod a b = []
            · exact .inl r0
            · have h5 := allB_ok h4.2 _ hr
              rw [if_neg (by rw [← en]; exact r0)] at h5
              simp only [Bool.and_eq_true, decide_eq_true_eq] at h5
              obtain ⟨h5, h6, h7⟩ := h5
              obtain ⟨w1, w2⟩ := pwC_ok h5 (x := lead b) (pb _) (Nat.le_refl _)
              have w3 := qs_mul o (lead b ^ (a.length - (pMod a b).length))
              exact .inr ⟨w1, by omega, reC_ok n h7 (by rw [qs_sgm]; omega) cb cr rfl rfl pb (rm_PB ca cb b0 pa pb)⟩
/-- The cofactors: sizes and lengths of the last ones and of the ones before. -/
def exC : Nat → Nat → Nat → Nat → Nat → Nat → Nat → Nat → Nat → Bool
  | 0, _, _, _, _, _, _, _, _ => false
  | n + 1, la, sa, lb, sb, ls, ss, lu, su => (decide (la ≤ 1000) && (decide (lb ≤ 1000) && (decide (ls ≤ 1000) && (decide (lu ≤ 1000) && (decide (sa ≤ 1000000000) && decide (ss ≤ 5000000000)))))) &&
    (if lb = 0 then true else dvC la sa lb sb && (decide ((la - lb + 1) * (2 ^ (la - lb + 1) * (sa + 2 * sb + 1) + sb + 1) ≤ 9999999999) && (decide ((la - lb + 1) * (2 ^ (la - lb + 1) * (sa + 2 * sb + 1) + su + 1) ≤ 9999999999) &&
      (if la < lb then exC n lb sb la sa lu su (max ls lu) (ss + su + 1) else allB lb fun l => exC n lb sb l (rmB la sa lb sb) lu su (max ls (lu + (la - lb))) ((la - lb + 1) * (2 ^ (la - lb + 1) * (sa + 2 * sb + 1) + su + 1) + ss + 2)))))
def exM : Nat → Nat → Nat → Nat → Nat → Nat → Nat → Nat → Nat → Nat
  | 0, _, _, _, _, _, _, _, _ => 0
  | n + 1, la, sa, lb, sb, ls, ss, lu, su => if lb = 0 then ss else if la < lb then exM n lb sb la sa lu su (max ls lu) (ss + su + 1) else mxB lb fun l => exM n lb sb l (rmB la sa lb sb) lu su (max ls (lu + (la - lb))) ((la - lb + 1) * (2 ^ (la - lb + 1) * (sa + 2 * sb + 1) + su + 1) + ss + 2)
def exL : Nat → Nat → Nat → Nat → Nat → Nat
  | 0, _, _, _, _ => 0
  | n + 1, la, lb, ls, lu => if lb = 0 then ls else if la < lb then exL n lb la lu (max ls lu) else mxB lb fun l => exL n lb l lu (max ls (lu + (la - lb)))
theorem co_len2 {q s u : List Rat} {N L M : Nat} (lq : q.length ≤ N + 1) (hs : s.length ≤ L) (hu : u.length ≤ M) : (pSub s (pMul q u)).length ≤ max L (M + N) := by
  have h1 := len_pSub s (pMul q u)
  have h2 : (pMul q u).length ≤ M + N := by
    by_cases q0 : q = []
    · subst q0; exact Nat.zero_le _
    · by_cases u0 : u = []
      · subst u0
        rw [show pMul q [] = [] from ev_inj (can_pMul _ _) Can_nil fun x => by rw [ev_pMul]; show _ * 0 = (0 : Rat); grind]
        exact Nat.zero_le _
      · unfold pMul
        have e1 := tr_len (mulL q u)
        have e2 := List.length_pos_iff.2 u0
        have e3 := len_mulL q u u0
        rw [if_neg q0] at e3
        omega
  omega
theorem co_step2 {q s u : List Rat} {Q S U N : Nat} (hq : PB q Q) (lq : q.length ≤ N) (hs : PB s S) (hu : PB u U) : PB (pSub s (pMul q u)) (N * (Q + U + 1) + S + 2) := fun i => by
  rw [cf_pSub]
  unfold pMul
  rw [cf_tr]
  have h1 := qs_sub (cf s i) (cf (mulL q u) i)
  have h2 := mulL_PB hu hq i
  have h3 := Nat.mul_le_mul_right (Q + U + 1) lq
  have := hs i
  omega
theorem co_ls2 {q s u : List Rat} {Q S U N : Nat} (hq : PB q Q) (lq : q.length ≤ N) (hs : PB s S) (hu : PB u U) (h : N * (Q + U + 1) ≤ 9999999999 ∧ S ≤ 10000000000) (hl : (N ≤ 1000 ∧ s.length ≤ 1000) ∧ u.length ≤ 1000) : LsOk q s u :=
  ⟨⟨⟨by omega, by omega⟩, Q, U, ⟨hq, hu⟩, Nat.le_trans (Nat.mul_le_mul_right _ lq) h.1⟩, hs.mono h.2⟩
theorem exC_ok : ∀ (n : Nat) {la sa lb sb ls ss lu su : Nat} {a b s u t v : List Rat}, exC n la sa lb sb ls ss lu su = true → Can a → Can b → a.length = la → b.length = lb → PB a sa → PB b sb →
    (s.length ≤ ls ∧ t.length ≤ ls) → (u.length ≤ lu ∧ v.length ≤ lu) → (PB s ss ∧ PB t ss) → (PB u su ∧ PB v su) →
    ExOk n a b s u t v ∧ (PB (exF n a b s u t v).2.1 (exM n la sa lb sb ls ss lu su) ∧ (exF n a b s u t v).2.1.length ≤ exL n la lb ls lu) ∧ PB (exF n a b s u t v).2.2 (exM n la sa lb sb ls ss lu su) ∧ (exF n a b s u t v).2.2.length ≤ exL n la lb ls lu
  | 0, _, _, _, _, _, _, _, _, _, _, _, _, _, _, h, _, _, _, _, _, _, _, _, _, _ => by cases h
  | n + 1, la, sa, lb, sb, ls, ss, lu, su, a, b, s, u, t, v, h, ca, cb, e1, e2, pa, pb, ⟨l1, l2⟩, ⟨l3, l4⟩, ⟨p1, p2⟩, ⟨p3, p4⟩ => by
    subst e1 e2
    simp only [exC, Bool.and_eq_true, decide_eq_true_eq] at h
    obtain ⟨⟨g1, g2, g3, g4, g5, g6⟩, h⟩ := h
    by_cases b0 : b = []
    · subst b0
      have e : exF (n + 1) a [] s u t v = (a, s, t) := if_pos rfl
      rw [e]
      refine ⟨⟨⟨ca, cb⟩, ⟨by omega, by simp⟩, ?_⟩, ⟨p1, l1⟩, p2, l2⟩
      rw [if_pos rfl]
      exact ⟨sa, ⟨pa, g5⟩, ⟨by omega, p1.mono g6⟩, by omega, p2.mono g6⟩
    · have hbl := List.length_pos_iff.2 b0
      rw [if_neg (by omega)] at h
      simp only [Bool.and_eq_true, decide_eq_true_eq] at h
      obtain ⟨h1, h2, h3, h4⟩ := h
      have e : exF (n + 1) a b s u t v = exF n b (pMod a b) u (pSub s (pMul (pDiv a b) u)) v (pSub t (pMul (pDiv a b) v)) := if_neg b0
      rw [e]
      have dv := dvC_ok h1 ca cb (Nat.le_refl _) rfl pa pb
      obtain ⟨⟨cq, cr⟩, hr, _⟩ := dm_ok ca cb b0
      obtain ⟨pq, pr⟩ := div_PB (S := sa + 2 * sb + 1) ca cb b0 pa pb (Nat.le_refl _)
      have lq := div_len ca cb b0
      unfold ExOk exM exL
      generalize 2 ^ (a.length - b.length + 1) * (sa + 2 * sb + 1) = Q at *
      have hb0 : ¬ b.length = 0 := by omega
      rw [if_neg b0]
      simp only [if_neg hb0]
      have k1 : LsOk (pDiv a b) a b := co_ls2 pq lq pa pb ⟨h2, by omega⟩ ⟨⟨by omega, by omega⟩, by omega⟩
      have k2 : LsOk (pDiv a b) s u := co_ls2 pq lq p1 p3 ⟨h3, by omega⟩ ⟨⟨by omega, by omega⟩, by omega⟩
      have k3 : LsOk (pDiv a b) t v := co_ls2 pq lq p2 p4 ⟨h3, by omega⟩ ⟨⟨by omega, by omega⟩, by omega⟩
      by_cases hlt : a.length < b.length
      · rw [if_pos hlt] at h4
        simp only [if_pos hlt]
        obtain ⟨d1, d2⟩ := dm_small ca cb hlt
        have z : ∀ x y : List Rat, pSub x (pMul [] y) = tr x := fun x y => ev_inj (can_pSub _ _) (tr_can x) fun r => by
          rw [ev_pSub, show pMul [] y = [] from rfl, ev_tr]
          show ev x r - 0 = _
          grind
        have zl : ∀ x : List Rat, (tr x).length ≤ x.length := tr_len
        have zp : ∀ (x : List Rat) (k : Nat), PB x k → PB (tr x) k := fun x k hx i => by rw [cf_tr]; exact hx i
        rw [d1, d2, z, z]
        rw [d1] at k1 k2 k3
        have := exC_ok n h4 cb ca rfl rfl pb pa ⟨l3, l4⟩ ⟨Nat.le_trans (zl s) (by omega), Nat.le_trans (zl t) (by omega)⟩ ⟨p3, p4⟩ ⟨(zp s ss p1).mono (by omega), (zp t ss p2).mono (by omega)⟩
        exact ⟨⟨⟨ca, cb⟩, ⟨by omega, by omega⟩, dv, ⟨k1, k2, k3⟩, this.1⟩, this.2⟩
      · rw [if_neg hlt] at h4
        simp only [if_neg hlt]
        have := exC_ok n (allB_ok h4 _ hr) cb cr rfl rfl pb (rm_PB ca cb b0 pa pb) ⟨l3, l4⟩ ⟨co_len2 lq l1 l3, co_len2 lq l2 l4⟩ ⟨p3, p4⟩ ⟨co_step2 pq lq p1 p3, co_step2 pq lq p2 p4⟩
        have m1 := mxB_ok (f := fun l => exM n b.length sb l (rmB a.length sa b.length sb) lu su (max ls (lu + (a.length - b.length))) ((a.length - b.length + 1) * (Q + su + 1) + ss + 2)) _ hr
        have m2 := mxB_ok (f := fun l => exL n b.length l lu (max ls (lu + (a.length - b.length)))) _ hr
        exact ⟨⟨⟨ca, cb⟩, ⟨by omega, by omega⟩, dv, ⟨k1, k2, k3⟩, this.1⟩, ⟨this.2.1.1.mono m1, Nat.le_trans this.2.1.2 m2⟩, this.2.2.1.mono m1, Nat.le_trans this.2.2.2 m2⟩
end Go.Proofs.YtfbogelmgdojgaaGreat

/- The moduli that the laws make. -/
namespace Go.Proofs.YtfbogelmgdojgaaGreat
set_option linter.unusedSimpArgs false
set_option linter.unusedVariables false
open Go.RowKit

theorem zs_cf (l : List Int) (n i : Nat) : cf (zsL l (n : Nat)) i = ((if i < min l.length n then l.getD i 0 else 0 : Int) : Rat) := by
  unfold zsL
  rw [cf_tr, cf_rg, Int.toNat_natCast]
  split <;> rfl
theorem zs_B8 {l : List Int} (h : ∀ z ∈ l, B8 z) (n i : Nat) : B8 (if i < min l.length n then l.getD i 0 else 0) := by
  split
  · exact B8.get h i
  · exact ⟨by decide, by decide⟩
theorem zs_sz {l : List Int} (h : ∀ z ∈ l, B8 z) (n : Nat) : Sz (zsL l (n : Nat)) n 1 := ⟨by
  unfold zsL
  refine Nat.le_trans (tr_len _) ?_
  rw [rg_len]; omega, fun i => by
  rw [zs_cf]
  obtain ⟨h1, h2⟩ := zs_B8 h n i
  refine Nat.le_trans (qs_int _) ?_
  have e1 : dl (if i < min l.length n then l.getD i 0 else 0 : Int).natAbs ≤ 1 := dl_le.2 (by simp only [Nat.pow_one]; omega)
  omega, tr_can _⟩
theorem zs_diff {l : List Int} (h : ∀ z ∈ l, B8 z) : PB (pDiff (zsL l 5)) 1 := fun i => by
  rw [cf_pDiff, show (5 : Int) = ((5 : Nat) : Int) from rfl, zs_cf]
  obtain ⟨h1, h2⟩ := zs_B8 h 5 (i + 1)
  by_cases hi : i + 1 < 5
  · rw [show ((i + 1 : Nat) : Rat) * ((if i + 1 < min l.length 5 then l.getD (i + 1) 0 else 0 : Int) : Rat) = (((i + 1 : Nat) : Int) * (if i + 1 < min l.length 5 then l.getD (i + 1) 0 else 0 : Int) : Int) from by push_cast; rfl]
    generalize (if i + 1 < min l.length 5 then l.getD (i + 1) 0 else 0 : Int) = z at h1 h2
    refine Nat.le_trans (qs_int _) ?_
    have e1 : dl (((i + 1 : Nat) : Int) * z).natAbs ≤ 1 := dl_le.2 (by
      simp only [Nat.pow_one]
      have h3 : i = 0 ∨ i = 1 ∨ i = 2 ∨ i = 3 := by omega
      rcases h3 with rfl | rfl | rfl | rfl <;> omega)
    omega
  · rw [if_neg (by omega)]
    rw [show ((i + 1 : Nat) : Rat) * ((0 : Int) : Rat) = 0 from by simp]
    exact qs_0
/-- The modulus that is made from some integers. -/
def mod6 (l : List Int) : List Rat := if (zsL l 5).length < 2 then zsL [0, 1] 2 else sqp (zsL l 5)
structure Md (q : List Rat) (n k : Nat) : Prop where
  can : Can q
  len : q.length = n
  pb : PB q k
  cs : (n = 2 ∧ k = 448) ∨ (n = 3 ∧ k = 448) ∨ (n = 4 ∧ k = 5504) ∨ (n = 5 ∧ k = 1)
theorem mod6_md {l : List Int} (h : ∀ z ∈ l, B8 z) : ∃ n k, Md (mod6 l) n k := by
  have hs : Sz (zsL l 5) 5 1 := zs_sz h 5
  unfold mod6
  split
  · refine ⟨2, 448, ?_⟩
    have h2 := zs_sz (l := [0, 1]) (b8 _ (by decide)) 2
    exact ⟨h2.can, by decide +kernel, h2.pb.mono (by decide), .inl ⟨rfl, rfl⟩⟩
  · rename_i h2
    obtain ⟨p1, p2, p3⟩ := sqp_sz hs (zs_diff h) (by omega)
    obtain ⟨⟨⟨cq, l1⟩, l2⟩, l3, l4⟩ := sqp_len hs.can (by omega)
    have l5 := hs.len
    have l6 : (sqp (zsL l 5)).length = 2 ∨ (sqp (zsL l 5)).length = 3 ∨ (sqp (zsL l 5)).length = 4 ∨ (sqp (zsL l 5)).length = 5 := by omega
    rcases l6 with e | e | e | e
    · exact ⟨2, 448, cq, e, p2 (by omega), .inl ⟨rfl, rfl⟩⟩
    · exact ⟨3, 448, cq, e, p2 (by omega), .inr (.inl ⟨rfl, rfl⟩)⟩
    · exact ⟨4, 5504, cq, e, p1, .inr (.inr (.inl ⟨rfl, rfl⟩))⟩
    · exact ⟨5, 1, cq, e, p3 e, .inr (.inr (.inr ⟨rfl, rfl⟩))⟩
theorem Md.sz {q : List Rat} {n k : Nat} (h : Md q n k) : Sz q 5 5504 := ⟨by have := h.len; have := h.cs; omega, h.pb.mono (by have := h.cs; omega), h.can⟩
theorem Md.two {q : List Rat} {n k : Nat} (h : Md q n k) : 2 ≤ q.length := by have := h.len; have := h.cs; omega
theorem Md.ne {q : List Rat} {n k : Nat} (h : Md q n k) : q ≠ [] := fun e => by have := h.two; rw [e] at this; simp at this
def kMade6 : Con := con1 pI8 fun l => (l.length ≤ 9223372036854775807 ∧ ∀ z ∈ l, B8 z, .lst (V.rats (mod6 l)))
attribute [go_sem ↓, go_sem] kMade6
theorem rMade6_C : Ctr Tryz.prog 49 kMade6 := Ctr.c1 (by kernel_rfl) fun l h => by
  obtain ⟨hl, hb⟩ := h
  show PCall _ _ _ (.lst (V.rats (mod6 l)))
  have hs : Sz (zsL l 5) 5 1 := zs_sz hb 5
  have hd := zs_diff hb
  have w2 : (∀ z ∈ ([0, 1] : List Int), B8 z) = True := eq_true (b8 _ (by decide))
  have cd := can_pDiff (zsL l 5)
  have ld := len_pDiff hs.can
  have l5 := hs.len
  obtain ⟨a, ea⟩ : ∃ a, zsL l 5 = a := ⟨_, rfl⟩
  refine PCall.of_vc (tabs mixed (tbl_cons rInts_C (tbl_cons rDiff_C (tbl_cons rGcd_C (tbl_cons rOver_C tbl_nil))))) Tryz.func49 rfl Tryz.ntmps49 Tryz.results49 (by simp) ?_
  unfold mod6
  rw [ea] at hs hd cd ld l5 ⊢
  by_cases h2 : a.length < 2
  · have c1 : (a.length : Int) < 2 := by omega
    rw [if_pos h2]
    simp only [go_sem, hl, hb, w2, ea, c1]
    exact hb
  · have c1 : ¬ (a.length : Int) < 2 := by omega
    rw [if_neg h2]
    have key : ∀ n, n = 2 ∨ n = 3 ∨ n = 4 ∨ n = 5 → gcC 10 n 1 (n - 1) 1 = true ∧ gcM 10 n 1 (n - 1) 1 ≤ 5000 := fun n hn => by
      rcases hn with rfl | rfl | rfl | rfl <;> exact ⟨by decide +kernel, by decide +kernel⟩
    obtain ⟨k1, k2⟩ := key a.length (by omega)
    obtain ⟨g, pg⟩ := gcC_ok 10 k1 hs.can cd rfl ld hs.pb hd
    have g : ∃ n, GcOk n a (pDiff a) := ⟨10, g⟩
    obtain ⟨⟨_, q2⟩, q3, q4⟩ := sqp_len hs.can (show 2 ≤ a.length by omega)
    have gne : pGcd a (pDiff a) ≠ [] := fun e => by rw [e] at q2 q3; simp only [List.length_nil] at q2 q3; omega
    have ovr : DvOk a (pGcd a (pDiff a)) := ⟨⟨hs.can, can_pMonic _⟩, by omega, 1, 10001, ⟨hs.pb, (monic_PB pg).mono (by omega)⟩,
      Nat.le_trans (Nat.mul_le_mul_right _ (Nat.pow_le_pow_right (by decide) (show a.length - (pGcd a (pDiff a)).length + 1 ≤ 6 by omega))) (by decide)⟩
    have d1 := hs.c1
    unfold sqp
    simp only [go_sem, hl, hb, ea, c1, d1, g, ovr, gne]
    exact hb
end Go.Proofs.YtfbogelmgdojgaaGreat
