/- Texts CK SZ in one. -/
import Derived.Test.YtfbogelmgdojgaaGreatP57
/- Sizes of known polynomials, by computation. No program in sight. -/
namespace Go.Proofs.YtfbogelmgdojgaaGreat
set_option linter.unusedSimpArgs false
set_option linter.unusedVariables false
open Go.RowKit

def smq (q : Rat) : Bool := decide (q.num.natAbs < 4294967296) && decide (q.den < 4294967296)
theorem smq_ok {q : Rat} (h : smq q = true) {k : Nat} (hk : 1 ≤ k) : qs q ≤ k := by
  simp only [smq, Bool.and_eq_true, decide_eq_true_eq] at h
  exact Nat.le_trans (Nat.max_le.2 ⟨(dl_le (k := 1)).2 (by simpa using h.1), (dl_le (k := 1)).2 (by simpa using h.2)⟩) hk
def smL (l : List Rat) : Bool := l.all smq && decide (l.length ≤ 100)
theorem smL_len {l : List Rat} (h : smL l = true) : l.length ≤ 100 := by
  simp only [smL, Bool.and_eq_true, decide_eq_true_eq] at h
  exact h.2
theorem smL_PB {l : List Rat} (h : smL l = true) {k : Nat} (hk : 1 ≤ k) : PB l k := fun i => by
  simp only [smL, Bool.and_eq_true, List.all_eq_true] at h
  by_cases hi : i < l.length
  · rw [cf_lt hi]
    exact smq_ok (h.1 _ (List.getElem_mem hi)) hk
  · rw [cf_ge (by omega)]
    exact Nat.le_trans qs_0 hk
def cnB (l : List Rat) : Bool := decide (l = []) || !decide (cf l (l.length - 1) = 0)
theorem cnB_ok {l : List Rat} (h : cnB l = true) : Can l := fun h0 => by
  simp only [cnB, Bool.or_eq_true, decide_eq_true_eq, Bool.not_eq_true', decide_eq_false_iff_not] at h
  rcases h with h | h
  · exact absurd h h0
  · exact h
def dvB (a b : List Rat) : Bool := (cnB a && cnB b) && (smL a && smL b) && decide (a.length - b.length ≤ 20)
theorem dvB_ok {a b : List Rat} (h : dvB a b = true) : DvOk a b := by
  simp only [dvB, Bool.and_eq_true, decide_eq_true_eq] at h
  obtain ⟨⟨⟨h1, h2⟩, h3, h4⟩, h5⟩ := h
  have l1 := smL_len h3
  have l2 := smL_len h4
  refine ⟨⟨cnB_ok h1, cnB_ok h2⟩, by omega, 1, 1, ⟨smL_PB h3 (Nat.le_refl _), smL_PB h4 (Nat.le_refl _)⟩, ?_⟩
  exact Nat.le_trans (Nat.mul_le_mul_right _ (Nat.pow_le_pow_right (by decide) (show a.length - b.length + 1 ≤ 21 by omega))) (by decide)
def gcB : Nat → List Rat → List Rat → Bool
  | 0, _, _ => false
  | n + 1, a, b => dvB a b && (if b = [] then true else gcB n b (pMod a b))
theorem dvB_sm {a b : List Rat} (h : dvB a b = true) : (smL a = true ∧ smL b = true) ∧ Can a ∧ Can b := by
  simp only [dvB, Bool.and_eq_true, decide_eq_true_eq] at h
  exact ⟨⟨h.1.2.1, h.1.2.2⟩, cnB_ok h.1.1.1, cnB_ok h.1.1.2⟩
theorem gcB_ok : ∀ {n : Nat} {a b : List Rat}, gcB n a b = true → GcOk n a b
  | 0, a, b, h => by cases h
  | n + 1, a, b, h => by
    simp only [gcB, Bool.and_eq_true] at h
    obtain ⟨h1, h2⟩ := h
    refine ⟨dvB_ok h1, ?_⟩
    split
    · exact ⟨1, smL_PB (dvB_sm h1).1.1 (Nat.le_refl _), by decide⟩
    · rename_i hb
      rw [if_neg hb] at h2
      exact gcB_ok h2
def lsB (q x y : List Rat) : Bool := smL q && smL x && smL y
theorem lsB_ok {q x y : List Rat} (h : lsB q x y = true) : LsOk q x y := by
  simp only [lsB, Bool.and_eq_true] at h
  obtain ⟨⟨h1, h2⟩, h3⟩ := h
  have l1 := smL_len h1
  have l2 := smL_len h2
  have l3 := smL_len h3
  exact ⟨⟨⟨by omega, by omega⟩, 1, 1, ⟨smL_PB h1 (Nat.le_refl _), smL_PB h3 (Nat.le_refl _)⟩, by omega⟩, smL_PB h2 (by decide)⟩
def exB : Nat → List Rat → List Rat → List Rat → List Rat → List Rat → List Rat → Bool
  | 0, _, _, _, _, _, _ => false
  | n + 1, a, b, s, u, t, v => (dvB a b && smL s && smL t) && (if b = [] then true else
      (lsB (pDiv a b) a b && lsB (pDiv a b) s u && lsB (pDiv a b) t v) && exB n b (pMod a b) u (pSub s (pMul (pDiv a b) u)) v (pSub t (pMul (pDiv a b) v)))
theorem exB_ok : ∀ {n : Nat} {a b s u t v : List Rat}, exB n a b s u t v = true → ExOk n a b s u t v
  | 0, a, b, s, u, t, v, h => by cases h
  | n + 1, a, b, s, u, t, v, h => by
    simp only [exB, Bool.and_eq_true] at h
    obtain ⟨⟨⟨h1, hs⟩, ht⟩, h2⟩ := h
    obtain ⟨⟨g1, g2⟩, g3, g4⟩ := dvB_sm h1
    have l1 := smL_len g1
    have l2 := smL_len g2
    have l3 := smL_len hs
    have l4 := smL_len ht
    refine ⟨⟨g3, g4⟩, ⟨by omega, by omega⟩, ?_⟩
    split
    · exact ⟨1, ⟨smL_PB g1 (Nat.le_refl _), by decide⟩, ⟨by omega, smL_PB hs (by decide)⟩, by omega, smL_PB ht (by decide)⟩
    · rename_i hb
      rw [if_neg hb] at h2
      simp only [Bool.and_eq_true] at h2
      exact ⟨dvB_ok h1, ⟨lsB_ok h2.1.1.1, lsB_ok h2.1.1.2, lsB_ok h2.1.2⟩, exB_ok h2.2⟩
def pwB (c : Rat) (n : Nat) : Bool := smq c && decide (n ≤ 1000)
theorem pwB_ok {c : Rat} {n : Nat} (h : pwB c n = true) : PwOk c n := by
  simp only [pwB, Bool.and_eq_true, decide_eq_true_eq] at h
  have := smq_ok h.1 (Nat.le_refl 1)
  refine ⟨by omega, ?_, by omega⟩
  have h2 := Nat.mul_le_mul h.2 this
  omega
def reB : Nat → Rat → List Rat → List Rat → Bool
  | 0, _, _, _ => false
  | n + 1, o, a, b => (cnB a && cnB b && smL a && smL b && smq o) &&
    (if a = [] ∨ b = [] then true else if b.length = 1 then pwB (cf b 0) (a.length - 1) else if a.length = 1 then pwB (cf a 0) (b.length - 1) else
      if a.length < b.length then reB n (sgm (a.length - 1) (b.length - 1) o) b a else
      dvB a b && (decide (pMod a b = []) || (pwB (lead b) (a.length - (pMod a b).length) && smq (o * lead b ^ (a.length - (pMod a b).length)) && reB n (sgm (a.length - 1) (b.length - 1) (o * lead b ^ (a.length - (pMod a b).length))) b (pMod a b))))
theorem reB_ok : ∀ {n : Nat} {o : Rat} {a b : List Rat}, reB n o a b = true → ReOk n o a b
  | 0, o, a, b, h => by cases h
  | n + 1, o, a, b, h => by
    unfold reB at h
    rw [Bool.and_eq_true] at h
    obtain ⟨h, h2⟩ := h
    simp only [Bool.and_eq_true] at h
    obtain ⟨⟨⟨⟨h3, h4⟩, h5⟩, h6⟩, h7⟩ := h
    have l1 := smL_len h5
    have l2 := smL_len h6
    refine ⟨⟨cnB_ok h3, cnB_ok h4⟩, ⟨by omega, by omega⟩, smq_ok h7 (by decide), ?_⟩
    by_cases c1 : a = [] ∨ b = []
    · rw [if_pos c1]; trivial
    · rw [if_neg c1] at h2 ⊢
      by_cases c2 : b.length = 1
      · rw [if_pos c2] at h2 ⊢; exact pwB_ok h2
      · rw [if_neg c2] at h2 ⊢
        by_cases c3 : a.length = 1
        · rw [if_pos c3] at h2 ⊢; exact pwB_ok h2
        · rw [if_neg c3] at h2 ⊢
          by_cases c4 : a.length < b.length
          · rw [if_pos c4] at h2 ⊢; exact reB_ok h2
          · rw [if_neg c4] at h2 ⊢
            simp only [Bool.and_eq_true, Bool.or_eq_true, decide_eq_true_eq] at h2
            refine ⟨dvB_ok h2.1, ?_⟩
            rcases h2.2 with h | h
            · exact .inl h
            · exact .inr ⟨pwB_ok h.1.1, smq_ok h.1.2 (by decide), reB_ok h.2⟩
def shB : Nat → Rat → List Rat → Bool
  | 0, _, _ => true
  | n + 1, c, l => (smL l && smL (syn c l)) && shB n c (tl0 (syn c l))
theorem shB_ok : ∀ {n : Nat} {c : Rat} {l : List Rat}, shB n c l = true → ShOk n c l
  | 0, _, _, _ => trivial
  | n + 1, c, l, h => by
    simp only [shB, Bool.and_eq_true] at h
    exact ⟨⟨1, ⟨smL_PB h.1.1 (Nat.le_refl _), smL_PB h.1.2 (Nat.le_refl _)⟩, by decide⟩, shB_ok h.2⟩
def evB (a : List Rat) (x : Rat) : Bool := (List.range a.length).all fun n => smq (ev (a.drop n) x) && smq (ev (a.drop n) x * x)
theorem evB_ok {a : List Rat} {x : Rat} (h : evB a x = true) : EvOk a x := fun n => by
  by_cases hn : n < a.length
  · have := List.all_eq_true.1 h n (List.mem_range.2 hn)
    rw [Bool.and_eq_true] at this
    exact ⟨smq_ok this.1 (by decide), smq_ok this.2 (by decide)⟩
  · rw [List.drop_eq_nil_of_le (by omega), show ev [] x = 0 from rfl, Rat.zero_mul]
    exact ⟨Nat.le_trans qs_0 (by decide), Nat.le_trans qs_0 (by decide)⟩
def sqB : Nat → List Rat → List Rat → Bool
  | 0, _, _ => false
  | k + 1, b, c => if b.length ≤ 1 then true else
    ((smL b && smL c && smL (pDiff b)) && gcB 20 b (pSub c (pDiff b)) && (dvB b (pGcd b (pSub c (pDiff b))) && dvB (pSub c (pDiff b)) (pGcd b (pSub c (pDiff b)))) && !decide (pGcd b (pSub c (pDiff b)) = [])) &&
    sqB k (pDiv b (pGcd b (pSub c (pDiff b)))) (pDiv (pSub c (pDiff b)) (pGcd b (pSub c (pDiff b))))
theorem sqB_ok : ∀ {k : Nat} {b c : List Rat}, sqB k b c = true → SqOk k b c
  | 0, _, _, h => by cases h
  | k + 1, b, c, h => by
    unfold sqB at h
    unfold SqOk
    split
    · trivial
    · rename_i hb
      rw [if_neg hb] at h
      simp only [Bool.and_eq_true, Bool.not_eq_true', decide_eq_false_iff_not] at h
      obtain ⟨⟨⟨⟨⟨⟨h1, h2⟩, h3⟩, h4⟩, h5, h6⟩, h7⟩, h8⟩ := h
      have l1 := smL_len h1
      have l2 := smL_len h2
      exact ⟨⟨⟨by omega, by omega⟩, smL_PB h1 (by decide), smL_PB h2 (by decide), smL_PB h3 (by decide)⟩, ⟨20, gcB_ok h4⟩, ⟨dvB_ok h5, dvB_ok h6⟩, h7, sqB_ok h8⟩
def sfB (k : Nat) (a : List Rat) : Bool := decide (k ≤ 1000) && smL a && (decide (a.length < 2) || (gcB 20 a (pDiff a) && (dvB a (pGcd a (pDiff a)) && dvB (pDiff a) (pGcd a (pDiff a))) && !decide (pGcd a (pDiff a) = []) && sqB k (pDiv a (pGcd a (pDiff a))) (pDiv (pDiff a) (pGcd a (pDiff a)))))
theorem sfB_ok {k : Nat} {a : List Rat} (h : sfB k a = true) : SfOk k a := by
  simp only [sfB, Bool.and_eq_true, Bool.or_eq_true, Bool.not_eq_true', decide_eq_false_iff_not, decide_eq_true_eq] at h
  obtain ⟨⟨h1, h2⟩, h3⟩ := h
  have l1 := smL_len h2
  refine ⟨by omega, by omega, fun h4 => ?_⟩
  rcases h3 with h3 | ⟨⟨⟨h5, h6, h7⟩, h8⟩, h9⟩
  · omega
  · exact ⟨smL_PB h2 (by decide), ⟨20, gcB_ok h5⟩, ⟨dvB_ok h6, dvB_ok h7⟩, h8, sqB_ok h9⟩
end Go.Proofs.YtfbogelmgdojgaaGreat

/- Sizes of polynomials that are computed from small ones. No program in sight. -/
namespace Go.Proofs.YtfbogelmgdojgaaGreat
set_option linter.unusedSimpArgs false
set_option linter.unusedVariables false
open Go.RowKit

structure Sz (l : List Rat) (n k : Nat) : Prop where
  len : l.length ≤ n
  pb : PB l k
  can : Can l
theorem Sz.mono {l : List Rat} {n k n' k' : Nat} (h : Sz l n k) (hn : n ≤ n') (hk : k ≤ k') : Sz l n' k' := ⟨Nat.le_trans h.len hn, h.pb.mono hk, h.can⟩
theorem Sz.nil {n k : Nat} (hk : 1 ≤ k) : Sz [] n k := ⟨Nat.zero_le _, PB_nil hk, fun h => absurd rfl h⟩
section
variable {a b : List Rat} {n m j k : Nat}
theorem Sz.add (ha : Sz a n j) (hb : Sz b m k) : Sz (pAdd a b) (max n m) (j + k + 1) := ⟨Nat.le_trans (len_pAdd a b) (by have := ha.len; have := hb.len; omega), fun i => by
  rw [cf_pAdd]
  have := qs_add (cf a i) (cf b i)
  have := ha.pb i
  have := hb.pb i
  omega, can_pAdd a b⟩
theorem Sz.sub (ha : Sz a n j) (hb : Sz b m k) : Sz (pSub a b) (max n m) (j + k + 1) := ⟨Nat.le_trans (len_pSub a b) (by have := ha.len; have := hb.len; omega), fun i => by
  rw [cf_pSub]
  have := qs_sub (cf a i) (cf b i)
  have := ha.pb i
  have := hb.pb i
  omega, can_pSub a b⟩
theorem Sz.sc {c : Rat} (ha : Sz a n j) (hc : qs c ≤ k) : Sz (pSc c a) n (j + k) := ⟨Nat.le_trans (len_pSc c a) ha.len, fun i => by
  rw [cf_pSc]
  have := qs_mul c (cf a i)
  have := ha.pb i
  omega, can_pSc c a⟩
theorem Sz.mul (ha : Sz a n j) (hb : Sz b m k) : Sz (pMul a b) (n + m - 1) (n * (j + k + 1) + 1) := ⟨by
  by_cases a0 : a = []
  · subst a0; exact Nat.zero_le _
  · by_cases b0 : b = []
    · subst b0
      have e : pMul a [] = [] := ev_inj (can_pMul _ _) Can_nil fun x => by rw [ev_pMul]; show ev a x * 0 = 0; grind
      rw [e]; exact Nat.zero_le _
    · rw [len_pMul ha.can hb.can a0 b0]
      have := ha.len; have := hb.len; omega, fun i => by
  unfold pMul
  rw [cf_tr]
  have h1 := mulL_PB hb.pb ha.pb i
  have h2 := Nat.mul_le_mul_right (j + k + 1) ha.len
  omega, can_pMul a b⟩
theorem qs_nat {z : Nat} (h : z < 4294967296) : qs (z : Rat) ≤ 1 := by
  have h1 := qs_int (z : Int)
  have h2 : dl z ≤ 1 := dl_le.2 (by simpa using h)
  have e : ((z : Int) : Rat) = (z : Rat) := rfl
  rw [e] at h1
  simp only [Int.natAbs_natCast] at h1
  omega
theorem Sz.diff (ha : Sz a n j) (hn : n ≤ 1000) : Sz (pDiff a) n (j + 1) := ⟨by
  unfold pDiff
  refine Nat.le_trans (tr_len _) ?_
  have := ha.len
  rcases len_dL a with h | h <;> omega, fun i => by
  rw [cf_pDiff]
  by_cases hi : i + 1 < a.length
  · have := qs_mul ((i + 1 : Nat) : Rat) (cf a (i + 1))
    have h1 := qs_nat (z := i + 1) (by have := ha.len; omega)
    have := ha.pb (i + 1)
    omega
  · rw [cf_ge (l := a) (by omega), Rat.mul_zero]
    exact Nat.le_trans qs_0 (by omega), can_pDiff a⟩
/-- What the calls ask. -/
theorem Sz.c2 (ha : Sz a n j) (hb : Sz b m k) (h : n ≤ 1000000 ∧ m ≤ 1000000 ∧ j ≤ 10000000000 ∧ k ≤ 10000000000 := by decide) : (a.length ≤ 1000000 ∧ b.length ≤ 1000000) ∧ PB a 10000000000 ∧ PB b 10000000000 :=
  ⟨⟨Nat.le_trans ha.len h.1, Nat.le_trans hb.len h.2.1⟩, ha.pb.mono h.2.2.1, hb.pb.mono h.2.2.2⟩
theorem Sz.c1 (ha : Sz a n j) (h : n ≤ 1000000 ∧ j ≤ 10000000000 := by decide) : a.length ≤ 1000000 ∧ PB a 10000000000 := ⟨Nat.le_trans ha.len h.1, ha.pb.mono h.2⟩
theorem Sz.cm (ha : Sz a n j) (hb : Sz b m k) (h : n + m ≤ 1000000 ∧ n * (j + k + 1) + 1 ≤ 10000000000 := by decide) : a.length + b.length ≤ 1000000 ∧ ∃ j k, (PB a j ∧ PB b k) ∧ a.length * (j + k + 1) ≤ 9999999999 :=
  ⟨Nat.le_trans (Nat.add_le_add ha.len hb.len) h.1, j, k, ⟨ha.pb, hb.pb⟩, by have := Nat.mul_le_mul_right (j + k + 1) ha.len; omega⟩
end
theorem syn_PB {c : Rat} {C k : Nat} (hc : qs c ≤ C) : ∀ {l : List Rat}, PB l k → PB (syn c l) (l.length * (k + C + 1) + 1)
  | [], _ => PB_nil (by omega)
  | r :: l, h => by
    have ih := syn_PB hc (l := l) (k := k) fun i => h (i + 1)
    have hr : qs r ≤ k := h 0
    show PB ((r + c * hd0 (syn c l)) :: syn c l) _
    have e : (r :: l).length * (k + C + 1) + 1 = l.length * (k + C + 1) + 1 + (k + C + 1) := by
      rw [List.length_cons, Nat.add_mul]; omega
    rw [e]
    refine PB_cons ?_ (ih.mono (by omega))
    have h1 := qs_add r (c * hd0 (syn c l))
    have h2 := qs_mul c (hd0 (syn c l))
    have h3 := ih 0
    rw [← hd0_cf] at h3
    omega
/-- Sizes within the shift. -/
def shBd : Nat → Nat → Nat → Nat
  | 0, k, _ => k
  | n + 1, k, C => shBd n ((n + 1) * (k + C + 1) + 1) C
theorem shBd_ge : ∀ (n k C : Nat), k ≤ shBd n k C
  | 0, _, _ => Nat.le_refl _
  | n + 1, k, C => by
    refine Nat.le_trans ?_ (shBd_ge n _ C)
    rw [Nat.add_mul]; omega
theorem tl0_PB {l : List Rat} {k : Nat} (h : PB l k) : PB (tl0 l) k := by
  cases l with
  | nil => exact h
  | cons x l => exact fun i => h (i + 1)
theorem sh_sz {c : Rat} {C : Nat} (hc : qs c ≤ C) : ∀ (n : Nat) {l : List Rat} {k : Nat}, l.length = n → PB l k → shBd n k C ≤ 4000000000 → ShOk n c l ∧ PB (shF n c l) (shBd n k C)
  | 0, l, k, _, h, _ => ⟨trivial, PB_nil (by have := h.pos; simpa [shBd] using this)⟩
  | n + 1, l, k, hl, h, hb => by
    have h1 := syn_PB hc h
    rw [hl] at h1
    have hlen : (tl0 (syn c l)).length = n := by rw [tl0_len, syn_len, hl]; rfl
    obtain ⟨i1, i2⟩ := sh_sz hc n hlen (tl0_PB h1) hb
    have hge := shBd_ge n ((n + 1) * (k + C + 1) + 1) C
    have hk : k ≤ (n + 1) * (k + C + 1) + 1 := by rw [Nat.add_mul]; omega
    have hb' : shBd n ((n + 1) * (k + C + 1) + 1) C ≤ 4000000000 := hb
    refine ⟨⟨⟨_, ⟨h.mono hk, h1⟩, by omega⟩, i1⟩, PB_cons ?_ i2⟩
    rw [hd0_cf]
    exact Nat.le_trans (h1 0) hge
theorem shBd_mono : ∀ {n m : Nat} (k C : Nat), n ≤ m → shBd n k C ≤ shBd m k C
  | n, 0, k, C, h => by
    obtain rfl : n = 0 := by omega
    exact Nat.le_refl _
  | 0, m + 1, k, C, _ => shBd_ge (m + 1) k C
  | n + 1, m + 1, k, C, h => by
    have key : ∀ (q k k' : Nat), k ≤ k' → shBd q k C ≤ shBd q k' C := by
      intro q
      induction q with
      | zero => exact fun _ _ h => h
      | succ q ih => exact fun k k' h => ih _ _ (by have := Nat.mul_le_mul_left (q + 1) (show k + C + 1 ≤ k' + C + 1 by omega); omega)
    refine Nat.le_trans (shBd_mono (n := n) (m := m) ((n + 1) * (k + C + 1) + 1) C (by omega)) (key m _ _ ?_)
    have := Nat.mul_le_mul_right (k + C + 1) h
    omega
theorem Sz.shift {a : List Rat} {c : Rat} {n k C : Nat} (ha : Sz a n k) (hc : qs c ≤ C) (hb : shBd n k C ≤ 4000000000) : Sz (pShift c a) n (shBd n k C) := by
  have h1 := shBd_mono k C ha.len
  obtain ⟨_, h2⟩ := sh_sz hc a.length rfl ha.pb (by omega)
  exact ⟨by unfold pShift; rw [shF_len]; exact ha.len, h2.mono h1, can_pShift ha.can⟩
theorem Sz.cs {a : List Rat} {c : Rat} {n k C : Nat} (ha : Sz a n k) (hc : qs c ≤ C) (h : shBd n k C ≤ 4000000000 ∧ n ≤ 1000000 ∧ C ≤ 4000000000 := by decide) : Can a ∧ a.length ≤ 1000000 ∧ qs c ≤ 4000000000 ∧ ShOk a.length c a :=
  ⟨ha.can, Nat.le_trans ha.len h.2.1, Nat.le_trans hc h.2.2, (sh_sz hc a.length rfl ha.pb (by have := shBd_mono k C ha.len; omega)).1⟩
theorem ev_sz {x : Rat} {C k : Nat} (hx : qs x ≤ C) : ∀ {l : List Rat}, PB l k → qs (ev l x) ≤ l.length * (k + C + 1) + 1
  | [], _ => Nat.le_trans qs_0 (by omega)
  | r :: l, h => by
    have ih := ev_sz hx (l := l) (k := k) fun i => h (i + 1)
    have hr : qs r ≤ k := h 0
    show qs (r + x * ev l x) ≤ _
    have h1 := qs_add r (x * ev l x)
    have h2 := qs_mul x (ev l x)
    rw [List.length_cons, Nat.add_mul]
    omega
theorem drop_PB {l : List Rat} {k : Nat} (h : PB l k) (n : Nat) : PB (l.drop n) k := fun i => by
  have e : cf (l.drop n) i = cf l (n + i) := by
    unfold cf
    rw [List.getD_eq_getElem?_getD, List.getD_eq_getElem?_getD, List.getElem?_drop]
  rw [e]; exact h _
theorem Sz.ev {a : List Rat} {x : Rat} {n k C : Nat} (ha : Sz a n k) (hx : qs x ≤ C) : qs (ev a x) ≤ n * (k + C + 1) + 1 := by
  have h1 := ev_sz hx ha.pb
  have h2 := Nat.mul_le_mul_right (k + C + 1) ha.len
  omega
theorem Sz.ce {a : List Rat} {x : Rat} {n k C : Nat} (ha : Sz a n k) (hx : qs x ≤ C) (h : n ≤ 1000000 ∧ k ≤ 10000000000 ∧ n * (k + C + 1) + 1 + C ≤ 10000000000 := by decide) : (a.length ≤ 1000000 ∧ PB a 10000000000 ∧ qs x ≤ 10000000000) ∧ EvOk a x := by
  refine ⟨⟨Nat.le_trans ha.len h.1, ha.pb.mono h.2.1, by omega⟩, fun i => ?_⟩
  have h1 := ev_sz hx (drop_PB ha.pb i)
  have h2 := Nat.mul_le_mul_right (k + C + 1) (show (a.drop i).length ≤ n by rw [List.length_drop]; have := ha.len; omega)
  have h3 := qs_mul (Go.Proofs.YtfbogelmgdojgaaGreat.ev (a.drop i) x) x
  omega
end Go.Proofs.YtfbogelmgdojgaaGreat
