/- Texts CK SZ SZ2 LC1 LC2 LC3 LC5 LC6 H6 H7 in one. -/
import Derived.Test.YtfbogelmgdojgaaGreatR25
import Derived.Test.YtfbogelmgdojgaaGreatR20
import Derived.Test.YtfbogelmgdojgaaGreatR23
/- Sizes of known polynomials, by computation. No program in sight. -/
namespace Go.Proofs.YtfbogelmgdojgaaGreat
set_option linter.unusedSimpArgs false
set_option linter.unusedVariables false
open Go.RowKit

def smq (q : Rat) : Bool := decide (q.num.natAbs < 4294967296) && decide (q.den < 4294967296)
theorem smq_ok {q : Rat} (h : smq q = true) {k : Nat} (hk : 1 ≤ k) : qs q ≤ k := by
 simp only [smq, Bool.and_eq_true, decide_eq_true_eq] at h
 exact Nat.le_trans (Nat.max_le.2 ⟨(dl_le (k := 1)).2 (by simpa using h.1), (dl_le (k := 1)).2 (by simpa using h.2)⟩) hk
def smL (l : List Rat) : Bool := l.all smq && decide (l.length ≤ 100)
theorem smL_len {l : List Rat} (h : smL l = true) : l.length ≤ 100 := by
 simp only [smL, Bool.and_eq_true, decide_eq_true_eq] at h
 exact h.2
theorem smL_PB {l : List Rat} (h : smL l = true) {k : Nat} (hk : 1 ≤ k) : PB l k := fun i => by
 simp only [smL, Bool.and_eq_true, List.all_eq_true] at h
 by_cases hi : i < l.length
 ·rw [cf_lt hi]
  exact smq_ok (h.1 _ (List.getElem_mem hi)) hk
 ·rw [cf_ge (by omega)]
  exact Nat.le_trans qs_0 hk
def cnB (l : List Rat) : Bool := decide (l = []) || !decide (cf l (l.length - 1) = 0)
theorem cnB_ok {l : List Rat} (h : cnB l = true) : Can l := fun h0 => by
 simp only [cnB, Bool.or_eq_true, decide_eq_true_eq, Bool.not_eq_true', decide_eq_false_iff_not] at h
 rcases h with h | h
 ·exact absurd h h0
 ·exact h
def dvB (a b : List Rat) : Bool := (cnB a && cnB b) && (smL a && smL b) && decide (a.length - b.length ≤ 20)
theorem dvB_ok {a b : List Rat} (h : dvB a b = true) : DvOk a b := by
 simp only [dvB, Bool.and_eq_true, decide_eq_true_eq] at h
 obtain ⟨⟨⟨h1, h2⟩, h3, h4⟩, h5⟩ := h
 have l1 := smL_len h3
 have l2 := smL_len h4
 refine ⟨⟨cnB_ok h1, cnB_ok h2⟩, by omega, 1, 1, ⟨smL_PB h3 (Nat.le_refl _), smL_PB h4 (Nat.le_refl _)⟩, ?_⟩
 exact Nat.le_trans (Nat.mul_le_mul_right _ (Nat.pow_le_pow_right (by decide) (show a.length - b.length + 1 ≤ 21 by omega))) (by decide)
def gcB : Nat → List Rat → List Rat → Bool
 | 0, _, _ => false
 | n + 1, a, b => dvB a b && (if b = [] then true else gcB n b (pMod a b))
theorem dvB_sm {a b : List Rat} (h : dvB a b = true) : (smL a = true ∧ smL b = true) ∧ Can a ∧ Can b := by
 simp only [dvB, Bool.and_eq_true, decide_eq_true_eq] at h
 exact ⟨⟨h.1.2.1, h.1.2.2⟩, cnB_ok h.1.1.1, cnB_ok h.1.1.2⟩
theorem gcB_ok : ∀ {n : Nat} {a b : List Rat}, gcB n a b = true → GcOk n a b
 | 0, a, b, h => by cases h
 | n + 1, a, b, h => by
   simp only [gcB, Bool.and_eq_true] at h
   obtain ⟨h1, h2⟩ := h
   refine ⟨dvB_ok h1, ?_⟩
   split
   ·exact ⟨1, smL_PB (dvB_sm h1).1.1 (Nat.le_refl _), by decide⟩
   ·rename_i hb
    rw [if_neg hb] at h2
    exact gcB_ok h2
def lsB (q x y : List Rat) : Bool := smL q && smL x && smL y
theorem lsB_ok {q x y : List Rat} (h : lsB q x y = true) : LsOk q x y := by
 simp only [lsB, Bool.and_eq_true] at h
 obtain ⟨⟨h1, h2⟩, h3⟩ := h
 have l1 := smL_len h1
 have l2 := smL_len h2
 have l3 := smL_len h3
 exact ⟨⟨⟨by omega, by omega⟩, 1, 1, ⟨smL_PB h1 (Nat.le_refl _), smL_PB h3 (Nat.le_refl _)⟩, by omega⟩, smL_PB h2 (by decide)⟩
def exB : Nat → List Rat → List Rat → List Rat → List Rat → List Rat → List Rat → Bool
 | 0, _, _, _, _, _, _ => false
 | n + 1, a, b, s, u, t, v => (dvB a b && smL s && smL t) && (if b = [] then true else
  (lsB (pDiv a b) a b && lsB (pDiv a b) s u && lsB (pDiv a b) t v) && exB n b (pMod a b) u (pSub s (pMul (pDiv a b) u)) v (pSub t (pMul (pDiv a b) v)))
theorem exB_ok : ∀ {n : Nat} {a b s u t v : List Rat}, exB n a b s u t v = true → ExOk n a b s u t v
 | 0, a, b, s, u, t, v, h => by cases h
 | n + 1, a, b, s, u, t, v, h => by
   simp only [exB, Bool.and_eq_true] at h
   obtain ⟨⟨⟨h1, hs⟩, ht⟩, h2⟩ := h
   obtain ⟨⟨g1, g2⟩, g3, g4⟩ := dvB_sm h1
   have l1 := smL_len g1
   have l2 := smL_len g2
   have l3 := smL_len hs
   have l4 := smL_len ht
   refine ⟨⟨g3, g4⟩, ⟨by omega, by omega⟩, ?_⟩
   split
   ·exact ⟨1, ⟨smL_PB g1 (Nat.le_refl _), by decide⟩, ⟨by omega, smL_PB hs (by decide)⟩, by omega, smL_PB ht (by decide)⟩
   ·rename_i hb
    rw [if_neg hb] at h2
    simp only [Bool.and_eq_true] at h2
    exact ⟨dvB_ok h1, ⟨lsB_ok h2.1.1.1, lsB_ok h2.1.1.2, lsB_ok h2.1.2⟩, exB_ok h2.2⟩
def pwB (c : Rat) (n : Nat) : Bool := smq c && decide (n ≤ 1000)
theorem pwB_ok {c : Rat} {n : Nat} (h : pwB c n = true) : PwOk c n := by
 simp only [pwB, Bool.and_eq_true, decide_eq_true_eq] at h
 have := smq_ok h.1 (Nat.le_refl 1)
 refine ⟨by omega, ?_, by omega⟩
 have h2 := Nat.mul_le_mul h.2 this
 omega
def reB : Nat → Rat → List Rat → List Rat → Bool
 | 0, _, _, _ => false
 | n + 1, o, a, b => (cnB a && cnB b && smL a && smL b && smq o) &&
   (if a = [] ∨ b = [] then true else if b.length = 1 then pwB (cf b 0) (a.length - 1) else if a.length = 1 then pwB (cf a 0) (b.length - 1) else
    if a.length < b.length then reB n (sgm (a.length - 1) (b.length - 1) o) b a else
    dvB a b && (decide (pMod a b = []) || (pwB (lead b) (a.length - (pMod a b).length) && smq (o * lead b ^ (a.length - (pMod a b).length)) && reB n (sgm (a.length - 1) (b.length - 1) (o * lead b ^ (a.length - (pMod a b).length))) b (pMod a b))))
theorem reB_ok : ∀ {n : Nat} {o : Rat} {a b : List Rat}, reB n o a b = true → ReOk n o a b
 | 0, o, a, b, h => by cases h
 | n + 1, o, a, b, h => by
   unfold reB at h
   rw [Bool.and_eq_true] at h
   obtain ⟨h, h2⟩ := h
   simp only [Bool.and_eq_true] at h
   obtain ⟨⟨⟨⟨h3, h4⟩, h5⟩, h6⟩, h7⟩ := h
   have l1 := smL_len h5
   have l2 := smL_len h6
   refine ⟨⟨cnB_ok h3, cnB_ok h4⟩, ⟨by omega, by omega⟩, smq_ok h7 (by decide), ?_⟩
   by_cases c1 : a = [] ∨ b = []
   ·rw [if_pos c1]; trivial
   ·rw [if_neg c1] at h2 ⊢
    by_cases c2 : b.length = 1
    ·rw [if_pos c2] at h2 ⊢; exact pwB_ok h2
    ·rw [if_neg c2] at h2 ⊢
     by_cases c3 : a.length = 1
     ·rw [if_pos c3] at h2 ⊢; exact pwB_ok h2
     ·rw [if_neg c3] at h2 ⊢
      by_cases c4 : a.length < b.length
      ·rw [if_pos c4] at h2 ⊢; exact reB_ok h2
      ·rw [if_neg c4] at h2 ⊢
       simp only [Bool.and_eq_true, Bool.or_eq_true, decide_eq_true_eq] at h2
       refine ⟨dvB_ok h2.1, ?_⟩
       rcases h2.2 with h | h
       ·exact .inl h
       ·exact .inr ⟨pwB_ok h.1.1, smq_ok h.1.2 (by decide), reB_ok h.2⟩
def sqB : Nat → List Rat → List Rat → Bool
 | 0, _, _ => false
 | k + 1, b, c => if b.length ≤ 1 then true else
   ((smL b && smL c && smL (pDiff b)) && gcB 20 b (pSub c (pDiff b)) && (dvB b (pGcd b (pSub c (pDiff b))) && dvB (pSub c (pDiff b)) (pGcd b (pSub c (pDiff b)))) && !decide (pGcd b (pSub c (pDiff b)) = [])) &&
   sqB k (pDiv b (pGcd b (pSub c (pDiff b)))) (pDiv (pSub c (pDiff b)) (pGcd b (pSub c (pDiff b))))
theorem sqB_ok : ∀ {k : Nat} {b c : List Rat}, sqB k b c = true → SqOk k b c
 | 0, _, _, h => by cases h
 | k + 1, b, c, h => by
   unfold sqB at h
   unfold SqOk
   split
   ·trivial
   ·rename_i hb
    rw [if_neg hb] at h
    simp only [Bool.and_eq_true, Bool.not_eq_true', decide_eq_false_iff_not] at h
    obtain ⟨⟨⟨⟨⟨⟨h1, h2⟩, h3⟩, h4⟩, h5, h6⟩, h7⟩, h8⟩ := h
    have l1 := smL_len h1
    have l2 := smL_len h2
    exact ⟨⟨⟨by omega, by omega⟩, smL_PB h1 (by decide), smL_PB h2 (by decide), smL_PB h3 (by decide)⟩, ⟨20, gcB_ok h4⟩, ⟨dvB_ok h5, dvB_ok h6⟩, h7, sqB_ok h8⟩
def sfB (k : Nat) (a : List Rat) : Bool := decide (k ≤ 1000) && smL a && (decide (a.length < 2) || (gcB 20 a (pDiff a) && (dvB a (pGcd a (pDiff a)) && dvB (pDiff a) (pGcd a (pDiff a))) && !decide (pGcd a (pDiff a) = []) && sqB k (pDiv a (pGcd a (pDiff a))) (pDiv (pDiff a) (pGcd a (pDiff a)))))
theorem sfB_ok {k : Nat} {a : List Rat} (h : sfB k a = true) : SfOk k a := by
 simp only [sfB, Bool.and_eq_true, Bool.or_eq_true, Bool.not_eq_true', decide_eq_false_iff_not, decide_eq_true_eq] at h
 obtain ⟨⟨h1, h2⟩, h3⟩ := h
 have l1 := smL_len h2
 refine ⟨by omega, by omega, fun h4 => ?_⟩
 rcases h3 with h3 | ⟨⟨⟨h5, h6, h7⟩, h8⟩, h9⟩
 ·omega
 ·exact ⟨smL_PB h2 (by decide), ⟨20, gcB_ok h5⟩, ⟨dvB_ok h6, dvB_ok h7⟩, h8, sqB_ok h9⟩
end Go.Proofs.YtfbogelmgdojgaaGreat


/- Sizes of polynomials that are computed from small ones. No program in sight. -/
namespace Go.Proofs.YtfbogelmgdojgaaGreat
set_option linter.unusedSimpArgs false
set_option linter.unusedVariables false
open Go.RowKit

structure Sz (l : List Rat) (n k : Nat) : Prop where
 len : l.length ≤ n
 pb : PB l k
 can : Can l
theorem Sz.mono {l : List Rat} {n k n' k' : Nat} (h : Sz l n k) (hn : n ≤ n') (hk : k ≤ k') : Sz l n' k' := ⟨Nat.le_trans h.len hn, h.pb.mono hk, h.can⟩
theorem Sz.nil {n k : Nat} (hk : 1 ≤ k) : Sz [] n k := ⟨Nat.zero_le _, PB_nil hk, fun h => absurd rfl h⟩
section
variable {a b : List Rat} {n m j k : Nat}
theorem Sz.add (ha : Sz a n j) (hb : Sz b m k) : Sz (pAdd a b) (max n m) (j + k + 1) := ⟨Nat.le_trans (len_pAdd a b) (by have := ha.len; have := hb.len; omega), fun i => by
 rw [cf_pAdd]
 have := qs_add (cf a i) (cf b i)
 have := ha.pb i
 have := hb.pb i
 omega, can_pAdd a b⟩
theorem Sz.sub (ha : Sz a n j) (hb : Sz b m k) : Sz (pSub a b) (max n m) (j + k + 1) := ⟨Nat.le_trans (len_pSub a b) (by have := ha.len; have := hb.len; omega), fun i => by
 rw [cf_pSub]
 have := qs_sub (cf a i) (cf b i)
 have := ha.pb i
 have := hb.pb i
 omega, can_pSub a b⟩
theorem Sz.sc {c : Rat} (ha : Sz a n j) (hc : qs c ≤ k) : Sz (pSc c a) n (j + k) := ⟨Nat.le_trans (len_pSc c a) ha.len, fun i => by
 rw [cf_pSc]
 have := qs_mul c (cf a i)
 have := ha.pb i
 omega, can_pSc c a⟩
theorem Sz.mul (ha : Sz a n j) (hb : Sz b m k) : Sz (pMul a b) (n + m - 1) (n * (j + k + 1) + 1) := ⟨by
 by_cases a0 : a = []
 ·subst a0; exact Nat.zero_le _
 ·by_cases b0 : b = []
  ·subst b0
   have e : pMul a [] = [] := ev_inj (can_pMul _ _) Can_nil fun x => by rw [ev_pMul]; show ev a x * 0 = 0; grind
   rw [e]; exact Nat.zero_le _
  ·rw [len_pMul ha.can hb.can a0 b0]
   have := ha.len; have := hb.len; omega, fun i => by
 unfold pMul
 rw [cf_tr]
 have h1 := mulL_PB hb.pb ha.pb i
 have h2 := Nat.mul_le_mul_right (j + k + 1) ha.len
 omega, can_pMul a b⟩
theorem qs_nat {z : Nat} (h : z < 4294967296) : qs (z : Rat) ≤ 1 := by
 have h1 := qs_int (z : Int)
 have h2 : dl z ≤ 1 := dl_le.2 (by simpa using h)
 have e : ((z : Int) : Rat) = (z : Rat) := rfl
 rw [e] at h1
 simp only [Int.natAbs_natCast] at h1
 omega
theorem Sz.c2 (ha : Sz a n j) (hb : Sz b m k) (h : n ≤ 1000000 ∧ m ≤ 1000000 ∧ j ≤ 5000000000000 ∧ k ≤ 5000000000000 := by decide) : (a.length ≤ 1000000 ∧ b.length ≤ 1000000) ∧ PB a 5000000000000 ∧ PB b 5000000000000 :=
 ⟨⟨Nat.le_trans ha.len h.1, Nat.le_trans hb.len h.2.1⟩, ha.pb.mono h.2.2.1, hb.pb.mono h.2.2.2⟩
theorem Sz.c1 (ha : Sz a n j) (h : n ≤ 1000000 ∧ j ≤ 5000000000000 := by decide) : a.length ≤ 1000000 ∧ PB a 5000000000000 := ⟨Nat.le_trans ha.len h.1, ha.pb.mono h.2⟩
theorem Sz.cm (ha : Sz a n j) (hb : Sz b m k) (h : n + m ≤ 1000000 ∧ n * (j + k + 1) + 1 ≤ 5000000000000 := by decide) : a.length + b.length ≤ 1000000 ∧ ∃ j k, (PB a j ∧ PB b k) ∧ a.length * (j + k + 1) ≤ 4999999999999 :=
 ⟨Nat.le_trans (Nat.add_le_add ha.len hb.len) h.1, j, k, ⟨ha.pb, hb.pb⟩, by have := Nat.mul_le_mul_right (j + k + 1) ha.len; omega⟩
end
theorem syn_PB {c : Rat} {C k : Nat} (hc : qs c ≤ C) : ∀ {l : List Rat}, PB l k → PB (syn c l) (l.length * (k + C + 1) + 1)
 | [], _ => PB_nil (by omega)
 | r :: l, h => by
   have ih := syn_PB hc (l := l) (k := k) fun i => h (i + 1)
   have hr : qs r ≤ k := h 0
   show PB ((r + c * hd0 (syn c l)) :: syn c l) _
   have e : (r :: l).length * (k + C + 1) + 1 = l.length * (k + C + 1) + 1 + (k + C + 1) := by
    rw [List.length_cons, Nat.add_mul]; omega
   rw [e]
   refine PB_cons ?_ (ih.mono (by omega))
   have h1 := qs_add r (c * hd0 (syn c l))
   have h2 := qs_mul c (hd0 (syn c l))
   have h3 := ih 0
   rw [← hd0_cf] at h3
   omega
def shBd : Nat → Nat → Nat → Nat
 | 0, k, _ => k
 | n + 1, k, C => shBd n ((n + 1) * (k + C + 1) + 1) C
theorem shBd_ge : ∀ (n k C : Nat), k ≤ shBd n k C
 | 0, _, _ => Nat.le_refl _
 | n + 1, k, C => by
   refine Nat.le_trans ?_ (shBd_ge n _ C)
   rw [Nat.add_mul]; omega
theorem tl0_PB {l : List Rat} {k : Nat} (h : PB l k) : PB (tl0 l) k := by
 cases l with
 | nil => exact h
 | cons x l => exact fun i => h (i + 1)
theorem sh_sz {c : Rat} {C : Nat} (hc : qs c ≤ C) : ∀ (n : Nat) {l : List Rat} {k : Nat}, l.length = n → PB l k → shBd n k C ≤ 2000000000000 → ShOk n c l ∧ PB (shF n c l) (shBd n k C)
 | 0, l, k, _, h, _ => ⟨trivial, PB_nil (by have := h.pos; simpa [shBd] using this)⟩
 | n + 1, l, k, hl, h, hb => by
   have h1 := syn_PB hc h
   rw [hl] at h1
   have hlen : (tl0 (syn c l)).length = n := by rw [tl0_len, syn_len, hl]; rfl
   obtain ⟨i1, i2⟩ := sh_sz hc n hlen (tl0_PB h1) hb
   have hge := shBd_ge n ((n + 1) * (k + C + 1) + 1) C
   have hk : k ≤ (n + 1) * (k + C + 1) + 1 := by rw [Nat.add_mul]; omega
   have hb' : shBd n ((n + 1) * (k + C + 1) + 1) C ≤ 2000000000000 := hb
   refine ⟨⟨⟨_, ⟨h.mono hk, h1⟩, by omega⟩, i1⟩, PB_cons ?_ i2⟩
   rw [hd0_cf]
   exact Nat.le_trans (h1 0) hge
theorem shBd_mono : ∀ {n m : Nat} (k C : Nat), n ≤ m → shBd n k C ≤ shBd m k C
 | n, 0, k, C, h => by
   obtain rfl : n = 0 := by omega
   exact Nat.le_refl _
 | 0, m + 1, k, C, _ => shBd_ge (m + 1) k C
 | n + 1, m + 1, k, C, h => by
   have key : ∀ (q k k' : Nat), k ≤ k' → shBd q k C ≤ shBd q k' C := by
    intro q
    induction q with
    | zero => exact fun _ _ h => h
    | succ q ih => exact fun k k' h => ih _ _ (by have := Nat.mul_le_mul_left (q + 1) (show k + C + 1 ≤ k' + C + 1 by omega); omega)
   refine Nat.le_trans (shBd_mono (n := n) (m := m) ((n + 1) * (k + C + 1) + 1) C (by omega)) (key m _ _ ?_)
   have := Nat.mul_le_mul_right (k + C + 1) h
   omega
theorem Sz.cs {a : List Rat} {c : Rat} {n k C : Nat} (ha : Sz a n k) (hc : qs c ≤ C) (h : shBd n k C ≤ 2000000000000 ∧ n ≤ 1000000 ∧ C ≤ 2000000000000 := by decide) : Can a ∧ a.length ≤ 1000000 ∧ qs c ≤ 2000000000000 ∧ ShOk a.length c a :=
 ⟨ha.can, Nat.le_trans ha.len h.2.1, Nat.le_trans hc h.2.2, (sh_sz hc a.length rfl ha.pb (by have := shBd_mono k C ha.len; omega)).1⟩
theorem ev_sz {x : Rat} {C k : Nat} (hx : qs x ≤ C) : ∀ {l : List Rat}, PB l k → qs (ev l x) ≤ l.length * (k + C + 1) + 1
 | [], _ => Nat.le_trans qs_0 (by omega)
 | r :: l, h => by
   have ih := ev_sz hx (l := l) (k := k) fun i => h (i + 1)
   have hr : qs r ≤ k := h 0
   show qs (r + x * ev l x) ≤ _
   have h1 := qs_add r (x * ev l x)
   have h2 := qs_mul x (ev l x)
   rw [List.length_cons, Nat.add_mul]
   omega
theorem Sz.ev {a : List Rat} {x : Rat} {n k C : Nat} (ha : Sz a n k) (hx : qs x ≤ C) : qs (ev a x) ≤ n * (k + C + 1) + 1 := by
 have h1 := ev_sz hx ha.pb
 have h2 := Nat.mul_le_mul_right (k + C + 1) ha.len
 omega
end Go.Proofs.YtfbogelmgdojgaaGreat


/- Sizes along Euclid's algorithm. No program in sight. -/
namespace Go.Proofs.YtfbogelmgdojgaaGreat
set_option linter.unusedSimpArgs false
set_option linter.unusedVariables false
open Go.RowKit

theorem cf_mulL_cons (x : Rat) (l b : List Rat) (i : Nat) : cf (mulL (x :: l) b) i = x * cf b i + (if i = 0 then 0 else cf (mulL l b) (i - 1)) := by
 show cf (addL (scL x b) (0 :: mulL l b)) i = _
 rw [cf_addL, cf_scL]
 cases i with
 | zero => rfl
 | succ i => rfl
theorem cf_mon_mul (c : Rat) (b : List Rat) : ∀ (k i : Nat), cf (mulL (mon c k) b) i = if k ≤ i then c * cf b (i - k) else 0
 | 0, i => by
   show cf (mulL [c] b) i = _
   rw [cf_mulL_cons, if_pos (Nat.zero_le _), Nat.sub_zero]
   have e : (if i = 0 then (0 : Rat) else cf (mulL [] b) (i - 1)) = 0 := by split <;> rfl
   rw [e, Rat.add_zero]
 | k + 1, i => by
   have e : mon c (k + 1) = 0 :: mon c k := by simp [mon, List.replicate_succ]
   rw [e, cf_mulL_cons, Rat.zero_mul, Rat.zero_add]
   cases i with
   | zero => rfl
   | succ i =>
     rw [if_neg (by omega), Nat.add_sub_cancel, cf_mon_mul c b k i]
     by_cases h : k ≤ i
     ·rw [if_pos h, if_pos (by omega), show i + 1 - (k + 1) = i - k from by omega]
     ·rw [if_neg h, if_neg (by omega)]
theorem dmF_PB {b : List Rat} {t : Nat} (hb : Can b) (h0 : b ≠ []) (hbt : PB b t) : ∀ (n : Nat) (q r : List Rat) (s Z K : Nat), Can r → PB r s → s + 2 * t + 1 ≤ Z → PB q K → (∀ i, i + b.length ≤ r.length → cf q i = 0) → 2 ^ (r.length + 1 - b.length) * Z ≤ K →
 PB (dmF n q r b).1 K ∧ PB (dmF n q r b).2 (K - (2 * t + 1))
 | 0, q, r, s, Z, K, hr, hs, hz, hq, _, hk => by
   have hZK : Z ≤ K := Nat.le_trans (Nat.le_mul_of_pos_left Z (Nat.two_pow_pos _)) hk
   exact ⟨hq, hs.mono (by omega)⟩
 | n + 1, q, r, s, Z, K, hr, hs, hz, hq, hqz, hk => by
   have hZK : Z ≤ K := Nat.le_trans (Nat.le_mul_of_pos_left Z (Nat.two_pow_pos _)) hk
   unfold dmF
   split
   ·exact ⟨hq, hs.mono (by omega)⟩
   ·rename_i h
    have hbl := List.length_pos_iff.2 h0
    have hst := dm_step hr hb h0 (by omega)
    obtain ⟨c, hc⟩ : ∃ c, lead r / lead b = c := ⟨_, rfl⟩
    obtain ⟨k, hkk⟩ : ∃ k, r.length - b.length = k := ⟨_, rfl⟩
    rw [hc, hkk] at hst ⊢
    have qc : qs c ≤ s + t := by rw [← hc]; exact Nat.le_trans (qs_div _ _) (Nat.add_le_add (hs _) (hbt _))
    have pr : PB (pSub r (pMul (mon c k) b)) (2 * s + 2 * t + 1) := fun i => by
     rw [cf_pSub]
     unfold pMul
     rw [cf_tr, cf_mon_mul]
     have h1 := qs_sub (cf r i) (if k ≤ i then c * cf b (i - k) else 0)
     have h2 : qs (if k ≤ i then c * cf b (i - k) else 0) ≤ s + 2 * t := by
      split
      ·have := qs_mul c (cf b (i - k)); have := hbt (i - k); omega
      ·have := qs_0; have := hs.pos; omega
     have := hs i
     omega
    refine dmF_PB hb h0 hbt n _ _ (2 * s + 2 * t + 1) (2 * Z) K (can_pSub _ _) pr (by omega) (fun i => ?_) (fun i hi => ?_) ?_
    ·rw [cf_pAdd]
     by_cases e : i = k
     ·subst e
      rw [mon_top, hqz i (by omega), Rat.zero_add]
      omega
     ·rw [mon_low c k i e, Rat.add_zero]
      exact hq i
    ·rw [cf_pAdd, mon_low c k i (by omega), hqz i (by omega), Rat.add_zero]
    ·generalize (pSub r (pMul (mon c k) b)).length = m at hst
     have e : 2 ^ (m + 1 - b.length) * (2 * Z) = 2 ^ (m + 1 - b.length + 1) * Z := by rw [Nat.pow_succ, Nat.mul_assoc]
     rw [e]
     exact Nat.le_trans (Nat.mul_le_mul_right Z (Nat.pow_le_pow_right (by decide) (by omega))) hk
theorem div_PB {a b : List Rat} {s t S : Nat} (ha : Can a) (hb : Can b) (h0 : b ≠ []) (hs : PB a s) (ht : PB b t) (hS : s + 2 * t + 1 ≤ S) : PB (pDiv a b) (2 ^ (a.length - b.length + 1) * S) ∧ PB (pMod a b) (2 ^ (a.length - b.length + 1) * S) := by
 have hp : 1 ≤ 2 ^ (a.length - b.length + 1) * S := Nat.le_trans (show 1 ≤ S by omega) (Nat.le_mul_of_pos_left S (Nat.two_pow_pos _))
 have h := dmF_PB hb h0 ht a.length [] a s S _ ha hs hS (PB_nil hp) (fun i _ => rfl) (Nat.mul_le_mul_right S (Nat.pow_le_pow_right (by decide) (by omega)))
 exact ⟨h.1, h.2.mono (Nat.sub_le _ _)⟩
theorem mod_PB {a b : List Rat} {s t S : Nat} (ha : Can a) (hb : Can b) (h0 : b ≠ []) (hs : PB a s) (ht : PB b t) (hS : s + 2 * t + 1 ≤ S) : PB (pMod a b) (2 ^ (a.length - b.length + 1) * S - (2 * t + 1)) := by
 have hp : 1 ≤ 2 ^ (a.length - b.length + 1) * S := Nat.le_trans (show 1 ≤ S by omega) (Nat.le_mul_of_pos_left S (Nat.two_pow_pos _))
 exact (dmF_PB hb h0 ht a.length [] a s S _ ha hs hS (PB_nil hp) (fun i _ => rfl) (Nat.mul_le_mul_right S (Nat.pow_le_pow_right (by decide) (by omega)))).2
theorem div_len {a b : List Rat} (ha : Can a) (hb : Can b) (h0 : b ≠ []) : (pDiv a b).length ≤ a.length - b.length + 1 := by
 obtain ⟨⟨cq, cr⟩, hl, he⟩ := dm_ok ha hb h0
 by_cases q0 : pDiv a b = []
 ·rw [q0]; exact Nat.zero_le _
 ·have e : pMul (pDiv a b) b = pSub a (pMod a b) := ev_inj (can_pMul _ _) (can_pSub _ _) fun x => by
   rw [ev_pMul, ev_pSub]
   have := he x
   grind
  have h1 := len_pMul cq hb q0 h0
  have h2 := len_pSub a (pMod a b)
  rw [e] at h1
  have h3 := List.length_pos_iff.2 q0
  omega
end Go.Proofs.YtfbogelmgdojgaaGreat


/- The helpers of the laws of polynomials: sanity, made, number. -/
namespace Go.Proofs.YtfbogelmgdojgaaGreat
set_option linter.unusedSimpArgs false
set_option linter.unusedVariables false
open Go.RowKit

def kSqf (k : Nat) (l : List (List Rat × Nat)) : Con := con1 pR fun a => (pSqf k a = some l ∧ SfOk k a, .lst (V.facs l))
attribute [go_sem ↓, go_sem] kSqf
theorem sqf_C (k : Nat) (l : List (List Rat × Nat)) : Ctr Tryz.prog 68 (kSqf k l) := Ctr.c1 (by kernel_rfl) fun a h => sqf_V k a l h.2 h.1
theorem b8 (l : List Int) (h : (l.all fun z => decide (-128 ≤ z) && decide (z ≤ 127)) = true) : ∀ z ∈ l, B8 z := fun z hz => by
 have := List.all_eq_true.1 h z hz
 simp only [Bool.and_eq_true, decide_eq_true_eq] at this
 exact this
theorem app_cons {α : Type} (a : α) (l m : List α) : List.append (a :: l) m = a :: List.append l m := rfl
theorem app_nil {α : Type} (m : List α) : List.append [] m = m := rfl
end Go.Proofs.YtfbogelmgdojgaaGreat


/- The helpers of the laws of polynomials: made, number; the arguments. -/
namespace Go.Proofs.YtfbogelmgdojgaaGreat
set_option linter.unusedSimpArgs false
set_option linter.unusedVariables false
open Go.RowKit

theorem qs_mdQ {n d : Int} (hn : B8 n) (hd : B8 d) : qs (mdQ n d) ≤ 1 := by
 unfold mdQ
 obtain ⟨h1, h2⟩ := hn
 obtain ⟨h3, h4⟩ := hd
 refine Nat.le_trans (qs_divInt _ _) ?_
 have e1 : dl n.natAbs ≤ 1 := dl_le.2 (by simp only [Nat.pow_one]; omega)
 have e2 : dl (if d = 0 then (1 : Int) else d).natAbs ≤ 1 := dl_le.2 (by simp only [Nat.pow_one]; split <;> omega)
 omega
theorem psL_sz {l : List (Int × Int)} (h : P8 l) (n : Nat) : Sz (psL l (n : Nat)) n 1 := ⟨by
 unfold psL
 refine Nat.le_trans (tr_len _) ?_
 rw [rg_len]; omega, fun i => by
 unfold psL
 rw [cf_tr, cf_rg]
 split
 ·have := B8.get2 h.2 i
  exact qs_mdQ this.1 this.2
 ·exact qs_0, tr_can _⟩
structure Th where
 A : List (Int × Int)
 B : List (Int × Int)
 C : List (Int × Int)
 X : Int × Int
def Th.v (x : Th) : V := .agg [.lst (V.prs x.A), .lst (V.prs x.B), .lst (V.prs x.C), .agg [.raw (.int .i8 x.X.1), .raw (.int .i8 x.X.2)]]
def Th.Ok (x : Th) : Prop := (P8 x.A ∧ P8 x.B ∧ P8 x.C) ∧ B8 x.X.1 ∧ B8 x.X.2
theorem list_prs {P : Program} {n : Nat} {e b : TypeId} (he : P.underlying e = some (.array 2 b)) (hb : P.underlying b = some (.int .i8)) : ∀ (l : List V), (∀ y ∈ l, Fits P (n + 2) e y) → ∃ A : List (Int × Int), l = V.prs A ∧ ∀ z ∈ A, B8 z.1 ∧ B8 z.2
 | [], _ => ⟨[], rfl, fun z hz => by simp at hz⟩
 | y :: l, h => by
   obtain ⟨A, rfl, hA⟩ := list_prs he hb l fun y hy => h y (by simp [hy])
   obtain ⟨m, rfl, hm⟩ := fits_arr he (h y (by simp))
   obtain ⟨x1, m1, rfl, g1, hm⟩ := fitL_cons hm
   obtain ⟨x2, m2, rfl, g2, hm⟩ := fitL_cons hm
   have := fitL_nil hm
   subst this
   obtain ⟨z1, w1, rfl⟩ := fits_int hb g1
   obtain ⟨z2, w2, rfl⟩ := fits_int hb g2
   exact ⟨(z1, z2) :: A, rfl, fun z hz => by
    rcases List.mem_cons.1 hz with rfl | hz
    ·exact ⟨wf_i8 w1, wf_i8 w2⟩
    ·exact hA z hz⟩
theorem fits_prs {P : Program} {n : Nat} {t e b : TypeId} {X : V} (hu : P.underlying t = some (.slice e)) (he : P.underlying e = some (.array 2 b)) (hb : P.underlying b = some (.int .i8)) (h : Fits P (n + 3) t X) : ∃ A, X = .lst (V.prs A) ∧ P8 A := by
 obtain ⟨l, rfl, hl, hy⟩ := fits_sl hu h
 obtain ⟨A, rfl, hA⟩ := list_prs he hb l hy
 rw [prs_len] at hl
 exact ⟨A, rfl, hl, hA⟩
theorem fits_pr {P : Program} {n : Nat} {e b : TypeId} {X : V} (he : P.underlying e = some (.array 2 b)) (hb : P.underlying b = some (.int .i8)) (h : Fits P (n + 2) e X) : ∃ z : Int × Int, X = .agg [.raw (.int .i8 z.1), .raw (.int .i8 z.2)] ∧ B8 z.1 ∧ B8 z.2 := by
 obtain ⟨A, e1, hA⟩ := list_prs he hb [X] fun y hy => by
  rw [List.mem_singleton.1 hy]; exact h
 match A, e1 with
 | [z], e1 =>
   injection e1 with e1 _
   exact ⟨z, e1, hA z (by simp)⟩
end Go.Proofs.YtfbogelmgdojgaaGreat


/- The law of rings: sums and products of polynomials. -/
namespace Go.Proofs.YtfbogelmgdojgaaGreat
set_option linter.unusedSimpArgs false
set_option linter.unusedVariables false
open Go.RowKit

theorem beq_len0 (l : List Rat) : ((l.length : Int) == 0) = decide (l = []) := by
 cases l with
 | nil => rfl
 | cons x l => rw [decide_eq_false (by simp)]; simp; omega
end Go.Proofs.YtfbogelmgdojgaaGreat


/- The law of division: quotients, remainders and common divisors of polynomials. -/
namespace Go.Proofs.YtfbogelmgdojgaaGreat
set_option linter.unusedSimpArgs false
set_option linter.unusedVariables false
open Go.RowKit

theorem Sz.monic {a : List Rat} {n k : Nat} (ha : Sz a n k) : Sz (pMonic a) n (2 * k + 1) := ⟨by rw [len_pMonic ha.can]; exact ha.len, fun i => by
 unfold pMonic
 split
 ·exact Nat.le_trans qs_0 (by omega)
 ·rw [cf_pSc]
  have h1 := qs_mul (1 / lead a) (cf a i)
  have h2 := qs_inv1 (lead a) (ha.pb (a.length - 1))
  have := ha.pb i
  omega, can_pMonic a⟩
theorem Sz.dv {a b : List Rat} {n m j k : Nat} (ha : Sz a n j) (hb : Sz b m k) (h : (n ≤ 100 ∧ m ≤ 100) ∧ 2 ^ (n + 1) * (j + 2 * k + 1) ≤ 2500000000000 := by decide) : DvOk a b :=
 ⟨⟨ha.can, hb.can⟩, by have := ha.len; have := hb.len; omega, j, k, ⟨ha.pb, hb.pb⟩, Nat.le_trans (Nat.mul_le_mul_right _ (Nat.pow_le_pow_right (by decide) (by have := ha.len; omega))) h.2⟩
end Go.Proofs.YtfbogelmgdojgaaGreat


/- The law of division of polynomials. -/
namespace Go.Proofs.YtfbogelmgdojgaaGreat
set_option linter.unusedSimpArgs false
set_option linter.unusedVariables false
open Go.RowKit

theorem len0 (l : List Rat) : (0 : Int) < (l.length : Int) ↔ l ≠ [] := by
 cases l with
 | nil => simp
 | cons x l => simp
end Go.Proofs.YtfbogelmgdojgaaGreat


/- Contracts: the reference of package poly, lists that are computed value by value. -/
namespace Go.Proofs.YtfbogelmgdojgaaGreat
set_option linter.unusedSimpArgs false
set_option linter.unusedVariables false
open Go.RowKit

theorem lt0 (n : Nat) : ¬ ((n : Nat) : Int) < 0 := by omega
theorem rAdd_C : Ctr Tryz.prog 31 kPAdd := Ctr.c2 (by kernel_rfl) fun a b h => by
 obtain ⟨⟨la, lb⟩, ha, hb⟩ := h
 show PCall _ _ _ (.lst (V.rats (pAdd a b)))
 rw [← add_list]
 show PCall _ _ _ (.lst (V.rats (tr (rg (fun i => cf a i + cf b i) (max a.length b.length)))))
 obtain ⟨F, hF⟩ : ∃ F : Nat → Rat, F = fun i => cf a i + cf b i := ⟨_, rfl⟩
 rw [← hF]
 have mx : maxLen = 9223372036854775807 := by decide
 refine PCall.of_vc (tabs mixed (tbl_cons rTrim_C (tbl_cons rAt_C (tbl_cons r2Add_C tbl_nil)))) Tryz.func31 rfl Tryz.ntmps31 Tryz.results31 (by simp) ?_
 simp only [go_sem]
 refine AWp.loops (X := { i : Nat // i ≤ max a.length b.length }) (fun i => mkSt [(0, .lst (V.rats a)), (1, .lst (V.rats b)), (4, .raw (.slice none 0 0)), (5, .sl 0 4 0 i.1), (6, .raw (.int .i64 (i.1 : Nat)))] [(0, true, ⟨45, 4, V.rats (rg F i.1)⟩)] 1 29) (fun i => max a.length b.length - i.1) ⟨0, Nat.zero_le _⟩ (Wk.of [1] (by decide) ?_) ?_
 ·simp only [go_sem, rg_0, rats_0, Int.natCast_zero]
 ·rintro ⟨i, hi⟩
  refine vc_at (tabs mixed (tbl_cons rTrim_C (tbl_cons rAt_C (tbl_cons r2Add_C tbl_nil)))) ?_
  have c3 : (i : Int) + 1 = ((i + 1 : Nat) : Int) := by omega
  have c4 := lt0 i
  have m1 : (if (a.length : Int) < (b.length : Int) then (b.length : Int) else (a.length : Int)) = ((max a.length b.length : Nat) : Int) := by split <;> omega
  have f1 : cf a i + cf b i = F i := by rw [hF]
  have q1 := ha i
  have q2 := hb i
  by_cases hin : i < max a.length b.length
  ·have c1 : (i : Int) < ((max a.length b.length : Nat) : Int) := by omega
   simp only [go_sem, m1, c1, c3, c4, f1, rg_snoc, mx, Int.toNat_natCast, q1, q2]
   refine ⟨⟨by omega, by omega⟩, ⟨by omega, by omega⟩, ⟨i + 1, hin⟩, Wk.of [17] (by decide) ?_, by simp only; omega⟩
   simp only [go_sem]
  ·obtain rfl : i = max a.length b.length := by omega
   have c1 : ¬ ((max a.length b.length : Nat) : Int) < ((max a.length b.length : Nat) : Int) := by omega
   simp only [go_sem, m1, c1]
   omega
theorem rSc_C : Ctr Tryz.prog 40 kPSc := Ctr.c2 (by kernel_rfl) fun a c h => by
 obtain ⟨la, ha, hc⟩ := h
 show PCall _ _ _ (.lst (V.rats (pSc c a)))
 rw [← sc_list]
 show PCall _ _ _ (.lst (V.rats (tr (rg (fun i => cf a i * c) a.length))))
 obtain ⟨F, hF⟩ : ∃ F : Nat → Rat, F = fun i => cf a i * c := ⟨_, rfl⟩
 rw [← hF]
 have mx : maxLen = 9223372036854775807 := by decide
 refine PCall.of_vc (tabs mixed (tbl_cons rTrim_C (tbl_cons r2Mul_C tbl_nil))) Tryz.func40 rfl Tryz.ntmps40 Tryz.results40 (by simp) ?_
 simp only [go_sem]
 refine AWp.loops (X := { i : Nat // i ≤ a.length }) (fun i => mkSt [(0, .lst (V.rats a)), (3, .ptr 0 4 0 0), (4, .raw (.slice none 0 0)), (5, .sl 1 4 0 i.1), (6, .raw (.int .i64 (i.1 : Nat)))] [(0, false, ⟨45, 4, [.Q c]⟩), (1, true, ⟨45, 4, V.rats (rg F i.1)⟩)] 2 25) (fun i => a.length - i.1) ⟨0, Nat.zero_le _⟩ (Wk.of [0, 2] (by decide) ?_) ?_
 ·simp only [go_sem, rg_0, rats_0, Int.natCast_zero]
  exact renV_pure rfl
 ·rintro ⟨i, hi⟩
  refine vc_at (tabs mixed (tbl_cons rTrim_C (tbl_cons r2Mul_C tbl_nil))) ?_
  have c3 : (i : Int) + 1 = ((i + 1 : Nat) : Int) := by omega
  have f1 : cf a i * c = F i := by rw [hF]
  have q1 := ha i
  by_cases hin : i < a.length
  ·have c1 : (i : Int) < (a.length : Int) := by omega
   simp only [go_sem, c1, c3, f1, rg_snoc, mx, q1, hc]
   refine ⟨by omega, hin, ⟨by omega, by omega⟩, by rfl, ⟨by omega, by omega⟩, ⟨i + 1, hin⟩, Wk.of [0, 14] (by decide) ?_, by simp only; omega⟩
   simp only [go_sem]
   exact renV_pure rfl
  ·obtain rfl : i = a.length := by omega
   have c1 : ¬ (a.length : Int) < (a.length : Int) := by omega
   simp only [go_sem, c1]
   omega
theorem rDiff_C : Ctr Tryz.prog 47 kPDiff := Ctr.c1 (by kernel_rfl) fun a h => by
 obtain ⟨la, ha⟩ := h
 show PCall _ _ _ (.lst (V.rats (pDiff a)))
 rw [← diff_list]
 show PCall _ _ _ (.lst (V.rats (tr (rg (fun i => cf a (i + 1) * (((i + 1 : Nat) : Int) : Rat)) (a.length - 1)))))
 obtain ⟨F, hF⟩ : ∃ F : Nat → Rat, F = fun i => cf a (i + 1) * (((i + 1 : Nat) : Int) : Rat) := ⟨_, rfl⟩
 rw [← hF]
 have mx : maxLen = 9223372036854775807 := by decide
 refine PCall.of_vc (tabs mixed (tbl_cons rTrim_C (tbl_cons r2Whole_C (tbl_cons r2Mul_C tbl_nil)))) Tryz.func47 rfl Tryz.ntmps47 Tryz.results47 (by simp) ?_
 simp only [go_sem]
 refine AWp.loops (X := { i : Nat // i ≤ a.length - 1 }) (fun i => mkSt [(0, .lst (V.rats a)), (2, .raw (.slice none 0 0)), (3, .sl 0 4 0 i.1), (4, .raw (.int .i64 ((i.1 + 1 : Nat) : Int)))] [(0, true, ⟨45, 4, V.rats (rg F i.1)⟩)] 1 24) (fun i => a.length - i.1) ⟨0, Nat.zero_le _⟩ (Wk.of [1] (by decide) ?_) ?_
 ·simp only [go_sem, rg_0, rats_0, Int.natCast_zero, Nat.zero_add]
 ·rintro ⟨i, hi⟩
  refine vc_at (tabs mixed (tbl_cons rTrim_C (tbl_cons r2Whole_C (tbl_cons r2Mul_C tbl_nil)))) ?_
  have c3 : ((i + 1 : Nat) : Int) + 1 = ((i + 1 + 1 : Nat) : Int) := by omega
  have f1 : cf a (i + 1) * (((i + 1 : Nat) : Int) : Rat) = F i := by rw [hF]
  have q1 := ha (i + 1)
  have q2 : i + 1 < a.length → qs (((i + 1 : Nat) : Int) : Rat) ≤ 5000000000000 := fun h => Nat.le_trans (qs_nat (z := i + 1) (by omega)) (by decide)
  by_cases hin : i + 1 < a.length
  ·have c1 : ((i + 1 : Nat) : Int) < (a.length : Int) := by omega
   have q2 := q2 hin
   simp only [go_sem, c1, c3, f1, rg_snoc, mx, q1, q2]
   refine ⟨by omega, hin, ⟨by omega, by omega⟩, ⟨by omega, by omega⟩, by rfl, ⟨by omega, by omega⟩, ⟨i + 1, by omega⟩, Wk.of [14] (by decide) ?_, by simp only; omega⟩
   simp only [go_sem]
  ·obtain rfl : i = a.length - 1 := by omega
   have c1 : ¬ ((a.length - 1 + 1 : Nat) : Int) < (a.length : Int) := by omega
   simp only [go_sem, c1]
   omega
end Go.Proofs.YtfbogelmgdojgaaGreat


/- Contracts: the reference of package poly, single values and small functions. -/
namespace Go.Proofs.YtfbogelmgdojgaaGreat
set_option linter.unusedSimpArgs false
set_option linter.unusedVariables false
open Go.RowKit

def kPRNeg : Con := con1 pR fun a => (a.length ≤ 1000000 ∧ PB a 5000000000000, .lst (V.rats (pSc ((-1 : Int) : Rat) a)))
attribute [go_sem ↓, go_sem] kPRNeg
theorem qm1 : qs ((-1 : Int) : Rat) ≤ 1 := smq_ok (by decide +kernel) (Nat.le_refl _)
theorem rPNeg_C : Ctr Tryz.prog 109 kPRNeg := Ctr.c1 (by kernel_rfl) fun a h => by
 obtain ⟨la, ha⟩ := h
 show PCall _ _ _ (.lst (V.rats (pSc ((-1 : Int) : Rat) a)))
 refine PCall.of_vc (tabs mixed (tbl_cons r2Whole_C (tbl_cons rSc_C tbl_nil))) Tryz.func109 rfl Tryz.ntmps109 Tryz.results109 (by simp) ?_
 have q1 : qs ((-1 : Int) : Rat) ≤ 5000000000000 := Nat.le_trans qm1 (by decide)
 simp only [go_sem, la, ha, q1]
theorem PB_neg {a : List Rat} {k : Nat} (h : PB a k) : PB (pSc ((-1 : Int) : Rat) a) k := fun i => by
 rw [cf_pSc]
 have e : ((-1 : Int) : Rat) * cf a i = -cf a i := by
  have : ((-1 : Int) : Rat) = -1 := by decide +kernel
  rw [this]; grind
 rw [e, qs_neg]
 exact h i
theorem rSub_C : Ctr Tryz.prog 70 kPSub := Ctr.c2 (by kernel_rfl) fun a b h => by
 obtain ⟨⟨la, lb⟩, ha, hb⟩ := h
 show PCall _ _ _ (.lst (V.rats (pSub a b)))
 have e : pAdd a (pSc ((-1 : Int) : Rat) b) = pSub a b := ev_inj (can_pAdd _ _) (can_pSub _ _) fun x => by
  have : ((-1 : Int) : Rat) = -1 := by decide +kernel
  rw [ev_pAdd, ev_pSub, ev_pSc, this]; grind
 have h1 := PB_neg hb
 have h2 : (pSc ((-1 : Int) : Rat) b).length ≤ 1000000 := Nat.le_trans (len_pSc _ _) lb
 refine PCall.of_vc (tabs mixed (tbl_cons rPNeg_C (tbl_cons rAdd_C tbl_nil))) Tryz.func70 rfl Tryz.ntmps70 Tryz.results70 (by simp) ?_
 simp only [go_sem, la, lb, ha, hb, h1, h2, e]
def kRLead : Con := con1 pR fun a => (a.length ≤ 1000000, .Q (lead a))
attribute [go_sem ↓, go_sem] kRLead
theorem rLead_C : Ctr Tryz.prog 86 kRLead := Ctr.c1 (by kernel_rfl) fun a la => by
 show PCall _ _ _ (.Q (lead a))
 have la : a.length ≤ 1000000 := la
 refine PCall.of_vc (tabs mixed (tbl_cons rAt_C tbl_nil)) Tryz.func86 rfl Tryz.ntmps86 Tryz.results86 (by simp) ?_
 have e : (if (a.length : Int) - 1 < 0 then (0 : Rat) else cf a ((a.length : Int) - 1).toNat) = lead a := by
  unfold lead
  split
  ·rw [cf_ge (by omega)]
  ·rw [show ((a.length : Int) - 1).toNat = a.length - 1 from by omega]
 simp only [go_sem, e]
 exact ⟨by omega, by omega⟩
def kRInv : Con := con1 pQ fun c => (qs c ≤ 5000000000000, .Q (1 / c))
attribute [go_sem ↓, go_sem] kRInv
theorem rInv_C : Ctr Tryz.prog 85 kRInv := Ctr.c1 (by kernel_rfl) fun c hc => by
 have hc : qs c ≤ 5000000000000 := hc
 show PCall _ _ _ (.Q (1 / c))
 have q1 : qs 1 ≤ 5000000000000 := Nat.le_trans qs_1 (by decide)
 refine PCall.of_vc (tabs mixed (tbl_cons rOne_C (tbl_cons r2Div_C (tbl_cons r2Sign_C (tbl_cons rZero_C tbl_nil))))) Tryz.func85 rfl Tryz.ntmps85 Tryz.results85 (by simp) ?_
 by_cases c0 : c = 0
 ·have e1 : divR 1 c = .tup [.agg [.I 0, .I 0], .raw (.int .i64 3)] := if_pos c0
  have e2 : (sgI c.num == 0) = true := by rw [sgn_numQ]; exact decide_eq_true c0
  have e3 : 1 / c = 0 := by rw [c0]; decide +kernel
  simp only [go_sem, e1, e2, e3, hc, q1]
  rfl
 ·have e1 : divR 1 c = .tup [.Q (1 / c), .raw (.int .i64 0)] := if_neg c0
  have e2 : (sgI c.num == 0) = false := by rw [sgn_numQ]; exact decide_eq_false c0
  simp only [go_sem, e1, e2, hc, q1]
  rfl
theorem rMonic_C : Ctr Tryz.prog 46 kMonic := Ctr.c1 (by kernel_rfl) fun a h => by
 obtain ⟨ca, la, s, pa, hs⟩ := h
 show PCall _ _ _ (.lst (V.rats (pMonic a)))
 have e : pSc (1 / lead a) a = pMonic a := by
  by_cases a0 : a = []
  ·subst a0; rfl
  ·exact (if_neg a0).symm
 have l1 : qs (lead a) ≤ s := pa _
 have l2 := qs_inv1 _ l1
 have l3 : qs (lead a) ≤ 5000000000000 := by omega
 have l4 : qs (1 / lead a) ≤ 5000000000000 := by omega
 have l5 : PB a 5000000000000 := pa.mono (by omega)
 refine PCall.of_vc (tabs mixed (tbl_cons rLead_C (tbl_cons rInv_C (tbl_cons rSc_C tbl_nil)))) Tryz.func46 rfl Tryz.ntmps46 Tryz.results46 (by simp) ?_
 simp only [go_sem, la, l3, l4, l5, e]
def kRPower : Con := con2 pQ (pN .i64) fun c n => (0 ≤ n ∧ n ≤ 1000000, .lst (V.rats (tr (mon c n.toNat))))
attribute [go_sem ↓, go_sem] kRPower
theorem rg_zeros (n : Nat) (c : Rat) : rg (fun _ => 0) n ++ [c] = mon c n := by
 unfold rg mon
 congr 1
 induction n with
 | zero => rfl
 | succ n ih => rw [List.range_succ, List.map_append, ih, List.replicate_succ']; rfl
theorem rPower_C : Ctr Tryz.prog 41 kRPower := Ctr.c2 (by kernel_rfl) fun c z h => by
 obtain ⟨h1, h2⟩ := h
 obtain ⟨n, rfl⟩ : ∃ n : Nat, z = n := ⟨z.toNat, by omega⟩
 show PCall _ _ _ (.lst (V.rats (tr (mon c (n : Int).toNat))))
 rw [Int.toNat_natCast]
 have mx : maxLen = 9223372036854775807 := by decide
 refine PCall.of_vc (tabs mixed (tbl_cons rTrim_C (tbl_cons rZero_C tbl_nil))) Tryz.func41 rfl Tryz.ntmps41 Tryz.results41 (by simp) ?_
 simp only [go_sem]
 refine AWp.loops (X := { i : Nat // i ≤ n }) (fun i => mkSt [(1, .raw (.int .i64 (n : Nat))), (2, .ptr 0 4 0 0), (4, .raw (.slice none 0 0)), (5, .sl 1 4 0 i.1), (6, .raw (.int .i64 (i.1 : Nat)))] [(0, false, ⟨45, 4, [.Q c]⟩), (1, true, ⟨45, 4, V.rats (rg (fun _ => 0) i.1)⟩)] 2 23) (fun i => n - i.1) ⟨0, Nat.zero_le _⟩ (Wk.of [0, 2] (by decide) ?_) ?_
 ·simp only [go_sem, rg_0, rats_0, Int.natCast_zero]
  exact renV_pure rfl
 ·rintro ⟨i, hi⟩
  refine vc_at (tabs mixed (tbl_cons rTrim_C (tbl_cons rZero_C tbl_nil))) ?_
  have c3 : (i : Int) + 1 = ((i + 1 : Nat) : Int) := by omega
  have f1 := rg_snoc (fun _ => (0 : Rat)) i
  by_cases hin : i < n
  ·have c1 : (i : Int) < (n : Int) := by omega
   simp only [go_sem, c1, c3, f1, mx]
   refine ⟨⟨by omega, by omega⟩, ⟨by omega, by omega⟩, ⟨i + 1, hin⟩, Wk.of [0, 8] (by decide) ?_, by simp only; omega⟩
   simp only [go_sem]
   exact renV_pure rfl
  ·obtain rfl : i = n := by omega
   have c1 : ¬ (i : Int) < (i : Int) := by omega
   simp only [go_sem, c1, rg_zeros, mx, mon_len]
   refine ⟨⟨by omega, by omega⟩, by omega, ?_⟩
   rw [List.take_of_length_le (by rw [mon_len]; exact Nat.le_refl _)]
   exact .refl _
end Go.Proofs.YtfbogelmgdojgaaGreat

