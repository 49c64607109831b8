/- Texts SZ4 PM13 J1 J2 J3 J4 in one. -/
import Derived.Test.YtfbogelmgdojgaaGreatR26
import Derived.Test.YtfbogelmgdojgaaGreatR20
/- Sizes along Euclid's algorithm, by computation over all lengths. No program in sight. -/
namespace Go.Proofs.YtfbogelmgdojgaaGreat
set_option linter.unusedSimpArgs false
set_option linter.unusedVariables false
open Go.RowKit

/-- The size of a remainder. -/
def rmB (la sa lb sb : Nat) : Nat := 2 ^ (la - lb + 1) * (sa + 2 * sb + 1) - (2 * sb + 1)
def dvC (la sa lb sb : Nat) : Bool := decide (la + lb ≤ 1000000) && decide (2 ^ (la - lb + 1) * (sa + 2 * sb + 1) ≤ 2500000000000)
theorem dvC_ok {la sa lb sb : Nat} {a b : List Rat} (h : dvC la sa lb sb = true) (ha : Can a) (hb : Can b) (la' : a.length ≤ la) (lb' : b.length = lb) (pa : PB a sa) (pb : PB b sb) : DvOk a b := by
  simp only [dvC, Bool.and_eq_true, decide_eq_true_eq] at h
  subst lb'
  exact ⟨⟨ha, hb⟩, by omega, sa, sb, ⟨pa, pb⟩, Nat.le_trans (Nat.mul_le_mul_right _ (Nat.pow_le_pow_right (by decide) (by omega))) h.2⟩
theorem rm_PB {a b : List Rat} {sa sb : Nat} (ha : Can a) (hb : Can b) (b0 : b ≠ []) (pa : PB a sa) (pb : PB b sb) : PB (pMod a b) (rmB a.length sa b.length sb) := mod_PB ha hb b0 pa pb (Nat.le_refl _)
/-- Whether all lengths below a bound pass. -/
def allB : Nat → (Nat → Bool) → Bool
  | 0, _ => true
  | n + 1, f => f n && allB n f
theorem allB_ok : ∀ {n : Nat} {f : Nat → Bool}, allB n f = true → ∀ i, i < n → f i = true
  | n + 1, f, h, i, hi => by
    simp only [allB, Bool.and_eq_true] at h
    by_cases e : i = n
    · rw [e]; exact h.1
    · exact allB_ok h.2 i (by omega)
def mxB : Nat → (Nat → Nat) → Nat
  | 0, _ => 0
  | n + 1, f => max (f n) (mxB n f)
theorem mxB_ok : ∀ {n : Nat} {f : Nat → Nat}, ∀ i, i < n → f i ≤ mxB n f
  | n + 1, f, i, hi => by
    simp only [mxB]
    by_cases e : i = n
    · rw [e]; omega
    · have := mxB_ok (f := f) i (show i < n by omega); omega
/-- The resultant. -/
def pwC (c n : Nat) : Bool := decide (n ≤ 1000000) && (decide (n * c + 1 ≤ 2500000000000) && decide (c ≤ 2500000000000))
theorem pwC_ok {c n m : Nat} {x : Rat} (h : pwC c n = true) (hx : qs x ≤ c) (hm : m ≤ n) : PwOk x m ∧ qs (x ^ m) ≤ n * c + 1 := by
  simp only [pwC, Bool.and_eq_true, decide_eq_true_eq] at h
  have h1 := Nat.mul_le_mul hm hx
  exact ⟨⟨by omega, by omega, by omega⟩, by have := qs_pow x m; omega⟩
def reC : Nat → Nat → Nat → Nat → Nat → Nat → Bool
  | 0, _, _, _, _, _ => false
  | n + 1, so, la, sa, lb, sb => (decide (la ≤ 1000000) && (decide (lb ≤ 1000000) && decide (so ≤ 2500000000000))) &&
    (if la = 0 ∨ lb = 0 then true else if lb = 1 then pwC sb (la - 1) else if la = 1 then pwC sa (lb - 1) else
      if la < lb then reC n so lb sb la sa else dvC la sa lb sb && allB lb fun l => if l = 0 then true else pwC sb (la - l) && (decide (so + ((la - l) * sb + 1) ≤ 2500000000000) && reC n (so + ((la - l) * sb + 1)) lb sb l (rmB la sa lb sb)))
theorem qs_sgm (m n : Nat) (x : Rat) : qs (sgm m n x) = qs x := by
  unfold sgm
  split
  · exact qs_neg x
  · rfl
theorem reC_ok : ∀ (n : Nat) {so la sa lb sb : Nat} {o : Rat} {a b : List Rat}, reC n so la sa lb sb = true → qs o ≤ so → Can a → Can b → a.length = la → b.length = lb → PB a sa → PB b sb → ReOk n o a b
  | 0, _, _, _, _, _, _, _, _, h, _, _, _, _, _, _, _ => by cases h
  | n + 1, so, la, sa, lb, sb, o, a, b, h, ho, ca, cb, e1, e2, pa, pb => by
    subst e1 e2
    simp only [reC, Bool.and_eq_true, decide_eq_true_eq] at h
    obtain ⟨⟨h1, h2, h3⟩, h4⟩ := h
    refine ⟨⟨ca, cb⟩, ⟨h1, h2⟩, by omega, ?_⟩
    have en : ∀ l : List Rat, l = [] ↔ l.length = 0 := fun l => ⟨fun e => by rw [e]; rfl, List.eq_nil_of_length_eq_zero⟩
    by_cases h0 : a = [] ∨ b = []
    · rw [if_pos h0]; trivial
    · rw [if_neg h0]
      rw [if_neg (by rw [← en, ← en]; exact h0)] at h4
      have a0 : a ≠ [] := fun e => h0 (.inl e)
      have b0 : b ≠ [] := fun e => h0 (.inr e)
      by_cases hb1 : b.length = 1
      · rw [if_pos hb1] at h4 ⊢
        exact (pwC_ok h4 (pb 0) (Nat.le_refl _)).1
      · rw [if_neg hb1] at h4 ⊢
        by_cases ha1 : a.length = 1
        · rw [if_pos ha1] at h4 ⊢
          exact (pwC_ok h4 (pa 0) (Nat.le_refl _)).1
        · rw [if_neg ha1] at h4 ⊢
          by_cases hlt : a.length < b.length
          · rw [if_pos hlt] at h4 ⊢
            exact reC_ok n h4 (by rw [qs_sgm]; exact ho) cb ca rfl rfl pb pa
          · rw [if_neg hlt] at h4 ⊢
            simp only [Bool.and_eq_true] at h4
            obtain ⟨⟨_, cr⟩, hr, _⟩ := dm_ok ca cb b0
            refine ⟨dvC_ok h4.1 ca cb (Nat.le_refl _) rfl pa pb, ?_⟩
            by_cases r0 : pMod a b = []
            · exact .inl r0
            · have h5 := allB_ok h4.2 _ hr
              rw [if_neg (by rw [← en]; exact r0)] at h5
              simp only [Bool.and_eq_true, decide_eq_true_eq] at h5
              obtain ⟨h5, h6, h7⟩ := h5
              obtain ⟨w1, w2⟩ := pwC_ok h5 (x := lead b) (pb _) (Nat.le_refl _)
              have w3 := qs_mul o (lead b ^ (a.length - (pMod a b).length))
              exact .inr ⟨w1, by omega, reC_ok n h7 (by rw [qs_sgm]; omega) cb cr rfl rfl pb (rm_PB ca cb b0 pa pb)⟩
end Go.Proofs.YtfbogelmgdojgaaGreat


/- Polynomials over the rational numbers: residues. No program in sight. -/
namespace Go.Proofs.YtfbogelmgdojgaaGreat
set_option linter.unusedSimpArgs false
set_option linter.unusedVariables false
open Go.RowKit

/-- Equal residues. -/
theorem mod_congr {x y q : List Rat} (hx : Can x) (hy : Can y) (hq : Can q) (q0 : q ≠ []) (h : ∃ k, Can k ∧ ∀ t, ev x t = ev y t + ev k t * ev q t) : pMod x q = pMod y q := by
  obtain ⟨k, ck, hk⟩ := h
  obtain ⟨⟨c1, c2⟩, l1, e1⟩ := dm_ok hy hq q0
  refine (dm_eq hx hq (can_pAdd (pDiv y q) k) c2 l1 fun t => ?_).2
  rw [ev_pAdd, hk t]
  have := e1 t
  grind
theorem mod_self {x q : List Rat} (hx : Can x) (hq : Can q) (q0 : q ≠ []) : ∃ k, Can k ∧ ∀ t, ev x t = ev (pMod x q) t + ev k t * ev q t := by
  obtain ⟨⟨c1, c2⟩, l1, e1⟩ := dm_ok hx hq q0
  exact ⟨pDiv x q, c1, fun t => by have := e1 t; grind⟩
/-- A product of residues is the residue of the product. -/
theorem mod_mul_l {a b q : List Rat} (ha : Can a) (hq : Can q) (q0 : q ≠ []) : pMod (pMul (pMod a q) b) q = pMod (pMul a b) q := by
  obtain ⟨k, ck, hk⟩ := mod_self ha hq q0
  refine mod_congr (can_pMul _ _) (can_pMul _ _) hq q0 ⟨pSub [] (pMul k b), can_pSub _ _, fun t => ?_⟩
  simp only [ev_pMul, ev_pSub, hk t]
  have e0 : ev [] t = 0 := rfl
  rw [e0]
  grind
theorem mod_mul_r {a b q : List Rat} (hb : Can b) (hq : Can q) (q0 : q ≠ []) : pMod (pMul a (pMod b q)) q = pMod (pMul a b) q := by
  have e : ∀ x y : List Rat, pMul x y = pMul y x := fun x y => ev_inj (can_pMul _ _) (can_pMul _ _) fun t => by rw [ev_pMul, ev_pMul]; grind
  rw [e, mod_mul_l hb hq q0, e b a]
theorem mod_mod {a q : List Rat} (ha : Can a) (hq : Can q) (q0 : q ≠ []) : pMod (pMod a q) q = pMod a q := by
  obtain ⟨k, ck, hk⟩ := mod_self ha hq q0
  refine mod_congr (dm_ok ha hq q0).1.2 ha hq q0 ⟨pSub [] k, can_pSub _ _, fun t => ?_⟩
  rw [ev_pSub, hk t]
  have e0 : ev [] t = 0 := rfl
  rw [e0]
  grind
theorem mod_add {a b q : List Rat} (ha : Can a) (hb : Can b) (hq : Can q) (q0 : q ≠ []) : pMod (pAdd a b) q = pAdd (pMod a q) (pMod b q) := by
  obtain ⟨⟨c1, c2⟩, l1, e1⟩ := dm_ok ha hq q0
  obtain ⟨⟨c3, c4⟩, l2, e2⟩ := dm_ok hb hq q0
  refine (dm_eq (can_pAdd a b) hq (can_pAdd (pDiv a q) (pDiv b q)) (can_pAdd _ _) (by have := len_pAdd (pMod a q) (pMod b q); omega) fun t => ?_).2
  simp only [ev_pAdd]
  have h1 := e1 t
  have h2 := e2 t
  grind
end Go.Proofs.YtfbogelmgdojgaaGreat


/- Contracts: package quotient and its reference, first functions. -/
namespace Go.Proofs.YtfbogelmgdojgaaGreat
set_option linter.unusedSimpArgs false
set_option linter.unusedVariables false
open Go.RowKit

def kQRed : Con := con2 pR pR fun q a => (DvOk a q ∧ q ≠ [], .lst (V.rats (pMod a q)))
attribute [go_sem ↓, go_sem] kQRed
theorem qRed_C : Ctr Tryz.prog 15 kQRed := Ctr.c2 (by kernel_rfl) fun q a h => by
  obtain ⟨hd, q0⟩ := h
  show PCall _ _ _ (.lst (V.rats (pMod a q)))
  have e1 : dmP a q = .tup [.lst (V.rats (pDiv a q)), .lst (V.rats (pMod a q)), .raw (.int .i64 0)] := if_neg q0
  refine PCall.of_vc (tabs mixed (tbl_cons pDM_C tbl_nil)) Tryz.func15 rfl Tryz.ntmps15 Tryz.results15 (by simp) ?_
  simp only [go_sem, e1, hd]
def kQMulq : Con := con3 pR pR pR fun q a b => ((a.length + b.length ≤ 1000000 ∧ ∃ j k, (PB a j ∧ PB b k) ∧ a.length * (j + k + 1) ≤ 4999999999999) ∧ DvOk (pMul a b) q ∧ q ≠ [], .lst (V.rats (pMod (pMul a b) q)))
attribute [go_sem ↓, go_sem] kQMulq
theorem qMulq_C : Ctr Tryz.prog 17 kQMulq := Ctr.c3 (by kernel_rfl) fun q a b h => by
  obtain ⟨hm, hd, q0⟩ := h
  show PCall _ _ _ (.lst (V.rats (pMod (pMul a b) q)))
  refine PCall.of_vc (tabs mixed (tbl_cons pMul_C (tbl_cons qRed_C tbl_nil))) Tryz.func17 rfl Tryz.ntmps17 Tryz.results17 (by simp) ?_
  simp only [go_sem, hm, hd, q0]
def invR (q a : List Rat) : V := if (pExt (pMod a q) q).1.length = 1 then .tup [.lst (V.rats (pMod (pExt (pMod a q) q).2.1 q)), .raw (.int .i64 0)] else .tup [.lst (V.rats []), .raw (.int .i64 60)]
def kQInv : Con := con2 pR pR fun q a => ((DvOk a q ∧ q ≠ []) ∧ (∃ n, ExOk n (pMod a q) q [1] [] [] [1]) ∧ ((pExt (pMod a q) q).1.length = 1 → DvOk (pExt (pMod a q) q).2.1 q), invR q a)
attribute [go_sem ↓, go_sem] kQInv
theorem qInv_C : Ctr Tryz.prog 11 kQInv := Ctr.c2 (by kernel_rfl) fun q a h => by
  obtain ⟨⟨hd, q0⟩, hx, hs⟩ := h
  show PCall _ _ _ (invR q a)
  refine PCall.of_vc (tabs mixed (tbl_cons ext_C (tbl_cons qRed_C tbl_nil))) Tryz.func11 rfl Tryz.ntmps11 Tryz.results11 (by simp) ?_
  unfold invR
  by_cases h1 : (pExt (pMod a q) q).1.length = 1
  · rw [if_pos h1]
    have c1 : (((pExt (pMod a q) q).1.length : Int) != 1) = false := by rw [h1]; rfl
    have hs := hs h1
    simp only [go_sem, hd, q0, hx, c1, hs]
  · rw [if_neg h1]
    have c1 : (((pExt (pMod a q) q).1.length : Int) != 1) = true := by simp; omega
    simp only [go_sem, hd, q0, hx, c1]
    exact .inl rfl
def kQNorm : Con := con2 pR pR fun q a => ((Can q ∧ q.length ≤ 1000000 ∧ ∃ s, PB q s ∧ s ≤ 2500000000000) ∧ (DvOk a q ∧ q ≠ []) ∧ ∃ n, ReOk n 1 (pMonic q) (pMod a q), .Q (pRes (pMonic q) (pMod a q)))
attribute [go_sem ↓, go_sem] kQNorm
theorem qNorm_C : Ctr Tryz.prog 22 kQNorm := Ctr.c2 (by kernel_rfl) fun q a h => by
  obtain ⟨hm, ⟨hd, q0⟩, hr⟩ := h
  show PCall _ _ _ (.Q (pRes (pMonic q) (pMod a q)))
  refine PCall.of_vc (tabs mixed (tbl_cons pMonic_C (tbl_cons qRed_C (tbl_cons res_C tbl_nil)))) Tryz.func22 rfl Tryz.ntmps22 Tryz.results22 (by simp) ?_
  simp only [go_sem, hm, hd, q0, hr]
def validQ3 (q : List Rat) : Bool := (((tr q).length : Int) == (q.length : Int)) && (decide (1 < q.length) && decide ((pGcd q (pDiff q)).length = 1))
def kQVal : Con := con1 pR fun q => ((q.length ≤ 1000000 ∧ PB q 5000000000000) ∧ (1 < q.length → ∃ n, GcOk n q (pDiff q)), .raw (.bool (validQ3 q)))
attribute [go_sem ↓, go_sem] kQVal
theorem qVal_C : Ctr Tryz.prog 29 kQVal := Ctr.c1 (by kernel_rfl) fun q h => by
  obtain ⟨⟨hl, hp⟩, hg⟩ := h
  show PCall _ _ _ (.raw (.bool (validQ3 q)))
  refine PCall.of_vc (tabs mixed (tbl_cons pValid_C (tbl_cons pDiff_C (tbl_cons pGcd_C tbl_nil)))) Tryz.func29 rfl Tryz.ntmps29 Tryz.results29 (by simp) ?_
  unfold validQ3
  rcases hv : (((tr q).length : Int) == (q.length : Int)) with _ | _
  · simp only [go_sem, hl, hp, hv, Bool.false_and]
  · by_cases h1 : 1 < q.length
    · have c1 : (1 : Int) < (q.length : Int) := by omega
      have hg := hg h1
      by_cases h2 : (pGcd q (pDiff q)).length = 1
      · have c2 : (((pGcd q (pDiff q)).length : Int) == 1) = true := by rw [h2]; rfl
        simp only [go_sem, hl, hp, hv, c1, c2, hg, h1, h2, Bool.true_and, decide_true]
      · have c2 : (((pGcd q (pDiff q)).length : Int) == 1) = false := by simp; omega
        simp only [go_sem, hl, hp, hv, c1, c2, hg, h1, h2, Bool.true_and, decide_true, decide_false]
    · have c1 : ¬ (1 : Int) < (q.length : Int) := by omega
      simp only [go_sem, hl, hp, hv, c1, h1, Bool.true_and, decide_false, Bool.false_and]
end Go.Proofs.YtfbogelmgdojgaaGreat


/- Contracts: power sums. -/
namespace Go.Proofs.YtfbogelmgdojgaaGreat
set_option linter.unusedSimpArgs false
set_option linter.unusedVariables false
open Go.RowKit

def nwBy (k : Nat) (l : List Rat) (i : Nat) : Rat := if i < k then cf l (k - i) else ((k : Int) : Rat)
def nwN (q : List Rat) (k : Nat) (l : List Rat) : Nat → Rat
  | 0 => ((0 : Int) : Rat)
  | i + 1 => nwN q k l i - cf q (q.length - 1 - (i + 1)) * nwBy k l (i + 1)
def nwV (q : List Rat) (k : Nat) (l : List Rat) : Rat := if k = 0 then (((q.length - 1 : Nat) : Int) : Rat) else nwN q k l (min k (q.length - 1))
/-- The first sums of powers of the roots. -/
def nwL (q : List Rat) : Nat → List Rat
  | 0 => []
  | k + 1 => nwL q k ++ [nwV q k (nwL q k)]
theorem nwL_len (q : List Rat) : ∀ k, (nwL q k).length = k
  | 0 => rfl
  | k + 1 => by rw [nwL, List.length_append, nwL_len q k]; rfl
/-- The sizes within the sums. -/
def NwOk (q : List Rat) (L : Nat) : Prop := (q.length ≤ 1000000 ∧ PB q 5000000000000 ∧ L ≤ 1000000) ∧ ∀ k, k ≤ L → PB (nwL q k) 5000000000000 ∧ ∀ i, i ≤ q.length → qs (nwN q k (nwL q k) i) ≤ 5000000000000 ∧ qs (cf q (q.length - 1 - (i + 1)) * nwBy k (nwL q k) (i + 1)) ≤ 5000000000000
def nwS (q : List Rat) (l : Nat) : Nat → St
  | 0 => mkSt [(0, .raw (.func (.yield l) #[] #[])), (1, .pel (.raw (.int .i64 ((q.length - 1 : Nat) : Int)))), (2, .pel (.lst (V.rats q))), (4, .raw (.slice none 0 0)), (5, .raw (.int .i64 ((0 : Nat) : Int)))] [] 0 54
  | k + 1 => mkSt [(0, .raw (.func (.yield l) #[] #[])), (1, .pel (.raw (.int .i64 ((q.length - 1 : Nat) : Int)))), (2, .pel (.lst (V.rats q))), (4, .sl 0 4 0 (k + 1)), (5, .raw (.int .i64 ((k + 1 : Nat) : Int)))] [(0, true, ⟨45, 4, V.rats (nwL q (k + 1))⟩)] 1 54
theorem nwN_step (q : List Rat) (k : Nat) (l : List Rat) (i : Nat) : nwN q k l (i + 1) = nwN q k l i - cf q (q.length - 1 - (i + 1)) * nwBy k l (i + 1) := rfl
set_option maxRecDepth 4000 in
theorem sums1_S (q : List Rat) (L : Nat) (h1 : 1 ≤ q.length) (h : NwOk q L) : SeqC Tryz.prog 103 [.pel (.raw (.int .i64 ((q.length - 1 : Nat) : Int))), .pel (.lst (V.rats q))] L (fun i => some [.Q (nwV q i (nwL q i))]) := by
  obtain ⟨⟨hl, hb, hL⟩, hk⟩ := h
  have T := (tabs mixed (tbl_cons whole_C (tbl_cons qMul_C (tbl_cons qSub_C tbl_nil))))
  have mx : maxLen = 9223372036854775807 := by decide
  refine SeqC.of_it Tryz.func103 rfl Tryz.ntmps103 Tryz.results103 (by simp) fun l N J hN hJ => ?_
  refine AIt.seq (AIt.of hJ (vc_ok T _ _ _ ?_))
  simp only [go_sem]
  refine AIt.seq (AIt.of hJ (vc_ok T _ _ _ ?_))
  simp only [go_sem]
  refine AIt.block (AIt.loops hJ (X := Nat) (nwS q l) (fun x => x) (fun x => N + 1 - x) (fun x => by cases x <;> rfl) 0 rfl (Wk.of [] (by decide) ?_) ?_)
  · simp only [go_sem]
    exact ⟨renV_pure rfl, renV_pure rfl⟩
  have r0 : -9223372036854775808 ≤ ((q.length - 1 : Nat) : Int) ∧ ((q.length - 1 : Nat) : Int) ≤ 9223372036854775807 := ⟨by omega, by omega⟩
  rintro k hkN
  rcases k with _ | k
  · -- the first sum
    show AIt _ J _ _ _ (mkSt _ _ _ _)
    refine AIt.seq (AIt.block (AIt.seq (AIt.of hJ (vc_at T ?_))))
    simp only [go_sem, r0]
    refine AIt.seq (AIt.of hJ (vc_ok T _ _ _ ?_))
    simp only [go_sem]
    refine AIt.seq (AIt.of hJ (vc_ok T _ _ _ ?_))
    simp only [go_sem, mx]
    refine AIt.seq (AIt.yieldR T hJ [_, _] [_] _ rfl rfl rfl ?_)
    have e0 : nwV q 0 (nwL q 0) = (((q.length - 1 : Nat) : Int) : Rat) := if_pos rfl
    simp only [go_sem, e0]
    refine ⟨?_, ?_⟩
    · refine AIt.cond (t := false) rfl ⟨fun e => (by cases e), fun _ => AIt.of hJ (vc_ok T _ _ _ ?_)⟩
      simp only [go_sem]
      refine AIt.of hJ (vc_ok T _ _ _ ?_)
      simp only [go_sem]
      refine ⟨1, rfl, Wk.of [9] (by decide) ?_, by omega⟩
      have e1 : V.rats (nwL q (0 + 1)) = [.Q (((q.length - 1 : Nat) : Int) : Rat)] := by rw [← e0]; rfl
      simp only [go_sem, e1]
      exact ⟨renV_pure rfl, renV_pure rfl⟩
    · refine AIt.cond (t := true) rfl ⟨fun _ => AIt.of hJ (vc_ok T _ _ _ ?_), fun e => (by cases e)⟩
      simp only [go_sem]
      exact fun n e => by cases e
  · -- a later sum
    obtain ⟨k1, k2⟩ := hk (k + 1) (by omega)
    show AIt _ J _ _ _ (mkSt _ _ _ _)
    refine AIt.seq (AIt.block (AIt.seq (AIt.of hJ (vc_at T ?_))))
    simp only [go_sem, r0]
    obtain ⟨p, ep⟩ : ∃ p, nwL q (k + 1) = p := ⟨_, rfl⟩
    have lp : p.length = k + 1 := by rw [← ep, nwL_len]
    rw [ep] at k1 k2 ⊢
    refine AIt.seq (AIt.of hJ (AWp.cut (E := fun e τ => e = .normal ∧ τ = mkSt [(0, .raw (.func (.yield l) #[] #[])), (1, .pel (.raw (.int .i64 ((q.length - 1 : Nat) : Int)))), (2, .pel (.lst (V.rats q))), (4, .sl 0 4 0 (k + 1)), (5, .raw (.int .i64 ((k + 1 : Nat) : Int))), (6, .ptr 1 4 0 0)] [(0, true, ⟨45, 4, V.rats p⟩), (1, true, ⟨45, 4, [.Q (nwV q (k + 1) p)]⟩)] 2 54) ?_ ?_))
    · refine vc_ok T _ _ _ ?_
      have c0 : (0 : Int) < ((k + 1 : Nat) : Int) := by omega
      simp only [go_sem, c0]
      refine AWp.loops (X := { i : Nat // i ≤ min (k + 1) (q.length - 1) }) (fun i => mkSt [(0, .raw (.func (.yield l) #[] #[])), (1, .pel (.raw (.int .i64 ((q.length - 1 : Nat) : Int)))), (2, .pel (.lst (V.rats q))), (4, .sl 0 4 0 (k + 1)), (5, .raw (.int .i64 ((k + 1 : Nat) : Int))), (6, .ptr 1 4 0 0), (7, .raw (.int .i64 ((i.1 + 1 : Nat) : Int)))] [(0, true, ⟨45, 4, V.rats p⟩), (1, true, ⟨45, 4, [.Q (nwN q (k + 1) p i.1)]⟩)] 2 54) (fun i => min (k + 1) (q.length - 1) - i.1) ⟨0, Nat.zero_le _⟩ (Wk.of [0, 3] (by decide) ?_) ?_
      · simp only [go_sem, nwN]
        exact ⟨renV_pure rfl, renV_pure rfl⟩
      · rintro ⟨i, hi⟩
        refine vc_at T ?_
        have mn : (if ((q.length - 1 : Nat) : Int) < ((k + 1 : Nat) : Int) then ((q.length - 1 : Nat) : Int) else ((k + 1 : Nat) : Int)) = ((min (k + 1) (q.length - 1) : Nat) : Int) := by split <;> omega
        obtain ⟨x1, x2⟩ := k2 i (by omega)
        by_cases hlt : i < min (k + 1) (q.length - 1)
        · have c1 : ((i + 1 : Nat) : Int) ≤ ((min (k + 1) (q.length - 1) : Nat) : Int) := by omega
          have c2 : ((q.length - 1 : Nat) : Int) - ((i + 1 : Nat) : Int) = ((q.length - 1 - (i + 1) : Nat) : Int) := by omega
          have c3 : ((i + 1 : Nat) : Int) + 1 = ((i + 1 + 1 : Nat) : Int) := by omega
          have c4 : q.length - 1 - (i + 1) < q.length := by omega
          have c5 := hb (q.length - 1 - (i + 1))
          by_cases hik : i < k
          · have d1 : ((i + 1 : Nat) : Int) < ((k + 1 : Nat) : Int) := by omega
            have d2 : ((k + 1 : Nat) : Int) - ((i + 1 : Nat) : Int) = ((k - i : Nat) : Int) := by omega
            have d3 : k - i < p.length := by omega
            have d4 := k1 (k - i)
            have d5 : nwBy (k + 1) p (i + 1) = cf p (k - i) := by unfold nwBy; rw [if_pos (by omega), show k + 1 - (i + 1) = k - i from by omega]
            rw [d5] at x2
            simp only [go_sem, c1, mn, c2, c3, c4, c5, d1, d2, d3, d4, x1, x2]
            refine ⟨⟨by omega, by omega⟩, ⟨by omega, by omega⟩, ⟨by omega, by omega⟩, ⟨by omega, by omega⟩, ⟨by omega, by omega⟩, by rfl, ⟨by omega, by omega⟩, ⟨i + 1, hlt⟩, Wk.of [0, 1] (by decide) ?_, by simp only; omega⟩
            have e2 : nwN q (k + 1) p (i + 1) = nwN q (k + 1) p i - cf q (q.length - 1 - (i + 1)) * cf p (k - i) := by rw [nwN_step, d5]
            simp only [go_sem, e2]
            exact ⟨renV_pure rfl, renV_pure rfl⟩
          · have d1 : ¬ ((i + 1 : Nat) : Int) < ((k + 1 : Nat) : Int) := by omega
            have d5 : nwBy (k + 1) p (i + 1) = (((k + 1 : Nat) : Int) : Rat) := by unfold nwBy; rw [if_neg (by omega)]
            rw [d5] at x2
            have d4 : qs (((k + 1 : Nat) : Int) : Rat) ≤ 5000000000000 := Nat.le_trans (qs_nat (z := k + 1) (by omega)) (by decide)
            simp only [go_sem, c1, mn, c2, c3, c4, c5, d1, d4, x1, x2]
            refine ⟨⟨by omega, by omega⟩, ⟨by omega, by omega⟩, ⟨by omega, by omega⟩, by rfl, ⟨by omega, by omega⟩, ⟨i + 1, hlt⟩, Wk.of [0, 1] (by decide) ?_, by simp only; omega⟩
            have e2 : nwN q (k + 1) p (i + 1) = nwN q (k + 1) p i - cf q (q.length - 1 - (i + 1)) * (((k + 1 : Nat) : Int) : Rat) := by rw [nwN_step, d5]
            simp only [go_sem, e2]
            exact ⟨renV_pure rfl, renV_pure rfl⟩
        · obtain rfl : i = min (k + 1) (q.length - 1) := by omega
          have e1 : nwV q (k + 1) p = nwN q (k + 1) p (min (k + 1) (q.length - 1)) := if_neg (by omega)
          have c1 : ¬ ((min (k + 1) (q.length - 1) + 1 : Nat) : Int) ≤ ((min (k + 1) (q.length - 1) : Nat) : Int) := by omega
          simp only [go_sem, mn, c1]
          refine ⟨_, Wk.of [0, 1] (by decide) ?_, rfl⟩
          simp only [go_sem, e1]
          exact ⟨renV_pure rfl, renV_pure rfl⟩
    · rintro e τ ⟨rfl, rfl⟩
      refine ⟨rfl, ?_⟩
      simp only [go_sem]
      refine AIt.seq (AIt.of hJ (vc_at T ?_))
      simp only [go_sem, mx]
      refine ⟨by omega, ⟨by omega, by omega⟩, ?_⟩
      refine AIt.seq (AIt.yieldR T hJ [_, _] [_] _ rfl rfl rfl ?_)
      have e0 : nwV q (k + 1) (nwL q (k + 1)) = nwV q (k + 1) p := by rw [ep]
      simp only [go_sem, e0]
      refine ⟨?_, ?_⟩
      · refine AIt.cond (t := false) rfl ⟨fun e => (by cases e), fun _ => AIt.of hJ (vc_ok T _ _ _ ?_)⟩
        simp only [go_sem]
        refine AIt.of hJ (vc_ok T _ _ _ ?_)
        have c3 : ((k + 1 : Nat) : Int) + 1 = ((k + 1 + 1 : Nat) : Int) := by omega
        simp only [go_sem, c3]
        refine ⟨⟨by omega, by omega⟩, k + 1 + 1, rfl, Wk.of [5] (by decide) ?_, by omega⟩
        have e1 : V.rats (nwL q (k + 1 + 1)) = V.rats (List.take (k + 1) p ++ [nwV q (k + 1) p]) := by rw [List.take_of_length_le (by omega), ← ep]; rfl
        simp only [go_sem, e1]
        exact ⟨renV_pure rfl, renV_pure rfl⟩
      · refine AIt.cond (t := true) rfl ⟨fun _ => AIt.of hJ (vc_ok T _ _ _ ?_), fun e => (by cases e)⟩
        simp only [go_sem]
        exact fun n e => by cases e
def kSums : Con := con1 pR fun q => (1 ≤ q.length ∧ q.length ≤ 1000000, .clo (.func 103) [] [.pel (.raw (.int .i64 ((q.length - 1 : Nat) : Int))), .pel (.lst (V.rats q))])
attribute [go_sem ↓, go_sem] kSums
theorem sums_C : Ctr Tryz.prog 62 kSums := Ctr.c1 (by kernel_rfl) fun q h => by
  obtain ⟨h1, h2⟩ := h
  have e1 : (q.length : Int) - 1 = ((q.length - 1 : Nat) : Int) := by omega
  refine PCall.of_vc (tabs mixed tbl_nil) Tryz.func62 rfl Tryz.ntmps62 Tryz.results62 (by simp) ?_
  simp only [go_sem, e1]
  exact ⟨by omega, by omega⟩
/-- The first power sums of a polynomial. -/
def nwR (q : List Rat) (n : Int) : List Rat := nwL q n.toNat
theorem nwR_len (q : List Rat) (n : Int) : (nwR q n).length = n.toNat := nwL_len _ _
def PoOk (q : List Rat) (n : Nat) : Prop := (Can q ∧ q.length ≤ 1000000 ∧ ∃ s, PB q s ∧ s ≤ 2500000000000) ∧ (1 ≤ (pMonic q).length ∧ (pMonic q).length ≤ 1000000) ∧ NwOk (pMonic q) n
def powHs (r : List Rat) (n : Nat) : Nat → Hp
  | 0 => mkH [(0, false, ⟨3, 1, [.raw (.int .i64 (n : Nat))]⟩), (1, false, ⟨29, 1, [.raw (.slice none 0 0)]⟩)]
  | i + 1 => mkH [(0, false, ⟨3, 1, [.raw (.int .i64 (n : Nat))]⟩), (1, false, ⟨29, 1, [.sl 2 4 0 (i + 1)]⟩), (2, false, ⟨45, 4, V.rats (nwL r (i + 1))⟩)]
def kPow6 : Con := con2 pR (pN .i64) fun q n => (0 < n → PoOk q n.toNat, .lst (V.rats (nwR (pMonic q) n)))
attribute [go_sem ↓, go_sem] kPow6
theorem power6_C : Ctr Tryz.prog 25 kPow6 := Ctr.c2 (by kernel_rfl) fun q n h => by
  unfold nwR
  refine PCall.of_vc (tabs mixed (tbl_cons pMonic_C (tbl_cons sums_C tbl_nil))) Tryz.func25 rfl Tryz.ntmps25 Tryz.results25 (by simp) ?_
  by_cases h0 : n ≤ 0
  · have e0 : n.toNat = 0 := by omega
    simp only [go_sem, h0, e0, nwL, rats_0]
  · obtain ⟨hm, ⟨l1, l2⟩, hk⟩ := h (by omega)
    obtain ⟨N, rfl⟩ : ∃ N : Nat, n = (N : Nat) := ⟨n.toNat, by omega⟩
    rw [Int.toNat_natCast] at hk ⊢
    obtain ⟨r, er⟩ : ∃ r, pMonic q = r := ⟨_, rfl⟩
    rw [er] at l1 l2 hk ⊢
    have h0' : ¬ (N : Int) ≤ 0 := h0
    have T := (tabs mixed (tbl_cons pMonic_C (tbl_cons sums_C tbl_nil)))
    have mx : maxLen = 9223372036854775807 := by decide
    have hL := hk.1.2.2
    simp only [go_sem, h0', hm, er, l1, l2]
    refine AWp.rounds (sums1_S r N l1 hk) (by kernel_rfl) (N - 1) (Nat.sub_le _ _) (s0 := mkS [(3, .ptr 0 1 0 0), (4, .raw (.slice none 0 0)), (5, .ptr 1 1 0 0), (11, .clo (.func 103) [] [.pel (.raw (.int .i64 ((r.length - 1 : Nat) : Int))), .pel (.lst (V.rats r))])]) (m := 2) (M := 22)
      (powHs r N) (fun n => if n = 0 then 2 else 3) (fun id H n => id = 0 ∧ H = powHs r N N ∧ n = 3) rfl (Wk.of [0, 4] (by decide) ?_) rfl rfl (fun i => by cases i <;> exact ⟨rfl, rfl, trivial⟩) (fun n ys hy hn => ?_) (fun id H n hs => ?_) (fun n hn hx => by cases hx)
    · simp only [go_sem]
      exact ⟨⟨rfl, rfl⟩, rfl, rfl⟩
    · injection hy with hy
      subst hy
      refine ⟨⟨rfl, by decide⟩, vc_ok T _ _ _ ?_⟩
      rcases n with _ | n
      · simp only [go_sem, powHs]
        refine vc_ok T _ _ _ ?_
        have e2 : V.rats (nwL r (0 + 1)) = [.Q (nwV r 0 (nwL r 0))] := rfl
        by_cases h1 : N = 1
        · subst h1
          simp only [go_sem, mx]
          refine ⟨_, _, ⟨rfl, rfl⟩, Wk.ofM 2 (ss := []) (hs := [(0, false, ⟨3, 1, [.raw (.int .i64 1)]⟩), (1, false, ⟨29, 1, [.sl 2 4 0 (0 + 1)]⟩), (2, true, ⟨45, 4, V.rats (nwL r (0 + 1))⟩)]) [0, 1, 7] (by decide) (by decide) ?_⟩
          simp only [go_sem, e2]
        · have c1 : ((1 : Int) == (N : Int)) = false := by simp; omega
          simp only [go_sem, mx, c1]
          refine ⟨by omega, Wk.ofM 2 (ss := []) (hs := [(0, false, ⟨3, 1, [.raw (.int .i64 (N : Nat))]⟩), (1, false, ⟨29, 1, [.sl 2 4 0 (0 + 1)]⟩), (2, true, ⟨45, 4, V.rats (nwL r (0 + 1))⟩)]) [0, 1, 7] (by decide) (by decide) ?_⟩
          simp only [go_sem, e2]
      · simp only [go_sem, powHs]
        refine vc_ok T _ _ _ ?_
        have e1 : (V.rats (nwL r (n + 1))).take (n + 1) = V.rats (nwL r (n + 1)) := List.take_of_length_le (by rw [rats_len, nwL_len]; exact Nat.le_refl _)
        have e2 : V.rats (nwL r (n + 1 + 1)) = V.rats (nwL r (n + 1) ++ [nwV r (n + 1) (nwL r (n + 1))]) := rfl
        by_cases h1 : N = n + 1 + 1
        · subst h1
          have c1 : (((n + 1 + 1 : Nat) : Int) == ((n + 1 + 1 : Nat) : Int)) = true := by simp
          simp only [go_sem, mx, c1, e1, nwL_len]
          refine ⟨⟨by omega, by omega⟩, _, _, ⟨rfl, rfl⟩, Wk.ofM 2 (ss := []) (hs := [(0, false, ⟨3, 1, [.raw (.int .i64 (n + 1 + 1 : Nat))]⟩), (1, false, ⟨29, 1, [.sl 2 4 0 (n + 1 + 1)]⟩), (2, true, ⟨45, 4, V.rats (nwL r (n + 1 + 1))⟩)]) [0, 1, 8] (by decide) (by decide) ?_⟩
          simp only [go_sem, e2]
        · have c1 : (((n + 1 + 1 : Nat) : Int) == (N : Int)) = false := by simp; omega
          simp only [go_sem, mx, c1, e1, nwL_len]
          refine ⟨⟨by omega, by omega⟩, by omega, Wk.ofM 2 (ss := []) (hs := [(0, false, ⟨3, 1, [.raw (.int .i64 (N : Nat))]⟩), (1, false, ⟨29, 1, [.sl 2 4 0 (n + 1 + 1)]⟩), (2, true, ⟨45, 4, V.rats (nwL r (n + 1 + 1))⟩)]) [0, 1, 8] (by decide) (by decide) ?_⟩
          simp only [go_sem, e2]
    · obtain ⟨rfl, rfl, rfl⟩ := hs
      obtain ⟨N, rfl⟩ : ∃ M, N = M + 1 := ⟨N - 1, by omega⟩
      have e1 : (V.rats (nwL r (N + 1))).take (N + 1) = V.rats (nwL r (N + 1)) := List.take_of_length_le (by rw [rats_len, nwL_len]; exact Nat.le_refl _)
      simp only [go_sem, powHs, nwL_len, e1]
end Go.Proofs.YtfbogelmgdojgaaGreat


/- The moduli that the laws make. -/
namespace Go.Proofs.YtfbogelmgdojgaaGreat
set_option linter.unusedSimpArgs false
set_option linter.unusedVariables false
open Go.RowKit

structure Md0 (q : List Rat) (n k : Nat) : Prop where
  can : Can q
  len : q.length = n
  pb : PB q k
  cs0 : (2 ≤ n ∧ n ≤ 5) ∧ k ≤ 5504
theorem Md0.sz {q : List Rat} {n k : Nat} (h : Md0 q n k) : Sz q 5 5504 := ⟨by have := h.len; have := h.cs0; omega, h.pb.mono (by have := h.cs0; omega), h.can⟩
theorem Md0.two {q : List Rat} {n k : Nat} (h : Md0 q n k) : 2 ≤ q.length := by have := h.len; have := h.cs0; omega
theorem Md0.ne {q : List Rat} {n k : Nat} (h : Md0 q n k) : q ≠ [] := fun e => by have := h.two; rw [e] at this; simp at this
end Go.Proofs.YtfbogelmgdojgaaGreat


/- Contracts: traces, powers of an element. -/
namespace Go.Proofs.YtfbogelmgdojgaaGreat
set_option linter.unusedSimpArgs false
set_option linter.unusedVariables false
open Go.RowKit

/-- A sum of products. -/
def trF (r p : List Rat) : Nat → Rat
  | 0 => ((0 : Int) : Rat)
  | i + 1 => trF r p i + cf r i * cf p i
def trQ (q a : List Rat) : Rat := trF (pMod a q) (nwR (pMonic q) (pMod a q).length) (pMod a q).length
def TrOk (q a : List Rat) : Prop := (DvOk a q ∧ q ≠ []) ∧ (0 < (pMod a q).length → PoOk q (pMod a q).length) ∧ PB (pMod a q) 5000000000000 ∧ PB (nwR (pMonic q) (pMod a q).length) 5000000000000 ∧
  ∀ i, i < (pMod a q).length → qs (trF (pMod a q) (nwR (pMonic q) (pMod a q).length) i) ≤ 5000000000000 ∧ qs (cf (pMod a q) i * cf (nwR (pMonic q) (pMod a q).length) i) ≤ 5000000000000
def kTrace : Con := con2 pR pR fun q a => (TrOk q a, .Q (trQ q a))
attribute [go_sem ↓, go_sem] kTrace
theorem trace_C : Ctr Tryz.prog 20 kTrace := Ctr.c2 (by kernel_rfl) fun q a h => by
  obtain ⟨⟨hd, q0⟩, hp, hr, hw, ht⟩ := h
  unfold trQ
  have T := (tabs mixed (tbl_cons qRed_C (tbl_cons whole_C (tbl_cons power6_C (tbl_cons qMul_C (tbl_cons qAdd_C tbl_nil))))))
  obtain ⟨r, er⟩ : ∃ r, pMod a q = r := ⟨_, rfl⟩
  rw [er] at hp hr hw ht ⊢
  obtain ⟨p, ep⟩ : ∃ p, nwR (pMonic q) r.length = p := ⟨_, rfl⟩
  have lp : p.length = r.length := by rw [← ep, nwR_len]; omega
  rw [ep] at hw ht ⊢
  refine PCall.of_vc (tabs mixed (tbl_cons qRed_C (tbl_cons whole_C (tbl_cons power6_C (tbl_cons qMul_C (tbl_cons qAdd_C tbl_nil)))))) Tryz.func20 rfl Tryz.ntmps20 Tryz.results20 (by simp) ?_
  have hp' : (0 < (r.length : Int) → PoOk q (r.length : Int).toNat) = True := eq_true fun h => by rw [Int.toNat_natCast]; exact hp (by omega)
  simp only [go_sem, hd, q0, er, ep, lp]
  refine ⟨fun h => hp (by omega), ?_⟩
  refine AWp.loops (X := { i : Nat // i ≤ r.length }) (fun i => mkSt [(0, .lst (V.rats q)), (1, .lst (V.rats r)), (4, .ptr 0 4 0 0), (5, .ptr 1 4 0 0), (15, .lst (V.rats p)), (16, .raw (.int .i64 (r.length : Nat))), (17, .raw (.int .i64 (i.1 : Nat)))] [(0, true, ⟨45, 4, [.agg [.raw (.bool false), .raw (.slice none 0 0), .raw (.bool false), .raw (.slice none 0 0)]]⟩), (1, true, ⟨45, 4, [.Q (trF r p i.1)]⟩)] 2 32) (fun i => r.length - i.1) ⟨0, Nat.zero_le _⟩ (Wk.of [0, 6] (by decide) ?_) ?_
  · simp only [go_sem, trF]
  · rintro ⟨i, hi⟩
    refine vc_at T ?_
    by_cases hin : i < r.length
    · have c1 : (i : Int) < (r.length : Nat) := by omega
      have c2 : (i : Int) + 1 = ((i + 1 : Nat) : Int) := by omega
      have h1 := ht i hin
      have h2 := hr i
      have h3 := hw i
      have hin' : i < p.length := by omega
      have hrl := (hp (by omega)).2.2.1.2.2
      simp only [go_sem, c1, c2, h1, h2, h3, hin, hin']
      refine ⟨⟨by omega, by omega⟩, by omega, by rfl, ⟨by omega, by omega⟩, ⟨i + 1, hin⟩, Wk.of [0, 1] (by decide) ?_, by simp only; omega⟩
      simp only [go_sem, trF]
    · obtain rfl : i = r.length := by omega
      have c1 : ¬ (r.length : Int) < (r.length : Nat) := by omega
      simp only [go_sem, c1]
/-- The powers of an element. -/
def pwE (q r : List Rat) : Nat → List Rat
  | 0 => r
  | i + 1 => pMod (pMul (pwE q r i) r) q
def V.pls (l : List (List Rat)) : List V := l.map fun p => .lst (V.rats p)
@[go_sem] theorem pls_len (l : List (List Rat)) : (V.pls l).length = l.length := by simp [V.pls]
@[go_sem ↓, go_sem] theorem ev_pls_get {l : List (List Rat)} {i : Nat} {k : V → Prop} : optC (V.pls l)[i]? k = (i < l.length ∧ k (.lst (V.rats (l.getD i [])))) := by
  unfold V.pls
  rw [List.getElem?_map, List.getD_eq_getElem?_getD]
  by_cases h : i < l.length
  · simp [List.getElem?_eq_getElem h, optC, h]
  · simp [List.getElem?_eq_none (Nat.le_of_not_lt h), optC, h]
@[go_sem] theorem pls_frz (l : List (List Rat)) : frzOk (V.pls l) = True := eq_true (frzOk_map (fun a => ⟨rfl, by simp, by simp⟩) l)
@[go_sem] theorem pls_wid (l : List (List Rat)) : allWid (V.pls l) 1 = True := eq_true fun y hy => by
  obtain ⟨p, _, rfl⟩ := List.mem_map.1 hy
  rfl
@[go_sem] theorem pls_pure (l : List (List Rat)) : allPure (V.pls l) = True := eq_true fun y hy => by
  obtain ⟨p, _, rfl⟩ := List.mem_map.1 hy
  rfl
theorem pls_snoc (l : List (List Rat)) (p : List Rat) : V.pls l ++ [.lst (V.rats p)] = V.pls (l ++ [p]) := by simp [V.pls]
def pwsL (q r : List Rat) (n : Nat) : List (List Rat) := (List.range (n + 1)).map (pwE q r)
theorem pwsL_len (q r : List Rat) (n : Nat) : (pwsL q r n).length = n + 1 := by simp [pwsL]
theorem pwsL_snoc (q r : List Rat) (n : Nat) : pwsL q r n ++ [pwE q r (n + 1)] = pwsL q r (n + 1) := by unfold pwsL; rw [List.range_succ (n := n + 1), List.map_append]; rfl
theorem pwsL_get (q r : List Rat) {n i : Nat} (h : i ≤ n) : (pwsL q r n).getD i [] = pwE q r i := by
  unfold pwsL
  rw [List.getD_eq_getElem?_getD, List.getElem?_map, List.getElem?_range (by omega)]
  rfl
def MqOk (q a b : List Rat) : Prop := (a.length + b.length ≤ 1000000 ∧ ∃ j k, (PB a j ∧ PB b k) ∧ a.length * (j + k + 1) ≤ 4999999999999) ∧ DvOk (pMul a b) q ∧ q ≠ []
/-- A modulus, as a struct. -/
def pRg : Pat (List Rat) where
  p
    | .agg [.lst l] => (unrat l).map fun m => (True, m)
    | _ => none
  val l := .agg [.lst (V.rats l)]
  ok x c a h hc := by
    split at h
    · rename_i l
      rcases hm : unrat l with _ | m <;> rw [hm] at h
      · cases h
      · injection h with h; injection h with h1 h2; subst h2
        rw [unrat_ok l m hm]; exact .refl _
    · cases h
@[go_sem ↓, go_sem] theorem ev_pRg {l : List V} : pRg.p (.agg [.lst l]) = (unrat l).map fun m => (True, m) := rfl
@[go_sem ↓, go_sem] theorem ev_pRg_mk {l : List Rat} : pRg.val l = .agg [.lst (V.rats l)] := rfl
def kRMulq : Con := con3 pRg pR pR fun q a b => (MqOk q a b, .lst (V.rats (pMod (pMul a b) q)))
attribute [go_sem ↓, go_sem] kRMulq
theorem rgMul_C : Ctr Tryz.prog 63 kRMulq := Ctr.c3 (by kernel_rfl) fun q a b h => by
  obtain ⟨hm, hd, q0⟩ := h
  show PCall _ _ _ (.lst (V.rats (pMod (pMul a b) q)))
  refine PCall.of_vc (tabs mixed (tbl_cons qMulq_C tbl_nil)) Tryz.func63 rfl Tryz.ntmps63 Tryz.results63 (by simp) ?_
  simp only [go_sem, hm, hd, q0]
/-- The multiplication of a modulus, as a function. -/
def pMl (g : FuncId) : Pat (List Rat) where
  p
    | .clo (.func f) [.agg [.lst l]] [] => if f = g then (unrat l).map fun m => (True, m) else none
    | _ => none
  val l := .clo (.func g) [.agg [.lst (V.rats l)]] []
  ok x c a h hc := by
    split at h
    · rename_i f l
      split at h
      · rename_i e; subst e
        rcases hm : unrat l with _ | m <;> rw [hm] at h
        · cases h
        · injection h with h; injection h with h1 h2; subst h2
          rw [unrat_ok l m hm]; exact .inl rfl
      · cases h
    · cases h
@[go_sem ↓, go_sem] theorem ev_pMl {g : FuncId} {l : List V} : (pMl g).p (.clo (.func g) [.agg [.lst l]] []) = (unrat l).map fun m => (True, m) := if_pos rfl
@[go_sem ↓, go_sem] theorem ev_pMl_val {g : FuncId} {l : List Rat} : (pMl g).val l = .clo (.func g) [.agg [.lst (V.rats l)]] [] := rfl
def PwsOk (q r : List Rat) (n : Int) : Prop := n ≤ 1000 ∧ ∀ i : Nat, (i : Int) < n - 1 → MqOk q (pwE q r i) r
def kPows : Con := con3 pR (pN .i64) (pMl 63) fun r n q => (PwsOk q r n, .lst (V.pls (pwsL q r (n - 1).toNat)))
attribute [go_sem ↓, go_sem] kPows
theorem pows_C : Ctr Tryz.prog 64 kPows := Ctr.c3 (by kernel_rfl) fun r n q h => by
  obtain ⟨hn, hi⟩ := h
  show PCall _ _ _ (.lst (V.pls (pwsL q r (n - 1).toNat)))
  have T := (tabs mixed (tbl_cons rgMul_C tbl_nil))
  have mx : maxLen = 9223372036854775807 := by decide
  refine PCall.of_vc (tabs mixed (tbl_cons rgMul_C tbl_nil)) Tryz.func64 rfl Tryz.ntmps64 Tryz.results64 (by simp) ?_
  simp only [go_sem]
  refine AWp.loops (X := { i : Nat // i ≤ (n - 1).toNat }) (fun i => mkSt [(0, .lst (V.rats r)), (1, .raw (.int .i64 n)), (2, .clo (.func 63) [.agg [.lst (V.rats q)]] []), (6, .raw (.slice none 0 0)), (7, .sl 0 1 0 (i.1 + 1))] [(0, true, ⟨30, 1, V.pls (pwsL q r i.1)⟩)] 1 27) (fun i => (n - 1).toNat - i.1) ⟨0, Nat.zero_le _⟩ (Wk.of [2] (by decide) ?_) ?_
  · have e0 : V.pls (pwsL q r 0) = [.lst (V.rats r)] := rfl
    simp only [go_sem, e0]
    exact ⟨rfl, rfl⟩
  · rintro ⟨i, hin⟩
    refine vc_at T ?_
    by_cases hlt : i < (n - 1).toNat
    · have c1 : ((i + 1 : Nat) : Int) < n := by omega
      have c2 : ((i + 1 : Nat) : Int) - 1 = (i : Nat) := by omega
      obtain ⟨m1, m2, m3⟩ := hi i (by omega)
      have e1 : (pwsL q r i).getD i [] = pwE q r i := pwsL_get q r (Nat.le_refl _)
      have e2 : pMod (pMul (pwE q r i) r) q = pwE q r (i + 1) := rfl
      have e3 : (V.pls (pwsL q r i)).take (i + 1) = V.pls (pwsL q r i) := List.take_of_length_le (by rw [pls_len, pwsL_len]; exact Nat.le_refl _)
      have m0 := hi i (by omega)
      simp only [go_sem, c1, c2, e1, e2, e3, m0, pwsL_len, pls_snoc, pwsL_snoc, mx]
      refine ⟨⟨by omega, by omega⟩, ⟨by omega, by omega⟩, ⟨by omega, by omega⟩, ⟨i + 1, hlt⟩, Wk.of [16] (by decide) ?_, by simp only; omega⟩
      simp only [go_sem]
      exact ⟨rfl, rfl⟩
    · obtain rfl : i = (n - 1).toNat := by omega
      have c1 : ¬ (((n - 1).toNat + 1 : Nat) : Int) < n := by omega
      have e3 : (V.pls (pwsL q r (n - 1).toNat)).take ((n - 1).toNat + 1) = V.pls (pwsL q r (n - 1).toNat) := List.take_of_length_le (by rw [pls_len, pwsL_len]; exact Nat.le_refl _)
      simp only [go_sem, c1, pwsL_len, e3]
end Go.Proofs.YtfbogelmgdojgaaGreat

