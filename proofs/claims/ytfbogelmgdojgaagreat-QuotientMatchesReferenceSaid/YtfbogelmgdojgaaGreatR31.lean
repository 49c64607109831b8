/- Texts PM14 PM14a PM15 SZ6 SZ7 LQ4 DT4 CH1 in one. -/
import Derived.Test.YtfbogelmgdojgaaGreatR27
import Derived.Test.YtfbogelmgdojgaaGreatR30
import Derived.Test.YtfbogelmgdojgaaGreatR28
import Derived.Test.YtfbogelmgdojgaaGreatR29
/- Polynomials over the rational numbers: inverses of residues. No program in sight. -/
namespace Go.Proofs.YtfbogelmgdojgaaGreat
set_option linter.unusedSimpArgs false
set_option linter.unusedVariables false
open Go.RowKit

theorem dvd_mod {a q d : List Rat} (ha : Can a) (hq : Can q) (q0 : q ≠ []) (h : pDvd d q) : pDvd d a ↔ pDvd d (pMod a q) := by
 obtain ⟨m, cm, hm⟩ := h
 obtain ⟨⟨c1, c2⟩, _, e⟩ := dm_ok ha hq q0
 constructor
 ·rintro ⟨k, ck, hk⟩
  exact ⟨pSub k (pMul (pDiv a q) m), can_pSub _ _, fun x => by
   rw [ev_pSub, ev_pMul]
   have := e x
   rw [hk, hm] at this
   grind⟩
 ·rintro ⟨k, ck, hk⟩
  exact ⟨pAdd k (pMul (pDiv a q) m), can_pAdd _ _, fun x => by
   rw [ev_pAdd, ev_pMul]
   have := e x
   rw [hk, hm] at this
   grind⟩
theorem dvd_nil {a : List Rat} (ha : Can a) (h : pDvd [] a) : a = [] := by
 obtain ⟨k, _, hk⟩ := h
 exact ev_inj ha Can_nil fun x => by
  rw [hk]
  show ev k x * 0 = 0
  grind
theorem dvd_both {g h : List Rat} (cg : Can g) (ch : Can h) (h1 : pDvd g h) (h2 : pDvd h g) : g.length = h.length := by
 by_cases g0 : g = []
 ·subst g0
  rw [dvd_nil ch h1]
 ·by_cases h0 : h = []
  ·subst h0
   rw [dvd_nil cg h2]
  ·have := (dvd_len ch cg h1 h0).1
   have := (dvd_len cg ch h2 g0).1
   omega
theorem pG_same {a b c d : List Rat} (ha : Can a) (hb : Can b) (hc : Can c) (hd : Can d) (h : ∀ x, (pDvd x a ∧ pDvd x b) ↔ (pDvd x c ∧ pDvd x d)) : (pG a b).length = (pG c d).length := by
 have h1 := (h _).1 (pG_dvd ha hb)
 have h2 := (h _).2 (pG_dvd hc hd)
 exact dvd_both (can_pG ha hb) (can_pG hc hd) (dvd_pG hc hd h1.1 h1.2) (dvd_pG ha hb h2.1 h2.2)
theorem len_pGcd {a b : List Rat} (ha : Can a) (hb : Can b) : (pGcd a b).length = (pG a b).length := len_pMonic (can_pG ha hb)
theorem cop_len {a q : List Rat} (ha : Can a) (hq : Can q) (q0 : q ≠ []) : (pExt (pMod a q) q).1.length = (pGcd q a).length := by
 have cr := (dm_ok ha hq q0).1.2
 rw [(pExt_ok cr hq).1, len_pGcd cr hq, len_pGcd hq ha]
 refine pG_same cr hq hq ha fun x => ⟨fun h => ⟨h.2, (dvd_mod ha hq q0 h.2).2 h.1⟩, fun h => ⟨(dvd_mod ha hq q0 h.1).1 h.2, h.1⟩⟩
theorem dvd_mon {a d : List Rat} (ha : Can a) (a0 : a ≠ []) : pDvd d (pMonic a) ↔ pDvd d a := by
 have l0 := lead_ne ha a0
 constructor
 ·rintro ⟨k, ck, hk⟩
  exact ⟨pSc (lead a) k, can_pSc _ _, fun x => by
   have := hk x
   rw [ev_pMonic a0] at this
   rw [ev_pSc]
   grind⟩
 ·rintro ⟨k, ck, hk⟩
  exact ⟨pSc (1 / lead a) k, can_pSc _ _, fun x => by
   rw [ev_pMonic a0, ev_pSc, hk]
   grind⟩
theorem norm_cop {a q : List Rat} (ha : Can a) (hq : Can q) (h2 : 2 ≤ q.length) : pRes (pMonic q) (pMod a q) = 0 ↔ ¬ (pGcd q a).length = 1 := by
 have q0 : q ≠ [] := fun e => by rw [e] at h2; simp at h2
 have cr := (dm_ok ha hq q0).1.2
 have cm : Can (pMonic q) := can_pMonic _
 have lm := len_pMonic hq
 have m0 : pMonic q ≠ [] := fun e => by rw [e] at lm; simp only [List.length_nil] at lm; omega
 have e : (pGcd q a).length = (pG (pMonic q) (pMod a q)).length := by
  rw [len_pGcd hq ha]
  exact pG_same hq ha cm cr fun x => ⟨fun h => ⟨(dvd_mon hq q0).2 h.1, (dvd_mod ha hq q0 h.1).1 h.2⟩, fun h => ⟨(dvd_mon hq q0).1 h.1, (dvd_mod ha hq q0 ((dvd_mon hq q0).1 h.1)).2 h.2⟩⟩
 rw [e]
 by_cases r0 : pMod a q = []
 ·rw [r0, pG_nil, pRes_step cm Can_nil, if_pos (.inr rfl)]
  constructor
  ·intro _; omega
  ·intro _; rfl
 ·rw [pRes_zero _ _ _ cm cr (Nat.lt_succ_self _) m0 r0]
  have : pG (pMonic q) (pMod a q) ≠ [] := fun e => m0 ((pG_eq_nil cm cr).1 e).1
  have := List.length_pos_iff.2 this
  omega
theorem inv_mul {a q : List Rat} (ha : Can a) (hq : Can q) (h2 : 2 ≤ q.length) (h : (pExt (pMod a q) q).1.length = 1) : pMod (pMul (pMod (pExt (pMod a q) q).2.1 q) a) q = [1] := by
 have q0 : q ≠ [] := fun e => by rw [e] at h2; simp at h2
 have cr := (dm_ok ha hq q0).1.2
 obtain ⟨e1, ⟨c1, c2⟩, e2⟩ := pExt_ok cr hq
 rw [e1] at h
 have g1 : pGcd (pMod a q) q = [1] := pMonic_one (can_pG cr hq) (by rw [← len_pGcd cr hq]; exact h)
 rw [mod_mul_l c1 hq q0, ← mod_mul_r ha hq q0]
 refine (dm_eq (can_pMul _ _) hq (q := pSub [] (pExt (pMod a q) q).2.2) (can_pSub _ _) can_one (by show 1 < _; omega) fun x => ?_).2
 have := e2 x
 rw [g1] at this
 rw [ev_pMul, ev_pSub]
 have e0 : ev [] x = 0 := rfl
 grind
end Go.Proofs.YtfbogelmgdojgaaGreat


/- Powers. No program in sight. -/
namespace Go.Proofs.YtfbogelmgdojgaaGreat
set_option linter.unusedSimpArgs false
set_option linter.unusedVariables false

def pwr (a : List Rat) : Nat → List Rat
 | 0 => [1]
 | i + 1 => pMul (pwr a i) a
theorem can_pwr (a : List Rat) : ∀ i, Can (pwr a i)
 | 0 => by rw [pwr, Can_cons]; simp
 | _ + 1 => can_pMul _ _
end Go.Proofs.YtfbogelmgdojgaaGreat


/- Power sums and traces. No program in sight. -/
namespace Go.Proofs.YtfbogelmgdojgaaGreat
set_option linter.unusedSimpArgs false
set_option linter.unusedVariables false

def nw (q : List Rat) (k : Nat) : Rat := nwV q k (nwL q k)
theorem nwL_get (q : List Rat) : ∀ (k j : Nat), j < k → cf (nwL q k) j = nw q j
 | 0, j, h => by omega
 | k + 1, j, h => by
   have hl := nwL_len q k
   unfold cf
   rw [nwL, List.getD_eq_getElem?_getD]
   by_cases e : j = k
   ·subst e
    rw [List.getElem?_append_right (by omega), hl, Nat.sub_self]
    rfl
   ·rw [List.getElem?_append_left (by omega), ← List.getD_eq_getElem?_getD]
    exact nwL_get q k j (by omega)
theorem trF_sm (r p : List Rat) : ∀ n, trF r p n = sm n (fun j => cf r j * cf p j)
 | 0 => by simp [trF, sm]
 | n + 1 => by rw [trF, sm, trF_sm r p n]
theorem sm_more {f : Nat → Rat} {m n : Nat} (h : m ≤ n) (h0 : ∀ i, m ≤ i → i < n → f i = 0) : sm n f = sm m f := by
 induction n with
 | zero => rw [show m = 0 from by omega]
 | succ n ih =>
   by_cases e : m = n + 1
   ·rw [e]
   ·rw [sm, ih (by omega) (fun i h1 h2 => h0 i h1 (by omega)), h0 n (by omega) (by omega)]; grind
theorem trQ_sm (q a : List Rat) {m : Nat} (h : (pMod a q).length ≤ m) : trQ q a = sm m (fun j => cf (pMod a q) j * nw (pMonic q) j) := by
 unfold trQ
 rw [trF_sm, sm_more h fun i hi _ => by rw [cf_ge hi]; grind]
 refine sm_congr fun j hj => ?_
 rw [show nwR (pMonic q) (pMod a q).length = nwL (pMonic q) (pMod a q).length from rfl, nwL_get _ _ _ hj]
theorem nwN_sm (q : List Rat) (k : Nat) (l : List Rat) : ∀ i, nwN q k l i = - sm i (fun t => cf q (q.length - 1 - (t + 1)) * nwBy k l (t + 1))
 | 0 => by simp [nwN, sm]
 | i + 1 => by rw [nwN, sm, nwN_sm q k l i]; grind
theorem nw_rec {q : List Rat} {i : Nat} (h1 : 2 ≤ q.length) (hi : q.length - 1 ≤ i) : nw q i = - sm (q.length - 1) (fun s => cf q s * nw q (i - (q.length - 1) + s)) := by
 have e0 : nw q i = nwN q i (nwL q i) (q.length - 1) := by
  unfold nw nwV
  rw [if_neg (by omega), Nat.min_eq_right hi]
 rw [e0, nwN_sm, ← sm_rev (fun s => cf q s * nw q (i - (q.length - 1) + s))]
 congr 1
 refine sm_congr fun t ht => ?_
 rw [show q.length - 1 - (t + 1) = q.length - 1 - 1 - t from by omega]
 congr 1
 unfold nwBy
 by_cases e : t + 1 < i
 ·rw [if_pos e, nwL_get _ _ _ (by omega), show i - (q.length - 1) + (q.length - 1 - 1 - t) = i - (t + 1) from by omega]
 ·rw [if_neg e, show i - (q.length - 1) + (q.length - 1 - 1 - t) = 0 from by omega]
  unfold nw nwV
  rw [if_pos rfl, show i = q.length - 1 from by omega]
theorem xs_mon (s e : Nat) : xs s (mon 1 e) = mon 1 (s + e) := ev_inj (can_xs _ _) (mon_can _ (by decide)) fun x => by rw [ev_xs, ev_mon, ev_mon, powq_add]
theorem trQ_mon {q : List Rat} (hq : Can q) (h2 : 2 ≤ q.length) : ∀ (n i : Nat), i < n → trQ q (mon 1 i) = nw (pMonic q) i
 | 0, i, h => by omega
 | n + 1, i, h => by
   have q0 : q ≠ [] := fun e => by rw [e] at h2; simp at h2
   have lm := len_pMonic hq
   have cm := can_pMonic q
   have m0 : pMonic q ≠ [] := fun e => by rw [e] at lm; simp at lm; omega
   have cn : ∀ j, Can (mon 1 j) := fun j => mon_can j (by decide)
   have lr : ∀ j, (pMod (mon 1 j) q).length < q.length := fun j => (dm_ok (cn j) hq q0).2.1
   by_cases hs : i < q.length - 1
   ·have e1 : pMod (mon 1 i) q = mon 1 i := (dm_small (cn i) hq (by rw [mon_len]; omega)).2
    rw [trQ_sm q _ (m := i + 1) (by rw [e1, mon_len]; exact Nat.le_refl _), e1, sm_one i (by omega) fun j _ hj => by rw [mon_low _ _ _ hj]; grind]
    rw [mon_top]; grind
   ·have ih : ∀ s, s < q.length - 1 → trQ q (mon 1 (i - (q.length - 1) + s)) = nw (pMonic q) (i - (q.length - 1) + s) := fun s hs => trQ_mon hq h2 n _ (by omega)
    rw [nw_rec (by omega) (by omega), lm]
    have lu : (pSub (mon 1 (q.length - 1)) (pMonic q)).length ≤ q.length - 1 := by
     refine len_lt_of_top (can_pSub _ _) (Nat.le_trans (len_pSub _ _) (by rw [mon_len, lm]; omega)) ?_
     rw [cf_pSub, mon_top]
     have := lead_pMonic hq q0
     unfold lead at this
     rw [lm] at this
     rw [this]; grind
    have cu : ∀ s, s < q.length - 1 → cf (pSub (mon 1 (q.length - 1)) (pMonic q)) s = - cf (pMonic q) s := fun s hs => by
     rw [cf_pSub, mon_low _ _ _ (by omega)]; grind
    have e1 : ∀ d, cf (pMod (mon 1 i) q) d = - sm (q.length - 1) (fun s => cf (pMonic q) s * cf (pMod (mon 1 (i - (q.length - 1) + s)) q) d) := fun d => by
     have h1 := mod_comb (c := mon 1 (i - (q.length - 1))) cm m0 d (q.length - 1) _ lu
     rw [mod_congr (y := mon 1 i) (can_pMul _ _) (cn i) cm m0 ⟨pSc (-1) (mon 1 (i - (q.length - 1))), can_pSc _ _, fun t => by
      rw [ev_pMul, ev_pSub, ev_mon, ev_mon, ev_mon, ev_pSc, ev_mon]
      have := powq_add t (q.length - 1) (i - (q.length - 1))
      rw [show q.length - 1 + (i - (q.length - 1)) = i from by omega] at this
      rw [this]; grind⟩, mod_monic (cn i) hq q0] at h1
     rw [h1, show ∀ x : Rat, -x = (-1) * x from fun x => by grind, ← sm_mul]
     refine sm_congr fun s hs => ?_
     rw [cu s hs, xs_mon, mod_monic (cn _) hq q0, Nat.add_comm s]
     grind
    rw [trQ_sm q _ (m := q.length - 1) (by have := lr i; omega)]
    rw [sm_congr fun j _ => by rw [e1 j], show ∀ x : Rat, -x = (-1) * x from fun x => by grind]
    rw [sm_congr (f := fun s => cf (pMonic q) s * nw (pMonic q) (i - (q.length - 1) + s)) (g := fun s => sm (q.length - 1) fun j => cf (pMonic q) s * (cf (pMod (mon 1 (i - (q.length - 1) + s)) q) j * nw (pMonic q) j)) fun s hs => by
     rw [← ih s hs, trQ_sm q _ (m := q.length - 1) (by have := lr (i - (q.length - 1) + s); omega), sm_mul]]
    rw [sm_swap, ← sm_mul]
    refine sm_congr fun j _ => ?_
    have e3 : ∀ (g : Nat → Rat) (w : Rat), - sm (q.length - 1) g * w = -1 * sm (q.length - 1) (fun s => w * g s) := fun g w => by rw [sm_mul]; grind
    rw [e3]
    congr 1
    exact sm_congr fun s _ => by grind
theorem nw_zero {q : List Rat} (hq : Can q) : nw (pMonic q) 0 = (((q.length - 1 : Nat) : Int) : Rat) := by
 unfold nw nwV
 rw [if_pos rfl, len_pMonic hq]
end Go.Proofs.YtfbogelmgdojgaaGreat


/- Sizes of inverses and norms. No program in sight. -/
namespace Go.Proofs.YtfbogelmgdojgaaGreat
set_option linter.unusedSimpArgs false
set_option linter.unusedVariables false
open Go.RowKit

def ivS (n k l : Nat) : Nat := exM 12 l (2 ^ (7 - n) * (2 * k + 2)) n k 1 1 1 1 + gcM 12 l (2 ^ (7 - n) * (2 * k + 2)) n k + 1
def ivC (n k : Nat) : Bool := (allB n fun l => exC 12 l (2 ^ (7 - n) * (2 * k + 2)) n k 1 1 1 1 && (gcC 12 l (2 ^ (7 - n) * (2 * k + 2)) n k && (reC 12 1 n (2 * k + 1) l (2 ^ (7 - n) * (2 * k + 2)) && decide (exL 12 l n 1 1 ≤ n - 1)))) &&
 ((allB 7 fun la => gcC 12 n k la 1) && (decide (mxB n (ivS n k) ≤ 100000000) && decide (2 ^ 6 * ((n - 1) * (mxB n (ivS n k) + 2) + 1 + 2 * k + 1) ≤ 2500000000000)))
theorem iv_ok {q a : List Rat} {n k : Nat} (hq : Md q n k) (ha : Sz a 6 1) : ((∃ m, ExOk m (pMod a q) q [1] [] [] [1]) ∧ (∃ m, ReOk m 1 (pMonic q) (pMod a q)) ∧ (∃ m, GcOk m q a)) ∧ ∃ S, (S ≤ 100000000 ∧ 2 ^ 6 * ((n - 1) * (S + 2) + 1 + 2 * k + 1) ≤ 2500000000000) ∧ Sz (pExt (pMod a q) q).2.1 (n - 1) S := by
 have hC : ivC n k = true := by
  rcases hq.cs with ⟨rfl, rfl⟩ | ⟨rfl, rfl⟩ | ⟨rfl, rfl⟩ | ⟨rfl, rfl⟩ <;> decide +kernel
 simp only [ivC, Bool.and_eq_true, decide_eq_true_eq] at hC
 obtain ⟨h1, h2, h3, h4⟩ := hC
 have n5 : 2 ≤ n ∧ n ≤ 5 := by have := hq.cs; omega
 have q0 := hq.ne
 have la := ha.len
 obtain ⟨⟨_, cr⟩, hr, _⟩ := dm_ok ha.can hq.can q0
 rw [hq.len] at hr
 have pr : PB (pMod a q) (2 ^ (7 - n) * (2 * k + 2)) := by
  refine ((div_PB (S := 2 * k + 2) ha.can hq.can q0 ha.pb hq.pb (by omega)).2).mono (Nat.mul_le_mul_right _ (Nat.pow_le_pow_right (by decide) ?_))
  rw [hq.len]; omega
 have h5 := allB_ok h1 _ hr
 simp only [Bool.and_eq_true, decide_eq_true_eq] at h5
 obtain ⟨h5, h6, h7, h8⟩ := h5
 have one : PB [1] 1 := PB_cons qs_1 (PB_nil (Nat.le_refl _))
 have nil1 : PB [] 1 := PB_nil (Nat.le_refl _)
 obtain ⟨x1, ⟨x2, x3⟩, _⟩ := exC_ok 12 h5 (s := [1]) (u := []) (t := []) (v := [1]) cr hq.can rfl hq.len pr hq.pb ⟨Nat.le_refl _, Nat.zero_le _⟩ ⟨Nat.zero_le _, Nat.le_refl _⟩ ⟨one, nil1⟩ ⟨nil1, one⟩
 have g1 := gcC_ok 12 h6 cr hq.can rfl hq.len pr hq.pb
 have r1 := reC_ok 12 h7 (o := 1) qs_1 (can_pMonic q) cr (by rw [len_pMonic hq.can]; exact hq.len) rfl (monic_PB hq.pb) pr
 have h9 := allB_ok h2 _ (show a.length < 7 by omega)
 have g2 := gcC_ok 12 h9 hq.can ha.can hq.len rfl hq.pb ha.pb
 refine ⟨⟨⟨12, x1⟩, ⟨12, r1⟩, ⟨12, g2.1⟩⟩, _, ⟨h3, h4⟩, ?_, ?_, (pExt_ok cr hq.can).2.1.1⟩
 all_goals
  have ef : exF 12 (pMod a q) q [1] [] [] [1] = pX (pMod a q) q := exF_fuel _ _ _ _ _ _ _ _ cr hq.can (by rw [hq.len]; omega) (by omega)
  rw [ef] at x2 x3
 ·unfold pExt
  simp only
  split
  ·omega
  ·exact Nat.le_trans (len_pSc _ _) (by omega)
 ·have hm := mxB_ok (f := ivS n k) _ hr
  have gm := g1.2
  rw [← (pX_ok cr hq.can).1] at gm
  unfold ivS at hm
  unfold pExt
  simp only
  split
  ·exact x2.mono (by unfold ivS; omega)
  ·intro i
   rw [cf_pSc]
   have e1 := qs_mul (1 / lead (pX (pMod a q) q).1) (cf (pX (pMod a q) q).2.1 i)
   have e2 := qs_inv1 (lead (pX (pMod a q) q).1) (gm ((pX (pMod a q) q).1.length - 1))
   have e3 := x2 i
   unfold ivS
   omega
end Go.Proofs.YtfbogelmgdojgaaGreat


/- Sizes of power sums and traces. No program in sight. -/
namespace Go.Proofs.YtfbogelmgdojgaaGreat
set_option linter.unusedSimpArgs false
set_option linter.unusedVariables false
open Go.RowKit

def nwZ (E : Nat) : Nat → Nat
 | 0 => 1
 | k + 1 => 4 * (E + nwZ E k + 1) + 1
theorem nwZ_pos (E : Nat) : ∀ k, 1 ≤ nwZ E k
 | 0 => Nat.le_refl _
 | k + 1 => by rw [nwZ]; omega
theorem nwBy_sz {l : List Rat} {S k i : Nat} (hl : PB l S) (h1 : 1 ≤ S) (hk : k < 4294967296) : qs (nwBy k l i) ≤ S := by
 unfold nwBy
 split
 ·exact hl _
 ·exact Nat.le_trans (qs_nat hk) h1
theorem nwN_sz {q l : List Rat} {E S k : Nat} (hq : PB q E) (hl : PB l S) (h1 : 1 ≤ S) (hk : k < 4294967296) : ∀ i, qs (nwN q k l i) ≤ i * (E + S + 1) + 1
 | 0 => by
   rw [nwN, Nat.zero_mul]
   exact qs_0
 | i + 1 => by
   have ih := nwN_sz hq hl h1 hk i
   rw [nwN, Nat.succ_mul]
   have e1 := qs_sub (nwN q k l i) (cf q (q.length - 1 - (i + 1)) * nwBy k l (i + 1))
   have e2 := qs_mul (cf q (q.length - 1 - (i + 1))) (nwBy k l (i + 1))
   have e3 := hq (q.length - 1 - (i + 1))
   have e4 := nwBy_sz (i := i + 1) hl h1 hk
   omega
theorem nwL_sz {q : List Rat} {E : Nat} (hq : PB q E) (hl : q.length ≤ 5) : ∀ k, k < 1000 → PB (nwL q k) (nwZ E k)
 | 0, _ => PB_nil (Nat.le_refl _)
 | k + 1, hk => fun i => by
   have ih := nwL_sz hq hl k (by omega)
   have hp := nwZ_pos E k
   have hle : nwZ E k ≤ nwZ E (k + 1) := by rw [nwZ]; omega
   by_cases e : i < k
   ·have : cf (nwL q (k + 1)) i = cf (nwL q k) i := by rw [nwL_get _ _ _ (by omega), nwL_get _ _ _ e]
    rw [this]
    exact Nat.le_trans (ih i) hle
   ·by_cases e' : i = k
    ·rw [nwL_get _ _ _ (by omega), e']
     show qs (nwV q k (nwL q k)) ≤ _
     unfold nwV
     split
     ·exact Nat.le_trans (qs_nat (z := q.length - 1) (by omega)) (by omega)
     ·have h1 := nwN_sz (k := k) hq ih hp (by omega) (min k (q.length - 1))
      refine Nat.le_trans h1 ?_
      rw [nwZ]
      have : min k (q.length - 1) * (E + nwZ E k + 1) ≤ 4 * (E + nwZ E k + 1) := Nat.mul_le_mul_right _ (by omega)
      omega
    ·rw [cf_ge (by rw [nwL_len]; omega)]
     exact Nat.le_trans qs_0 (Nat.le_trans hp hle)
theorem nwZ_step (E : Nat) {j : Nat} : ∀ {k}, j ≤ k → nwZ E j ≤ nwZ E k
 | 0, h => by rw [show j = 0 from by omega]; exact Nat.le_refl _
 | k + 1, h => by
   by_cases e : j = k + 1
   ·rw [e]; exact Nat.le_refl _
   ·have := nwZ_step E (j := j) (k := k) (by omega)
    rw [nwZ]; omega
theorem nw_ok {q : List Rat} {E L : Nat} (hq : PB q E) (hl : q.length ≤ 5) (h : L ≤ 100 ∧ 5 * (E + nwZ E L + 1) + 1 ≤ 5000000000000) : NwOk q L := by
 refine ⟨⟨by omega, hq.mono (by omega), by omega⟩, fun k hk => ?_⟩
 have h1 := nwL_sz hq hl k (by omega)
 have h2 := nwZ_step E hk
 refine ⟨h1.mono (by omega), fun i hi => ⟨?_, ?_⟩⟩
 ·refine Nat.le_trans (nwN_sz hq h1 (nwZ_pos E k) (by omega) i) ?_
  have : i * (E + nwZ E k + 1) ≤ 5 * (E + nwZ E k + 1) := Nat.mul_le_mul_right _ (by omega)
  omega
 ·have e1 := qs_mul (cf q (q.length - 1 - (i + 1))) (nwBy k (nwL q k) (i + 1))
  have e2 := hq (q.length - 1 - (i + 1))
  have e3 := nwBy_sz (k := k) (i := i + 1) h1 (nwZ_pos E k) (by omega)
  omega
theorem Md0.mon {q : List Rat} {n k : Nat} (hq : Md0 q n k) : PB (pMonic q) 11009 ∧ (pMonic q).length ≤ 5 := by
 have := hq.sz
 exact ⟨monic_PB this.pb, by rw [len_pMonic hq.can]; exact this.len⟩
theorem Md0.po {q : List Rat} {n k : Nat} (hq : Md0 q n k) {L : Nat} (hL : L ≤ 6) : PoOk q L := by
 have h2 := hq.two
 have h3 := hq.sz.len
 refine ⟨⟨hq.can, by omega, 5504, hq.sz.pb, by decide⟩, ⟨by rw [len_pMonic hq.can]; omega, by rw [len_pMonic hq.can]; omega⟩, nw_ok hq.mon.1 hq.mon.2 ⟨by omega, ?_⟩⟩
 have := nwZ_step 11009 hL
 exact Nat.le_trans (show _ ≤ 5 * (11009 + nwZ 11009 6 + 1) + 1 by omega) (by decide)
theorem trF_sz {r p : List Rat} {R S : Nat} (hr : PB r R) (hp : PB p S) : ∀ i, qs (trF r p i) ≤ i * (R + S + 1) + 1
 | 0 => by
   rw [trF, Nat.zero_mul]
   exact qs_0
 | i + 1 => by
   have ih := trF_sz hr hp i
   rw [trF, Nat.succ_mul]
   have e1 := qs_add (trF r p i) (cf r i * cf p i)
   have e2 := qs_mul (cf r i) (cf p i)
   have e3 := hr i
   have e4 := hp i
   omega
def trB7 (m j : Nat) : Nat := 4 * (2 ^ (m - 1) * (j + 11009) + nwZ 11009 4 + 1) + 1
theorem Md0.tr {q a : List Rat} {n k m j : Nat} (hq : Md0 q n k) (ha : Sz a m j) (h : ((2 ≤ m ∧ m ≤ 1000) ∧ 2 ^ (m - 1) * (j + 11009) ≤ 1000000000) := by decide) : TrOk q a ∧ qs (trQ q a) ≤ trB7 m j := by
 have hd := hq.dv ha ⟨h.1, by omega⟩
 have hr := hq.rm ha h.1.1
 have hn := nwL_sz hq.mon.1 hq.mon.2 (pMod a q).length (by have := hr.len; omega)
 have hn' : PB (nwL (pMonic q) (pMod a q).length) (nwZ 11009 4) := hn.mono (nwZ_step _ hr.len)
 have hS : nwZ 11009 4 ≤ 100000000 := by decide
 unfold trB7
 have h6 := h.2
 generalize nwZ 11009 4 = Y at hS hn' ⊢
 generalize 2 ^ (m - 1) * (j + 11009) = X at hr h6 ⊢
 refine ⟨⟨hd, fun _ => hq.po (by have := hr.len; omega), hr.pb.mono (by omega), hn'.mono (by omega), fun i hi => ⟨?_, ?_⟩⟩, ?_⟩
 ·refine Nat.le_trans (trF_sz hr.pb hn' i) ?_
  have : i * (X + Y + 1) ≤ 4 * (X + Y + 1) := Nat.mul_le_mul_right _ (by have := hr.len; omega)
  omega
 ·have e2 := qs_mul (cf (pMod a q) i) (cf (nwR (pMonic q) (pMod a q).length) i)
  have e3 := hr.pb i
  have e4 := hn' i
  exact Nat.le_trans e2 (by show _ + qs (cf (nwL (pMonic q) (pMod a q).length) i) ≤ _; omega)
 ·unfold trQ
  refine Nat.le_trans (trF_sz hr.pb hn' _) ?_
  have : (pMod a q).length * (X + Y + 1) ≤ 4 * (X + Y + 1) := Nat.mul_le_mul_right _ hr.len
  omega
end Go.Proofs.YtfbogelmgdojgaaGreat


/- The law of traces and norms. -/
namespace Go.Proofs.YtfbogelmgdojgaaGreat
set_option linter.unusedSimpArgs false
set_option linter.unusedVariables false
open Go.RowKit

theorem cmpQ_self (x : Rat) : cmpQ x x = 0 := by
 have := cmpQ_eq0 x x
 rw [decide_eq_true rfl] at this
 exact eq_of_beq this
theorem mon_sz {i : Nat} (h : i < 6) : Sz (mon 1 i) 6 1 := ⟨by rw [mon_len]; omega, fun j => by
 by_cases e : j = i
 ·rw [e, mon_top]; exact qs_1
 ·rw [mon_low _ _ _ e]; exact qs_0, mon_can i (by decide)⟩
end Go.Proofs.YtfbogelmgdojgaaGreat


/- Determinants: cofactors, matrices that depend on a number. No program in sight. -/
namespace Go.Proofs.YtfbogelmgdojgaaGreat
set_option linter.unusedSimpArgs false
set_option linter.unusedVariables false

def rvM (n : Nat) (M : Mat) : Mat := fun i j => M (n - 1 - i) (n - 1 - j)
theorem rv_ML (n : Nat) : ML n (fun M => det n (rvM n M)) where
 congr := fun {M M'} h => (det_ML n).congr fun i hi j hj => h _ (by omega) _ (by omega)
 lin := fun M p u v a b hp => by
  have e : ∀ w, det n (rvM n (upd M p w)) = det n (upd (rvM n M) (n - 1 - p) (fun j => w (n - 1 - j))) := fun w => (det_ML n).congr fun i hi j _ => by
   unfold rvM
   by_cases h : i = n - 1 - p
   ·subst h
    rw [upd_same, show n - 1 - (n - 1 - p) = p from by omega, upd_same]
   ·rw [upd_ne _ h, upd_ne _ (show n - 1 - i ≠ p by omega)]
  rw [e, e, e, ← (det_ML n).lin _ (n - 1 - p) _ _ a b (by omega)]
 alt := fun M p q hpq hq h => (det_ML n).alt _ (n - 1 - q) (n - 1 - p) (by omega) (by omega) (by
  unfold rvM
  funext j
  rw [show n - 1 - (n - 1 - q) = q from by omega, show n - 1 - (n - 1 - p) = p from by omega, h])
theorem det_rv (n : Nat) (M : Mat) : det n (rvM n M) = det n M := by
 rw [(rv_ML n).eq M]
 have : det n (rvM n one) = 1 := by
  rw [(det_ML n).congr (M' := one) fun i hi j hj => ?_, det_one]
  unfold rvM one
  by_cases e : i = j
  ·rw [if_pos e, if_pos (by omega)]
  ·rw [if_neg e, if_neg (by omega)]
 rw [this]; grind
def cofa (n : Nat) (M : Mat) (k : Nat) : Rat := sg k * det n (mino M k)
theorem cofa_sum (n : Nat) (M : Mat) {j : Nat} (hj : j < n + 1) : sm (n + 1) (fun k => cofa n M k * M k j) = if j = 0 then det (n + 1) M else 0 := by
 have e1 : sm (n + 1) (fun k => cofa n M k * M k j) = det (n + 1) (fun i c => if c = 0 then M i j else M i c) := by
  rw [← dtc_eq, dtc]
  refine sm_congr fun k _ => ?_
  rw [if_pos rfl, dtc_eq]
  unfold cofa
  have : mino (fun i c => if c = 0 then M i j else M i c) k = mino M k := by
   funext i c
   show (if c + 1 = 0 then M (if i < k then i else i + 1) j else M (if i < k then i else i + 1) (c + 1)) = M (if i < k then i else i + 1) (c + 1)
   rw [if_neg (by omega)]
  rw [this]; grind
 rw [e1]
 by_cases h : j = 0
 ·subst h
  rw [if_pos rfl]
  congr 1
  funext i c
  split
  ·rename_i h; rw [h]
  ·rfl
 ·rw [if_neg h, ← det_tp]
  refine (det_ML (n + 1)).alt _ 0 j (by omega) hj ?_
  funext i
  show (if 0 = 0 then M i j else M i 0) = (if j = 0 then M i j else M i j)
  rw [if_pos rfl, if_neg h]
def lnM (A D : Mat) (t : Rat) : Mat := fun i j => A i j + t * D i j
def smP : Nat → (Nat → List Rat) → List Rat
 | 0, _ => []
 | n + 1, f => addL (smP n f) (f n)
theorem ev_smP (f : Nat → List Rat) (t : Rat) : ∀ n, ev (smP n f) t = sm n (fun i => ev (f i) t)
 | 0 => rfl
 | n + 1 => by rw [smP, ev_addL, ev_smP f t n, sm]
theorem cf_smP (f : Nat → List Rat) (d : Nat) : ∀ n, cf (smP n f) d = sm n (fun i => cf (f i) d)
 | 0 => rfl
 | n + 1 => by rw [smP, cf_addL, cf_smP f d n, sm]
theorem len_smP {f : Nat → List Rat} {m : Nat} : ∀ {n}, (∀ i, i < n → (f i).length ≤ m) → (smP n f).length ≤ m
 | 0, _ => Nat.zero_le _
 | n + 1, h => by
   rw [smP, len_addL]
   have := len_smP (n := n) fun i hi => h i (by omega)
   have := h n (by omega)
   omega
def pdP : Nat → Mat → Mat → List Rat
 | 0, _, _ => [1]
 | n + 1, A, D => smP (n + 1) (fun k => scL (sg k) (mulL [A 0 k, D 0 k] (pdP n (minor A k) (minor D k))))
theorem pdP_ok : ∀ (n : Nat) (A D : Mat), (pdP n A D).length ≤ n + 1 ∧ (∀ t, ev (pdP n A D) t = det n (lnM A D t)) ∧ cf (pdP n A D) n = det n D
 | 0, A, D => ⟨Nat.le_refl _, fun t => by show 1 + t * 0 = (1 : Rat); grind, rfl⟩
 | n + 1, A, D => by
   have hP := fun k => pdP_ok n (minor A k) (minor D k)
   refine ⟨len_smP fun k _ => ?_, fun t => ?_, ?_⟩
   ·rw [len_scL]
    show (addL (scL (A 0 k) (pdP n (minor A k) (minor D k))) (0 :: addL (scL (D 0 k) (pdP n (minor A k) (minor D k))) (0 :: []))).length ≤ _
    rw [len_addL, List.length_cons, len_addL, len_scL, len_scL]
    have := (hP k).1
    simp only [List.length_cons, List.length_nil]
    omega
   ·rw [pdP, ev_smP, det]
    refine sm_congr fun k _ => ?_
    rw [ev_scL, ev_mulL, (hP k).2.1]
    have : minor (lnM A D t) k = lnM (minor A k) (minor D k) t := rfl
    rw [this]
    show sg k * ((A 0 k + t * (D 0 k + t * 0)) * _) = sg k * (A 0 k + t * D 0 k) * _
    grind
   ·rw [pdP, cf_smP, det]
    refine sm_congr fun k _ => ?_
    rw [cf_scL]
    have e : cf (mulL [A 0 k, D 0 k] (pdP n (minor A k) (minor D k))) (n + 1) = A 0 k * cf (pdP n (minor A k) (minor D k)) (n + 1) + (D 0 k * cf (pdP n (minor A k) (minor D k)) n + 0) := by
     show cf (addL (scL (A 0 k) (pdP n (minor A k) (minor D k))) (0 :: addL (scL (D 0 k) (pdP n (minor A k) (minor D k))) (0 :: []))) (n + 1) = _
     rw [cf_addL, cf_scL, cf_succ, cf_addL, cf_scL]
     congr 2
     cases n <;> rfl
    rw [e, cf_ge (hP k).1, (hP k).2.2]
    grind
theorem pdet (n : Nat) (A D : Mat) : ∃ P : List Rat, P.length ≤ n + 1 ∧ (∀ t, ev P t = det n (lnM A D t)) ∧ cf P n = det n D := ⟨_, pdP_ok n A D⟩
theorem det_near : ∀ (n : Nat) (D : Mat), ∃ R : List Rat, ∀ h, det n (lnM one D h) = 1 + h * sm n (fun i => D i i) + h * h * ev R h
 | 0, D => ⟨[], fun h => by show (1 : Rat) = 1 + h * 0 + h * h * 0; grind⟩
 | n + 1, D => by
   obtain ⟨R, hR⟩ := det_near n (minor D 0)
   have key : ∀ k, ∃ S : List Rat, ∀ h, k < n → det n (minor (lnM one D h) (k + 1)) = h * ev S h := fun k => by
    obtain ⟨P, _, h2, _⟩ := pdet n (upd (minor one (k + 1)) k (minor D (k + 1) k)) (upd (minor D (k + 1)) k (fun _ => 0))
    refine ⟨P, fun h hk => ?_⟩
    rw [h2]
    have e := (det_ML n).lin (lnM (upd (minor one (k + 1)) k (minor D (k + 1) k)) (upd (minor D (k + 1)) k (fun _ => 0)) h) k (minor D (k + 1) k) (fun _ => 0) h 0 hk
    have e2 : upd (lnM (upd (minor one (k + 1)) k (minor D (k + 1) k)) (upd (minor D (k + 1)) k (fun _ => 0)) h) k (minor D (k + 1) k) = lnM (upd (minor one (k + 1)) k (minor D (k + 1) k)) (upd (minor D (k + 1)) k (fun _ => 0)) h := by
     funext i j
     by_cases hi : i = k
     ·subst hi
      rw [upd_same]
      unfold lnM
      rw [upd_same, upd_same]; grind
     ·rw [upd_ne _ hi]
    rw [e2] at e
    rw [show ∀ x y : Rat, h * x + 0 * y = h * x from fun x y => by grind] at e
    rw [← e]
    refine (det_ML n).congr fun i hi j hj => ?_
    by_cases hi : i = k
    ·subst hi
     rw [upd_same]
     unfold minor lnM one
     rw [if_neg (by split <;> omega)]
     grind
    ·rw [upd_ne _ hi]
     unfold lnM
     rw [upd_ne _ hi, upd_ne _ hi]
     rfl
   obtain ⟨S, hS⟩ : ∃ S : Nat → List Rat, ∀ k h, k < n → det n (minor (lnM one D h) (k + 1)) = h * ev (S k) h := ⟨fun k => (key k).choose, fun k => (key k).choose_spec⟩
   refine ⟨addL (addL R (scL (D 0 0) [sm n (fun i => minor D 0 i i)])) (addL (scL (D 0 0) (0 :: R)) (smP n (fun k => scL (sg (k + 1) * D 0 (k + 1)) (S k)))), fun h => ?_⟩
   rw [det, sm_first]
   have e0 : minor (lnM one D h) 0 = lnM one (minor D 0) h := by
    funext i j
    show one (i + 1) (if j < 0 then j else j + 1) + h * D (i + 1) (if j < 0 then j else j + 1) = one i j + h * D (i + 1) (if j < 0 then j else j + 1)
    rw [if_neg (Nat.not_lt_zero j)]
    unfold one
    by_cases e : i = j
    ·rw [if_pos e, if_pos (by omega)]
    ·rw [if_neg e, if_neg (by omega)]
   have e1 : lnM one D h 0 0 = 1 + h * D 0 0 := rfl
   rw [e0, hR h, e1, sm_congr (f := fun i => sg (i + 1) * lnM one D h 0 (i + 1) * det n (minor (lnM one D h) (i + 1))) (g := fun k => (h * h) * (sg (k + 1) * D 0 (k + 1) * ev (S k) h)) fun k hk => by
    rw [hS k h hk]
    have : lnM one D h 0 (k + 1) = h * D 0 (k + 1) := by
     unfold lnM one
     rw [if_neg (by omega)]; grind
    rw [this]; grind, sm_mul, sm_first (fun i => D i i)]
   simp only [ev_addL, ev_scL, ev_smP]
   have e3 : ev [sm n fun i => minor D 0 i i] h = sm n fun i => minor D 0 i i := by
    show _ + h * 0 = _
    grind
   have e4 : ev (0 :: R) h = h * ev R h := by
    show 0 + h * _ = _
    grind
   have e5 : (sm n fun i => minor D 0 i i) = sm n fun i => D (i + 1) (i + 1) := sm_congr fun i _ => by
    show D (i + 1) (if i < 0 then i else i + 1) = _
    rw [if_neg (Nat.not_lt_zero i)]
   rw [e3, e4, e5, sg]
   grind
end Go.Proofs.YtfbogelmgdojgaaGreat


/- The characteristic polynomial of a residue. No program in sight. -/
namespace Go.Proofs.YtfbogelmgdojgaaGreat
set_option linter.unusedSimpArgs false
set_option linter.unusedVariables false

def MA (q b : List Rat) : Mat := fun i j => cf (pMod (xs i b) q) j
theorem Nm_MA (q b : List Rat) : Nm q b = det (q.length - 1) (MA q b) := by
 rw [← det_rv]
 rfl
theorem MA_row {q b u : List Rat} (hq : Can q) (q0 : q ≠ []) (hu : u.length ≤ q.length - 1) (j : Nat) : cf (pMod (pMul u b) q) j = sm (q.length - 1) (fun k => cf u k * MA q b k j) := mod_comb hq q0 j _ u hu
def lsF (f : Nat → Rat) (n : Nat) : List Rat := tr ((List.range n).map f)
theorem cf_lsF (f : Nat → Rat) (n k : Nat) : cf (lsF f n) k = if k < n then f k else 0 := by
 unfold lsF
 rw [cf_tr]
 unfold cf
 rw [List.getD_eq_getElem?_getD, List.getElem?_map]
 by_cases h : k < n
 ·rw [List.getElem?_range h, if_pos h]; rfl
 ·rw [List.getElem?_eq_none (by simp; omega), if_neg h]; rfl
theorem len_lsF (f : Nat → Rat) (n : Nat) : (lsF f n).length ≤ n := Nat.le_trans (tr_len _) (by simp)
theorem can_lsF (f : Nat → Rat) (n : Nat) : Can (lsF f n) := tr_can _
theorem cf_m2 (x y : Rat) (u : List Rat) (s : Nat) : cf (mulL [x, y] u) s = x * cf u s + (if s = 0 then 0 else y * cf u (s - 1)) := by
 show cf (addL (scL x u) (0 :: addL (scL y u) (0 :: []))) s = _
 rw [cf_addL, cf_scL]
 congr 1
 cases s with
 | zero => rfl
 | succ s =>
   rw [cf_succ, cf_addL, cf_scL, if_neg (by omega), Nat.add_sub_cancel]
   have : cf (0 :: []) s = 0 := by cases s <;> rfl
   rw [this]; grind
theorem cf_const (c : Rat) (j : Nat) : cf (tr [c]) j = if j = 0 then c else 0 := by
 rw [cf_tr]
 cases j with
 | zero => rfl
 | succ j => rfl
def chi (q a : List Rat) : List Rat := pdP (q.length - 1) (fun i j => - MA q a i j) one
def chU (q a : List Rat) (k : Nat) : List Rat := scL (sg k) (pdP (q.length - 2) (mino (fun i j => - MA q a i j) k) (mino one k))
theorem chi_len (q a : List Rat) : (chi q a).length ≤ q.length - 1 + 1 := (pdP_ok (q.length - 1) (fun i j => - MA q a i j) one).1
theorem chi_ev (q a : List Rat) (t : Rat) : ev (chi q a) t = det (q.length - 1) (lnM (fun i j => - MA q a i j) one t) := (pdP_ok (q.length - 1) (fun i j => - MA q a i j) one).2.1 t
theorem chi_top (q a : List Rat) : cf (chi q a) (q.length - 1) = 1 := by
 rw [chi, (pdP_ok (q.length - 1) (fun i j => - MA q a i j) one).2.2, det_one]
theorem chi_length (q a : List Rat) : (chi q a).length = q.length - 1 + 1 := by
 have h1 := chi_len q a
 have h2 := chi_top q a
 rcases Nat.lt_or_ge (chi q a).length (q.length - 1 + 1) with h | h
 ·rw [cf_ge (by omega)] at h2
  exact absurd h2 (by decide)
 ·omega
theorem chi_can (q a : List Rat) : Can (chi q a) := fun _ => by
 rw [chi_length, Nat.add_sub_cancel, chi_top]; decide
theorem chU_len (q a : List Rat) (k : Nat) : (chU q a k).length ≤ q.length - 2 + 1 := by
 unfold chU
 rw [len_scL]
 exact (pdP_ok (q.length - 2) (mino (fun i j => - MA q a i j) k) (mino one k)).1
theorem chU_ev (q a : List Rat) (k : Nat) (t : Rat) : ev (chU q a k) t = cofa (q.length - 2) (lnM (fun i j => - MA q a i j) one t) k := by
 unfold chU
 rw [ev_scL, (pdP_ok (q.length - 2) (mino (fun i j => - MA q a i j) k) (mino one k)).2.1 t]
 rfl
theorem chU_sum {q : List Rat} (a : List Rat) (h2 : 2 ≤ q.length) (t : Rat) {j : Nat} (hj : j < q.length - 1) : sm (q.length - 1) (fun k => ev (chU q a k) t * (- MA q a k j + t * one k j)) = if j = 0 then ev (chi q a) t else 0 := by
 have h := cofa_sum (q.length - 2) (lnM (fun i j => - MA q a i j) one t) (j := j) (by omega)
 rw [show q.length - 2 + 1 = q.length - 1 from by omega, ← chi_ev] at h
 rw [← h]
 exact sm_congr fun k _ => by rw [chU_ev]; rfl
theorem chU_cf {q : List Rat} (a : List Rat) (h2 : 2 ≤ q.length) (s : Nat) {j : Nat} (hj : j < q.length - 1) :
 sm (q.length - 1) (fun k => cf (chU q a k) s * MA q a k j) = (if s = 0 then 0 else cf (chU q a j) (s - 1)) - (if j = 0 then cf (chi q a) s else 0) := by
 have h := cf_of_ev (a := smP (q.length - 1) (fun k => mulL [- MA q a k j, one k j] (chU q a k))) (b := if j = 0 then chi q a else []) (fun t => by
  rw [ev_smP]
  have := chU_sum a h2 t hj
  rw [sm_congr (g := fun k => ev (chU q a k) t * (- MA q a k j + t * one k j)) fun k _ => by
   rw [ev_mulL]
   show (- MA q a k j + t * (one k j + t * 0)) * _ = _
   grind, this]
  split <;> rfl) s
 rw [cf_smP, sm_congr fun k _ => cf_m2 _ _ _ _, sm_add] at h
 have e1 : sm (q.length - 1) (fun k => - MA q a k j * cf (chU q a k) s) = - sm (q.length - 1) (fun k => cf (chU q a k) s * MA q a k j) := by
  rw [show ∀ x : Rat, -x = (-1) * x from fun x => by grind, ← sm_mul]
  exact sm_congr fun k _ => by grind
 have e2 : sm (q.length - 1) (fun k => if s = 0 then 0 else one k j * cf (chU q a k) (s - 1)) = if s = 0 then 0 else cf (chU q a j) (s - 1) := by
  by_cases hs : s = 0
  ·rw [if_pos hs]
   exact sm_zero fun k _ => if_pos hs
  ·rw [if_neg hs, sm_one j hj fun k _ hk => by rw [if_neg hs]; unfold one; rw [if_neg hk]; grind]
   rw [if_neg hs]
   unfold one
   rw [if_pos rfl]; grind
 rw [e1, e2] at h
 have e3 : cf (if j = 0 then chi q a else []) s = if j = 0 then cf (chi q a) s else 0 := by split <;> rfl
 rw [e3] at h
 grind
def chB (q a : List Rat) : Nat → List Rat
 | 0 => []
 | s + 1 => lsF (fun k => cf (chU q a k) s) (q.length - 1)
theorem can_chB (q a : List Rat) : ∀ s, Can (chB q a s)
 | 0 => Can_nil
 | _ + 1 => can_lsF _ _
theorem chB_step {q a : List Rat} (ha : Can a) (hq : Can q) (h2 : 2 ≤ q.length) (s : Nat) : pMod (pMul (chB q a (s + 1)) a) q = pSub (chB q a s) (tr [cf (chi q a) s]) := by
 have q0 : q ≠ [] := fun e => by rw [e] at h2; simp at h2
 obtain ⟨⟨_, cr⟩, hr, _⟩ := dm_ok (can_pMul (chB q a (s + 1)) a) hq q0
 refine can_ext cr (can_pSub _ _) fun j => ?_
 rw [cf_pSub, cf_const]
 by_cases hj : j < q.length - 1
 ·rw [MA_row hq q0 (u := chB q a (s + 1)) (len_lsF _ _), sm_congr (g := fun k => cf (chU q a k) s * MA q a k j) fun k hk => by
   show cf (lsF (fun k => cf (chU q a k) s) (q.length - 1)) k * _ = _
   rw [cf_lsF, if_pos hk], chU_cf a h2 s hj]
  cases s with
  | zero => rw [if_pos rfl]; rfl
  | succ s =>
    rw [if_neg (by omega), Nat.add_sub_cancel]
    show _ = cf (lsF (fun k => cf (chU q a k) s) (q.length - 1)) j - _
    rw [cf_lsF, if_pos hj]
 ·rw [cf_ge (by omega), if_neg (show ¬ j = 0 by omega)]
  have : cf (chB q a s) j = 0 := by
   cases s with
   | zero => rfl
   | succ s =>
     show cf (lsF _ _) j = 0
     rw [cf_lsF, if_neg hj]
  rw [this]; grind
def atm (q a : List Rat) : List Rat → List Rat
 | [] => []
 | c :: l => pAdd (pMod (pMul (atm q a l) a) q) (tr [c])
theorem can_atm (q a : List Rat) : ∀ l, Can (atm q a l)
 | [] => Can_nil
 | _ :: _ => can_pAdd _ _
theorem chB_at {q a : List Rat} (ha : Can a) (hq : Can q) (h2 : 2 ≤ q.length) : ∀ (n s : Nat), q.length ≤ s + n → atm q a ((chi q a).drop s) = chB q a s
 | 0, s, h => by
   rw [List.drop_of_length_le (by rw [chi_length]; omega)]
   cases s with
   | zero => rfl
   | succ s =>
     refine can_ext Can_nil (can_lsF _ _) fun j => ?_
     show 0 = cf (lsF (fun k => cf (chU q a k) s) (q.length - 1)) j
     rw [cf_lsF, cf_ge (l := chU q a j) (by have := chU_len q a j; omega)]
     split <;> rfl
 | n + 1, s, h => by
   by_cases hs : q.length ≤ s
   ·exact chB_at ha hq h2 0 s (by omega)
   ·have hl := chi_length q a
    have e : (chi q a).drop s = cf (chi q a) s :: (chi q a).drop (s + 1) := by
     rw [List.drop_eq_getElem_cons (by omega), cf_lt (by omega)]
    rw [e, atm, chB_at ha hq h2 n (s + 1) (by omega), chB_step ha hq h2]
    refine can_ext (can_pAdd _ _) (can_chB _ _ _) fun j => ?_
    rw [cf_pAdd, cf_pSub]; grind
theorem cayley {q a : List Rat} (ha : Can a) (hq : Can q) (h2 : 2 ≤ q.length) : atm q a (chi q a) = [] := chB_at ha hq h2 q.length 0 (by omega)
end Go.Proofs.YtfbogelmgdojgaaGreat

