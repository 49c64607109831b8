/- Texts PM18 SZ8 SZ9 J8 in one. -/
import Derived.Test.YtfbogelmgdojgaaGreatR33
import Derived.Test.YtfbogelmgdojgaaGreatR30
import Derived.Test.YtfbogelmgdojgaaGreatR25
import Derived.Test.YtfbogelmgdojgaaGreatR27
import Derived.Test.YtfbogelmgdojgaaGreatR31
import Derived.Test.YtfbogelmgdojgaaGreatR29
/- Degrees in Yun's algorithm. No program in sight. -/
namespace Go.Proofs.YtfbogelmgdojgaaGreat
set_option linter.unusedSimpArgs false
set_option linter.unusedVariables false

theorem top_mul {a b : List Rat} {i j : Nat} (ha : a.length ≤ i + 1) (hb : b.length ≤ j + 1) : cf (mulL a b) (i + j) = cf a i * cf b j := by
 rw [sh_sm b a (i + 1) (i + j) ha, sm_one i (by omega) fun s hs hne => ?_]
 ·unfold sh
  rw [if_neg (by omega), show i + j - i = j from by omega]
 ·unfold sh
  rw [if_neg (by omega), cf_ge (l := b) (by omega)]; grind
theorem len_pMul_lt (a b : List Rat) : (pMul a b).length ≤ a.length + b.length - 1 := by
 by_cases b0 : b = []
 ·subst b0
  rw [pMul_nil_r]; exact Nat.zero_le _
 ·unfold pMul
  refine Nat.le_trans (tr_len _) ?_
  rw [len_mulL a b b0]
  split
  ·exact Nat.zero_le _
  ·omega
def twS (w : Nat → Rat) : Fac → Rat
 | [] => 0
 | x :: l => w x.2 * ((x.1.length - 1 : Nat) : Rat) + twS w l
theorem WL_top (w : Nat → Rat) : ∀ {l : Fac}, Good l → (WL w l).length ≤ (PiL l).length - 1 ∧ (l ≠ [] → cf (WL w l) ((PiL l).length - 2) = twS w l)
 | [], _ => ⟨Nat.zero_le _, fun h => absurd rfl h⟩
 | x :: l, ⟨⟨h1, _⟩, h2, h3⟩ => by
   obtain ⟨i1, i2⟩ := WL_top w h3
   obtain ⟨p1, p0, p2⟩ := lead_PiL h3
   have hl := len_pMul h1.can (can_PiL l) h1.ne p0
   have hp0 := List.length_pos_iff.2 p0
   have hx := h1.two
   have hd := len_pDiff h1.can
   have e1 := len_pMul_lt (pDiff x.1) (PiL l)
   have e2 := len_pMul_lt x.1 (WL w l)
   have e3 := len_pSc (w x.2) (pMul (pDiff x.1) (PiL l))
   have e4 := len_pAdd (pSc (w x.2) (pMul (pDiff x.1) (PiL l))) (pMul x.1 (WL w l))
   refine ⟨?_, fun _ => ?_⟩
   ·rw [WL, PiL, hl]; omega
   ·rw [WL, PiL, hl, cf_pAdd, cf_pSc, cf_pMul, cf_pMul, twS]
    have t1 := top_mul (a := pDiff x.1) (b := PiL l) (i := x.1.length - 2) (j := (PiL l).length - 1) (by omega) (by omega)
    rw [show x.1.length - 2 + ((PiL l).length - 1) = x.1.length + (PiL l).length - 1 - 2 from by omega] at t1
    rw [t1, cf_pDiff, show x.1.length - 2 + 1 = x.1.length - 1 from by omega]
    have m1 : cf x.1 (x.1.length - 1) = 1 := h1.mon
    have m2 : cf (PiL l) ((PiL l).length - 1) = 1 := p1
    rw [m1, m2]
    by_cases l0 : l = []
    ·subst l0
     rw [WL, ← cf_pMul x.1 [], pMul_nil_r, twS, cf_nil]; grind
    ·have := p2 l0
     have t2 := top_mul (a := x.1) (b := WL w l) (i := x.1.length - 1) (j := (PiL l).length - 2) (by omega) (by omega)
     rw [show x.1.length - 1 + ((PiL l).length - 2) = x.1.length + (PiL l).length - 1 - 2 from by omega] at t2
     rw [t2, m1, i2 l0]; grind
theorem twS_pos {w : Nat → Rat} : ∀ {l : Fac}, Good l → (∀ y ∈ l, 0 ≤ w y.2) → (0 ≤ twS w l ∧ ((∃ y ∈ l, 0 < w y.2) → 0 < twS w l))
 | [], _, _ => ⟨Rat.le_refl, fun ⟨y, h, _⟩ => by cases h⟩
 | x :: l, ⟨⟨h1, _⟩, _, h3⟩, h => by
   obtain ⟨i1, i2⟩ := twS_pos h3 fun y hy => h y (List.mem_cons_of_mem _ hy)
   have h0 := h x List.mem_cons_self
   have hx := h1.two
   have hd : (1 : Rat) ≤ ((x.1.length - 1 : Nat) : Rat) := by
    have : ((1 : Nat) : Rat) ≤ ((x.1.length - 1 : Nat) : Rat) := by exact_mod_cast (show 1 ≤ x.1.length - 1 by omega)
    exact this
   have hm : w x.2 ≤ w x.2 * ((x.1.length - 1 : Nat) : Rat) := by
    have := Rat.mul_le_mul_of_nonneg_left hd h0
    rw [Rat.mul_one] at this
    exact this
   rw [twS]
   refine ⟨by grind, fun ⟨y, hy, hw⟩ => ?_⟩
   rcases List.mem_cons.1 hy with rfl | hy
   ·grind
   ·have := i2 ⟨y, hy, hw⟩; grind
theorem len_WL {w : Nat → Rat} {l : Fac} (hl : Good l) (h : ∀ y ∈ l, 0 ≤ w y.2) (hp : ∃ y ∈ l, 0 < w y.2) : (WL w l).length = (PiL l).length - 1 := by
 obtain ⟨h1, h2⟩ := WL_top w hl
 have l0 : l ≠ [] := fun e => by obtain ⟨y, hy, _⟩ := hp; rw [e] at hy; cases hy
 have h3 := (twS_pos hl h).2 hp
 have h4 := h2 l0
 have h5 := (lead_PiL hl).2.2 l0
 rcases Nat.lt_or_ge (WL w l).length ((PiL l).length - 1) with h6 | h6
 ·rw [cf_ge (by omega)] at h4
  rw [← h4] at h3
  exact absurd h3 (by decide)
 ·omega
theorem WL_zero {w : Nat → Rat} : ∀ {l : Fac}, (∀ y ∈ l, w y.2 = 0) → WL w l = []
 | [], _ => rfl
 | x :: l, h => by
   refine ev_inj (can_WL _ _) Can_nil fun t => ?_
   rw [WL, WL_zero fun y hy => h y (List.mem_cons_of_mem _ hy), h x List.mem_cons_self, ev_pAdd, ev_pSc, ev_pMul, ev_pMul, ev0]
   grind
def dgL (l : Fac) (j : Nat) : Nat := (PiL (l.filter fun y => y.2 == j)).length - 1
def dsL (l : Fac) : Nat → Nat → List Nat
 | _, 0 => []
 | n, k + 1 => dgL l n :: dsL l (n + 1) k
theorem dsL_len (l : Fac) : ∀ k n, (dsL l n k).length = k
 | 0, _ => rfl
 | k + 1, n => by rw [dsL, List.length_cons, dsL_len l k]
theorem len_PiL {l : Fac} (hl : Good l) (n : Nat) : (PiL (l.filter fun y => decide (n ≤ y.2))).length = dgL l n + (PiL (l.filter fun y => decide (n + 1 ≤ y.2))).length := by
 have e1 : (l.filter fun y => decide (n ≤ y.2)).filter (fun y => y.2 == n) = l.filter fun y => y.2 == n := filt_and fun y => by
  by_cases e : y.2 = n
  ·simp [e]
  ·simp [e]
 have e2 : (l.filter fun y => decide (n ≤ y.2)).filter (fun y => !(y.2 == n)) = l.filter fun y => decide (n + 1 ≤ y.2) := filt_and fun y => by
  by_cases e : y.2 = n
  ·simp [e]
  ·by_cases e' : n ≤ y.2
   ·have : n + 1 ≤ y.2 := by omega
    simp [e, e', this]
   ·have : ¬ n + 1 ≤ y.2 := by omega
    simp [e', this]
 have gZ := hl.filter (f := fun y => y.2 == n)
 have gL' := hl.filter (f := fun y => decide (n + 1 ≤ y.2))
 have e : PiL (l.filter fun y => decide (n ≤ y.2)) = pMul (PiL (l.filter fun y => y.2 == n)) (PiL (l.filter fun y => decide (n + 1 ≤ y.2))) := ev_inj (can_PiL _) (can_pMul _ _) fun x => by
  rw [filt_Pi (fun y => y.2 == n), e1, e2, ev_pMul]
 have z0 := (lead_PiL gZ).2.1
 have w0 := (lead_PiL gL').2.1
 rw [e, len_pMul (can_PiL _) (can_PiL _) z0 w0]
 have := List.length_pos_iff.2 z0
 unfold dgL
 omega
theorem len_PiL_sum {l : Fac} (hl : Good l) : ∀ (k n : Nat), (∀ y ∈ l, y.2 < n + k) → (PiL (l.filter fun y => decide (n ≤ y.2))).length = (dsL l n k).sum + 1
 | 0, n, h => by
   have : (l.filter fun y => decide (n ≤ y.2)) = [] := List.filter_eq_nil_iff.2 fun y hy => by have := h y hy; simp; omega
   rw [this]; rfl
 | k + 1, n, h => by
   rw [len_PiL hl, len_PiL_sum hl k (n + 1) fun y hy => by have := h y hy; omega, dsL, List.sum_cons]
   omega
def wsm : Nat → List Nat → Nat
 | _, [] => 0
 | n, d :: ds => n * d + wsm (n + 1) ds
def dgW : Fac → Nat
 | [] => 0
 | x :: l => x.2 * (x.1.length - 1) + dgW l
theorem dgL_cons {x : List Rat × Nat} {l : Fac} (h : Good (x :: l)) (j : Nat) : dgL (x :: l) j = dgL l j + if x.2 = j then x.1.length - 1 else 0 := by
 obtain ⟨⟨h1, _⟩, _, h3⟩ := h
 unfold dgL
 rw [List.filter_cons]
 by_cases e : x.2 = j
 ·have z0 := (lead_PiL (h3.filter (f := fun y => y.2 == j))).2.1
  rw [if_pos (by simp [e]), if_pos e, PiL, len_pMul h1.can (can_PiL _) h1.ne z0]
  have := List.length_pos_iff.2 z0
  have := h1.two
  omega
 ·rw [if_neg (by simp [e]), if_neg e]
  omega
theorem wsm_cons {x : List Rat × Nat} {l : Fac} (h : Good (x :: l)) : ∀ (k n : Nat), wsm n (dsL (x :: l) n k) = wsm n (dsL l n k) + if n ≤ x.2 ∧ x.2 < n + k then x.2 * (x.1.length - 1) else 0
 | 0, n => by rw [if_neg (by omega)]; rfl
 | k + 1, n => by
   rw [dsL, wsm, wsm_cons h k (n + 1), dgL_cons h, dsL, wsm, Nat.mul_add]
   by_cases e : x.2 = n
   ·rw [if_pos e, if_neg (show ¬ (n + 1 ≤ x.2 ∧ x.2 < n + 1 + k) by omega), if_pos (show n ≤ x.2 ∧ x.2 < n + (k + 1) by omega), e]
    omega
   ·rw [if_neg e]
    by_cases e' : n + 1 ≤ x.2 ∧ x.2 < n + 1 + k
    ·rw [if_pos e', if_pos (show n ≤ x.2 ∧ x.2 < n + (k + 1) by omega)]; omega
    ·rw [if_neg e', if_neg (show ¬ (n ≤ x.2 ∧ x.2 < n + (k + 1)) by omega)]; omega
theorem wsm_nil : ∀ (k n : Nat), wsm n (dsL [] n k) = 0
 | 0, _ => rfl
 | k + 1, n => by
   rw [dsL, wsm, wsm_nil k]
   show n * 0 + 0 = 0
   omega
theorem wsm_dgW : ∀ {l : Fac} (k : Nat), Good l → (∀ y ∈ l, y.2 ≤ k) → wsm 1 (dsL l 1 k) = dgW l
 | [], k, _, _ => wsm_nil k 1
 | x :: l, k, h, hk => by
   rw [wsm_cons h, wsm_dgW k h.2.2 fun y hy => hk y (List.mem_cons_of_mem _ hy), dgW]
   have h1 := hk x List.mem_cons_self
   have h2 := h.1.2
   rw [if_pos (by omega)]; omega
theorem len_pwr {p : List Rat} (hp : Irr p) : ∀ e, (pwr p e).length = e * (p.length - 1) + 1
 | 0 => by rw [Nat.zero_mul]; rfl
 | e + 1 => by
   rw [pwr, len_pMul (can_pwr p e) hp.can (lead_pwr hp e).2.1 hp.ne, len_pwr hp e, Nat.succ_mul]
   have := hp.two
   omega
theorem len_PwL : ∀ {l : Fac}, Good l → (PwL l).length = dgW l + 1
 | [], _ => rfl
 | x :: l, ⟨⟨h1, _⟩, _, h3⟩ => by
   rw [PwL, len_pMul (can_pwr _ _) (can_PwL l) (lead_pwr h1 x.2).2.1 (lead_PwL h3).1.2, len_pwr h1, len_PwL h3, dgW]
   omega
end Go.Proofs.YtfbogelmgdojgaaGreat


/- Sizes in Yun's algorithm, by computation over all types of polynomials. No program in sight. -/
namespace Go.Proofs.YtfbogelmgdojgaaGreat
set_option linter.unusedSimpArgs false
set_option linter.unusedVariables false
open Go.RowKit

def gtX (lb l t : Nat) : Bool := (decide (l ≠ 0) && decide (l < t)) || (decide (l = 0) && decide (lb ≠ t))
def gtC : Nat → Nat → Nat → Nat → Nat → Nat → Bool
 | 0, _, _, _, _, _ => false
 | n + 1, la, sa, lb, sb, t => (dvC la sa lb sb && decide (sa ≤ 2500000000000)) && (if lb = 0 then true else if la < lb then gtC n lb sb la sa t else allB lb fun l => gtX lb l t || gtC n lb sb l (rmB la sa lb sb) t)
def gtM : Nat → Nat → Nat → Nat → Nat → Nat → Nat
 | 0, _, _, _, _, _ => 0
 | n + 1, la, sa, lb, sb, t => if lb = 0 then sa else if la < lb then gtM n lb sb la sa t else mxB lb fun l => if gtX lb l t = true then 0 else gtM n lb sb l (rmB la sa lb sb) t
theorem gtX_no {b r : List Rat} {t : Nat} (hb : Can b) (hr : Can r) (h : (pG b r).length = t) (b0 : b ≠ []) : gtX b.length r.length t = false := by
 unfold gtX
 by_cases r0 : r = []
 ·subst r0
  rw [pG_nil] at h
  simp [h]
 ·have := List.length_pos_iff.2 r0
  have := (dvd_len hr (can_pG hb hr) (pG_dvd hb hr).2 r0).1
  have h1 : r.length ≠ 0 := by omega
  have h2 : ¬ r.length < t := by omega
  simp [h2, h1, r0]
theorem gtC_ok : ∀ (n : Nat) {la sa lb sb t : Nat} {a b : List Rat}, gtC n la sa lb sb t = true → Can a → Can b → a.length = la → b.length = lb → PB a sa → PB b sb → (pG a b).length = t → GcOk n a b ∧ PB (pG a b) (gtM n la sa lb sb t)
 | 0, _, _, _, _, _, _, _, h, _, _, _, _, _, _, _ => by cases h
 | n + 1, la, sa, lb, sb, t, a, b, h, ca, cb, e1, e2, pa, pb, ht => by
   subst e1 e2
   simp only [gtC, Bool.and_eq_true, decide_eq_true_eq] at h
   obtain ⟨⟨h1, h2⟩, h3⟩ := h
   have dv := dvC_ok h1 ca cb (Nat.le_refl _) rfl pa pb
   by_cases b0 : b = []
   ·subst b0
    exact ⟨⟨dv, by rw [if_pos rfl]; exact ⟨sa, pa, h2⟩⟩, by rw [pG_nil]; exact pa⟩
   ·have hbl := List.length_pos_iff.2 b0
    rw [if_neg (by omega)] at h3
    unfold GcOk gtM
    rw [if_neg b0, if_neg (by omega)]
    rw [pG_step ca cb b0] at ht ⊢
    by_cases hlt : a.length < b.length
    ·rw [if_pos hlt] at h3 ⊢
     rw [(dm_small ca cb hlt).2] at ht ⊢
     have := gtC_ok n h3 cb ca rfl rfl pb pa ht
     exact ⟨⟨dv, this.1⟩, this.2⟩
    ·rw [if_neg hlt] at h3 ⊢
     obtain ⟨⟨_, cr⟩, hr, _⟩ := dm_ok ca cb b0
     have hx := gtX_no cb cr ht b0
     have h4 := allB_ok h3 _ hr
     rw [hx, Bool.false_or] at h4
     have := gtC_ok n h4 cb cr rfl rfl pb (rm_PB ca cb b0 pa pb) ht
     have hm := mxB_ok (f := fun l => if gtX b.length l t = true then 0 else gtM n b.length sb l (rmB a.length sa b.length sb) t) _ hr
     simp only [hx, Bool.false_eq_true, if_false] at hm
     exact ⟨⟨dv, this.1⟩, this.2.mono hm⟩
def dvB' (la sa lb sb : Nat) : Nat := 2 ^ (la - lb + 1) * (sa + 2 * sb + 1)
def yuC : List Nat → Nat → Nat → Bool
 | [], _, _ => true
 | d :: ds, sb, sc => if d + ds.sum = 0 then true else
   (decide (sb ≤ 2500000000000) && decide (sc ≤ 2500000000000)) &&
   (gtC 24 (d + ds.sum + 1) sb (if ds.sum = 0 then 0 else d + ds.sum) (sc + sb + 2) (d + 1) &&
   (decide (2 * gtM 24 (d + ds.sum + 1) sb (if ds.sum = 0 then 0 else d + ds.sum) (sc + sb + 2) (d + 1) + 1 ≤ 200000000000) && (if d = 0 then (dvC (d + ds.sum + 1) sb 1 1 && dvC (if ds.sum = 0 then 0 else d + ds.sum) (sc + sb + 2) 1 1) && yuC ds sb (sc + sb + 2) else
    (dvC (d + ds.sum + 1) sb (d + 1) (2 * gtM 24 (d + ds.sum + 1) sb (if ds.sum = 0 then 0 else d + ds.sum) (sc + sb + 2) (d + 1) + 1) &&
     dvC (if ds.sum = 0 then 0 else d + ds.sum) (sc + sb + 2) (d + 1) (2 * gtM 24 (d + ds.sum + 1) sb (if ds.sum = 0 then 0 else d + ds.sum) (sc + sb + 2) (d + 1) + 1)) &&
    (if ds.sum = 0 then true else yuC ds (dvB' (d + ds.sum + 1) sb (d + 1) (2 * gtM 24 (d + ds.sum + 1) sb (if ds.sum = 0 then 0 else d + ds.sum) (sc + sb + 2) (d + 1) + 1))
     (dvB' (if ds.sum = 0 then 0 else d + ds.sum) (sc + sb + 2) (d + 1) (2 * gtM 24 (d + ds.sum + 1) sb (if ds.sum = 0 then 0 else d + ds.sum) (sc + sb + 2) (d + 1) + 1))))))
theorem qs_natMul {i : Nat} {x : Rat} (hi : i < 4294967296) : qs ((i : Rat) * x) ≤ qs x + 1 := by
 have h1 := qs_mul (i : Rat) x
 have h2 := qs_nat hi
 omega
theorem diff_PB {a : List Rat} {s : Nat} (h : PB a s) (hl : a.length ≤ 1000) : PB (pDiff a) (s + 1) := fun i => by
 rw [cf_pDiff]
 by_cases hi : i + 1 < a.length
 ·exact Nat.le_trans (qs_natMul (by omega)) (by have := h (i + 1); omega)
 ·rw [cf_ge (l := a) (by omega), Rat.mul_zero]
  exact Nat.le_trans qs_0 (by omega)
theorem gcd_one_PB {a b : List Rat} (ha : Can a) (hb : Can b) (h : (pG a b).length = 1) : pGcd a b = [1] := pMonic_one (can_pG ha hb) h
theorem sub_PB {a b : List Rat} {j k : Nat} (ha : PB a j) (hb : PB b k) : PB (pSub a b) (j + k + 1) := fun i => by
 rw [cf_pSub]
 have h1 := qs_sub (cf a i) (cf b i)
 have h2 := ha i
 have h3 := hb i
 omega
theorem exact_PB {a g : List Rat} {la sa lg sg : Nat} (ha : Can a) (hg : Can g) (g0 : g ≠ []) (el : a.length = la) (eg : g.length = lg) (pa : PB a sa) (pg : PB g sg) : PB (pDiv a g) (dvB' la sa lg sg) := by
 subst el eg
 unfold dvB'
 exact (div_PB ha hg g0 pa pg (Nat.le_refl _)).1
theorem sq_ok {l : Fac} (hl : Good l) {c : Rat} (hc : c ≠ 0) : ∀ (k n sb sc K : Nat), (∀ y ∈ l, y.2 < n + k) → k + 1 ≤ K → (dsL l n k).sum ≤ 100 → PB (yB l c n) sb → PB (yC l c n) sc → yuC (dsL l n k) sb sc = true → SqOk K (yB l c n) (yC l c n) ∧ ∀ j, n ≤ j → PB (PiL (l.filter fun y => y.2 == j)) 200000000000
 | k, n, sb, sc, 0, _, hK, _, _, _, _ => by omega
 | k, n, sb, sc, K + 1, hk, hK, h100, pb, pc, hy => by
   have gL := hl.filter (f := fun y => decide (n ≤ y.2))
   have lb : (yB l c n).length = (dsL l n k).sum + 1 := by
    unfold yB
    rw [len_pSc' hc (can_PiL _), len_PiL_sum hl k n hk]
   have one1 : PB ([1] : List Rat) 1 := PB_cons qs_1 (PB_nil (Nat.le_refl _))
   unfold SqOk
   by_cases hb1 : (yB l c n).length ≤ 1
   ·rw [if_pos hb1]
    refine ⟨trivial, fun j hj => ?_⟩
    have hL : (l.filter fun y => decide (n ≤ y.2)) = [] := (len_sc1 hc _ gL).1 hb1
    have : (l.filter fun y => y.2 == j) = [] := List.filter_eq_nil_iff.2 fun y hy => by
     have := List.filter_eq_nil_iff.1 hL y hy
     simp at this ⊢; omega
    rw [this]
    exact one1.mono (by decide)
   rw [if_neg hb1]
   cases k with
   | zero => rw [lb] at hb1; exact absurd (Nat.le_refl 1) hb1
   | succ k =>
     rw [dsL, List.sum_cons] at lb h100
     have hk' : ∀ y ∈ l, y.2 < n + 1 + k := fun y hy => by have := hk y hy; omega
     have gL' := hl.filter (f := fun y => decide (n + 1 ≤ y.2))
     have gZ := hl.filter (f := fun y => y.2 == n)
     obtain ⟨z1, z0, _⟩ := lead_PiL gZ
     have zl := List.length_pos_iff.2 z0
     have lZ : (PiL (l.filter fun y => y.2 == n)).length = dgL l n + 1 := by unfold dgL; omega
     have l1 := len_PiL_sum hl k (n + 1) hk'
     have l0 := len_PiL hl n
     obtain ⟨⟨g1, g2, g3⟩, hY⟩ := yun_step hl hc n
     rw [dsL, yuC] at hy
     generalize hS : (dsL l (n + 1) k).sum = S at *
     have hne : ¬ dgL l n + S = 0 := by omega
     rw [if_neg hne] at hy
     simp only [Bool.and_eq_true, decide_eq_true_eq] at hy
     obtain ⟨⟨y1, y2⟩, y3, y9, y4⟩ := hy
     have cB : Can (yB l c n) := can_pSc _ _
     have cC : Can (yC l c n) := can_pSc _ _
     have cY : Can (pSub (yC l c n) (pDiff (yB l c n))) := can_pSub _ _
     -- the lengths
     have lC : (yC l c n).length ≤ dgL l n + S := by
      unfold yC
      refine Nat.le_trans (len_pSc _ _) (Nat.le_trans (WL_top _ gL).1 ?_)
      rw [l0, l1]; omega
     have lY : (pSub (yC l c n) (pDiff (yB l c n))).length = if S = 0 then 0 else dgL l n + S := by
      rw [hY, len_pSc' hc (can_WL _ _)]
      by_cases h0 : S = 0
      ·rw [if_pos h0, WL_zero]
       ·rfl
       ·intro y hy'
        obtain ⟨m1, m2⟩ := List.mem_filter.1 hy'
        have m2 : n ≤ y.2 := by simpa using m2
        have : ¬ n + 1 ≤ y.2 := fun h => by
         have m3 : y ∈ l.filter fun y => decide (n + 1 ≤ y.2) := List.mem_filter.2 ⟨m1, by simpa using h⟩
         have := (lead_PiL gL').2.2 (List.ne_nil_of_mem m3)
         omega
        show (y.2 : Rat) - (n : Rat) = 0
        rw [show y.2 = n from by omega]; grind
      ·have w1 : ∀ y ∈ l.filter (fun y => decide (n ≤ y.2)), 0 ≤ (y.2 : Rat) - (n : Rat) := fun y hy' => by
        have m2 := (List.mem_filter.1 hy').2
        have m2 : n ≤ y.2 := by simpa using m2
        have : (n : Rat) ≤ (y.2 : Rat) := by exact_mod_cast m2
        grind
       have w2 : ∃ y ∈ l.filter (fun y => decide (n ≤ y.2)), 0 < (y.2 : Rat) - (n : Rat) := by
        have m3 : (l.filter fun y => decide (n + 1 ≤ y.2)) ≠ [] := fun e => by
         rw [e] at l1
         have : (PiL []).length = 1 := rfl
         omega
        obtain ⟨y, hy'⟩ := List.exists_mem_of_ne_nil _ m3
        obtain ⟨m1, m2⟩ := List.mem_filter.1 hy'
        have m2 : n + 1 ≤ y.2 := by simpa using m2
        refine ⟨y, List.mem_filter.2 ⟨m1, by simp; omega⟩, ?_⟩
        have : (n : Rat) < (y.2 : Rat) := by exact_mod_cast (show n < y.2 by omega)
        grind
       rw [if_neg h0, len_WL gL w1 w2, l0, l1]
       omega
     have pD := diff_PB pb (by omega)
     have pY : PB (pSub (yC l c n) (pDiff (yB l c n))) (sc + sb + 2) := (sub_PB pc pD).mono (by omega)
     have hG : (pG (yB l c n) (pSub (yC l c n) (pDiff (yB l c n)))).length = dgL l n + 1 := by
      rw [← len_pMonic (can_pG cB cY), ← lZ, ← g1]; rfl
     obtain ⟨gk, gp⟩ := gtC_ok 24 y3 cB cY (by rw [lb]) lY pb pY hG
     have gZP : PB (PiL (l.filter fun y => y.2 == n)) (2 * gtM 24 (dgL l n + S + 1) sb (if S = 0 then 0 else dgL l n + S) (sc + sb + 2) (dgL l n + 1) + 1) := by
      rw [← g1]; exact monic_PB gp
     rw [g1]
     have hBC : ((yB l c n).length ≤ 1000000 ∧ (yC l c n).length ≤ 1000000) ∧ PB (yB l c n) 5000000000000 ∧ PB (yC l c n) 5000000000000 ∧ PB (pDiff (yB l c n)) 5000000000000 := ⟨⟨by omega, by omega⟩, pb.mono (by omega), pc.mono (by omega), pD.mono (by omega)⟩
     by_cases d0 : dgL l n = 0
     ·rw [if_pos d0] at y4
      have eZ : PiL (l.filter fun y => y.2 == n) = [1] := by rw [← g1]; exact gcd_one_PB cB cY (by rw [hG, d0])
      have g2' := g2
      have g3' := g3
      rw [eZ] at g2' g3'
      rw [pDiv_one cB] at g2'
      rw [pDiv_one cY] at g3'
      simp only [Bool.and_eq_true] at y4
      obtain ⟨⟨y5, y6⟩, y7⟩ := y4
      have dv1 := dvC_ok y5 cB can_one (Nat.le_of_eq lb) rfl pb one1
      have dv2 := dvC_ok y6 cY can_one (Nat.le_of_eq lY) rfl pY one1
      have ih := sq_ok hl hc k (n + 1) sb (sc + sb + 2) K hk' (by omega) (by omega) (by rw [← g2']; exact pb) (by rw [← g3']; exact pY) y7
      rw [eZ] at g2 g3
      refine ⟨⟨hBC, ⟨24, gk⟩, by rw [eZ]; exact ⟨dv1, dv2⟩, by rw [eZ]; simp, by rw [eZ, g2, g3]; exact ih.1⟩, fun j hj => ?_⟩
      by_cases ej : j = n
      ·rw [ej, eZ]; exact one1.mono (by decide)
      ·exact ih.2 j (by omega)
     ·rw [if_neg d0] at y4
      simp only [Bool.and_eq_true] at y4
      obtain ⟨⟨y5, y6⟩, y7⟩ := y4
      have dv1 := dvC_ok y5 cB (can_PiL _) (Nat.le_of_eq (by rw [lb])) lZ pb gZP
      have dv2 := dvC_ok y6 cY (can_PiL _) (Nat.le_of_eq lY) lZ pY gZP
      by_cases h0 : S = 0
      ·rw [g2, g3]
       have lb' : (yB l c (n + 1)).length ≤ 1 := by
        unfold yB
        rw [len_pSc' hc (can_PiL _), l1, h0]; exact Nat.le_refl _
       refine ⟨⟨hBC, ⟨24, gk⟩, ⟨dv1, dv2⟩, z0, ?_⟩, fun j hj => ?_⟩
       ·cases K with
        | zero => omega
        | succ K =>
          unfold SqOk
          rw [if_pos lb']; trivial
       ·by_cases ej : j = n
        ·rw [ej]; exact gZP.mono y9
        ·have hL : (l.filter fun y => decide (n + 1 ≤ y.2)) = [] := (len_sc1 hc _ gL').1 lb'
         have : (l.filter fun y => y.2 == j) = [] := List.filter_eq_nil_iff.2 fun y hy => by
          have := List.filter_eq_nil_iff.1 hL y hy
          simp at this ⊢; omega
         rw [this]
         exact one1.mono (by decide)
      ·rw [if_neg h0] at y7
       have ih := sq_ok hl hc k (n + 1) _ _ K hk' (by omega) (by omega) (by rw [← g2]; exact exact_PB cB (can_PiL _) z0 lb lZ pb gZP) (by rw [← g3]; exact exact_PB cY (can_PiL _) z0 lY lZ pY gZP) y7
       refine ⟨⟨hBC, ⟨24, gk⟩, ⟨dv1, dv2⟩, z0, by rw [g2, g3]; exact ih.1⟩, fun j hj => ?_⟩
       by_cases ej : j = n
       ·rw [ej]; exact gZP.mono y9
       ·exact ih.2 j (by omega)
def tyC : Nat → Nat → Nat → (List Nat → Bool) → Bool
 | 0, _, r, f => if r = 0 then f [] else true
 | k + 1, n, r, f => allB (r / n + 1) fun d => tyC k (n + 1) (r - n * d) fun ds => f (d :: ds)
theorem tyC_ok : ∀ (k n r : Nat) (f : List Nat → Bool), 1 ≤ n → tyC k n r f = true → ∀ ds : List Nat, ds.length = k → wsm n ds = r → f ds = true
 | 0, n, r, f, _, h, ds, hl, hw => by
   obtain rfl := List.eq_nil_of_length_eq_zero hl
   have : r = 0 := by rw [← hw]; rfl
   rw [tyC, if_pos this] at h
   exact h
 | k + 1, n, r, f, hn, h, ds, hl, hw => by
   match ds, hl with
   | d :: ds, hl =>
     rw [wsm] at hw
     rw [tyC] at h
     have hd : d < r / n + 1 := by
      have : d ≤ r / n := (Nat.le_div_iff_mul_le (by omega)).2 (by rw [Nat.mul_comm]; omega)
      omega
     exact tyC_ok k (n + 1) (r - n * d) (fun ds => f (d :: ds)) (by omega) (allB_ok h d hd) ds (by simpa using hl) (by omega)
def sfT (N S : Nat) (ds : List Nat) : Bool :=
 (decide (S ≤ 2500000000000 - 1) && gtC 24 (N + 1) S N (S + 1) (N - ds.sum + 1)) &&
 (if N - ds.sum = 0 then (dvC (N + 1) S 1 1 && dvC N (S + 1) 1 1) && yuC ds S (S + 1) else
  (dvC (N + 1) S (N - ds.sum + 1) (2 * gtM 24 (N + 1) S N (S + 1) (N - ds.sum + 1) + 1) && dvC N (S + 1) (N - ds.sum + 1) (2 * gtM 24 (N + 1) S N (S + 1) (N - ds.sum + 1) + 1)) &&
  yuC ds (dvB' (N + 1) S (N - ds.sum + 1) (2 * gtM 24 (N + 1) S N (S + 1) (N - ds.sum + 1) + 1)) (dvB' N (S + 1) (N - ds.sum + 1) (2 * gtM 24 (N + 1) S N (S + 1) (N - ds.sum + 1) + 1)))
def sfC (N S : Nat) : Bool := decide (1 ≤ N) && (decide (N ≤ 100) && tyC N 1 N (sfT N S))
def rdX (N S : Nat) (ds : List Nat) : Nat := if N - ds.sum = 0 then S else dvB' (N + 1) S (N - ds.sum + 1) (2 * gtM 24 (N + 1) S N (S + 1) (N - ds.sum + 1) + 1)
theorem sf_ok {a : List Rat} {N S K : Nat} (hC : sfC N S = true) (ha : Can a) (hN : a.length = N + 1) (pa : PB a S) {c : Rat} {l : Fac} (hc : c ≠ 0) (hl : Good l) (e : ∀ x, ev a x = c * ev (PwL l) x) (hK : N + 1 ≤ K ∧ K ≤ 1000000) : (SfOk K a ∧ ∀ j, 1 ≤ j → PB (PiL (l.filter fun y => y.2 == j)) 200000000000) ∧ PB (pSc c (PiL l)) (rdX N S (dsL l 1 N)) := by
 simp only [sfC, Bool.and_eq_true, decide_eq_true_eq] at hC
 obtain ⟨hN1, hN2, hT⟩ := hC
 have e1 : a = pSc c (PwL l) := ev_inj ha (can_pSc _ _) fun x => by rw [e x, ev_pSc]
 have hl1 : (PwL l).length = N + 1 := by rw [← hN, e1, len_pSc' hc (can_PwL l)]
 obtain ⟨⟨p1, p2⟩, p3⟩ := lead_PwL hl
 have hle : ∀ y ∈ l, y.2 ≤ N := fun y hy => by have := p3 y hy; omega
 have hw : wsm 1 (dsL l 1 N) = N := by
  rw [wsm_dgW N hl hle]
  have := len_PwL hl
  omega
 have hf := tyC_ok N 1 N (sfT N S) (Nat.le_refl _) hT (dsL l 1 N) (dsL_len l N 1) hw
 have f1 : (l.filter fun y => decide (1 ≤ y.2)) = l := List.filter_eq_self.2 fun y hy => by have := (hl.mem y hy).2; simp; omega
 have lPi := len_PiL_sum hl N 1 (fun y hy => by have := hle y hy; omega)
 rw [f1] at lPi
 obtain ⟨g1, g0⟩ := lead_GL hl
 obtain ⟨_, q0, _⟩ := lead_PiL hl
 have f2 : (fun e : Nat => (e : Rat) - ((1 : Nat) : Rat) + 1) = fun e : Nat => (e : Rat) := funext fun e => by
  have : ((1 : Nat) : Rat) = 1 := rfl
  rw [this]; grind
 have eB : yB l c 1 = pSc c (PiL l) := by unfold yB; rw [f1]
 have eC : yC l c 1 = pSc c (WL (fun e => (e : Rat)) l) := by unfold yC; rw [f1, f2]
 obtain ⟨r1, r2, r3⟩ := gcd_out ha (can_pDiff a) (can_GL l) (can_pSc c (PiL l)) (can_pSc c (WL (fun e => (e : Rat)) l)) g0 g1 (fun x => by rw [e x, GL_Pi hl x, ev_pSc]; grind) (fun x => by
  rw [e1, ev_pDiff_sc, diff_PwL hl x, ev_pSc]; grind) (cop.sc hc (cop.symm (cop.sc hc (cop.symm (cop_W hl fun y hy h => by
   have h1 := (hl.mem y hy).2
   have h3 : (y.2 : Rat) = ((0 : Nat) : Rat) := h
   have : y.2 = 0 := by exact_mod_cast h3
   omega)))))
 have lG : (GL l).length = N - (dsL l 1 N).sum + 1 := by
  have e2 : PwL l = pMul (GL l) (PiL l) := ev_inj (can_PwL _) (can_pMul _ _) fun x => by rw [GL_Pi hl x, ev_pMul]
  have h := len_pMul (can_GL l) (can_PiL l) g0 q0
  rw [← e2] at h
  have := List.length_pos_iff.2 g0
  have := List.length_pos_iff.2 q0
  omega
 have hsum : (dsL l 1 N).sum ≤ N := by have := PiL_len hl; omega
 generalize hds : dsL l 1 N = ds at *
 unfold sfT at hf
 simp only [Bool.and_eq_true, decide_eq_true_eq] at hf
 obtain ⟨⟨t0, t1⟩, t2⟩ := hf
 have cd := can_pDiff a
 have ld : (pDiff a).length = N := by rw [len_pDiff ha]; omega
 have pd := diff_PB pa (by omega)
 have hG : (pG a (pDiff a)).length = N - ds.sum + 1 := by
  rw [← len_pMonic (can_pG ha cd), ← lG, ← r1]; rfl
 obtain ⟨gk, gp⟩ := gtC_ok 24 t1 ha cd hN ld pa pd hG
 have gG : PB (GL l) (2 * gtM 24 (N + 1) S N (S + 1) (N - ds.sum + 1) + 1) := by rw [← r1]; exact monic_PB gp
 unfold rdX
 by_cases h0 : N - ds.sum = 0
 ·rw [if_pos h0] at t2 ⊢
  simp only [Bool.and_eq_true] at t2
  obtain ⟨⟨t3, t4⟩, t5⟩ := t2
  have eG : GL l = [1] := by rw [← r1]; exact gcd_one_PB ha cd (by rw [hG, h0])
  have one1 : PB ([1] : List Rat) 1 := PB_cons qs_1 (PB_nil (Nat.le_refl _))
  have r2' := r2
  have r3' := r3
  rw [eG] at r2' r3'
  rw [pDiv_one ha] at r2'
  rw [pDiv_one cd] at r3'
  have h := sq_ok hl hc N 1 S (S + 1) K (fun y hy => by have := hle y hy; omega) (by omega) (by rw [hds]; omega) (by rw [eB, ← r2']; exact pa) (by rw [eC, ← r3']; exact pd) (by rw [hds]; exact t5)
  rw [eB, eC] at h
  refine ⟨⟨⟨hK.2, by omega, fun _ => ⟨pa.mono (by omega), ⟨24, gk⟩, ?_⟩⟩, h.2⟩, by rw [← r2']; exact pa⟩
  rw [r1, r2, r3, eG]
  exact ⟨⟨dvC_ok t3 ha can_one (Nat.le_of_eq hN) rfl pa one1, dvC_ok t4 cd can_one (Nat.le_of_eq ld) rfl pd one1⟩, by simp, h.1⟩
 ·rw [if_neg h0] at t2 ⊢
  simp only [Bool.and_eq_true] at t2
  obtain ⟨⟨t3, t4⟩, t5⟩ := t2
  have pB : PB (pSc c (PiL l)) (dvB' (N + 1) S (N - ds.sum + 1) (2 * gtM 24 (N + 1) S N (S + 1) (N - ds.sum + 1) + 1)) := by rw [← r2]; exact exact_PB ha (can_GL l) g0 hN lG pa gG
  have pC : PB (pSc c (WL (fun e => (e : Rat)) l)) (dvB' N (S + 1) (N - ds.sum + 1) (2 * gtM 24 (N + 1) S N (S + 1) (N - ds.sum + 1) + 1)) := by rw [← r3]; exact exact_PB cd (can_GL l) g0 ld lG pd gG
  have h := sq_ok hl hc N 1 _ _ K (fun y hy => by have := hle y hy; omega) (by omega) (by rw [hds]; omega) (by rw [eB]; exact pB) (by rw [eC]; exact pC) (by rw [hds]; exact t5)
  rw [eB, eC] at h
  refine ⟨⟨⟨hK.2, by omega, fun _ => ⟨pa.mono (by omega), ⟨24, gk⟩, ?_⟩⟩, h.2⟩, pB⟩
  rw [r1, r2, r3]
  exact ⟨⟨dvC_ok t3 ha (can_GL l) (Nat.le_of_eq hN) lG pa gG, dvC_ok t4 cd (can_GL l) (Nat.le_of_eq ld) lG pd gG⟩, g0, h.1⟩
end Go.Proofs.YtfbogelmgdojgaaGreat


/- Sizes in the computation of minimal polynomials. No program in sight. -/
namespace Go.Proofs.YtfbogelmgdojgaaGreat
set_option linter.unusedSimpArgs false
set_option linter.unusedVariables false
open Go.RowKit

theorem qs_sg (k : Nat) (x : Rat) : qs (sg k * x) = qs x := by
 rw [sg_mod]
 split
 ·rw [show (-1 : Rat) * x = -x from by grind, qs_neg]
 ·rw [show (1 : Rat) * x = x from by grind]
theorem sm_qs {f : Nat → Rat} {T : Nat} : ∀ {n}, (∀ i, i < n → qs (f i) ≤ T) → qs (sm n f) ≤ n * (T + 1) + 1
 | 0, _ => by rw [sm, Nat.zero_mul]; exact qs_0
 | n + 1, h => by
   have h1 := sm_qs (n := n) fun i hi => h i (by omega)
   have h2 := h n (by omega)
   have h3 := qs_add (sm n f) (f n)
   rw [sm, Nat.succ_mul]; omega
def pdZ : Nat → Nat → Nat
 | 0, _ => 1
 | n + 1, μ => (n + 1) * (μ + pdZ n μ + 1) + pdZ n μ + 4
def OneR (n : Nat) (D : Mat) : Prop := ∀ i, i < n → ∃ p, ∀ j, j < n → j ≠ p → D i j = 0
theorem OneR.minor {n : Nat} {D : Mat} (h : OneR (n + 1) D) (k : Nat) : OneR n (minor D k) := fun i hi => by
 obtain ⟨p, hp⟩ := h (i + 1) (by omega)
 refine ⟨if p < k then p else p - 1, fun j hj hne => ?_⟩
 unfold Go.Proofs.YtfbogelmgdojgaaGreat.minor
 by_cases hp' : p < k
 ·rw [if_pos hp'] at hne
  exact hp _ (by split <;> omega) (by split <;> omega)
 ·rw [if_neg hp'] at hne
  by_cases h0 : p = 0
  ·subst h0
   refine hp _ (by split <;> omega) ?_
   split <;> omega
  ·exact hp _ (by split <;> omega) (by split <;> omega)
theorem pdP_sz {μ : Nat} : ∀ (n : Nat) (A D : Mat), (∀ i, i < n → ∀ j, j < n → qs (A i j) ≤ μ ∧ qs (D i j) ≤ 1) → OneR n D → PB (pdP n A D) (pdZ n μ)
 | 0, A, D, _, _ => PB_cons qs_1 (PB_nil (Nat.le_refl _))
 | n + 1, A, D, h, ho => fun s => by
   rw [pdP, cf_smP, pdZ]
   have ih := fun k => pdP_sz (μ := μ) n (minor A k) (minor D k) (fun i hi j hj => h _ (by omega) _ (by split <;> omega)) (ho.minor k)
   have e1 : ∀ k, cf (scL (sg k) (mulL [A 0 k, D 0 k] (pdP n (minor A k) (minor D k)))) s = sg k * (A 0 k * cf (pdP n (minor A k) (minor D k)) s) + (if s = 0 then 0 else sg k * (D 0 k * cf (pdP n (minor A k) (minor D k)) (s - 1))) := fun k => by
    rw [cf_scL, cf_m2]
    split <;> grind
   rw [sm_congr fun k _ => e1 k, sm_add]
   have k1 : qs (sm (n + 1) fun k => sg k * (A 0 k * cf (pdP n (minor A k) (minor D k)) s)) ≤ (n + 1) * (μ + pdZ n μ + 1) + 1 := sm_qs fun k hk => by
    rw [qs_sg]
    have a1 := (h 0 (by omega) k hk).1
    have b1 := ih k s
    have c1 := qs_mul (A 0 k) (cf (pdP n (minor A k) (minor D k)) s)
    omega
   obtain ⟨p, hp⟩ := ho 0 (by omega)
   have k2 : qs (sm (n + 1) fun k => if s = 0 then 0 else sg k * (D 0 k * cf (pdP n (minor A k) (minor D k)) (s - 1))) ≤ pdZ n μ + 2 := by
    by_cases hpn : p < n + 1
    ·rw [sm_one p hpn fun k hk hne => by rw [hp k hk hne]; split <;> grind]
     split
     ·exact Nat.le_trans qs_0 (by omega)
     ·rw [qs_sg]
      have a1 := (h 0 (by omega) p hpn).2
      have b1 := ih p (s - 1)
      have c1 := qs_mul (D 0 p) (cf (pdP n (minor A p) (minor D p)) (s - 1))
      omega
    ·rw [sm_zero fun k hk => by rw [hp k hk (by omega)]; split <;> grind]
     exact Nat.le_trans qs_0 (by omega)
   have k3 := qs_add (sm (n + 1) fun k => sg k * (A 0 k * cf (pdP n (minor A k) (minor D k)) s)) (sm (n + 1) fun k => if s = 0 then 0 else sg k * (D 0 k * cf (pdP n (minor A k) (minor D k)) (s - 1)))
   omega
def chZ (n k : Nat) : Nat := pdZ (n - 1) (32 * (2 * k + 2))
theorem xs_PB {a : List Rat} {s : Nat} (h : PB a s) (i : Nat) : PB (xs i a) s := fun d => by
 rw [cf_xs]
 unfold sh
 split
 ·exact Nat.le_trans qs_0 h.pos
 ·exact h _
theorem Md0.chiP {q a : List Rat} {n k : Nat} (hq : Md0 q n k) (ha : Sz a 6 1) : PB (chi q a) (chZ n k) := by
 have q0 := hq.ne
 have n5 := hq.cs0
 have hl := hq.len
 unfold chi chZ
 rw [hl]
 refine pdP_sz _ _ _ (fun i hi j hj => ⟨?_, ?_⟩) fun i _ => ⟨i, fun j _ h => if_neg fun e => h e.symm⟩
 ·rw [qs_neg]
  unfold MA
  have h1 := (div_PB (S := 2 * k + 2) (can_xs i a) hq.can q0 (xs_PB ha.pb i) hq.pb (by omega)).2 j
  refine Nat.le_trans h1 (Nat.mul_le_mul_right _ ?_)
  have h2 := len_xs (e := i) ha.can
  have h3 := ha.len
  exact Nat.pow_le_pow_right (n := 2) (by decide) (show (xs i a).length - q.length + 1 ≤ 5 by omega)
 ·unfold one
  split
  ·exact qs_1
  ·exact qs_0
def pwZ (n k : Nat) : Nat → Nat
 | 0 => 2 ^ (7 - n) * (2 * k + 2)
 | i + 1 => 2 ^ (max 1 (n - 2)) * ((n - 1) * (pwZ n k i + 2 ^ (7 - n) * (2 * k + 2) + 1) + 1 + (2 * k + 1))
theorem Md0.rsz {q a : List Rat} {n k : Nat} (hq : Md0 q n k) (ha : Sz a 6 1) : Sz (pMod a q) (n - 1) (2 ^ (7 - n) * (2 * k + 2)) := by
 have q0 := hq.ne
 have hl := hq.len
 have n5 := hq.cs0
 obtain ⟨⟨_, cr⟩, hr, _⟩ := dm_ok ha.can hq.can q0
 refine ⟨by omega, ?_, cr⟩
 refine ((div_PB (S := 2 * k + 2) ha.can hq.can q0 ha.pb hq.pb (by omega)).2).mono (Nat.mul_le_mul_right _ (Nat.pow_le_pow_right (by decide) ?_))
 have := ha.len
 omega
theorem Md0.mulr {q b r : List Rat} {n k E R : Nat} (hq : Md0 q n k) (hb : Sz b (n - 1) E) (hr : Sz r (n - 1) R) : Sz (pMod (pMul b r) q) (n - 1) (2 ^ (max 1 (n - 2)) * ((n - 1) * (E + R + 1) + 1 + (2 * k + 1))) ∧
 (2 ^ (max 1 (n - 2)) * ((n - 1) * (E + R + 1) + 1 + (2 * k + 1)) ≤ 2500000000000 → (b.length + r.length ≤ 1000000 ∧ ∃ j k, (PB b j ∧ PB r k) ∧ b.length * (j + k + 1) ≤ 4999999999999) ∧ DvOk (pMul b r) q ∧ q ≠ []) := by
 have q0 := hq.ne
 have hl := hq.len
 have n5 := hq.cs0
 have hm := hb.mul hr
 obtain ⟨⟨_, cr⟩, hrl, _⟩ := dm_ok hm.can hq.can q0
 have hml := hm.len
 have e : (pMul b r).length - q.length + 1 ≤ max 1 (n - 2) := by omega
 have p1 : (1 : Nat) ≤ 2 ^ (max 1 (n - 2)) := Nat.one_le_two_pow
 refine ⟨⟨by omega, ?_, cr⟩, fun h => ⟨?_, ⟨⟨hm.can, hq.can⟩, by omega, _, k, ⟨hm.pb, hq.pb⟩, ?_⟩, q0⟩⟩
 ·refine ((div_PB (S := (n - 1) * (E + R + 1) + 1 + (2 * k + 1)) hm.can hq.can q0 hm.pb hq.pb (by omega)).2).mono (Nat.mul_le_mul_right _ (Nat.pow_le_pow_right (by decide) e))
 ·refine Sz.cm hb hr ⟨by omega, ?_⟩
  have := Nat.mul_le_mul_right ((n - 1) * (E + R + 1) + 1 + (2 * k + 1)) p1
  omega
 ·refine Nat.le_trans (Nat.mul_le_mul_right _ (Nat.pow_le_pow_right (by decide) e)) (Nat.le_trans ?_ h)
  exact Nat.mul_le_mul_left _ (by omega)
def pwC6 (n k : Nat) : Bool := allB (n - 1) fun i => decide (pwZ n k i ≤ 30000000)
theorem Md0.pw {q a : List Rat} {n k : Nat} (hq : Md0 q n k) (ha : Sz a 6 1) : ∀ i, Sz (pwE q (pMod a q) i) (n - 1) (pwZ n k i)
 | 0 => hq.rsz ha
 | i + 1 => (hq.mulr (hq.pw ha i) (hq.rsz ha)).1
theorem Md0.tr2 {q u : List Rat} {n k E : Nat} (hq : Md0 q n k) (hu : Sz u (n - 1) E) (hE : E ≤ 30000000) : TrOk q u ∧ qs (trQ q u) ≤ 140000000 := by
 have q0 := hq.ne
 have hl := hq.len
 have n5 := hq.cs0
 have hul := hu.len
 have er : pMod u q = u := (dm_small hu.can hq.can (by omega)).2
 have hn := nwL_sz hq.mon.1 hq.mon.2 u.length (by omega)
 have hn' : PB (nwL (pMonic q) u.length) (nwZ 11009 4) := hn.mono (nwZ_step _ (by omega))
 have hS : nwZ 11009 4 ≤ 4000000 := by decide
 generalize nwZ 11009 4 = Y at hS hn'
 unfold TrOk trQ
 rw [er]
 refine ⟨⟨⟨⟨⟨hu.can, hq.can⟩, by omega, E, k, ⟨hu.pb, hq.pb⟩, ?_⟩, q0⟩, fun _ => hq.po (by omega), hu.pb.mono (by omega), hn'.mono (by omega), fun i hi => ⟨?_, ?_⟩⟩, ?_⟩
 ·rw [show u.length - q.length + 1 = 1 from by omega]; omega
 ·refine Nat.le_trans (trF_sz hu.pb hn' i) ?_
  have : i * (E + Y + 1) ≤ 4 * (E + Y + 1) := Nat.mul_le_mul_right _ (by omega)
  omega
 ·have e2 := qs_mul (cf u i) (cf (nwR (pMonic q) u.length) i)
  have e3 := hu.pb i
  have e4 := hn' i
  exact Nat.le_trans e2 (by show _ + qs (cf (nwL (pMonic q) u.length) i) ≤ _; omega)
 ·refine Nat.le_trans (trF_sz hu.pb hn' _) ?_
  have : u.length * (E + Y + 1) ≤ 4 * (E + Y + 1) := Nat.mul_le_mul_right _ (by omega)
  omega
theorem mnS_sz {d t : List Rat} {C T : Nat} (hd : PB d C) (ht : PB t T) (k : Nat) : ∀ i, qs (mnS d t k i) ≤ i * (C + T + 1) + 1
 | 0 => by rw [mnS, Nat.zero_mul]; exact qs_0
 | i + 1 => by
   have ih := mnS_sz hd ht k i
   rw [mnS, Nat.succ_mul]
   have e1 := qs_add (mnS d t k i) (cf d i * cf t (k - i))
   have e2 := qs_mul (cf d i) (cf t (k - i))
   have e3 := hd i
   have e4 := ht (k - i)
   omega
def mnZ (T : Nat) : Nat → Nat
 | 0 => 1
 | k + 1 => (k + 1) * (mnZ T k + T + 1) + 2 + mnZ T k
theorem mnL_sz {t : List Rat} {T : Nat} (ht : PB t T) : ∀ k, k < 1000 → PB (mnL t k) (mnZ T k)
 | 0, _ => PB_cons (Nat.le_trans (show qs ((1 : Int) : Rat) ≤ 1 from qs_1) (Nat.le_refl _)) (PB_nil (Nat.le_refl _))
 | k + 1, hk => fun i => by
   have ih := mnL_sz ht k (by omega)
   rw [mnL, cf_snoc, mnL_len, mnZ]
   split
   ·have h1 := mnS_sz ih ht (k + 1) (k + 1)
    have h2 := qs_div (-(mnS (mnL t k) t (k + 1) (k + 1))) (((k + 1 : Nat) : Int) : Rat)
    have h3 : qs (((k + 1 : Nat) : Int) : Rat) ≤ 1 := qs_nat (z := k + 1) (by omega)
    rw [qs_neg] at h2
    omega
   ·have := ih i; omega
def atB (n k X : Nat) : Nat → Nat
 | 0 => 1
 | i + 1 => 32 * ((n - 1) * (atB n k X i + 2) + 1 + (2 * k + 1)) + X + 1
def mnT (n k : Nat) (ds : List Nat) : Bool := gtC 24 (ds.sum + 1) (rdX (n - 1) (chZ n k) ds) ds.sum (rdX (n - 1) (chZ n k) ds + 1) 1 &&
 (decide (rdX (n - 1) (chZ n k) ds ≤ 1000000000000) && decide (atB n k (rdX (n - 1) (chZ n k) ds) ds.sum ≤ 1200000000000))
def cntT (ds : List Nat) : Bool := decide ((ds.filter fun d => decide (d ≠ 0)).length ≤ 2)
def mnC (n k : Nat) : Bool := pwC6 n k && (sfC (n - 1) (chZ n k) && (tyC (n - 1) 1 (n - 1) cntT && tyC (n - 1) 1 (n - 1) (mnT n k)))
end Go.Proofs.YtfbogelmgdojgaaGreat


/- Contracts: the minimal polynomial as a function; values at residues. -/
namespace Go.Proofs.YtfbogelmgdojgaaGreat
set_option linter.unusedSimpArgs false
set_option linter.unusedVariables false
open Go.RowKit

def minP (q a : List Rat) : List Rat :=
 match pSqf q.length (tr (mnL (trs q (pMod a q) (q.length - 1)) (q.length - 1)).reverse) with
 | some fs => prd fs fs.length
 | none => []
def kMinF : Con := con2 pR pR fun q a => (∃ fs, MnOk q a q.length fs, .lst (V.rats (minP q a)))
attribute [go_sem ↓, go_sem] kMinF
theorem minF_C : Ctr Tryz.prog 27 kMinF := Ctr.c2 (by kernel_rfl) fun q a h => by
 obtain ⟨fs, h⟩ := h
 show PCall _ _ _ (.lst (V.rats (minP q a)))
 have e : minP q a = prd fs fs.length := by unfold minP; rw [h.sqf.1]
 rw [e]
 exact (min_C q.length fs).2 [.lst (V.rats q), .lst (V.rats a)] (MnOk q a q.length fs) _ (by simp only [go_sem]) h
def atO (q f a : List Rat) (j : Nat) : List Rat := atm q a (f.drop (f.length - j))
theorem atO_step (q f a : List Rat) {j : Nat} (h : j < f.length) : atO q f a (j + 1) = pAdd (pMod (pMul (atO q f a j) a) q) (tr [cf f (f.length - 1 - j)]) := by
 unfold atO
 rw [show f.length - (j + 1) = f.length - 1 - j from by omega, List.drop_eq_getElem_cons (by omega), atm, show f.length - 1 - j + 1 = f.length - j from by omega, cf_lt (by omega)]
def atS (q f a : List Rat) : Nat → St
 | 0 => mkSt [(0, .lst (V.rats q)), (1, .lst (V.rats f)), (2, .lst (V.rats a)), (7, .sl 0 4 0 0), (8, .raw (.int .i64 ((f.length : Int) - 1)))] [(0, true, ⟨45, 4, []⟩)] 1 32
 | j + 1 => mkSt [(0, .lst (V.rats q)), (1, .lst (V.rats f)), (2, .lst (V.rats a)), (7, .lst (V.rats (atO q f a (j + 1)))), (8, .raw (.int .i64 ((f.length : Int) - 1 - ((j + 1 : Nat) : Int))))] [] 0 32
def AtOk (q f a : List Rat) : Prop := f.length ≤ 1000000 ∧ (∀ j, j < f.length → ((atO q f a j).length + a.length ≤ 1000000 ∧ PB (atO q f a j) 5000000000000 ∧ PB a 5000000000000) ∧ (∃ i k, (PB (atO q f a j) i ∧ PB a k) ∧ (atO q f a j).length * (i + k + 1) ≤ 4999999999999) ∧
 (DvOk (pMul (atO q f a j) a) q ∧ q ≠ []) ∧ ((pMod (pMul (atO q f a j) a) q).length ≤ 1000000 ∧ (tr [cf f (f.length - 1 - j)]).length ≤ 1000000) ∧ PB (pMod (pMul (atO q f a j) a) q) 5000000000000 ∧ PB (tr [cf f (f.length - 1 - j)]) 5000000000000) ∧ DvOk (atm q a f) q ∧ q ≠ []
def kM6Mul : Con := con3 pR pR pR fun q a b => ((a.length + b.length ≤ 1000000 ∧ PB a 5000000000000 ∧ PB b 5000000000000) ∧ (∃ i k, (PB a i ∧ PB b k) ∧ a.length * (i + k + 1) ≤ 4999999999999) ∧ DvOk (pMul a b) q ∧ q ≠ [], .lst (V.rats (pMod (pMul a b) q)))
attribute [go_sem ↓, go_sem] kM6Mul
theorem rM6Mul_C : Ctr Tryz.prog 18 kM6Mul := Ctr.c3 (by kernel_rfl) fun q a b h => by
 obtain ⟨h1, h2, h3, h4⟩ := h
 show PCall _ _ _ (.lst (V.rats (pMod (pMul a b) q)))
 refine PCall.of_vc (tabs mixed (tbl_cons rPMul_C (tbl_cons rRest_C tbl_nil))) Tryz.func18 rfl Tryz.ntmps18 Tryz.results18 (by simp) ?_
 simp only [go_sem, h1, h2, h3, h4]
def kM6Red : Con := con2 pR pR fun q a => (DvOk a q ∧ q ≠ [], .lst (V.rats (pMod a q)))
attribute [go_sem ↓, go_sem] kM6Red
theorem rM6Red_C : Ctr Tryz.prog 16 kM6Red := Ctr.c2 (by kernel_rfl) fun q a h => by
 obtain ⟨h3, h4⟩ := h
 show PCall _ _ _ (.lst (V.rats (pMod a q)))
 refine PCall.of_vc (tabs mixed (tbl_cons rRest_C tbl_nil)) Tryz.func16 rfl Tryz.ntmps16 Tryz.results16 (by simp) ?_
 simp only [go_sem, h3, h4]
end Go.Proofs.YtfbogelmgdojgaaGreat

