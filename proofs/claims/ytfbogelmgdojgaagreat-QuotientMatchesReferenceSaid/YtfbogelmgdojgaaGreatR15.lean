/- Texts E1 M4 M5 E2 E3 in one. -/
import Derived.Test.YtfbogelmgdojgaaGreatR14
/- Contracts of the reference: Made, Of, Valid, less, Same, Sign. -/
namespace Go.Proofs.YtfbogelmgdojgaaGreat
set_option linter.unusedSimpArgs false
set_option linter.unusedVariables false
open Go.RowKit

theorem rmade_V (l : List Nat) (neg : Bool) (hl : Lim l) (hm : l.length ≤ 30000000000000) : PCall Tryz.prog 116 [.lst (V.limbs l), .raw (.bool neg)] (.I (sv neg l)) := by
 refine PCall.of_vc (tabs mixed tbl_nil) Tryz.func116 rfl Tryz.ntmps116 Tryz.results116 (by simp) ?_
 simp only [go_sem]
 refine AWp.loops (X := { k : Nat // k ≤ l.length ∧ nlen l k = nlen l l.length }) (fun k => mkSt [(0, .lst (V.limbs l)), (1, .raw (.bool neg)), (4, .ptr 0 2 0 0), (5, .raw (.int .i64 (k.1 : Nat)))] [(0, true, ⟨43, 2, [.agg [.raw (.bool false), .raw (.slice none 0 0)]]⟩)] 1 31) (fun k => k.1) ⟨l.length, Nat.le_refl _, rfl⟩ (Wk.of [0] (by decide) ?_) ?_
 ·simp only [go_sem]
 ·rintro ⟨k, hk, hv⟩
  refine vc_at (tabs mixed tbl_nil) ?_
  have hcan := nlen_take_canon hl l.length (Nat.le_refl _)
  rw [List.take_length] at hcan
  have hmx : maxLen = 9223372036854775807 := by decide
  rcases k with _ | k
  ·have hz : lv l = 0 := by rw [← hcan.2, ← hv]; rfl
   have e : sv neg l = 0 := by cases neg <;> simp [sv, hz]
   cases neg <;> simp only [go_sem, e, hmx] <;> exact ⟨by omega, out_I (l := []) Canon.nil (by simp) rfl⟩
  ·have e1 : ((k + 1 : Nat) : Int) - 1 = k := by omega
   have e2 : 0 < ((k + 1 : Nat) : Int) := by omega
   by_cases hz : at0 l k = 0
   ·have e3 : (((at0 l k : Nat) : Int) == 0) = true := by simp [hz]
    simp only [go_sem, e1, e2, e3]
    and_intros
    any_goals omega
    refine ⟨⟨k, by omega, by rw [← hv, nlen_succ_zero hz]⟩, Wk.of [0] (by decide) ?_, Nat.lt_succ_self k⟩
    simp only [go_sem]
   ·have e3 : (((at0 l k : Nat) : Int) == 0) = false := by simp; omega
    have hn : nlen l l.length = k + 1 := by rw [← hv, nlen_succ_pos hz]
    rw [hn] at hcan
    have hn0 : l.take (k + 1) ≠ [] := by intro h; have := congrArg List.length h; simp only [List.length_take, List.length_nil] at this; omega
    have e5 : (l.take (k + 1)).take (min (k + 1) l.length) = l.take (k + 1) := List.take_of_length_le (by rw [List.length_take]; omega)
    cases neg <;> simp only [go_sem, e1, e2, e3, hmx, e5] <;> refine ⟨by omega, by omega, by omega, by omega, by omega, out_I hcan.1 (fun _ => hn0) (by simp [sv, hcan.2])⟩
def kRMade : Con := con2 pL pB fun l neg => (Lim l ∧ l.length ≤ 30000000000000, .I (sv neg l))
attribute [go_sem ↓, go_sem] kRMade
theorem rmade_C : Ctr Tryz.prog 116 kRMade := Ctr.c2 (by kernel_rfl) fun l neg h => rmade_V l neg h.1 h.2
theorem rsign_C : Ctr Tryz.prog 78 kSign := Ctr.c1 (by kernel_rfl) fun z h => by
 obtain ⟨s, l, hz, hl, hs, e1, e2, e3⟩ := sv_open z
 refine PCall.of_vc (tabs mixed tbl_nil) Tryz.func78 rfl Tryz.ntmps78 Tryz.results78 (by simp) ?_
 have hg : sgI z = if l = [] then 0 else if s = true then -1 else 1 := by rw [hz]; exact sgI_sv hl hs
 rcases l with _ | ⟨x, l⟩
 ·have e4 : (((List.length ([] : List Nat) : Nat) : Int) == 0) = true := rfl
  rw [if_pos rfl] at hg
  simp only [go_sem, e1, e2, e4, hg]
 ·have e4 : (((List.length (x :: l) : Nat) : Int) == 0) = false := by simp; omega
  rw [if_neg (by simp)] at hg
  cases s
  ·rw [if_neg (by simp)] at hg
   simp only [go_sem] at e4
   simp only [go_sem, e1, e2, e4, hg]
  ·rw [if_pos rfl] at hg
   simp only [go_sem] at e4
   simp only [go_sem, e1, e2, e4, hg]
theorem less_V (l m : List Nat) (hl : Canon l) (hm : Canon m) (h1 : l.length ≤ 30000000000000) (h2 : m.length ≤ 30000000000000) :
 PCall Tryz.prog 119 [.lst (V.limbs l), .lst (V.limbs m)] (.raw (.bool (decide (lv l < lv m)))) := by
 refine PCall.of_vc (tabs mixed tbl_nil) Tryz.func119 rfl Tryz.ntmps119 Tryz.results119 (by simp) ?_
 by_cases h : l.length = m.length
 ·have e0 : ((l.length : Int) != (m.length : Int)) = false := by simp [h]
  simp only [go_sem, e0]
  refine ⟨by omega, ?_⟩
  refine AWp.loops (X := { k : Nat // k ≤ l.length ∧ ∀ j, k ≤ j → at0 l j = at0 m j }) (fun k => mkSt [(0, .lst (V.limbs l)), (1, .lst (V.limbs m)), (5, .raw (.int .i64 ((k.1 : Nat) - 1)))] [] 0 41) (fun k => k.1) ⟨l.length, Nat.le_refl _, fun j hj => by rw [at0_beyond hj, at0_beyond (by omega)]⟩ (Wk.of [] (by decide) ?_) ?_
  ·simp only [go_sem]
  ·rintro ⟨k, hk, hv⟩
   refine vc_at (tabs mixed tbl_nil) ?_
   rcases k with _ | k
   ·have e : lv l = lv m := by rw [eq_of_at0 h fun j => hv j (Nat.zero_le j)]
    have e' : decide (lv l < lv m) = false := by simp; omega
    simp only [go_sem, e']
   ·have e1 : ((k + 1 : Nat) : Int) - 1 = k := by omega
    have e2 : (0 : Int) ≤ k := by omega
    rcases Nat.lt_trichotomy (at0 l k) (at0 m k) with g | g | g
    ·have := lv_lt_of_top hl.1 hm.1 _ rfl h.symm k (by omega) g fun j hj => hv j hj
     have g1 : (((at0 l k : Nat) : Int) != at0 m k) = true := by simp; omega
     have g2 : ((at0 l k : Nat) : Int) < at0 m k := by omega
     have e' : decide (lv l < lv m) = true := by simp; omega
     simp only [go_sem, e1, e2, g1, g2, e']
     and_intros
     all_goals first | omega | rfl | exact .refl _
    ·have g1 : (((at0 l k : Nat) : Int) != at0 m k) = false := by simp; omega
     simp only [go_sem, e1, e2, g1]
     and_intros
     any_goals first | omega | rfl
     refine ⟨⟨k, by omega, fun j hj => ?_⟩, Wk.of [] (by decide) ?_, Nat.lt_succ_self k⟩
     ·by_cases e : j = k
      ·subst e; exact g
      ·exact hv j (by omega)
     ·simp only [go_sem]
    ·have := lv_lt_of_top hm.1 hl.1 _ rfl h k (by omega) g fun j hj => (hv j hj).symm
     have g1 : (((at0 l k : Nat) : Int) != at0 m k) = true := by simp; omega
     have g2 : ¬ ((at0 l k : Nat) : Int) < at0 m k := by omega
     have e' : decide (lv l < lv m) = false := by simp; omega
     simp only [go_sem, e1, e2, g1, g2, e']
     and_intros
     all_goals first | omega | rfl | exact .refl _
 ·have e0 : ((l.length : Int) != (m.length : Int)) = true := by simp; omega
  rcases Nat.lt_or_ge l.length m.length with g | g
  ·have := lv_lt_of_len hl.1 hm g
   have e' : decide (lv l < lv m) = true := by simp; omega
   have g2 : (l.length : Int) < (m.length : Nat) := by omega
   simp only [go_sem, e0, e', g2]
  ·have := lv_lt_of_len hm.1 hl (by omega)
   have e' : decide (lv l < lv m) = false := by simp; omega
   have g2 : ¬ (l.length : Int) < (m.length : Nat) := by omega
   simp only [go_sem, e0, e', g2]
def kLess : Con := con2 pL pL fun l m => ((Canon l ∧ Canon m) ∧ l.length ≤ 30000000000000 ∧ m.length ≤ 30000000000000, .raw (.bool (decide (lv l < lv m))))
attribute [go_sem ↓, go_sem] kLess
theorem less_C : Ctr Tryz.prog 119 kLess := Ctr.c2 (by kernel_rfl) fun l m h => less_V l m h.1.1 h.1.2 h.2.1 h.2.2
def kSame : Con := con2 pI pI fun x y => (dl x.natAbs ≤ 30000000000000 ∧ dl y.natAbs ≤ 30000000000000, .raw (.bool (decide (x = y))))
attribute [go_sem ↓, go_sem] kSame
theorem same_C : Ctr Tryz.prog 138 kSame := Ctr.c2 (by kernel_rfl) fun x y h => by
 obtain ⟨h1, h2⟩ := h
 obtain ⟨s, l, hz, hl, hs, e1, e2, e3⟩ := sv_open x
 obtain ⟨t, m, hz', hm, ht, f1, f2, f3⟩ := sv_open y
 refine PCall.of_vc (tabs mixed (tbl_cons less_C tbl_nil)) Tryz.func138 rfl Tryz.ntmps138 Tryz.results138 (by simp) ?_
 have hinj := sv_inj hl hm hs ht
 rw [← hz, ← hz'] at hinj
 rcases Nat.lt_trichotomy (lv l) (lv m) with g | g | g
 ·have d1 : decide (lv l < lv m) = true := by simp; omega
  have d3 : decide (x = y) = false := by rw [decide_eq_false]; rw [hinj]; omega
  cases s <;> cases t <;> simp only [go_sem, e1, e2, f1, f2, d1, d3] <;> (and_intros <;> first | rfl | assumption | omega | exact hl.1 | exact hl.2 | exact hm.1 | exact hm.2)
 ·have d1 : decide (lv l < lv m) = false := by simp; omega
  have d2 : decide (lv m < lv l) = false := by simp; omega
  have d3 : decide (x = y) = (s == t) := by
   by_cases q : s = t
   ·rw [decide_eq_true (hinj.2 ⟨q, g⟩), q]; simp
   ·rw [decide_eq_false fun e => q (hinj.1 e).1]; simp [q]
  cases s <;> cases t <;> simp only [go_sem, e1, e2, f1, f2, d1, d2, d3] <;> (and_intros <;> first | rfl | assumption | omega | exact hl.1 | exact hl.2 | exact hm.1 | exact hm.2)
 ·have d1 : decide (lv l < lv m) = false := by simp; omega
  have d2 : decide (lv m < lv l) = true := by simp; omega
  have d3 : decide (x = y) = false := by rw [decide_eq_false]; rw [hinj]; omega
  cases s <;> cases t <;> simp only [go_sem, e1, e2, f1, f2, d1, d2, d3] <;> (and_intros <;> first | rfl | assumption | omega | exact hl.1 | exact hl.2 | exact hm.1 | exact hm.2)
theorem rof_C : Ctr Tryz.prog 80 kOf := Ctr.c1 (by kernel_rfl) fun n h => by
 obtain ⟨h1, h2⟩ := h
 refine PCall.of_vc (tabs mixed (tbl_cons rmade_C tbl_nil)) Tryz.func80 rfl Tryz.ntmps80 Tryz.results80 (by simp) ?_
 have p1 : ((n.natAbs : Nat) : Int) % 4294967296 = ((n.natAbs % 4294967296 : Nat) : Int) := by omega
 have p2 : ((n.natAbs : Nat) : Int) / 4294967296 % 4294967296 = ((n.natAbs / 4294967296 % 4294967296 : Nat) : Int) := by omega
 have hb : Lim [n.natAbs % 4294967296, n.natAbs / 4294967296 % 4294967296] := lim_two (by omega) (by omega)
 have hv : lv [n.natAbs % 4294967296, n.natAbs / 4294967296 % 4294967296] = n.natAbs := by rw [lv_two]; omega
 by_cases hn : n < 0
 ·have w1 : IntKind.u64.wrap (0 - n % 18446744073709551616) = ((n.natAbs : Nat) : Int) := by
   rw [IntKind.wrap_u64]; omega
  simp only [go_sem, hn, w1, p1, p2]
  exact ⟨hb, out_II (by rw [sv_true, hv]; omega)⟩
 ·have w1 : n % 18446744073709551616 = ((n.natAbs : Nat) : Int) := by omega
  simp only [go_sem, hn, w1, p1, p2]
  exact ⟨hb, out_II (by rw [sv_false, hv]; omega)⟩
end Go.Proofs.YtfbogelmgdojgaaGreat


/- Plain: sizes of results; the order by signs. No program in sight. -/
namespace Go.Proofs.YtfbogelmgdojgaaGreat
set_option linter.unusedSimpArgs false
set_option linter.unusedVariables false
open Go.RowKit

theorem dl_addI (x y : Int) : dl (x + y).natAbs ≤ max (dl x.natAbs) (dl y.natAbs) + 1 := by
 have h1 : (x + y).natAbs ≤ x.natAbs + y.natAbs := Int.natAbs_add_le x y
 have h2 := dl_add x.natAbs y.natAbs
 have h3 := dl_mono h1
 omega
theorem dl_negI (x : Int) : dl (-x).natAbs = dl x.natAbs := by rw [Int.natAbs_neg]
theorem dl_subI (x y : Int) : dl (x - y).natAbs ≤ max (dl x.natAbs) (dl y.natAbs) + 1 := by
 have := dl_addI x (-y)
 rw [dl_negI] at this
 exact this
theorem dl_mulI (x y : Int) : dl (x * y).natAbs ≤ dl x.natAbs + dl y.natAbs := by
 rw [Int.natAbs_mul]
 exact dl_mul _ _
theorem sgI_zero {x : Int} : sgI x = 0 ↔ x = 0 := by
 unfold sgI cmpI
 split
 ·omega
 ·split <;> omega
theorem cmpI_zero {x y : Int} : cmpI x y = 0 ↔ x = y := by
 unfold cmpI
 split
 ·omega
 ·split <;> omega
end Go.Proofs.YtfbogelmgdojgaaGreat


/- Plain arithmetic for the long division: windows of limbs. No program in sight. -/
namespace Go.Proofs.YtfbogelmgdojgaaGreat
set_option linter.unusedSimpArgs false
set_option linter.unusedVariables false
open Go.RowKit

theorem win_u {u : List Nat} {i k : Nat} (hl : i + (k + 3) ≤ u.length) (hW : lv (u.drop i) < 4294967296 ^ (k + 3)) :
 lv (u.drop i) = ((at0 u (i + k + 2) * 4294967296 + at0 u (i + k + 1)) * 4294967296 + at0 u (i + k)) * 4294967296 ^ k + lv ((u.drop i).take k) ∧ lv (u.drop (i + (k + 3))) = 0 := by
 have h1 := lv_take_drop (u.drop i) (k + 3) (by rw [List.length_drop]; omega)
 rw [List.drop_drop] at h1
 have h2 := lv_take_succ' (u.drop i) (k + 2)
 have h3 := lv_take_succ' (u.drop i) (k + 1)
 have h4 := lv_take_succ' (u.drop i) k
 rw [at0_drop] at h2 h3 h4
 have hz : lv (u.drop (i + (k + 3))) = 0 := by
  rcases Nat.eq_zero_or_pos (lv (u.drop (i + (k + 3)))) with h | h
  ·exact h
  ·have := Nat.mul_le_mul_left (4294967296 ^ (k + 3)) h
   omega
 refine ⟨?_, hz⟩
 rw [hz, Nat.mul_zero, Nat.add_zero] at h1
 rw [h1, h2, h3, h4, Nat.add_assoc i k 2, Nat.add_assoc i k 1, show 4294967296 ^ (k + 2) = 4294967296 ^ k * 4294967296 * 4294967296 from rfl, show 4294967296 ^ (k + 1) = 4294967296 ^ k * 4294967296 from rfl]
 generalize 4294967296 ^ k = P
 generalize lv ((u.drop i).take k) = w
 rw [Nat.add_mul, Nat.add_mul, Nat.add_mul]
 rw [show P * 4294967296 * 4294967296 * at0 u (i + (k + 2)) = at0 u (i + (k + 2)) * 4294967296 * 4294967296 * P from by ac_rfl,
  show P * 4294967296 * at0 u (i + (k + 1)) = at0 u (i + (k + 1)) * 4294967296 * P from by ac_rfl, Nat.mul_comm P]
 omega
theorem win_v {v : List Nat} {k : Nat} (hl : v.length = k + 3) (h0 : at0 v (k + 2) = 0) :
 lv v = (at0 v (k + 1) * 4294967296 + at0 v k) * 4294967296 ^ k + lv (v.take k) ∧ lv (v.take (k + 2)) = lv v := by
 have h1 := lv_take_succ' v (k + 2)
 rw [h0, Nat.mul_zero, Nat.add_zero, show k + 2 + 1 = v.length from by omega, List.take_length] at h1
 have h3 := lv_take_succ' v (k + 1)
 have h4 := lv_take_succ' v k
 refine ⟨?_, h1.symm⟩
 rw [h1, h3, h4, Nat.pow_succ]
 generalize 4294967296 ^ k = P
 rw [Nat.add_mul, show P * 4294967296 * at0 v (k + 1) = at0 v (k + 1) * 4294967296 * P from by ac_rfl, Nat.mul_comm P]
 omega
theorem g_start {B P v1 v2 v' top u2 w' : Nat} (hw : w' < P) (hu : u2 < B) (hv : 0 < v1) :
 (top * B + u2) * P + w' < (top / v1 + 1) * ((v1 * B + v2) * P + v') := by
 have h1 : top + 1 ≤ (top / v1 + 1) * v1 := by
  have := Nat.lt_mul_div_succ top hv
  rw [Nat.mul_comm] at this
  exact this
 generalize top / v1 + 1 = G at h1
 have h2 : (top + 1) * (B * P) ≤ G * v1 * (B * P) := Nat.mul_le_mul_right _ h1
 have h3 : (top * B + u2 + 1) * P ≤ (top + 1) * B * P := Nat.mul_le_mul_right _ (by rw [Nat.add_mul, Nat.one_mul]; omega)
 have h4 : G * v1 * (B * P) ≤ G * ((v1 * B + v2) * P + v') := by
  rw [Nat.mul_assoc]
  refine Nat.mul_le_mul_left _ ?_
  rw [← Nat.mul_assoc, Nat.add_mul]
  omega
 rw [Nat.mul_assoc] at h3
 have h5 : (top * B + u2 + 1) * P = (top * B + u2) * P + P := by rw [Nat.add_mul _ 1, Nat.one_mul]
 omega
theorem g_top {B P v1 v2 v' top u2 w' : Nat} (hv' : v' < P) (hv2 : v2 < B) (h : (top * B + u2) * P + w' < B * ((v1 * B + v2) * P + v')) : top < B * (v1 + 1) := by
 have h1 : (v1 * B + v2) * P + v' < (v1 + 1) * B * P := by
  have h0 : (v1 * B + v2 + 1) * P ≤ (v1 + 1) * B * P := Nat.mul_le_mul_right _ (by rw [Nat.add_mul v1, Nat.one_mul]; omega)
  rw [Nat.add_mul _ 1, Nat.one_mul] at h0
  omega
 have hB : 0 < B := by omega
 have h1' := Nat.mul_lt_mul_of_pos_left h1 hB
 have h2 : top * (B * P) < B * (v1 + 1) * (B * P) := by
  have e1 : top * (B * P) = top * B * P := (Nat.mul_assoc _ _ _).symm
  have e2 : B * (v1 + 1) * (B * P) = B * ((v1 + 1) * B * P) := by rw [Nat.mul_assoc, ← Nat.mul_assoc (v1 + 1)]
  rw [e1, e2]
  rw [Nat.add_mul] at h
  omega
 exact Nat.lt_of_mul_lt_mul_right h2
theorem ms_step2 {E R g U U' U'' c b y x low c' d b' vl : Nat} (h : U' + E * g * vl = U + E * R * (c + b)) (hs : U'' + E * R * x = U' + E * R * d) (ht : c + g * y = low + 4294967296 * c') (hd : d + low + b = x + 4294967296 * b') :
 U'' + E * g * (vl + R * y) = U + E * (R * 4294967296) * (c' + b') := by
 have e1 : E * g * (vl + R * y) = E * g * vl + E * R * (g * y) := by
  rw [Nat.mul_add, Nat.mul_assoc E g (R * y), Nat.mul_left_comm g R y, ← Nat.mul_assoc E R]
 have e2 : E * R * (c + g * y) = E * R * low + E * R * 4294967296 * c' := by rw [ht, Nat.mul_add, Nat.mul_assoc (E * R)]
 have e3 : E * R * (d + low + b) = E * R * x + E * R * 4294967296 * b' := by rw [hd, Nat.mul_add, Nat.mul_assoc (E * R)]
 have e4 : E * R * (c + b) = E * R * c + E * R * b := Nat.mul_add _ _ _
 have e5 : E * R * (c + g * y) = E * R * c + E * R * (g * y) := Nat.mul_add _ _ _
 have e6 : E * R * (d + low + b) = E * R * d + E * R * low + E * R * b := by rw [Nat.mul_add, Nat.mul_add]
 have e7 : E * (R * 4294967296) * (c' + b') = E * R * 4294967296 * c' + E * R * 4294967296 * b' := by rw [← Nat.mul_assoc E R, Nat.mul_add]
 omega
theorem ab_step {E R U U3 U3' c y x vl : Nat} (h : U3 + E * R * c = U + E * vl) (hs : U3' + E * R * x = U3 + E * R * ((x + y + c) % 4294967296)) :
 U3' + E * (R * 4294967296) * ((x + y + c) / 4294967296) = U + E * (vl + R * y) := by
 have e1 : E * (vl + R * y) = E * vl + E * R * y := by rw [Nat.mul_add, Nat.mul_assoc]
 have e2 : E * R * ((x + y + c) % 4294967296) + E * (R * 4294967296) * ((x + y + c) / 4294967296) = E * R * (x + y + c) := by
  rw [← Nat.mul_assoc E R, Nat.mul_assoc (E * R), ← Nat.mul_add, Nat.mod_add_div]
 have e3 : E * R * (x + y + c) = E * R * x + E * R * y + E * R * c := by rw [Nat.mul_add, Nat.mul_add]
 omega
theorem win_eq {u u' : List Nat} {i a b : Nat} (h1 : i ≤ u.length) (h2 : u'.length = u.length) (ht : u'.take i = u.take i) (h : lv u' + 4294967296 ^ i * a = lv u + 4294967296 ^ i * b) : lv (u'.drop i) + a = lv (u.drop i) + b := by
 have e1 := lv_take_drop u i h1
 have e2 := lv_take_drop u' i (by omega)
 rw [ht] at e2
 rw [e1, e2] at h
 have h3 : 4294967296 ^ i * (lv (u'.drop i) + a) = 4294967296 ^ i * (lv (u.drop i) + b) := by rw [Nat.mul_add, Nat.mul_add]; omega
 exact Nat.eq_of_mul_eq_mul_left (pow_pos' i) h3
theorem win_lt {u : List Nat} (hu : Lim u) {i m : Nat} (hl : i + m ≤ u.length) (hz : lv (u.drop (i + m)) = 0) : lv (u.drop i) < 4294967296 ^ m := by
 have h1 := lv_take_drop (u.drop i) m (by rw [List.length_drop]; omega)
 rw [List.drop_drop, hz, Nat.mul_zero, Nat.add_zero] at h1
 rw [h1]
 exact take_lt (hu.drop i) m
theorem end_pos {E R g D U U' U'' c b x : Nat} (h : U' + E * g * D = U + E * R * (c + b)) (hx : c + b ≤ x) (hs : U'' + E * R * x = U' + E * R * (x - (c + b))) : U'' + E * (g * D) = U := by
 have e1 : E * R * (x - (c + b)) + E * R * (c + b) = E * R * x := by rw [← Nat.mul_add]; congr 1; omega
 rw [← Nat.mul_assoc]
 omega
theorem end_neg {E R g D U U' U'' c b x : Nat} (h : U' + E * g * D = U + E * R * (c + b)) (hx : c + b ≤ x + 4294967296) (hs : U'' + E * R * x = U' + E * R * (x + 4294967296 - (c + b))) : U'' + E * (g * D) = U + E * (R * 4294967296) := by
 have e1 : E * R * (x + 4294967296 - (c + b)) + E * R * (c + b) = E * R * x + E * (R * 4294967296) := by rw [← Nat.mul_add, show x + 4294967296 - (c + b) + (c + b) = x + 4294967296 from by omega, Nat.mul_add, Nat.mul_assoc E R 4294967296]
 rw [← Nat.mul_assoc]
 omega
theorem add_back {W W2 W4 g D M t : Nat} (h1 : W2 + g * D = W + M) (h2 : W4 + M * t = W2 + D) (h3 : W4 < M) (h4 : W2 < M) (h5 : g * D ≤ W + D) (hD : 0 < D) (hDM : D ≤ M) : 1 ≤ g ∧ W4 + (g - 1) * D = W ∧ W4 < D := by
 have hg : 1 ≤ g := by
  rcases Nat.eq_zero_or_pos g with h | h
  ·subst h; omega
  ·exact h
 have ht : t = 1 := by
  rcases Nat.lt_or_ge t 1 with h | h
  ·obtain rfl : t = 0 := by omega
   omega
  ·rcases Nat.lt_or_ge t 2 with h' | h'
   ·omega
   ·have := Nat.mul_le_mul_left M h'
    omega
 subst ht
 have e : (g - 1) * D + D = g * D := by rw [← Nat.succ_mul]; congr 1; omega
 omega
end Go.Proofs.YtfbogelmgdojgaaGreat


/- Contracts of the reference: Neg, plus, minus, Add, Sub, Cmp. -/
namespace Go.Proofs.YtfbogelmgdojgaaGreat
set_option linter.unusedSimpArgs false
set_option linter.unusedVariables false
open Go.RowKit

theorem rneg_C : Ctr Tryz.prog 84 (con1 pI fun z => (dl z.natAbs ≤ 30000000000000, .I (-z))) := Ctr.c1 (by kernel_rfl) fun z h => by
 change dl z.natAbs ≤ 30000000000000 at h
 obtain ⟨s, l, hz, hl, hs, e1, e2, e3⟩ := sv_open z
 refine PCall.of_vc (tabs mixed (tbl_cons rmade_C tbl_nil)) Tryz.func84 rfl Tryz.ntmps84 Tryz.results84 (by simp) ?_
 simp only [go_sem, e1, e2]
 refine ⟨⟨hl.1, by omega⟩, out_II ?_⟩
 rw [hz, sv_flip]
def rpl (l m : List Nat) : Nat := if lv l + lv m < 4294967296 ^ max l.length m.length then max l.length m.length else max l.length m.length + 1
theorem rplus_V (l m : List Nat) (hl : Lim l) (hm : Lim m) (h1 : l.length ≤ 30000000000000) (h2 : m.length ≤ 30000000000000) :
 PCall Tryz.prog 118 [.lst (V.limbs l), .lst (V.limbs m)] (.lst (V.limbs (nl (rpl l m) (lv l + lv m)))) := by
 refine PCall.of_vc (tabs mixed tbl_nil) Tryz.func118 rfl Tryz.ntmps118 Tryz.results118 (by simp) ?_
 obtain ⟨N, hN⟩ : ∃ N, N = max l.length m.length := ⟨_, rfl⟩
 have hsum : lv l + lv m < 4294967296 ^ (N + 1) := sum_lt hl hm (by omega) (by omega)
 simp only [go_sem]
 refine AWp.loops (X := { x : Nat × Nat × List Nat // x.1 ≤ N + 1 ∧ x.2.1 ≤ 1 ∧ Lim x.2.2 ∧ x.2.2.length = x.1 ∧ lv x.2.2 + 4294967296 ^ x.1 * x.2.1 = lv (l.take x.1) + lv (m.take x.1) ∧ (x.1 = N + 1 → 4294967296 ^ N ≤ lv l + lv m) })
  (fun a => mkSt [(0, .lst (V.limbs l)), (1, .lst (V.limbs m)), (5, .sl 0 1 0 a.1.1), (6, .raw (.int .u64 (a.1.2.1 : Nat))), (7, .raw (.int .i64 (a.1.1 : Nat)))]
   [(0, true, ⟨110, 1, V.limbs a.1.2.2⟩)] 1 55)
  (fun a => N + 2 - a.1.1) ⟨(0, 0, []), Nat.zero_le _, by simp, Lim.nil, rfl, by simp [lv], by simp⟩ (Wk.of [1] (by decide) ?_) ?_
 ·simp only [go_sem, limbs_nil]
 ·rintro ⟨⟨i, c, r⟩, hi, hc, hr, hrl, hinv, hfl⟩
  simp only at hi hc hr hrl hinv hfl
  refine vc_at (tabs mixed tbl_nil) ?_
  have U1 := hl.at0 i
  have U2 := hm.at0 i
  have w1 : (i : Int) + 1 = ((i + 1 : Nat) : Int) := by omega
  have hmx : maxLen = 9223372036854775807 := by decide
  have u2 : (0 : Int) ≤ i := by omega
  obtain ⟨S, hS⟩ : ∃ S, S = c + at0 l i + at0 m i := ⟨_, rfl⟩
  have x1 : (at0 l i : Int) % 18446744073709551616 = at0 l i := by omega
  have x2 : (at0 m i : Int) % 18446744073709551616 = at0 m i := by omega
  have z1 : (S : Int) % 4294967296 = ((S % 4294967296 : Nat) : Int) := by omega
  have z2 : (S : Int) / 4294967296 = ((S / 4294967296 : Nat) : Int) := by omega
  have t1 : ([S % 4294967296] : List Nat).take 1 = [S % 4294967296] := rfl
  have t2 : min 1 1 = 1 := rfl
  have t3 : r.take i = r := List.take_of_length_le (by omega)
  have hmx2 : IntKind.u64.max = 18446744073709551615 := by decide
  have hgo : i < N ∨ 0 < c → i + 1 ≤ N + 1 ∧ S / 4294967296 ≤ 1 ∧ Lim (r ++ [S % 4294967296]) ∧ (r ++ [S % 4294967296]).length = i + 1 ∧ lv (r ++ [S % 4294967296]) + 4294967296 ^ (i + 1) * (S / 4294967296) = lv (l.take (i + 1)) + lv (m.take (i + 1)) ∧ (i + 1 = N + 1 → 4294967296 ^ N ≤ lv l + lv m) := fun hor => by
   have hiN : i ≤ N := by
    rcases Nat.lt_or_ge N i with h | h
    ·exfalso
     obtain rfl : i = N + 1 := by omega
     have hc1 : c = 1 := by omega
     rw [List.take_of_length_le (by omega), List.take_of_length_le (by omega), hc1] at hinv
     omega
    ·exact h
   refine ⟨by omega, by omega, hr.append (Lim.cons (Nat.mod_lt _ (by decide)) Lim.nil), by simp [hrl], ?_, fun h => ?_⟩
   ·rw [lv_append, lv_one, hrl, lv_take_succ', lv_take_succ', Nat.pow_succ, Nat.add_assoc, Nat.mul_assoc, ← Nat.mul_add, Nat.mod_add_div, hS, Nat.mul_add, Nat.mul_add]
    omega
   ·obtain rfl : i = N := by omega
    have hc1 : c = 1 := by omega
    rw [List.take_of_length_le (by omega), List.take_of_length_le (by omega), hc1] at hinv
    omega
  by_cases p1 : i < l.length
  ·have c1 : (i : Int) < l.length := by omega
   obtain ⟨k1, k2, k3, k4, k5, k6⟩ := hgo (.inl (by omega))
   by_cases p2 : i < m.length
   ·have c2 : (i : Int) < m.length := by omega
    have y1 : (c : Int) + (at0 l i : Nat) + (at0 m i : Nat) = (S : Nat) := by omega
    simp only [go_sem, c1, c2, u2, w1, p1, p2, hrl, hmx, hmx2, x1, x2, y1, z1, z2, List.set_cons_zero, t1, t2, t3]
    and_intros
    any_goals omega
    refine ⟨⟨(i + 1, S / 4294967296, r ++ [S % 4294967296]), k1, k2, k3, k4, k5, k6⟩, Wk.of [43] (by decide) ?_, by simp only; omega⟩
    simp only [go_sem]
   ·have c2 : ¬ (i : Int) < m.length := by omega
    have y0 : at0 m i = 0 := at0_beyond (by omega)
    have y1 : (c : Int) + (at0 l i : Nat) = (S : Nat) := by omega
    simp only [go_sem, c1, c2, u2, w1, p1, hrl, hmx, hmx2, x1, x2, y1, z1, z2, List.set_cons_zero, t1, t2, t3]
    and_intros
    any_goals omega
    refine ⟨⟨(i + 1, S / 4294967296, r ++ [S % 4294967296]), k1, k2, k3, k4, k5, k6⟩, Wk.of [35] (by decide) ?_, by simp only; omega⟩
    simp only [go_sem]
  ·have c1 : ¬ (i : Int) < l.length := by omega
   have y0 : at0 l i = 0 := at0_beyond (by omega)
   by_cases p2 : i < m.length
   ·have c2 : (i : Int) < m.length := by omega
    obtain ⟨k1, k2, k3, k4, k5, k6⟩ := hgo (.inl (by omega))
    have y1 : (c : Int) + (at0 m i : Nat) = (S : Nat) := by omega
    simp only [go_sem, c1, c2, u2, w1, p2, hrl, hmx, hmx2, x1, x2, y1, z1, z2, List.set_cons_zero, t1, t2, t3]
    and_intros
    any_goals omega
    refine ⟨⟨(i + 1, S / 4294967296, r ++ [S % 4294967296]), k1, k2, k3, k4, k5, k6⟩, Wk.of [35] (by decide) ?_, by simp only; omega⟩
    simp only [go_sem]
   ·have c2 : ¬ (i : Int) < m.length := by omega
    have y0' : at0 m i = 0 := at0_beyond (by omega)
    by_cases p3 : 0 < c
    ·have c3 : 0 < (c : Int) := by omega
     obtain ⟨k1, k2, k3, k4, k5, k6⟩ := hgo (.inr p3)
     obtain rfl : S = c := by omega
     simp only [go_sem, c1, c2, c3, u2, w1, hrl, hmx, hmx2, z1, z2, List.set_cons_zero, t1, t2, t3]
     and_intros
     any_goals omega
     refine ⟨⟨(i + 1, S / 4294967296, r ++ [S % 4294967296]), k1, k2, k3, k4, k5, k6⟩, Wk.of [27] (by decide) ?_, by simp only; omega⟩
     simp only [go_sem]
    ·have c3 : ¬ 0 < (c : Int) := by omega
     obtain rfl : c = 0 := by omega
     rw [Nat.mul_zero, Nat.add_zero, List.take_of_length_le (by omega), List.take_of_length_le (by omega)] at hinv
     have hlen : i = rpl l m := by
      unfold rpl
      rw [← hN, ← hinv]
      have := lv_lt hr
      rw [hrl] at this
      split
      ·rename_i h9
       rcases Nat.lt_or_ge i (N + 1) with h8 | h8
       ·omega
       ·have := hfl (by omega); omega
      ·rename_i h9
       rcases Nat.lt_or_ge i (N + 1) with h8 | h8
       ·exfalso
        obtain rfl : i = N := by omega
        omega
       ·omega
     have hnl : nl (rpl l m) (lv l + lv m) = r := (nl_of hr (by rw [hrl, hlen]) hinv).symm
     simp only [go_sem, c1, c2, c3, u2, w1, hrl, hmx, t3, hnl]
def kRPlus : Con := con2 pL pL fun l m => ((Lim l ∧ Lim m) ∧ l.length ≤ 30000000000000 ∧ m.length ≤ 30000000000000, .lst (V.limbs (nl (rpl l m) (lv l + lv m))))
attribute [go_sem ↓, go_sem] kRPlus
theorem rplus_C : Ctr Tryz.prog 118 kRPlus := Ctr.c2 (by kernel_rfl) fun l m h => rplus_V l m h.1.1 h.1.2 h.2.1 h.2.2
theorem rpl_le (l m : List Nat) : rpl l m ≤ max l.length m.length + 1 := by unfold rpl; split <;> omega
theorem rpl_lt {l m : List Nat} (hl : Lim l) (hm : Lim m) : lv l + lv m < 4294967296 ^ rpl l m := by
 unfold rpl
 split
 ·assumption
 ·exact sum_lt hl hm (by omega) (by omega)
theorem rminus_V (l m : List Nat) (hl : Lim l) (hm : Lim m) (h1 : l.length ≤ 30000000000000) (hml : m.length ≤ l.length) (hle : lv m ≤ lv l) :
 PCall Tryz.prog 120 [.lst (V.limbs l), .lst (V.limbs m)] (.lst (V.limbs (nl l.length (lv l - lv m)))) := by
 refine PCall.of_vc (tabs mixed tbl_nil) Tryz.func120 rfl Tryz.ntmps120 Tryz.results120 (by simp) ?_
 simp only [go_sem]
 refine AWp.loops (X := { x : Nat × Nat × List Nat // x.1 ≤ l.length ∧ x.2.1 ≤ 1 ∧ Lim x.2.2 ∧ x.2.2.length = x.1 ∧ lv x.2.2 + lv (m.take x.1) = lv (l.take x.1) + 4294967296 ^ x.1 * x.2.1 })
  (fun a => mkSt [(0, .lst (V.limbs l)), (1, .lst (V.limbs m)), (5, .sl 0 1 0 a.1.1), (6, .raw (.int .i64 (a.1.2.1 : Nat))), (7, .raw (.int .i64 (a.1.1 : Nat)))]
   [(0, true, ⟨110, 1, V.limbs a.1.2.2⟩)] 1 44)
  (fun a => l.length - a.1.1) ⟨(0, 0, []), Nat.zero_le _, by simp, Lim.nil, rfl, by simp [lv]⟩ (Wk.of [1] (by decide) ?_) ?_
 ·simp only [go_sem, limbs_nil]
 ·rintro ⟨⟨i, b, r⟩, hi0, hb, hr, hrl, hinv⟩
  simp only at hi0 hb hr hrl hinv
  refine vc_at (tabs mixed tbl_nil) ?_
  have U1 := hl.at0 i
  have U2 := hm.at0 i
  have w1 : (i : Int) + 1 = ((i + 1 : Nat) : Int) := by omega
  have hmx : maxLen = 9223372036854775807 := by decide
  have u2 : (0 : Int) ≤ i := by omega
  have x1 : IntKind.i64.wrap (at0 l i : Nat) = (at0 l i : Nat) := IntWalk.i64_in _ (by omega)
  have x2 : IntKind.i64.wrap (at0 m i : Nat) = (at0 m i : Nat) := IntWalk.i64_in _ (by omega)
  have t2 : min 1 1 = 1 := rfl
  have t3 : r.take i = r := List.take_of_length_le (by omega)
  have hgo : ∀ d t, d < 4294967296 → d + at0 m i + b = at0 l i + 4294967296 * t → Lim (r ++ [d]) ∧ (r ++ [d]).length = i + 1 ∧ lv (r ++ [d]) + lv (m.take (i + 1)) = lv (l.take (i + 1)) + 4294967296 ^ (i + 1) * t := fun d t hd he => by
   refine ⟨hr.append (Lim.cons hd Lim.nil), by simp [hrl], ?_⟩
   have := sub_step hinv he
   rw [lv_append, lv_one, hrl, lv_take_succ', lv_take_succ', Nat.pow_succ]
   omega
  by_cases hi : i < l.length
  ·have c1 : (i : Int) < l.length := by omega
   by_cases p2 : i < m.length
   ·have c2 : (i : Int) < m.length := by omega
    by_cases p3 : at0 l i < b + at0 m i
    ·have n1 : ((at0 l i : Nat) : Int) - b - (at0 m i : Nat) < 0 := by omega
     obtain ⟨d, hd⟩ : ∃ d, d = at0 l i + 4294967296 - (b + at0 m i) := ⟨_, rfl⟩
     have n2 : (((at0 l i : Nat) : Int) - b - (at0 m i : Nat) + 4294967296) % 4294967296 = (d : Nat) := by omega
     have t1 : ([d] : List Nat).take 1 = [d] := rfl
     obtain ⟨k3, k4, k5⟩ := hgo d 1 (by omega) (by omega)
     simp only [go_sem, c1, c2, u2, w1, hi, p2, hrl, hmx, x1, x2, n1, n2, List.set_cons_zero, t1, t2, t3]
     and_intros
     any_goals omega
     refine ⟨⟨(i + 1, 1, r ++ [d]), hi, Nat.le_refl _, k3, k4, k5⟩, Wk.of [36] (by decide) ?_, by simp only; omega⟩
     simp only [go_sem]
    ·have n1 : ¬ ((at0 l i : Nat) : Int) - b - (at0 m i : Nat) < 0 := by omega
     obtain ⟨d, hd⟩ : ∃ d, d = at0 l i - (b + at0 m i) := ⟨_, rfl⟩
     have n2 : (((at0 l i : Nat) : Int) - b - (at0 m i : Nat)) % 4294967296 = (d : Nat) := by omega
     have t1 : ([d] : List Nat).take 1 = [d] := rfl
     obtain ⟨k3, k4, k5⟩ := hgo d 0 (by omega) (by omega)
     simp only [go_sem, c1, c2, u2, w1, hi, p2, hrl, hmx, x1, x2, n1, n2, List.set_cons_zero, t1, t2, t3]
     and_intros
     any_goals omega
     refine ⟨⟨(i + 1, 0, r ++ [d]), hi, Nat.zero_le _, k3, k4, k5⟩, Wk.of [32] (by decide) ?_, by simp only; omega⟩
     simp only [go_sem]
   ·have c2 : ¬ (i : Int) < m.length := by omega
    have y0 : at0 m i = 0 := at0_beyond (by omega)
    by_cases p3 : at0 l i < b
    ·have n1 : ((at0 l i : Nat) : Int) - b < 0 := by omega
     obtain ⟨d, hd⟩ : ∃ d, d = at0 l i + 4294967296 - (b) := ⟨_, rfl⟩
     have n2 : (((at0 l i : Nat) : Int) - b + 4294967296) % 4294967296 = (d : Nat) := by omega
     have t1 : ([d] : List Nat).take 1 = [d] := rfl
     obtain ⟨k3, k4, k5⟩ := hgo d 1 (by omega) (by omega)
     simp only [go_sem, c1, c2, u2, w1, hi, hrl, hmx, x1, n1, n2, List.set_cons_zero, t1, t2, t3]
     and_intros
     any_goals omega
     refine ⟨⟨(i + 1, 1, r ++ [d]), hi, Nat.le_refl _, k3, k4, k5⟩, Wk.of [28] (by decide) ?_, by simp only; omega⟩
     simp only [go_sem]
    ·have n1 : ¬ ((at0 l i : Nat) : Int) - b < 0 := by omega
     obtain ⟨d, hd⟩ : ∃ d, d = at0 l i - (b) := ⟨_, rfl⟩
     have n2 : (((at0 l i : Nat) : Int) - b) % 4294967296 = (d : Nat) := by omega
     have t1 : ([d] : List Nat).take 1 = [d] := rfl
     obtain ⟨k3, k4, k5⟩ := hgo d 0 (by omega) (by omega)
     simp only [go_sem, c1, c2, u2, w1, hi, hrl, hmx, x1, n1, n2, List.set_cons_zero, t1, t2, t3]
     and_intros
     any_goals omega
     refine ⟨⟨(i + 1, 0, r ++ [d]), hi, Nat.zero_le _, k3, k4, k5⟩, Wk.of [24] (by decide) ?_, by simp only; omega⟩
     simp only [go_sem]
  ·have c1 : ¬ (i : Int) < l.length := by omega
   obtain rfl : i = l.length := by omega
   rw [List.take_length, List.take_of_length_le hml] at hinv
   have hlt := lv_lt hr
   rw [hrl] at hlt
   have hb0 : b = 0 := by
    rcases Nat.eq_zero_or_pos b with h | h
    ·exact h
    ·have := Nat.mul_le_mul_left (4294967296 ^ l.length) h
     omega
   subst hb0
   rw [Nat.mul_zero, Nat.add_zero] at hinv
   have hnl : nl l.length (lv l - lv m) = r := (nl_of hr hrl (by omega)).symm
   simp only [go_sem, c1, t3, hrl, hnl]
def kRMinus : Con := con2 pL pL fun l m => ((Lim l ∧ Lim m) ∧ l.length ≤ 30000000000000 ∧ m.length ≤ l.length ∧ lv m ≤ lv l, .lst (V.limbs (nl l.length (lv l - lv m))))
attribute [go_sem ↓, go_sem] kRMinus
theorem rminus_C : Ctr Tryz.prog 120 kRMinus := Ctr.c2 (by kernel_rfl) fun l m h => rminus_V l m h.1.1 h.1.2 h.2.1 h.2.2.1 h.2.2.2
theorem radd_C : Ctr Tryz.prog 82 kAdd := Ctr.c2 (by kernel_rfl) fun x y h => by
 obtain ⟨h1, h2⟩ := h
 obtain ⟨s, l, hz, hl, hs, e1, e2, e3⟩ := sv_open x
 obtain ⟨t, m, hz', hm, ht, f1, f2, f3⟩ := sv_open y
 refine PCall.of_vc (tabs mixed (tbl_cons rmade_C (tbl_cons rplus_C (tbl_cons rminus_C (tbl_cons less_C tbl_nil))))) Tryz.func82 rfl Tryz.ntmps82 Tryz.results82 (by simp) ?_
 have hb := lv_lt hl.1
 have hb' := lv_lt hm.1
 by_cases hst : s = t
 ·subst hst
  have b1 : (s == s) = true := by cases s <;> rfl
  have hsum := rpl_lt hl.1 hm.1
  have hrl := rpl_le l m
  simp only [go_sem, e1, e2, f1, f2, b1, nl_length]
  refine ⟨⟨⟨hl.1, hm.1⟩, by omega, by omega⟩, ⟨nl_lim _ _, by omega⟩, by rfl, out_II ?_⟩
  rw [nl_sv s hsum, hz, hz']
  unfold sv
  split <;> omega
 ·have b1 : (s == t) = false := by cases s <;> cases t <;> simp_all
  by_cases hc : lv l < lv m
  ·have c1 : decide (lv l < lv m) = true := by simpa using hc
   have hlen := len_of_lt hl hm (by omega)
   simp only [go_sem, e1, e2, f1, f2, b1, c1, nl_length]
   refine ⟨⟨⟨hl, hm⟩, by omega, by omega⟩, ⟨⟨hm.1, hl.1⟩, by omega, hlen, by omega⟩, ⟨nl_lim _ _, by omega⟩, by rfl, out_II ?_⟩
   rw [nl_sv t (by omega), hz, hz']
   unfold sv
   cases s <;> cases t <;> simp_all <;> omega
  ·have c1 : decide (lv l < lv m) = false := by simpa using hc
   have hlen := len_of_lt hm hl (by omega)
   simp only [go_sem, e1, e2, f1, f2, b1, c1, nl_length]
   refine ⟨⟨⟨hl, hm⟩, by omega, by omega⟩, ⟨⟨hl.1, hm.1⟩, by omega, hlen, by omega⟩, ⟨nl_lim _ _, by omega⟩, by rfl, out_II ?_⟩
   rw [nl_sv s (by omega), hz, hz']
   unfold sv
   cases s <;> cases t <;> simp_all <;> omega
def kRNeg : Con := con1 pI fun z => (dl z.natAbs ≤ 30000000000000, .I (-z))
attribute [go_sem ↓, go_sem] kRNeg
theorem rsub_C : Ctr Tryz.prog 149 kSub := Ctr.c2 (by kernel_rfl) fun x y h => by
 obtain ⟨h1, h2⟩ := h
 refine PCall.of_vc (tabs mixed (tbl_cons (C := kRNeg) rneg_C (tbl_cons radd_C tbl_nil))) Tryz.func149 rfl Tryz.ntmps149 Tryz.results149 (by simp) ?_
 have e1 := dl_neg y
 simp only [go_sem, e1]
 exact ⟨by omega, ⟨h1, h2⟩, by rfl, out_II (by omega)⟩
theorem rvalid_V (s : Bool) (l : List Nat) (h : l.length ≤ 9223372036854775807) : PCall Tryz.prog 137 [.agg [.raw (.bool s), .lst (V.limbs l)]] (.raw (.bool (validB s l))) := by
 refine PCall.of_vc (tabs mixed tbl_nil) Tryz.func137 rfl Tryz.ntmps137 Tryz.results137 (by simp) ?_
 by_cases h0 : l = []
 ·subst h0
  have e5 : (((([] : List Nat).length : Nat) : Int) == 0) = true := rfl
  cases s <;> simp only [go_sem, validB, e5]
 ·have e5 : ((l.length : Int) == 0) = false := by simp; exact h0
  have hp := List.length_pos_iff.2 h0
  have e6 : ((l.length : Int) - 1).toNat = l.length - 1 := by omega
  simp only [go_sem, e5, e6, validB]
  rw [if_neg h0]
  and_intros
  any_goals omega
  exact out_bool (by by_cases g : at0 l (l.length - 1) = 0 <;> simp [g] <;> omega)
theorem rvalid_C : Ctr Tryz.prog 137 kValid := Ctr.c1 (by kernel_rfl) fun a h => rvalid_V a.1 a.2 h
end Go.Proofs.YtfbogelmgdojgaaGreat


/- Contracts of the reference: short, Pow, Valid, Small. -/
namespace Go.Proofs.YtfbogelmgdojgaaGreat
set_option linter.unusedSimpArgs false
set_option linter.unusedVariables false
open Go.RowKit

theorem rshort_V (l : List Nat) (d : Nat) (hl : Lim l) (h1 : l.length ≤ 30000000000000) (hd0 : 1 ≤ d) (hd : d < 4294967296) :
 PCall Tryz.prog 155 [.lst (V.limbs l), .raw (.int .u32 (d : Nat))] (.tup [.lst (V.limbs (nl l.length (lv l / d))), .raw (.int .u32 ((lv l % d : Nat) : Int))]) := by
 refine PCall.of_vc (tabs mixed tbl_nil) Tryz.func155 rfl Tryz.ntmps155 Tryz.results155 (by simp) ?_
 simp only [go_sem]
 and_intros
 any_goals omega
 refine AWp.loops (X := { x : Nat × Nat × List Nat // x.1 ≤ l.length ∧ x.2.1 < d ∧ Lim x.2.2 ∧ x.2.2.length = l.length ∧ lv (l.drop x.1) = lv (x.2.2.drop x.1) * d + x.2.1 })
  (fun a => mkSt [(0, .lst (V.limbs l)), (1, .raw (.int .u32 (d : Nat))), (6, .sl 0 1 0 l.length), (7, .raw (.int .u64 (a.1.2.1 : Nat))), (8, .raw (.int .i64 ((a.1.1 : Nat) - 1)))] [(0, true, ⟨110, 1, V.limbs a.1.2.2⟩)] 1 42)
  (fun a => a.1.1) ⟨(l.length, 0, List.replicate l.length 0), Nat.le_refl _, hd0, Lim.replicate _, by simp, by rw [List.drop_length, List.drop_eq_nil_of_le (by simp)]; simp [lv]⟩ (Wk.of [4] (by decide) ?_) ?_
 ·simp only [go_sem]
 ·rintro ⟨⟨k, rest, r⟩, hk, hrest, hr, hrl, hv⟩
  simp only at hk hrest hr hrl hv
  refine vc_at (tabs mixed tbl_nil) ?_
  rcases k with _ | k
  ·rw [List.drop_zero, List.drop_zero] at hv
   have q1 : lv l % d = rest := by rw [hv, Nat.add_comm, Nat.add_mul_mod_self_right, Nat.mod_eq_of_lt hrest]
   have q2 : lv r = lv l / d := by rw [hv, Nat.add_comm, Nat.add_mul_div_right _ _ hd0, Nat.div_eq_of_lt hrest, Nat.zero_add]
   have q3 : (rest : Int) % 4294967296 = (rest : Int) := by omega
   simp only [go_sem, hrl, q3, List.take_of_length_le (Nat.le_of_eq hrl)]
   rw [← nl_of hr hrl q2, q1]
   exact ⟨.refl _, .refl _⟩
  ·have e1 : ((k + 1 : Nat) : Int) - 1 = k := by omega
   have e2 : (0 : Int) ≤ k := by omega
   have l1 := hl.at0 k
   obtain ⟨T, hT⟩ : ∃ T : Nat, T = rest * 4294967296 + at0 l k := ⟨_, rfl⟩
   have hTI : (rest : Int) * 4294967296 + (at0 l k : Int) = (T : Int) := by rw [hT]; simp
   obtain ⟨Q, hQ⟩ : ∃ Q : Nat, Q = T / d := ⟨_, rfl⟩
   obtain ⟨R, hR⟩ : ∃ R : Nat, R = T % d := ⟨_, rfl⟩
   have hQI : (T : Int) / (d : Int) = (Q : Int) := by rw [hQ]; simp
   have hRI : (T : Int) % (d : Int) = (R : Int) := by rw [hR]; simp
   have hQb : Q < 4294967296 := by
    rw [hQ]
    apply Nat.div_lt_of_lt_mul
    have h3 : rest * 4294967296 + 4294967296 ≤ d * 4294967296 := by
     have : rest + 1 ≤ d := hrest
     have := Nat.mul_le_mul_right 4294967296 this
     omega
    omega
   have hRb : R < d := by rw [hR]; exact Nat.mod_lt _ hd0
   have hTb : T < 18446744073709551616 := by omega
   have hTd : T = Q * d + R := by rw [hQ, hR, Nat.mul_comm]; exact (Nat.div_add_mod T d).symm
   have a2 : (at0 l k : Int) % 18446744073709551616 = at0 l k := by omega
   have a3 : (d : Int) % 18446744073709551616 = d := by omega
   have a4 : (Q : Int) % 4294967296 = Q := by omega
   have a5 : ¬ ((d : Int) = 0) := by omega
   simp only [go_sem, e1, e2, hrl, a2, a3, hTI, hQI, hRI, a4, a5]
   have hmx : IntKind.u64.max = 18446744073709551615 := by decide
   rw [hmx]
   and_intros
   any_goals omega
   refine ⟨⟨(k, R, r.set k Q), by omega, hRb, hr.set _ hQb, by simp [hrl], ?_⟩, Wk.of [0] (by decide) ?_, Nat.lt_succ_self k⟩
   ·show lv (l.drop k) = lv ((r.set k Q).drop k) * d + R
    rw [lv_drop_set _ (by omega), lv_drop, hv, Nat.add_mul, Nat.mul_add, Nat.mul_assoc]
    omega
   ·simp only [go_sem, hrl]
theorem rshort_C : Ctr Tryz.prog 155 kShort := Ctr.c2 (by kernel_rfl) fun l d h => by
 obtain ⟨h1, h2, h3, h4⟩ := h
 have := rshort_V l d.toNat h1 h2 (by omega) (by omega)
 rw [show ((d.toNat : Nat) : Int) = d from by omega] at this
 exact this
end Go.Proofs.YtfbogelmgdojgaaGreat

