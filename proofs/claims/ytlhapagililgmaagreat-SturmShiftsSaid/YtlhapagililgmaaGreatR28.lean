/- Texts ST2 ST3 ST4 ST5 ST6 ST7 in one. -/
import Derived.Test.YtlhapagililgmaaGreatR27
import Derived.Test.YtlhapagililgmaaGreatR22
import Derived.Test.YtlhapagililgmaaGreatR24
/- Changes of sign along a chain, between numbers that are near each other. No program in sight. -/
namespace Go.Proofs.YtlhapagililgmaaGreat
set_option linter.unusedSimpArgs false
set_option linter.unusedVariables false

def vr : Rat → List Rat → Nat
 | _, [] => 0
 | u, s :: l => (if s * u < 0 then 1 else 0) + vr (if s = 0 then u else s) l
def vrL (l : List (List Rat)) (x : Rat) : Nat := vr 0 (l.map fun q => ev q x)
def copE (a b : List Rat) : Prop := ∃ u v, ∀ x, ev u x * ev a x + ev v x * ev b x = 1
def StC : List (List Rat) → Prop
 | [] => False
 | [a] => ∃ d, d ≠ 0 ∧ ∀ x, ev a x = d
 | [a, b] => copE a b ∧ ∃ d, d ≠ 0 ∧ ∀ x, ev b x = d
 | a :: b :: c :: l => copE a b ∧ copE b c ∧ (∃ k, ∀ x, ev a x + ev c x = ev k x * ev b x) ∧ StC (b :: c :: l)
def Loc (x y : Rat) : List (List Rat) → Prop
 | [] => True
 | [a] => good a x y
 | [_, b] => good b x y
 | a :: b :: c :: l => (¬ good b x y → (good a x y ∧ good c x y) ∧ ev a x * ev c x < 0 ∧ ev a y * ev c y < 0) ∧ Loc x y (b :: c :: l)
theorem cop_bd {R : Rat} (hR : 0 ≤ R) {a b : List Rat} (h : copE a b) : ∃ c, 0 < c ∧ ∀ x, ab x ≤ R → c ≤ ab (ev a x) ∨ c ≤ ab (ev b x) := by
 obtain ⟨u, v, h⟩ := h
 obtain ⟨A, a0, hA⟩ := ev_bd hR u
 obtain ⟨B, b0, hB⟩ := ev_bd hR v
 obtain ⟨c, c0, hc⟩ := half (L := A + B) (by grind) (show (0 : Rat) < 1 by decide)
 refine ⟨c, c0, fun x hx => ?_⟩
 by_cases h1 : c ≤ ab (ev a x)
 ·exact .inl h1
 ·refine .inr (Decidable.byContradiction fun h2 => ?_)
  have e := h x
  have k := ab_add (ev u x * ev a x) (ev v x * ev b x)
  rw [e, ab_mul, ab_mul] at k
  have k1 : ab (ev u x) * ab (ev a x) ≤ A * c := mul_le2 (hA x hx) (by grind) (ab_nn _) (by grind)
  have k2 : ab (ev v x) * ab (ev b x) ≤ B * c := mul_le2 (hB x hx) (by grind) (ab_nn _) (by grind)
  have k3 : ab 1 = 1 := by decide
  grind
theorem good_const {a : List Rat} {d : Rat} (h0 : d ≠ 0) (h : ∀ x, ev a x = d) (x y : Rat) : good a x y := by
 unfold good
 rw [h, h]
 rcases Rat.le_total (a := 0) (b := d) with h1 | h1
 ·exact Rat.mul_pos (by grind) (by grind)
 ·have : 0 < (-d) * (-d) := Rat.mul_pos (by grind) (by grind)
  grind
theorem opp_of {u w e c : Rat} (h1 : c ≤ ab u) (h2 : ab (u + w) < c) (h : e = e) : u * w < 0 := by
 unfold ab at h1 h2
 by_cases hu : 0 ≤ u
 ·rw [if_pos hu] at h1
  have : 0 < u * (-w) := Rat.mul_pos (by split at h2 <;> grind) (by split at h2 <;> grind)
  grind
 ·rw [if_neg hu] at h1
  have : 0 < (-u) * w := Rat.mul_pos (by split at h2 <;> grind) (by split at h2 <;> grind)
  grind
theorem near_tri {R : Rat} (hR : 0 ≤ R) {a b c : List Rat} (h1 : copE a b) (h2 : copE b c) (h3 : ∃ k, ∀ x, ev a x + ev c x = ev k x * ev b x) : Near R fun x y => ¬ good b x y → (good a x y ∧ good c x y) ∧ ev a x * ev c x < 0 ∧ ev a y * ev c y < 0 := by
 obtain ⟨c1, p1, g1⟩ := cop_bd hR h1
 obtain ⟨c2, p2, g2⟩ := cop_bd hR h2
 obtain ⟨k, hk⟩ := h3
 obtain ⟨K, k0, gk⟩ := ev_bd hR k
 obtain ⟨e, e0, he⟩ := half k0 p1
 refine (((near_lip hR a p1).and (near_lip hR c p2)).and (((near_lip hR b p1).and (near_lip hR b p2)).and (near_lip hR b e0))).mono fun x y hx hy ⟨⟨n1, n2⟩, ⟨n3, n4⟩, n5⟩ hb => ?_
 obtain ⟨s1, s2⟩ := bad_small hb
 have a1 : c1 ≤ ab (ev a x) := (g1 x hx).resolve_right (by grind)
 have a2 : c1 ≤ ab (ev a y) := (g1 y hy).resolve_right (by grind)
 have a3 : c2 ≤ ab (ev c x) := (g2 x hx).resolve_left (by grind)
 have o : ∀ z, ab z ≤ R → ab (ev b z) < e → ab (ev a z + ev c z) < c1 := fun z hz hbz => by
  rw [hk z, ab_mul]
  have := mul_le2 (gk z hz) (Std.le_of_lt hbz) (ab_nn _) (Std.le_of_lt e0)
  grind
 refine ⟨⟨good_of a1 n1, good_of a3 n2⟩, opp_of (e := 0) a1 (o x hx (by grind)) rfl, opp_of (e := 0) a2 (o y hy (by grind)) rfl⟩
theorem near_Loc {R : Rat} (hR : 0 ≤ R) : ∀ l : List (List Rat), StC l → Near R fun x y => Loc x y l
 | [], h => h.elim
 | [a], ⟨d, d0, h⟩ => Near.all fun x y _ _ => good_const d0 h x y
 | [a, b], ⟨_, d, d0, h⟩ => Near.all fun x y _ _ => good_const d0 h x y
 | a :: b :: c :: l, ⟨h1, h2, h3, h4⟩ => (near_tri hR h1 h2 h3).and (near_Loc hR (b :: c :: l) h4)
theorem sgn_cases (u : Rat) : u < 0 ∨ u = 0 ∨ 0 < u := by
 rcases Rat.le_total (a := 0) (b := u) with h | h
 ·by_cases e : u = 0
  ·exact .inr (.inl e)
  ·right; right; grind
 ·by_cases e : u = 0
  ·exact .inr (.inl e)
  ·left; grind
theorem neg_mul_iff {s v : Rat} : s * v < 0 ↔ (s < 0 ∧ 0 < v) ∨ (0 < s ∧ v < 0) := by
 constructor
 ·intro h
  rcases sgn_cases s with h1 | h1 | h1 <;> rcases sgn_cases v with h2 | h2 | h2
  ·have := Rat.mul_pos (show 0 < -s by grind) (show 0 < -v by grind); grind
  ·rw [h2] at h; grind
  ·exact .inl ⟨h1, h2⟩
  ·rw [h1] at h; grind
  ·rw [h1] at h; grind
  ·rw [h1] at h; grind
  ·exact .inr ⟨h1, h2⟩
  ·rw [h2] at h; grind
  ·have := Rat.mul_pos h1 h2; grind
 ·rintro (⟨h1, h2⟩ | ⟨h1, h2⟩)
  ·have := Rat.mul_pos (show 0 < -s by grind) h2; grind
  ·have := Rat.mul_pos h1 (show 0 < -v by grind); grind
theorem pos_mul_iff {s v : Rat} : 0 < s * v ↔ (s < 0 ∧ v < 0) ∨ (0 < s ∧ 0 < v) := by
 have := @neg_mul_iff s (-v)
 grind
theorem vr_mid {u b c : Rat} (h : u * c < 0) (l : List Rat) : vr u (b :: c :: l) = 1 + vr c l := by
 have hc : c ≠ 0 := fun e => by rw [e] at h; grind
 rcases neg_mul_iff.1 h with ⟨h1, h2⟩ | ⟨h1, h2⟩
 ·rcases sgn_cases b with hb | hb | hb
  ·rw [vr, vr, if_neg (show ¬ b * u < 0 by rw [neg_mul_iff]; grind), if_neg (show b ≠ 0 by grind), if_pos (show c * b < 0 by rw [neg_mul_iff]; grind), if_neg hc]; omega
  ·rw [vr, vr, if_neg (show ¬ b * u < 0 by rw [neg_mul_iff]; grind), if_pos hb, if_pos (show c * u < 0 by rw [neg_mul_iff]; grind), if_neg hc]; omega
  ·rw [vr, vr, if_pos (show b * u < 0 by rw [neg_mul_iff]; grind), if_neg (show b ≠ 0 by grind), if_neg (show ¬ c * b < 0 by rw [neg_mul_iff]; grind), if_neg hc]; omega
 ·rcases sgn_cases b with hb | hb | hb
  ·rw [vr, vr, if_pos (show b * u < 0 by rw [neg_mul_iff]; grind), if_neg (show b ≠ 0 by grind), if_neg (show ¬ c * b < 0 by rw [neg_mul_iff]; grind), if_neg hc]; omega
  ·rw [vr, vr, if_neg (show ¬ b * u < 0 by rw [neg_mul_iff]; grind), if_pos hb, if_pos (show c * u < 0 by rw [neg_mul_iff]; grind), if_neg hc]; omega
  ·rw [vr, vr, if_neg (show ¬ b * u < 0 by rw [neg_mul_iff]; grind), if_neg (show b ≠ 0 by grind), if_pos (show c * b < 0 by rw [neg_mul_iff]; grind), if_neg hc]; omega
theorem tail_same {x y : Rat} : ∀ (n : Nat) (a : List Rat) (l : List (List Rat)), l.length < n → Loc x y (a :: l) → good a x y → vr (ev a x) (l.map fun q => ev q x) = vr (ev a y) (l.map fun q => ev q y)
 | 0, _, _, h, _, _ => absurd h (Nat.not_lt_zero _)
 | n + 1, a, [], _, _, _ => rfl
 | n + 1, a, [b], hn, hL, ha => by
   have hb : good b x y := hL
   rcases pos_mul_iff.1 ha with ⟨h1, h2⟩ | ⟨h1, h2⟩ <;> rcases pos_mul_iff.1 hb with ⟨h3, h4⟩ | ⟨h3, h4⟩
   all_goals
    simp only [List.map_cons, List.map_nil, vr, neg_mul_iff]
    grind
 | n + 1, a, b :: c :: l, hn, hL, ha => by
   obtain ⟨h1, h2⟩ := hL
   by_cases hb : good b x y
   ·have ih := tail_same n b (c :: l) (by simp at hn ⊢; omega) h2 hb
    have b1 : ev b x ≠ 0 := fun e => by unfold good at hb; rw [e] at hb; grind
    have b2 : ev b y ≠ 0 := fun e => by unfold good at hb; rw [e] at hb; grind
    show (if ev b x * ev a x < 0 then 1 else 0) + vr (if ev b x = 0 then ev a x else ev b x) ((c :: l).map fun q => ev q x) = (if ev b y * ev a y < 0 then 1 else 0) + vr (if ev b y = 0 then ev a y else ev b y) ((c :: l).map fun q => ev q y)
    rw [if_neg b1, if_neg b2, ih]
    congr 1
    have : (ev b x * ev a x < 0) ↔ (ev b y * ev a y < 0) := by
     rw [neg_mul_iff, neg_mul_iff]
     rcases pos_mul_iff.1 ha with ⟨h3, h4⟩ | ⟨h3, h4⟩ <;> rcases pos_mul_iff.1 hb with ⟨h5, h6⟩ | ⟨h5, h6⟩ <;> grind
    simp only [this]
   ·obtain ⟨⟨g1, g2⟩, o1, o2⟩ := h1 hb
    have hc : Loc x y (c :: l) := by
     cases l with
     | nil => exact g2
     | cons d l => exact h2.2
    have ih := tail_same n c l (by simp at hn ⊢; omega) hc g2
    rw [List.map_cons, List.map_cons, List.map_cons, List.map_cons, vr_mid o1, vr_mid o2, ih]
end Go.Proofs.YtlhapagililgmaaGreat


/- Sturm's theorem for rational numbers. No program in sight. -/
namespace Go.Proofs.YtlhapagililgmaaGreat
set_option linter.unusedSimpArgs false
set_option linter.unusedVariables false

def crs (a : List Rat) (x y : Rat) : Nat := if ev a x ≠ 0 ∧ ev a x * ev a y ≤ 0 then 1 else 0
theorem StC.cop1 {a b : List Rat} : ∀ {l}, StC (a :: b :: l) → copE a b
 | [], h => h.1
 | _ :: _, h => h.1
theorem Loc.tl {x y : Rat} {a b : List Rat} : ∀ {l}, Loc x y (a :: b :: l) → Loc x y (b :: l)
 | [], h => h
 | _ :: _, h => h.2
theorem vrL_cons (a : List Rat) (l : List (List Rat)) (x : Rat) : vrL (a :: l) x = vr (ev a x) (l.map fun q => ev q x) := by
 show (if ev a x * 0 < 0 then 1 else 0) + vr (if ev a x = 0 then 0 else ev a x) (l.map fun q => ev q x) = _
 rw [if_neg (show ¬ ev a x * 0 < 0 by grind)]
 split
 ·rename_i h; rw [h]; omega
 ·omega
theorem vr_ne {u s : Rat} (h : s ≠ 0) (l : List Rat) : vr u (s :: l) = (if s * u < 0 then 1 else 0) + vr s l := by rw [vr, if_neg h]
theorem near_step {R : Rat} (hR : 0 ≤ R) {a b : List Rat} {l : List (List Rat)} (hS : StC (a :: b :: l)) (hb : ∀ x, ev b x = ev (dL a) x) :
 Near R fun x y => x < y → vrL (a :: b :: l) x = vrL (a :: b :: l) y + crs a x y ∧ (¬ good a x y → 0 < (ev a y - ev a x) * ev b x) := by
 obtain ⟨c, c0, hc⟩ := cop_bd hR hS.cop1
 obtain ⟨K, k0, hK⟩ := ev_tay hR a
 obtain ⟨d, d0, hd⟩ := half k0 c0
 refine (((near_lip hR a c0).and (near_lip hR b c0)).and ((near_Loc hR _ hS).and (show Near R fun x y => ab (x - y) ≤ d from ⟨d, d0, fun _ _ _ _ h => h⟩))).mono fun x y hx hy ⟨⟨n1, n2⟩, n3, n4⟩ hxy => ?_
 by_cases ha : good a x y
 ·refine ⟨?_, fun h => absurd ha h⟩
  rw [vrL_cons, vrL_cons, tail_same _ a (b :: l) (Nat.lt_succ_self _) n3 ha]
  have : crs a x y = 0 := if_neg fun ⟨_, h⟩ => by unfold good at ha; grind
  omega
 ·obtain ⟨s1, s2⟩ := bad_small ha
  have b1 : c ≤ ab (ev b x) := (hc x hx).resolve_left (by grind)
  have gb : good b x y := good_of b1 n2
  have mono : 0 < (ev a y - ev a x) * ev b x := by
   have t := hK x y hx hy
   rw [← hb] at t
   obtain ⟨h, eh⟩ : ∃ h, y - x = h := ⟨_, rfl⟩
   have h0 : 0 < h := by grind
   have hab : ab h = h := if_pos (Std.le_of_lt h0)
   have hdd : h ≤ d := by
    have : ab (x - y) = h := by rw [ab_comm, eh, hab]
    grind
   rw [eh, hab] at t
   generalize ev a y - ev a x = D at t ⊢
   generalize ev b x = B at b1 t ⊢
   have k1 : K * h < c := by
    have : K * h ≤ K * d := Rat.mul_le_mul_of_nonneg_left hdd k0
    grind
   have e1 : D * B = h * (B * B) + (D - h * B) * B := by grind
   have e2 := ab_mul (D - h * B) B
   have e3 : ab (D - h * B) * ab B ≤ K * (h * h) * ab B := Rat.mul_le_mul_of_nonneg_right t (ab_nn B)
   have e4 : B * B = ab B * ab B := by unfold ab; split <;> grind
   have e5 : 0 < h * (ab B * (ab B - K * h)) := Rat.mul_pos h0 (Rat.mul_pos (by grind) (by grind))
   have e6 : -(ab ((D - h * B) * B)) ≤ (D - h * B) * B := (ab_le.1 (Std.le_refl _)).1
   rw [e1, e4]
   grind
  refine ⟨?_, fun _ => mono⟩
  have ih := tail_same _ b l (Nat.lt_succ_self _) n3.tl gb
  have x0 : ev b x ≠ 0 := fun e => by unfold good at gb; rw [e] at gb; grind
  have y0 : ev b y ≠ 0 := fun e => by unfold good at gb; rw [e] at gb; grind
  rw [vrL_cons, vrL_cons, List.map_cons, List.map_cons, vr_ne x0, vr_ne y0, ih]
  unfold crs
  have ng : ¬ 0 < ev a x * ev a y := ha
  have gb' : 0 < ev b x * ev b y := gb
  clear gb ha
  generalize ev a x = u at *
  generalize ev a y = v at *
  generalize ev b x = p at *
  generalize ev b y = q at *
  rcases pos_mul_iff.1 gb' with ⟨g1, g2⟩ | ⟨g1, g2⟩
  ·have m1 : v < u := by
    rcases pos_mul_iff.1 mono with ⟨m, _⟩ | ⟨_, m⟩ <;> grind
   have m2 : 0 ≤ u := by
    refine Rat.not_lt.1 fun h => ng (pos_mul_iff.2 (.inl ⟨h, by grind⟩))
   have m3 : v ≤ 0 := by
    refine Rat.not_lt.1 fun h => ng (pos_mul_iff.2 (.inr ⟨by grind, h⟩))
   rw [if_neg (show ¬ q * v < 0 by rw [neg_mul_iff]; grind)]
   by_cases hu : u = 0
   ·rw [if_neg (show ¬ p * u < 0 by rw [hu]; grind), if_neg (fun h => h.1 hu)]; omega
   ·rw [if_pos (show p * u < 0 by rw [neg_mul_iff]; grind), if_pos ⟨hu, Rat.not_lt.1 ng⟩]; omega
  ·have m1 : u < v := by
    rcases pos_mul_iff.1 mono with ⟨_, m⟩ | ⟨m, _⟩ <;> grind
   have m2 : u ≤ 0 := by
    refine Rat.not_lt.1 fun h => ng (pos_mul_iff.2 (.inr ⟨h, by grind⟩))
   have m3 : 0 ≤ v := by
    refine Rat.not_lt.1 fun h => ng (pos_mul_iff.2 (.inl ⟨by grind, h⟩))
   rw [if_neg (show ¬ q * v < 0 by rw [neg_mul_iff]; grind)]
   by_cases hu : u = 0
   ·rw [if_neg (show ¬ p * u < 0 by rw [hu]; grind), if_neg (fun h => h.1 hu)]; omega
   ·rw [if_pos (show p * u < 0 by rw [neg_mul_iff]; grind), if_pos ⟨hu, Rat.not_lt.1 ng⟩]; omega
def pt (lo hi : Rat) (n i : Nat) : Rat := lo + (i : Rat) * ((hi - lo) * (n : Rat)⁻¹)
theorem arch (x : Rat) : ∃ N : Nat, x ≤ (N : Rat) := by
 have h1 : x < ((x.floor + 1 : Int) : Rat) := Rat.lt_floor_add_one x
 have h2 : (x.floor + 1 : Int) ≤ ((x.floor + 1).natAbs : Int) := Int.le_natAbs
 have h3 : ((x.floor + 1 : Int) : Rat) ≤ (((x.floor + 1).natAbs : Int) : Rat) := Rat.intCast_le_intCast.2 h2
 exact ⟨(x.floor + 1).natAbs, by
  have e : (((x.floor + 1).natAbs : Int) : Rat) = ((x.floor + 1).natAbs : Rat) := rfl
  grind⟩
theorem pt_facts {lo hi : Rat} (h : lo < hi) {n : Nat} (hn : 1 ≤ n) : pt lo hi n 0 = lo ∧ pt lo hi n n = hi ∧ ∀ i, pt lo hi n i < pt lo hi n (i + 1) ∧ (i ≤ n → lo ≤ pt lo hi n i ∧ pt lo hi n i ≤ hi) := by
 have n0 : (0 : Rat) < (n : Rat) := by exact_mod_cast hn
 have hm : (n : Rat) * (n : Rat)⁻¹ = 1 := Rat.mul_inv_cancel _ (by grind)
 have hi0 : 0 < (n : Rat)⁻¹ := Rat.inv_pos.2 n0
 unfold pt
 generalize (n : Rat)⁻¹ = y at hm hi0
 have hs : 0 < (hi - lo) * y := Rat.mul_pos (by grind) hi0
 have e1 : (n : Rat) * ((hi - lo) * y) = hi - lo := by
  have : (n : Rat) * ((hi - lo) * y) = (hi - lo) * ((n : Rat) * y) := by grind
  rw [this, hm]; grind
 refine ⟨by show lo + ((0 : Nat) : Rat) * _ = lo; have : ((0 : Nat) : Rat) = 0 := rfl; grind, by grind, fun i => ⟨?_, fun hin => ?_⟩⟩
 ·have : ((i + 1 : Nat) : Rat) = (i : Rat) + 1 := by push_cast; rfl
  rw [this]; grind
 ·have i0 : (0 : Rat) ≤ (i : Rat) := by exact_mod_cast Nat.zero_le _
  have i1 : (i : Rat) ≤ (n : Rat) := by exact_mod_cast hin
  have a1 := Rat.mul_nonneg i0 (Std.le_of_lt hs)
  have a2 : (i : Rat) * ((hi - lo) * y) ≤ (n : Rat) * ((hi - lo) * y) := Rat.mul_le_mul_of_nonneg_right i1 (Std.le_of_lt hs)
  grind
theorem fine {lo hi : Rat} (h : lo < hi) {P : Rat → Rat → Prop} (hP : Near (ab lo + ab hi) P) : ∃ N, 1 ≤ N ∧ ∀ n, N ≤ n → ∀ i, i < n → P (pt lo hi n i) (pt lo hi n (i + 1)) := by
 obtain ⟨d, d0, hd⟩ := hP
 obtain ⟨N, hN⟩ := arch ((hi - lo) * d⁻¹)
 refine ⟨N + 1, by omega, fun n hn i hi' => ?_⟩
 obtain ⟨f1, f2, f3⟩ := pt_facts h (n := n) (by omega)
 have bd : ∀ x, lo ≤ x → x ≤ hi → ab x ≤ ab lo + ab hi := fun x h1 h2 => by unfold ab; split <;> split <;> split <;> grind
 obtain ⟨g1, g2⟩ := f3 i
 obtain ⟨_, g3⟩ := f3 (i + 1)
 obtain ⟨a1, a2⟩ := g2 (by omega)
 obtain ⟨a3, a4⟩ := g3 (by omega)
 refine hd _ _ (bd _ a1 a2) (bd _ a3 a4) ?_
 have n0 : (0 : Rat) < (n : Rat) := by exact_mod_cast (show 0 < n by omega)
 have nN : (N : Rat) ≤ (n : Rat) := by exact_mod_cast (show N ≤ n by omega)
 have hm : (n : Rat) * (n : Rat)⁻¹ = 1 := Rat.mul_inv_cancel _ (by grind)
 have hi0 : 0 < (n : Rat)⁻¹ := Rat.inv_pos.2 n0
 have dm : d * d⁻¹ = 1 := Rat.mul_inv_cancel _ (by grind)
 have e : pt lo hi n i - pt lo hi n (i + 1) = -((hi - lo) * (n : Rat)⁻¹) := by
  unfold pt
  have : ((i + 1 : Nat) : Rat) = (i : Rat) + 1 := by push_cast; rfl
  rw [this]; grind
 rw [e, ab_neg]
 generalize (n : Rat)⁻¹ = y at hm hi0 ⊢
 generalize d⁻¹ = z at hN dm
 have hs : 0 < (hi - lo) * y := Rat.mul_pos (by grind) hi0
 rw [show ab ((hi - lo) * y) = (hi - lo) * y from if_pos (Std.le_of_lt hs)]
 have k1 : hi - lo = ((hi - lo) * z) * d := by
  have : ((hi - lo) * z) * d = (hi - lo) * (d * z) := by grind
  rw [this, dm]; grind
 have k2 : ((hi - lo) * z) * d ≤ (n : Rat) * d := Rat.mul_le_mul_of_nonneg_right (by grind) (Std.le_of_lt d0)
 have k3 : (hi - lo) * y ≤ ((n : Rat) * d) * y := Rat.mul_le_mul_of_nonneg_right (by grind) (Std.le_of_lt hi0)
 have k4 : ((n : Rat) * d) * y = d := by
  have : ((n : Rat) * d) * y = d * ((n : Rat) * y) := by grind
  rw [this, hm]; grind
 grind
def sN : Nat → (Nat → Nat) → Nat
 | 0, _ => 0
 | n + 1, f => sN n f + f n
theorem sN_last {f : Nat → Nat} {n : Nat} (h : 1 ≤ n) : f (n - 1) ≤ sN n f := by
 cases n with
 | zero => omega
 | succ n => rw [sN]; show f n ≤ _; omega
theorem glob {a b : List Rat} {l : List (List Rat)} (hS : StC (a :: b :: l)) (hb : ∀ x, ev b x = ev (dL a) x) {lo hi : Rat} (h : lo < hi) {P : Rat → Rat → Prop} (hP : Near (ab lo + ab hi) P) :
 ∃ n, 1 ≤ n ∧ vrL (a :: b :: l) lo = vrL (a :: b :: l) hi + sN n (fun i => crs a (pt lo hi n i) (pt lo hi n (i + 1))) ∧ ∀ i, i < n → P (pt lo hi n i) (pt lo hi n (i + 1)) ∧ (¬ good a (pt lo hi n i) (pt lo hi n (i + 1)) → 0 < (ev a (pt lo hi n (i + 1)) - ev a (pt lo hi n i)) * ev b (pt lo hi n i)) := by
 have hR : 0 ≤ ab lo + ab hi := by have := ab_nn lo; have := ab_nn hi; grind
 obtain ⟨n, n1, hn⟩ := fine h ((near_step hR hS hb).and hP)
 have hn := hn n (Nat.le_refl _)
 obtain ⟨f1, f2, f3⟩ := pt_facts h n1
 refine ⟨n, n1, ?_, fun i hi => ⟨(hn i hi).2, ((hn i hi).1 (f3 i).1).2⟩⟩
 have key : ∀ k, k ≤ n → vrL (a :: b :: l) lo = vrL (a :: b :: l) (pt lo hi n k) + sN k (fun i => crs a (pt lo hi n i) (pt lo hi n (i + 1))) := fun k => by
  induction k with
  | zero => exact fun _ => by rw [f1]; rfl
  | succ k ih =>
    intro hk
    have h1 := ih (by omega)
    have h2 := ((hn k (by omega)).1 (f3 k).1).1
    rw [sN]
    omega
 have := key n (Nat.le_refl n)
 rwa [f2] at this
variable {a b : List Rat} {l : List (List Rat)}
theorem var_le (hS : StC (a :: b :: l)) (hb : ∀ x, ev b x = ev (dL a) x) {lo hi : Rat} (h : lo ≤ hi) : vrL (a :: b :: l) hi ≤ vrL (a :: b :: l) lo := by
 by_cases e : lo = hi
 ·rw [e]; exact Nat.le_refl _
 ·obtain ⟨n, _, h1, _⟩ := glob hS hb (show lo < hi by grind) (Near.all (P := fun _ _ => True) fun _ _ _ _ => trivial)
  omega
theorem var_root (hS : StC (a :: b :: l)) (hb : ∀ x, ev b x = ev (dL a) x) {lo r : Rat} (h : lo < r) (hr : ev a r = 0) : vrL (a :: b :: l) r + 1 ≤ vrL (a :: b :: l) lo := by
 obtain ⟨n, n1, h1, h2⟩ := glob hS hb h (Near.all (P := fun _ _ => True) fun _ _ _ _ => trivial)
 obtain ⟨f1, f2, f3⟩ := pt_facts h n1
 have hl := sN_last (f := fun i => crs a (pt lo r n i) (pt lo r n (i + 1))) n1
 have e : n - 1 + 1 = n := by omega
 have h3 := (h2 (n - 1) (by omega)).2
 simp only [e, f2] at hl h3
 have ng : ¬ good a (pt lo r n (n - 1)) r := fun g => by unfold good at g; rw [hr] at g; grind
 have h3 := h3 ng
 have x0 : ev a (pt lo r n (n - 1)) ≠ 0 := fun e => by rw [e, hr] at h3; grind
 have : crs a (pt lo r n (n - 1)) r = 1 := if_pos ⟨x0, by rw [hr]; grind⟩
 omega
end Go.Proofs.YtlhapagililgmaaGreat


/- Sturm's theorem: how many of the given roots lie between two numbers. No program in sight. -/
namespace Go.Proofs.YtlhapagililgmaaGreat
set_option linter.unusedSimpArgs false
set_option linter.unusedVariables false

def prodR : List Rat → Rat → Rat
 | [], _ => 1
 | r :: l, x => (x - r) * prodR l x
end Go.Proofs.YtlhapagililgmaaGreat


/- Sturm chains of polynomials. No program in sight. -/
namespace Go.Proofs.YtlhapagililgmaaGreat
set_option linter.unusedSimpArgs false
set_option linter.unusedVariables false

def stF : Nat → List Rat → List Rat → List (List Rat)
 | 0, _, _ => []
 | n + 1, a, b => if a = [] then [] else a :: stF n b (if b = [] then [] else pSc (-1) (pMod a b))
def stL (a b : List Rat) : List (List Rat) := stF (b.length + 2) a b
def nxt (a b : List Rat) : List Rat := if b = [] then [] else pSc (-1) (pMod a b)
theorem can_nxt (a b : List Rat) : Can (nxt a b) := by
 unfold nxt
 split
 ·exact Can_nil
 ·exact can_pSc _ _
theorem nxt_len {a b : List Rat} (ha : Can a) (hb : Can b) (h : b ≠ []) : (nxt a b).length < b.length := by
 unfold nxt
 rw [if_neg h]
 have := (dm_ok ha hb h).2.1
 have := len_pSc (-1) (pMod a b)
 omega
theorem nxt_ev {a b : List Rat} (ha : Can a) (hb : Can b) (h : b ≠ []) (x : Rat) : ev a x + ev (nxt a b) x = ev (pDiv a b) x * ev b x := by
 unfold nxt
 rw [if_neg h, ev_pSc]
 have := (dm_ok ha hb h).2.2 x
 grind
theorem stF_nil (n : Nat) (b : List Rat) : stF n [] b = [] := by cases n <;> rfl
theorem stF_cons {n : Nat} {a b : List Rat} (h : a ≠ []) : stF (n + 1) a b = a :: stF n b (nxt a b) := if_neg h
theorem stF_fuel : ∀ (n m : Nat) (a b : List Rat), Can a → Can b → b.length + 2 ≤ n → b.length + 2 ≤ m → stF n a b = stF m a b
 | 0, _, _, _, _, _, h, _ => by omega
 | n + 1, 0, _, _, _, _, _, h => by omega
 | n + 1, m + 1, a, b, ha, hb, h1, h2 => by
   by_cases a0 : a = []
   ·rw [a0, stF_nil, stF_nil]
   ·rw [stF_cons a0, stF_cons a0]
    congr 1
    by_cases b0 : b = []
    ·rw [b0, stF_nil, stF_nil]
    ·have := nxt_len ha hb b0
     exact stF_fuel n m b _ hb (can_nxt a b) (by omega) (by omega)
theorem stL_nil (b : List Rat) : stL [] b = [] := stF_nil _ _
theorem stL_cons {a b : List Rat} (ha : Can a) (hb : Can b) (h : a ≠ []) : stL a b = a :: stL b (nxt a b) := by
 unfold stL
 rw [stF_cons h]
 congr 1
 by_cases b0 : b = []
 ·rw [b0, stF_nil, stF_nil]
 ·have := nxt_len ha hb b0
  exact stF_fuel _ _ b _ hb (can_nxt a b) (by omega) (by omega)
theorem stL_len {a b : List Rat} (ha : Can a) (hb : Can b) : (stL a b).length ≤ b.length + 1 := by
 have key : ∀ (n : Nat) (a b : List Rat), Can a → Can b → b.length < n → (stL a b).length ≤ b.length + 1 := fun n => by
  induction n with
  | zero => intro a b _ _ h; omega
  | succ n ih =>
    intro a b ha hb h
    by_cases a0 : a = []
    ·rw [a0, stL_nil]; simp
    ·rw [stL_cons ha hb a0, List.length_cons]
     by_cases b0 : b = []
     ·rw [b0, stL_nil]; simp
     ·have h1 := nxt_len ha hb b0
      have := ih b (nxt a b) hb (can_nxt a b) (by omega)
      omega
 exact key _ a b ha hb (Nat.lt_succ_self _)
theorem copE_one {a : List Rat} (ha : Can a) (h : copE a []) : ∃ d, d ≠ 0 ∧ ∀ x, ev a x = d := by
 obtain ⟨u, v, h⟩ := h
 have e : ∀ x, ev u x * ev a x = 1 := fun x => by have := h x; rw [show ev [] x = 0 from rfl] at this; grind
 have a0 : a ≠ [] := fun e0 => by have := e 0; rw [e0, show ev [] (0 : Rat) = 0 from rfl] at this; grind
 have u0 : tr u ≠ [] := fun e0 => by have := e 0; rw [← ev_tr, e0, show ev [] (0 : Rat) = 0 from rfl] at this; grind
 have e1 : pMul (tr u) a = [1] := ev_inj (can_pMul _ _) (by rw [Can_cons]; simp) fun x => by
  rw [ev_pMul, ev_tr, e x]
  show (1 : Rat) = 1 + x * 0
  grind
 have hl := len_pMul (tr_can u) ha u0 a0
 rw [e1] at hl
 have l1 : 1 ≤ (tr u).length := List.length_pos_iff.2 u0
 have l2 : 1 ≤ a.length := List.length_pos_iff.2 a0
 simp only [List.length_cons, List.length_nil] at hl
 match a, ha, a0, hl, l2 with
 | [c], ha, _, _, _ =>
   rw [Can_cons, if_pos rfl] at ha
   exact ⟨c, ha, fun x => by show c + x * 0 = c; grind⟩
 | c :: d :: l, _, _, hl, _ => simp only [List.length_cons] at hl; omega
theorem copE_nxt {a b : List Rat} (ha : Can a) (hb : Can b) (b0 : b ≠ []) (h : copE a b) : copE b (nxt a b) := by
 obtain ⟨u, v, h⟩ := h
 refine ⟨addL (mulL u (pDiv a b)) v, scL (-1) u, fun x => ?_⟩
 rw [ev_addL, ev_mulL, ev_scL]
 have h1 := nxt_ev ha hb b0 x
 have h2 := h x
 grind
theorem stL_StC {a b : List Rat} (ha : Can a) (hb : Can b) (h : copE a b) (a0 : a ≠ []) : StC (stL a b) := by
 have key : ∀ (n : Nat) (a b : List Rat), Can a → Can b → b.length < n → copE a b → a ≠ [] → StC (stL a b) := fun n => by
  induction n with
  | zero => intro a b _ _ h; omega
  | succ n ih =>
    intro a b ha hb hn h a0
    rw [stL_cons ha hb a0]
    by_cases b0 : b = []
    ·rw [b0, stL_nil]
     rw [b0] at h
     exact copE_one ha h
    ·have h1 := nxt_len ha hb b0
     have h2 := copE_nxt ha hb b0 h
     have h3 := ih b (nxt a b) hb (can_nxt a b) (by omega) h2 b0
     by_cases r0 : nxt a b = []
     ·rw [r0] at h2 ⊢
      rw [stL_cons hb Can_nil b0, stL_nil]
      exact ⟨h, copE_one hb h2⟩
     ·have e := stL_cons hb (can_nxt a b) b0
      rw [e, stL_cons (can_nxt a b) (can_nxt b (nxt a b)) r0] at h3 ⊢
      exact ⟨h, h2, ⟨pDiv a b, fun x => nxt_ev ha hb b0 x⟩, h3⟩
 exact key _ a b ha hb (Nat.lt_succ_self _) h a0
theorem ev_pDiff_dL (a : List Rat) (x : Rat) : ev (pDiff a) x = ev (dL a) x := ev_pDiff a x
theorem stL_sq {a : List Rat} (ha : Can a) (h2 : 2 ≤ a.length) (h : copE a (pDiff a)) : ∃ l, stL a (pDiff a) = a :: pDiff a :: l ∧ StC (a :: pDiff a :: l) := by
 have a0 : a ≠ [] := fun e => by rw [e] at h2; simp at h2
 have hd := can_pDiff a
 have d0 : pDiff a ≠ [] := fun e => by
  have := len_pDiff ha
  rw [e] at this
  simp at this
  omega
 have := stL_StC ha hd h a0
 rw [stL_cons ha hd a0, stL_cons hd (can_nxt a (pDiff a)) d0] at this ⊢
 exact ⟨_, rfl, this⟩
theorem stL_const {a : List Rat} (ha : Can a) (h1 : a.length = 1) : stL a (pDiff a) = [a] := by
 have a0 : a ≠ [] := fun e => by rw [e] at h1; simp at h1
 have d0 : pDiff a = [] := List.eq_nil_of_length_eq_zero (by have := len_pDiff ha; omega)
 rw [stL_cons ha (can_pDiff a) a0, d0, stL_nil]
theorem vr_scale {c : Rat} (h : c ≠ 0) : ∀ (l : List Rat) (u : Rat), vr (c * u) (l.map fun s => c * s) = vr u l
 | [], _ => rfl
 | s :: l, u => by
   have cc : 0 < c * c := by
    rcases sgn_cases c with h1 | h1 | h1
    ·exact pos_mul_iff.2 (.inl ⟨h1, h1⟩)
    ·exact absurd h1 h
    ·exact pos_mul_iff.2 (.inr ⟨h1, h1⟩)
   have e1 : (c * s * (c * u) < 0) ↔ (s * u < 0) := by
    have : c * s * (c * u) = (c * c) * (s * u) := by grind
    rw [this, neg_mul_iff]
    constructor
    ·rintro (⟨h1, h2⟩ | ⟨h1, h2⟩)
     ·grind
     ·exact h2
    ·exact fun h => .inr ⟨cc, h⟩
   have e2 : (c * s = 0) ↔ s = 0 := by
    rw [Rat.mul_eq_zero]
    exact ⟨fun h1 => h1.resolve_left h, .inr⟩
   rw [List.map_cons, vr, vr]
   by_cases hs : s = 0
   ·rw [if_pos (e2.2 hs), if_pos hs, vr_scale h l u]
    simp only [e1]
   ·rw [if_neg (fun h1 => hs (e2.1 h1)), if_neg hs, vr_scale h l s]
    simp only [e1]
theorem nxt_sc {c : Rat} (h : c ≠ 0) {a b : List Rat} (ha : Can a) (hb : Can b) : nxt (pSc c a) (pSc c b) = pSc c (nxt a b) := by
 by_cases b0 : b = []
 ·subst b0
  rfl
 ·have cb0 : pSc c b ≠ [] := fun e => by
   have := len_pSc' h hb
   rw [e] at this
   exact b0 (List.eq_nil_of_length_eq_zero this.symm)
  obtain ⟨⟨d1, d2⟩, d3, d4⟩ := dm_ok ha hb b0
  have hm := (dm_eq (a := pSc c a) (b := pSc c b) (q := pDiv a b) (r := pSc c (pMod a b)) (can_pSc _ _) (can_pSc _ _) d1 (can_pSc _ _) (by rw [len_pSc' h d2, len_pSc' h hb]; exact d3) (fun x => by rw [ev_pSc, ev_pSc, ev_pSc, ← d4 x]; grind)).2
  unfold nxt
  rw [if_neg b0, if_neg cb0, hm]
  exact ev_inj (can_pSc _ _) (can_pSc _ _) fun x => by rw [ev_pSc, ev_pSc, ev_pSc, ev_pSc]; grind
theorem stL_sc {c : Rat} (h : c ≠ 0) : ∀ (n : Nat) (a b : List Rat), Can a → Can b → b.length < n → stL (pSc c a) (pSc c b) = (stL a b).map (pSc c)
 | 0, _, _, _, _, hn => by omega
 | n + 1, a, b, ha, hb, hn => by
   by_cases a0 : a = []
   ·subst a0; rfl
   ·have ca0 : pSc c a ≠ [] := fun e => by
     have := len_pSc' h ha
     rw [e] at this
     exact a0 (List.eq_nil_of_length_eq_zero this.symm)
    rw [stL_cons ha hb a0, stL_cons (can_pSc _ _) (can_pSc _ _) ca0, List.map_cons, nxt_sc h ha hb]
    congr 1
    by_cases b0 : b = []
    ·subst b0; rfl
    ·have := nxt_len ha hb b0
     exact stL_sc h n b (nxt a b) hb (can_nxt a b) (by omega)
theorem vrL_sc {c : Rat} (h : c ≠ 0) (l : List (List Rat)) (x : Rat) : vrL (l.map (pSc c)) x = vrL l x := by
 unfold vrL
 rw [List.map_map]
 have e : (l.map ((fun q => ev q x) ∘ pSc c)) = (l.map fun q => ev q x).map fun s => c * s := by
  rw [List.map_map]
  refine List.map_congr_left fun q _ => ?_
  show ev (pSc c q) x = c * ev q x
  rw [ev_pSc]
 rw [e]
 have := vr_scale h (l.map fun q => ev q x) 0
 rwa [show c * 0 = 0 by grind] at this
theorem vrL_le : ∀ (l : List (List Rat)) (x : Rat), vrL l x ≤ l.length - 1 := fun l x => by
 have key : ∀ (m : List Rat) (u : Rat), vr u m ≤ m.length := fun m => by
  induction m with
  | nil => exact fun _ => Nat.le_refl _
  | cons s m ih =>
    intro u
    rw [vr, List.length_cons]
    have := ih (if s = 0 then u else s)
    split <;> omega
 cases l with
 | nil => exact Nat.le_refl _
 | cons a l =>
   rw [vrL_cons]
   have := key (l.map fun q => ev q x) (ev a x)
   rw [List.length_map] at this
   simpa using this
end Go.Proofs.YtlhapagililgmaaGreat


/- The squarefree part of a polynomial, and its chain. No program in sight. -/
namespace Go.Proofs.YtlhapagililgmaaGreat
set_option linter.unusedSimpArgs false
set_option linter.unusedVariables false

theorem cop.toE {a b : List Rat} (h : cop a b) : copE a b := by
 obtain ⟨u, v, _, h⟩ := h
 exact ⟨u, v, h⟩
theorem sqp_fac {a : List Rat} (ha : Can a) {c : Rat} {l : Fac} (hc : c ≠ 0) (hl : Good l) (e : ∀ x, ev a x = c * ev (PwL l) x) : sqp a = pSc c (PiL l) := by
 have e1 : a = pSc c (PwL l) := ev_inj ha (can_pSc _ _) fun x => by rw [e x, ev_pSc]
 obtain ⟨g1, g0⟩ := lead_GL hl
 obtain ⟨r1, r2, r3⟩ := gcd_out ha (can_pDiff a) (can_GL l) (can_pSc c (PiL l)) (can_pSc c (WL (fun e => (e : Rat)) l)) g0 g1 (fun x => by rw [e x, GL_Pi hl x, ev_pSc]; grind) (fun x => by
  rw [e1, ev_pDiff_sc, diff_PwL hl x, ev_pSc]; grind) (cop.sc hc (cop.symm (cop.sc hc (cop.symm (cop_W hl fun y hy h => by
   have h1 := (hl.mem y hy).2
   have h3 : (y.2 : Rat) = ((0 : Nat) : Rat) := h
   have : y.2 = 0 := by exact_mod_cast h3
   omega)))))
 unfold sqp
 rw [r1, r2]
theorem facOf {a : List Rat} (ha : Can a) (a0 : a ≠ []) : ∃ (c : Rat) (l : Fac), (c ≠ 0 ∧ Good l) ∧ (∀ x, ev a x = c * ev (PwL l) x) ∧ sqp a = pSc c (PiL l) := by
 obtain ⟨c, l, hc, hl, e⟩ := factor _ a (Nat.le_refl _) ha a0
 exact ⟨c, l, ⟨hc, hl⟩, e, sqp_fac ha hc hl e⟩
theorem sqp_can {a : List Rat} (ha : Can a) (a0 : a ≠ []) : Can (sqp a) ∧ sqp a ≠ [] := by
 obtain ⟨c, l, ⟨hc, hl⟩, _, e⟩ := facOf ha a0
 rw [e]
 obtain ⟨_, p0, _⟩ := lead_PiL hl
 refine ⟨can_pSc _ _, fun h => p0 ?_⟩
 have := len_pSc' hc (can_PiL l)
 rw [h] at this
 exact List.eq_nil_of_length_eq_zero this.symm
theorem sqp_cop {a : List Rat} (ha : Can a) (a0 : a ≠ []) : copE (sqp a) (pDiff (sqp a)) := by
 obtain ⟨c, l, ⟨hc, hl⟩, _, e⟩ := facOf ha a0
 have h := PiL_sqf hl
 have e2 : pDiff (pSc c (PiL l)) = pSc c (pDiff (PiL l)) := ev_inj (can_pDiff _) (can_pSc _ _) fun x => by rw [ev_pDiff_sc, ev_pSc]
 rw [e, e2]
 exact (cop.sc hc (cop.symm (cop.sc hc (cop.symm h)))).toE
theorem sqp_le {a : List Rat} (ha : Can a) (a0 : a ≠ []) : (sqp a).length ≤ a.length := by
 obtain ⟨c, l, ⟨hc, hl⟩, e1, e⟩ := facOf ha a0
 have e2 : a = pSc c (PwL l) := ev_inj ha (can_pSc _ _) fun x => by rw [e1 x, ev_pSc]
 rw [e, e2, len_pSc' hc (can_PiL l), len_pSc' hc (can_PwL l)]
 exact PiL_len hl
theorem rat_pow_zero {x : Rat} : ∀ {n : Nat}, 1 ≤ n → (x ^ n = 0 ↔ x = 0)
 | 0, h => by omega
 | 1, _ => by rw [Rat.pow_succ, Rat.pow_zero, Rat.one_mul]
 | n + 2, _ => by
   rw [Rat.pow_succ, Rat.mul_eq_zero, rat_pow_zero (n := n + 1) (by omega)]
   exact ⟨fun h => h.elim id id, .inl⟩
theorem PwL_root (x : Rat) : ∀ l : Fac, (∀ y ∈ l, 1 ≤ y.2) → (ev (PwL l) x = 0 ↔ ev (PiL l) x = 0)
 | [], _ => Iff.rfl
 | y :: l, h => by
   rw [PwL, PiL, ev_pMul, ev_pMul, ev_pwr, Rat.mul_eq_zero, Rat.mul_eq_zero, rat_pow_zero (h y (by simp)), PwL_root x l fun z hz => h z (by simp [hz])]
theorem sqp_root {a : List Rat} (ha : Can a) (a0 : a ≠ []) (x : Rat) : ev (sqp a) x = 0 ↔ ev a x = 0 := by
 obtain ⟨c, l, ⟨hc, hl⟩, e1, e⟩ := facOf ha a0
 rw [e, ev_pSc, e1, Rat.mul_eq_zero, Rat.mul_eq_zero, PwL_root x l fun y hy => (hl.mem y hy).2]
def chS (p : List Rat) : List (List Rat) := stL (sqp p) (pDiff (sqp p))
def vrS (p : List Rat) (x : Rat) : Nat := vrL (chS p) x
theorem chS_cases {p : List Rat} (hp : Can p) (p0 : p ≠ []) : (∃ d, d ≠ 0 ∧ chS p = [sqp p] ∧ ∀ x, ev (sqp p) x = d) ∨ (∃ l, chS p = sqp p :: pDiff (sqp p) :: l ∧ StC (sqp p :: pDiff (sqp p) :: l)) := by
 obtain ⟨h1, h2⟩ := sqp_can hp p0
 have h3 := sqp_cop hp p0
 by_cases hl : 2 ≤ (sqp p).length
 ·exact .inr (stL_sq h1 hl h3)
 ·have l1 : (sqp p).length = 1 := by have := List.length_pos_iff.2 h2; omega
  obtain ⟨d, d0, e⟩ := len_one h1 l1
  exact .inl ⟨d, d0, stL_const h1 l1, fun x => by rw [e, ev_sing]⟩
theorem vr_one (a : List Rat) (x : Rat) : vrL [a] x = 0 := by rw [vrL_cons]; rfl
theorem vrS_le {p : List Rat} (hp : Can p) (p0 : p ≠ []) {lo hi : Rat} (h : lo ≤ hi) : vrS p hi ≤ vrS p lo := by
 unfold vrS
 rcases chS_cases hp p0 with ⟨d, _, e, _⟩ | ⟨l, e, hS⟩
 ·rw [e, vr_one, vr_one]; exact Nat.le_refl _
 ·rw [e]
  exact var_le hS (ev_pDiff_dL _) h
theorem vrS_root {p : List Rat} (hp : Can p) (p0 : p ≠ []) {lo r : Rat} (h : lo < r) (hr : ev p r = 0) : vrS p r + 1 ≤ vrS p lo := by
 unfold vrS
 have hr := (sqp_root hp p0 r).2 hr
 rcases chS_cases hp p0 with ⟨d, d0, e, hd⟩ | ⟨l, e, hS⟩
 ·rw [hd] at hr; exact absurd hr d0
 ·rw [e]
  exact var_root hS (ev_pDiff_dL _) h hr
theorem chS_len {p : List Rat} (hp : Can p) (p0 : p ≠ []) : (chS p).length ≤ p.length := by
 obtain ⟨h1, h2⟩ := sqp_can hp p0
 have h3 := stL_len h1 (can_pDiff (sqp p))
 have h4 := len_pDiff h1
 have h5 := sqp_le hp p0
 have h6 := List.length_pos_iff.2 h2
 unfold chS
 omega
theorem vrS_deg {p : List Rat} (hp : Can p) (p0 : p ≠ []) (x : Rat) : vrS p x ≤ p.length - 1 := by
 have h1 := vrL_le (chS p) x
 have h2 := chS_len hp p0
 unfold vrS
 omega
theorem pDiff_sc {c : Rat} (a : List Rat) : pDiff (pSc c a) = pSc c (pDiff a) := ev_inj (can_pDiff _) (can_pSc _ _) fun x => by rw [ev_pDiff_sc, ev_pSc]
end Go.Proofs.YtlhapagililgmaaGreat


/- Integral multiples of polynomials, and their signs: the numbers. No program in sight. -/
namespace Go.Proofs.YtlhapagililgmaaGreat
set_option linter.unusedSimpArgs false
set_option linter.unusedVariables false
open Go.RowKit

theorem rat_md (q : Rat) : q * (q.den : Rat) = (q.num : Rat) := by
 have h1 := Rat.num_divInt_den q
 rw [Rat.divInt_eq_div] at h1
 have e : (((q.den : Int)) : Rat) = (q.den : Rat) := rfl
 rw [e] at h1
 have h2 : (q.den : Rat) ≠ 0 := fun e => by
  have := q.den_pos
  have : q.den = 0 := by exact_mod_cast e
  omega
 have h3 : (q.den : Rat)⁻¹ * (q.den : Rat) = 1 := Rat.inv_mul_cancel _ h2
 rw [Rat.div_def] at h1
 generalize (q.den : Rat) = d at *
 generalize (q.num : Rat) = n at *
 grind
def dnL (p : List Rat) : Nat → Int
 | 0 => 1
 | n + 1 => dnL p n * (((cf p n).den : Int) / ((Nat.gcd (dnL p n).natAbs (cf p n).den : Nat) : Int))
def ogI (p : List Rat) (i : Nat) : Int := (cf p i).num * (dnL p p.length / ((cf p i).den : Int))
def cmL (p : List Rat) : Nat → Int
 | 0 => 0
 | n + 1 => ((Nat.gcd (cmL p n).natAbs (ogI p n).natAbs : Nat) : Int)
def igL (p : List Rat) : List Int := (List.range p.length).map fun i => ogI p i / cmL p p.length
theorem dnL_pos (p : List Rat) : ∀ n, 0 < dnL p n
 | 0 => Int.one_pos
 | n + 1 => by
   have h1 := dnL_pos p n
   have h2 := (cf p n).den_pos
   have h3 : 0 < Nat.gcd (dnL p n).natAbs (cf p n).den := Nat.gcd_pos_of_pos_right _ h2
   have h4 : 0 < (cf p n).den / Nat.gcd (dnL p n).natAbs (cf p n).den := Nat.div_pos (Nat.gcd_le_right _ h2) h3
   rw [dnL, ← Int.natCast_ediv]
   exact Int.mul_pos h1 (by exact_mod_cast h4)
theorem dnL_dvd (p : List Rat) : ∀ n i, i < n → ((cf p i).den : Int) ∣ dnL p n
 | 0, i, h => absurd h (Nat.not_lt_zero _)
 | n + 1, i, h => by
   by_cases hi : i < n
   ·rw [dnL]
    exact Int.dvd_trans (dnL_dvd p n i hi) (Int.dvd_mul_right _ _)
   ·obtain rfl : i = n := by omega
    have g1 : ((Nat.gcd (dnL p i).natAbs (cf p i).den : Nat) : Int) ∣ dnL p i := Int.ofNat_dvd_left.2 (Nat.gcd_dvd_left _ _)
    have g2 : ((Nat.gcd (dnL p i).natAbs (cf p i).den : Nat) : Int) ∣ ((cf p i).den : Int) := by exact_mod_cast Nat.gcd_dvd_right _ _
    rw [dnL]
    obtain ⟨u, hu⟩ := g1
    obtain ⟨v, hv⟩ := g2
    have h2 := (cf p i).den_pos
    have g0 : ((Nat.gcd (dnL p i).natAbs (cf p i).den : Nat) : Int) ≠ 0 := by
     have := Nat.gcd_pos_of_pos_right (dnL p i).natAbs h2
     omega
    generalize ((Nat.gcd (dnL p i).natAbs (cf p i).den : Nat) : Int) = g at *
    refine ⟨u, ?_⟩
    rw [hu, hv, Int.mul_ediv_cancel_left _ g0]
    grind
theorem cmL_nn (p : List Rat) : ∀ n, 0 ≤ cmL p n
 | 0 => Int.le_refl 0
 | n + 1 => by rw [cmL]; omega
theorem cmL_dvd (p : List Rat) : ∀ n i, i < n → cmL p n ∣ ogI p i
 | 0, i, h => absurd h (Nat.not_lt_zero _)
 | n + 1, i, h => by
   by_cases hi : i < n
   ·rw [cmL]
    exact Int.dvd_trans (Int.ofNat_dvd_left.2 (Nat.gcd_dvd_left _ _)) (cmL_dvd p n i hi)
   ·obtain rfl : i = n := by omega
    rw [cmL]
    exact Int.ofNat_dvd_left.2 (Nat.gcd_dvd_right _ _)
theorem ogI_ne {p : List Rat} {i : Nat} (hi : i < p.length) (h : cf p i ≠ 0) : ogI p i ≠ 0 := by
 obtain ⟨u, hu⟩ := dnL_dvd p p.length i hi
 have h1 := dnL_pos p p.length
 have h2 := (cf p i).den_pos
 have h3 : ((cf p i).den : Int) ≠ 0 := by omega
 have h4 : (cf p i).num ≠ 0 := fun e => h (Rat.num_eq_zero.1 e)
 unfold ogI
 rw [hu] at h1 ⊢
 rw [Int.mul_ediv_cancel_left _ h3]
 refine Int.mul_ne_zero h4 fun e => ?_
 rw [e] at h1
 omega
theorem cmL_pos {p : List Rat} (hp : Can p) (p0 : p ≠ []) : 0 < cmL p p.length := by
 have hl := List.length_pos_iff.2 p0
 have h1 : cf p (p.length - 1) ≠ 0 := lead_ne hp p0
 have h2 := ogI_ne (p := p) (i := p.length - 1) (by omega) h1
 have h3 := cmL_dvd p p.length (p.length - 1) (by omega)
 have h4 := cmL_nn p p.length
 by_cases e : cmL p p.length = 0
 ·rw [e] at h3
  exact absurd (Int.zero_dvd.1 h3) h2
 ·omega
theorem igL_len (p : List Rat) : (igL p).length = p.length := by unfold igL; simp
theorem igL_get {p : List Rat} {i : Nat} (h : i < p.length) : zz (igL p) i = ogI p i / cmL p p.length := by
 unfold zz igL
 rw [List.getD_eq_getElem?_getD, List.getElem?_map, List.getElem?_range h]; rfl
theorem igL_mul {p : List Rat} (hp : Can p) (p0 : p ≠ []) : ∃ m : Rat, 0 < m ∧ ∀ i, i < p.length → (zz (igL p) i : Rat) = m * cf p i := by
 have hc := cmL_pos hp p0
 have hd := dnL_pos p p.length
 have hcq : (0 : Rat) < (cmL p p.length : Rat) := by exact_mod_cast hc
 have hdq : (0 : Rat) < (dnL p p.length : Rat) := by exact_mod_cast hd
 refine ⟨(dnL p p.length : Rat) * (cmL p p.length : Rat)⁻¹, Rat.mul_pos hdq (Rat.inv_pos.2 hcq), fun i hi => ?_⟩
 rw [igL_get hi]
 obtain ⟨u, hu⟩ := cmL_dvd p p.length i hi
 obtain ⟨v, hv⟩ := dnL_dvd p p.length i hi
 have h3 : ((cf p i).den : Int) ≠ 0 := by have := (cf p i).den_pos; omega
 have e1 : ogI p i = (cf p i).num * v := by
  unfold ogI
  rw [hv, Int.mul_ediv_cancel_left _ h3]
 have e2 : ogI p i / cmL p p.length = u := by rw [hu, Int.mul_ediv_cancel_left _ (by omega)]
 rw [e2]
 have q1 : ((cf p i).num : Rat) * (v : Rat) = (cmL p p.length : Rat) * (u : Rat) := by
  rw [← Rat.intCast_mul, ← Rat.intCast_mul, ← e1, hu]
 have q2 : (dnL p p.length : Rat) = ((cf p i).den : Rat) * (v : Rat) := by
  rw [hv, Rat.intCast_mul]; rfl
 have q3 : cf p i * ((cf p i).den : Rat) = ((cf p i).num : Rat) := rat_md _
 have q4 : (cmL p p.length : Rat) * (cmL p p.length : Rat)⁻¹ = 1 := Rat.mul_inv_cancel _ (by grind)
 generalize (cmL p p.length : Rat)⁻¹ = y at *
 generalize (cmL p p.length : Rat) = c at *
 generalize (dnL p p.length : Rat) = d at *
 generalize ((cf p i).den : Rat) = b at *
 generalize ((cf p i).num : Rat) = n at *
 generalize (v : Rat) = vv at *
 generalize (u : Rat) = uu at *
 grind
def evZ : List Int → Rat → Rat
 | [], _ => 0
 | c :: l, x => (c : Rat) + x * evZ l x
theorem evZ_mul : ∀ (l : List Int) (p : List Rat) (m x : Rat), l.length = p.length → (∀ i, i < p.length → (zz l i : Rat) = m * cf p i) → evZ l x = m * ev p x
 | [], [], m, x, _, _ => by show (0 : Rat) = m * 0; grind
 | c :: l, d :: p, m, x, hl, h => by
   have h0 := h 0 (by simp)
   have ih := evZ_mul l p m x (by simpa using hl) fun i hi => h (i + 1) (by simpa using hi)
   show (c : Rat) + x * evZ l x = m * (d + x * ev p x)
   have h0 : (c : Rat) = m * d := h0
   rw [ih, h0]; grind
 | [], _ :: _, _, _, hl, _ => by simp at hl
 | _ :: _, [], _, _, hl, _ => by simp at hl
theorem ev_igL {p : List Rat} (hp : Can p) (p0 : p ≠ []) : ∃ m : Rat, 0 < m ∧ ∀ x, evZ (igL p) x = m * ev p x := by
 obtain ⟨m, m0, h⟩ := igL_mul hp p0
 exact ⟨m, m0, fun x => evZ_mul _ _ m x (igL_len p) h⟩
def hsZ (x : Rat) : List Int → Int × Int
 | [] => (0, 1)
 | c :: l => ((hsZ x l).1 * x.num + c * (hsZ x l).2, (hsZ x l).2 * (x.den : Int))
theorem hsZ_pos (x : Rat) : ∀ l, 0 < (hsZ x l).2
 | [] => Int.one_pos
 | c :: l => Int.mul_pos (hsZ_pos x l) (by have := x.den_pos; omega)
theorem hsZ_ev (x : Rat) : ∀ l, ((hsZ x l).1 : Rat) * (x.den : Rat) = evZ l x * ((hsZ x l).2 : Rat)
 | [] => by show ((0 : Int) : Rat) * _ = (0 : Rat) * _; grind
 | c :: l => by
   have ih := hsZ_ev x l
   have e1 : ((hsZ x (c :: l)).1 : Rat) = ((hsZ x l).1 : Rat) * (x.num : Rat) + (c : Rat) * ((hsZ x l).2 : Rat) := by
    show ((((hsZ x l).1 * x.num + c * (hsZ x l).2 : Int)) : Rat) = _
    rw [Rat.intCast_add, Rat.intCast_mul, Rat.intCast_mul]
   have e2 : ((hsZ x (c :: l)).2 : Rat) = ((hsZ x l).2 : Rat) * (x.den : Rat) := by
    show ((((hsZ x l).2 * (x.den : Int) : Int)) : Rat) = _
    rw [Rat.intCast_mul]; rfl
   have e3 : x * (x.den : Rat) = (x.num : Rat) := rat_md _
   rw [e1, e2]
   show _ = ((c : Rat) + x * evZ l x) * _
   generalize ((hsZ x l).1 : Rat) = s at *
   generalize ((hsZ x l).2 : Rat) = w at *
   generalize (x.den : Rat) = d at *
   generalize (x.num : Rat) = n at *
   generalize evZ l x = E at *
   generalize (c : Rat) = c at *
   rw [← e3]
   have : (s * (x * d) + c * w) * d = (s * d) * (x * d) + c * w * d := by grind
   rw [this, ih]
   grind
def sgQ (x : Rat) : Int := if x < 0 then -1 else if x = 0 then 0 else 1
theorem sgQ_mul {m : Rat} (hm : 0 < m) (x : Rat) : sgQ (m * x) = sgQ x := by
 unfold sgQ
 have e1 : (m * x < 0) ↔ x < 0 := by rw [neg_mul_iff]; grind
 have e2 : (m * x = 0) ↔ x = 0 := by rw [Rat.mul_eq_zero]; grind
 simp only [e1, e2]
theorem sgI_sgQ (z : Int) : sgI z = sgQ (z : Rat) := by
 unfold sgQ
 have e1 : ((z : Rat) < 0) ↔ z < 0 := by
  rw [show (0 : Rat) = ((0 : Int) : Rat) from rfl]; exact Rat.intCast_lt_intCast
 have e2 : ((z : Rat) = 0) ↔ z = 0 := by
  rw [show (0 : Rat) = ((0 : Int) : Rat) from rfl]; exact Rat.intCast_inj
 simp only [e1, e2]
 rcases Int.lt_trichotomy z 0 with h | h | h
 ·rw [if_pos h, show sgI z = -1 from cmpI_lt h]
 ·rw [if_neg (by omega), if_pos h, h]; rfl
 ·rw [if_neg (by omega), if_neg (by omega), show sgI z = 1 from cmpI_gt h]
theorem sg_hsZ (x : Rat) (l : List Int) : sgI (hsZ x l).1 = sgQ (evZ l x) := by
 have h := hsZ_ev x l
 have hw : (0 : Rat) < ((hsZ x l).2 : Rat) := by exact_mod_cast hsZ_pos x l
 have hd : (0 : Rat) < (x.den : Rat) := by exact_mod_cast x.den_pos
 rw [sgI_sgQ, ← sgQ_mul hd, ← sgQ_mul hw (evZ l x)]
 congr 1
 grind
theorem sg_igL {p : List Rat} (hp : Can p) (p0 : p ≠ []) (x : Rat) : sgI (hsZ x (igL p)).1 = sgQ (ev p x) := by
 obtain ⟨m, m0, h⟩ := ev_igL hp p0
 rw [sg_hsZ, h, sgQ_mul m0]
/- Sizes. -/
theorem dl_ediv (x y : Int) : dl (x / y).natAbs ≤ dl x.natAbs := dl_mono (Int.natAbs_ediv_le_natAbs _ _)
end Go.Proofs.YtlhapagililgmaaGreat

