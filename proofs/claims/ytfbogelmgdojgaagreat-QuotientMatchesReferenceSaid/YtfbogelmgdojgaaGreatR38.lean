/- Texts QM3 H15 QS1 QS2 QS3 in one. -/
import Derived.Test.YtfbogelmgdojgaaGreatR37
import Derived.Test.YtfbogelmgdojgaaGreatR25
import Derived.Test.YtfbogelmgdojgaaGreatR24
import Derived.Test.YtfbogelmgdojgaaGreatR35
import Derived.Test.YtfbogelmgdojgaaGreatR31
/- The first linear dependence among the powers of a residue. No program in sight. -/
namespace Go.Proofs.YtfbogelmgdojgaaGreat
set_option linter.unusedSimpArgs false
set_option linter.unusedVariables false

abbrev RwP := List Rat × List Rat
def red1 (r y : RwP) : RwP := if y.1.length ≤ r.1.length then (pSub r.1 (pSc (cf r.1 (y.1.length - 1) / cf y.1 (y.1.length - 1)) y.1), pSub r.2 (pSc (cf r.1 (y.1.length - 1) / cf y.1 (y.1.length - 1)) y.2)) else r
def redR : List RwP → RwP → RwP
 | [], r => r
 | y :: L, r => redR L (red1 r y)
def atL : List RwP → Nat → Nat
 | [], _ => 0
 | y :: L, n => if n < y.1.length then atL L n + 1 else 0
def insL (L : List RwP) (r : RwP) : List RwP := L.take (atL L r.1.length) ++ r :: L.drop (atL L r.1.length)
def pwX (q a : List Rat) : Nat → List Rat
 | 0 => pMod [1] q
 | k + 1 => pMod (pMul (pwX q a k) a) q
def rwK (q a : List Rat) : Nat → List RwP
 | 0 => []
 | k + 1 => insL (rwK q a k) (redR (rwK q a k) (pwX q a k, tr (mon 1 k)))
def rwR (q a : List Rat) (k : Nat) : RwP := redR (rwK q a k) (pwX q a k, tr (mon 1 k))
def cmb : List RwP → (Nat → Rat) → Nat → Rat
 | [], _, _ => 0
 | y :: L, b, d => b 0 * cf y.1 d + cmb L (fun i => b (i + 1)) d
theorem cmb_ins (y : RwP) (c : Rat) : ∀ (L M : List RwP) (b : Nat → Rat), ∃ b', ∀ d, cmb (L ++ y :: M) b' d = cmb (L ++ M) b d + c * cf y.1 d
 | [], M, b => ⟨fun i => if i = 0 then c else b (i - 1), fun d => by
   show c * cf y.1 d + cmb M (fun i => b i) d = cmb M b d + c * cf y.1 d
   grind⟩
 | z :: L, M, b => by
   obtain ⟨b', h⟩ := cmb_ins y c L M (fun i => b (i + 1))
   refine ⟨fun i => if i = 0 then b 0 else b' (i - 1), fun d => ?_⟩
   show b 0 * cf z.1 d + cmb (L ++ y :: M) (fun i => b' i) d = b 0 * cf z.1 d + cmb (L ++ M) (fun i => b (i + 1)) d + c * cf y.1 d
   rw [show cmb (L ++ y :: M) (fun i => b' i) d = cmb (L ++ y :: M) b' d from rfl, h d]
   grind
theorem atL_le : ∀ (L : List RwP) (n : Nat), atL L n ≤ L.length
 | [], _ => Nat.le_refl _
 | y :: L, n => by
   have := atL_le L n
   unfold atL
   split
   ·rw [List.length_cons]; omega
   ·exact Nat.zero_le _
theorem insL_mem {L : List RwP} {r y : RwP} : y ∈ insL L r ↔ y = r ∨ y ∈ L := by
 unfold insL
 have e : y ∈ L ↔ y ∈ L.take (atL L r.1.length) ∨ y ∈ L.drop (atL L r.1.length) := by rw [← List.mem_append, List.take_append_drop]
 rw [List.mem_append, List.mem_cons, e]
 constructor
 ·rintro (h | h | h)
  ·exact .inr (.inl h)
  ·exact .inl h
  ·exact .inr (.inr h)
 ·rintro (h | h | h)
  ·exact .inr (.inl h)
  ·exact .inl h
  ·exact .inr (.inr h)
theorem cmb_insL (L : List RwP) (r : RwP) (c : Rat) (b : Nat → Rat) : ∃ b', ∀ d, cmb (insL L r) b' d = cmb L b d + c * cf r.1 d := by
 obtain ⟨b', h⟩ := cmb_ins r c (L.take (atL L r.1.length)) (L.drop (atL L r.1.length)) b
 refine ⟨b', fun d => ?_⟩
 have := h d
 rwa [List.take_append_drop] at this
def Dec (L : List RwP) : Prop := L.Pairwise fun x y => y.1.length < x.1.length
theorem insL_dec {L : List RwP} {r : RwP} (h : Dec L) (hn : ∀ y ∈ L, y.1.length ≠ r.1.length) : Dec (insL L r) := by
 unfold insL
 induction L with
 | nil => simp [Dec, atL]
 | cons y L ih =>
   obtain ⟨h1, h2⟩ := List.pairwise_cons.1 h
   have ih := ih h2 fun z hz => hn z (by simp [hz])
   have hy := hn y (by simp)
   unfold atL
   by_cases c : r.1.length < y.1.length
   ·rw [if_pos c, List.take_succ_cons, List.drop_succ_cons, List.cons_append]
    refine List.pairwise_cons.2 ⟨fun z hz => ?_, ih⟩
    rcases (insL_mem (L := L) (r := r)).1 hz with e | e
    ·rw [e]; exact c
    ·exact h1 z e
   ·rw [if_neg c, List.take_zero, List.drop_zero, List.nil_append]
    refine List.pairwise_cons.2 ⟨fun z hz => ?_, h⟩
    rcases List.mem_cons.1 hz with e | e
    ·rw [e]; omega
    ·have := h1 z e
     omega
theorem cmb_zero : ∀ {L : List RwP} {b : Nat → Rat}, Dec L → (∀ y ∈ L, Can y.1 ∧ y.1 ≠ []) → (∀ y ∈ L, cmb L b (y.1.length - 1) = 0) → ∀ d, cmb L b d = 0
 | [], _, _, _, _, _ => rfl
 | y :: L, b, hd, hc, hz, d => by
   obtain ⟨h1, h2⟩ := List.pairwise_cons.1 hd
   obtain ⟨c1, c2⟩ := hc y (by simp)
   have low : ∀ (M : List RwP) (b : Nat → Rat) (e : Nat), (∀ z ∈ M, z.1.length ≤ e) → cmb M b e = 0 := by
    intro M
    induction M with
    | nil => intro b e _; rfl
    | cons z M ih =>
      intro b e h
      show b 0 * cf z.1 e + cmb M _ e = 0
      rw [cf_ge (h z (by simp)), ih _ e fun w hw => h w (by simp [hw])]; grind
   have hy := hz y (by simp)
   have l0 := List.length_pos_iff.2 c2
   have e0 : cmb L (fun i => b (i + 1)) (y.1.length - 1) = 0 := low L _ _ fun z hz => by have := h1 z hz; omega
   have b0 : b 0 = 0 := by
    have hy : b 0 * cf y.1 (y.1.length - 1) + cmb L (fun i => b (i + 1)) (y.1.length - 1) = 0 := hy
    rw [e0, Rat.add_zero] at hy
    exact (Rat.mul_eq_zero.1 hy).resolve_right (lead_ne c1 c2)
   have step : ∀ e, cmb (y :: L) b e = cmb L (fun i => b (i + 1)) e := fun e => by
    show b 0 * cf y.1 e + cmb L _ e = _
    rw [b0]; grind
   rw [step]
   exact cmb_zero h2 (fun z hz => hc z (by simp [hz])) (fun z hz' => by rw [← step]; exact hz z (by simp [hz'])) d
structure RwI (q a : List Rat) (k : Nat) (L : List RwP) : Prop where
 can : ∀ y ∈ L, Can y.1 ∧ y.1 ≠ []
 can2 : ∀ y ∈ L, Can y.2 ∧ y.2.length ≤ k
 at' : ∀ y ∈ L, y.1 = atm q a y.2
 dec : Dec L
 span : ∀ g, Can g → g.length ≤ k → ∃ b, ∀ d, cf (atm q a g) d = cmb L b d
structure RI (q a : List Rat) (k : Nat) (r : RwP) : Prop where
 can : Can r.1
 can2 : Can r.2
 top : cf r.2 k = 1
 len : r.2.length ≤ k + 1
 at' : r.1 = atm q a r.2
theorem atm_lin {q a : List Rat} (hq : Can q) (h2 : 2 ≤ q.length) (c : Rat) (g h : List Rat) : atm q a (pSub g (pSc c h)) = pSub (atm q a g) (pSc c (atm q a h)) := by
 have q0 : q ≠ [] := fun e => by rw [e] at h2; simp at h2
 rw [atm_cmp a hq h2, atm_cmp a hq h2, atm_cmp a hq h2]
 have e : cmpP a (pSub g (pSc c h)) = pAdd (cmpP a g) (pSc (-c) (cmpP a h)) := ev_inj (can_cmpP _ _) (can_pAdd _ _) fun x => by
  rw [ev_cmpP, ev_pSub, ev_pSc, ev_pAdd, ev_pSc, ev_cmpP, ev_cmpP]; grind
 rw [e, mod_add (can_cmpP _ _) (can_pSc _ _) hq q0, mod_sc _ (can_cmpP _ _) hq q0]
 exact ev_inj (can_pAdd _ _) (can_pSub _ _) fun x => by rw [ev_pAdd, ev_pSub, ev_pSc, ev_pSc]; grind
theorem red1_I {q a : List Rat} (hq : Can q) (h2 : 2 ≤ q.length) {k : Nat} {r y : RwP} (h : RI q a k r) (hy1 : Can y.1 ∧ y.1 ≠ []) (hy2 : Can y.2 ∧ y.2.length ≤ k) (hy3 : y.1 = atm q a y.2) : RI q a k (red1 r y) ∧ cf (red1 r y).1 (y.1.length - 1) = 0 ∧ ∀ e, y.1.length ≤ e → cf (red1 r y).1 e = cf r.1 e := by
 unfold red1
 split
 ·refine ⟨⟨can_pSub _ _, can_pSub _ _, ?_, ?_, ?_⟩, ?_, fun e he => ?_⟩
  ·rw [cf_pSub, cf_pSc, cf_ge (l := y.2) hy2.2, h.top, Rat.mul_zero]; grind
  ·have := len_pSub r.2 (pSc (cf r.1 (y.1.length - 1) / cf y.1 (y.1.length - 1)) y.2)
   have := len_pSc (cf r.1 (y.1.length - 1) / cf y.1 (y.1.length - 1)) y.2
   have := h.len
   have := hy2.2
   show (pSub r.2 _).length ≤ _
   omega
  ·show pSub r.1 _ = atm q a (pSub r.2 _)
   rw [atm_lin hq h2, ← h.at', ← hy3]
  ·show cf (pSub r.1 _) _ = 0
   have l0 := lead_ne hy1.1 hy1.2
   have l0 : cf y.1 (y.1.length - 1) ≠ 0 := l0
   rw [cf_pSub, cf_pSc, Rat.div_def, Rat.mul_assoc, Rat.inv_mul_cancel _ l0]; grind
  ·show cf (pSub r.1 _) e = _
   rw [cf_pSub, cf_pSc, cf_ge (l := y.1) he, Rat.mul_zero]; grind
 ·refine ⟨h, cf_ge (by omega), fun e he => rfl⟩
theorem redR_I {q a : List Rat} (hq : Can q) (h2 : 2 ≤ q.length) {k : Nat} : ∀ (L : List RwP) (r : RwP), Dec L → (∀ y ∈ L, Can y.1 ∧ y.1 ≠ []) → (∀ y ∈ L, Can y.2 ∧ y.2.length ≤ k) → (∀ y ∈ L, y.1 = atm q a y.2) → RI q a k r →
 RI q a k (redR L r) ∧ (∀ y ∈ L, cf (redR L r).1 (y.1.length - 1) = 0) ∧ ∀ e, (∀ y ∈ L, y.1.length ≤ e) → cf (redR L r).1 e = cf r.1 e
 | [], r, _, _, _, _, h => ⟨h, fun y hy => (by cases hy), fun _ _ => rfl⟩
 | y :: L, r, hd, c1, c2, c3, h => by
   obtain ⟨d1, d2⟩ := List.pairwise_cons.1 hd
   obtain ⟨g1, g2, g3⟩ := red1_I hq h2 h (c1 y (by simp)) (c2 y (by simp)) (c3 y (by simp))
   obtain ⟨k1, k2, k3⟩ := redR_I hq h2 L (red1 r y) d2 (fun z hz => c1 z (by simp [hz])) (fun z hz => c2 z (by simp [hz])) (fun z hz => c3 z (by simp [hz])) g1
   refine ⟨k1, fun z hz => ?_, fun e he => ?_⟩
   ·rcases List.mem_cons.1 hz with rfl | hz
    ·show cf (redR L (red1 r z)).1 _ = 0
     rw [k3 _ fun w hw => by have := d1 w hw; omega]; exact g2
    ·exact k2 z hz
   ·show cf (redR L (red1 r y)).1 e = _
    rw [k3 e fun w hw => he w (by simp [hw]), g3 e (he y (by simp))]
theorem pwX_at {q a : List Rat} (hq : Can q) (ha : Can a) (h2 : 2 ≤ q.length) : ∀ k, pwX q a k = atm q a (tr (mon 1 k))
 | 0 => by
   have q0 : q ≠ [] := fun e => by rw [e] at h2; simp at h2
   rw [atm_cmp a hq h2]
   show pMod [1] q = _
   congr 1
 | k + 1 => by
   have q0 : q ≠ [] := fun e => by rw [e] at h2; simp at h2
   rw [pwX, pwX_at hq ha h2 k, atm_cmp a hq h2, atm_cmp a hq h2, mod_mul_l (can_cmpP _ _) hq q0]
   congr 1
   exact ev_inj (can_pMul _ _) (can_cmpP _ _) fun x => by
    rw [ev_pMul, ev_cmpP, ev_cmpP, ev_tr, ev_tr, ev_mon, ev_mon, Rat.pow_succ]
theorem start_RI {q a : List Rat} (hq : Can q) (ha : Can a) (h2 : 2 ≤ q.length) (k : Nat) : RI q a k (pwX q a k, tr (mon 1 k)) :=
 ⟨by show Can (pwX q a k); rw [pwX_at hq ha h2]; exact can_atm _ _ _, tr_can _, by show cf (tr (mon 1 k)) k = 1; rw [cf_tr, mon_top], by show (tr (mon 1 k)).length ≤ k + 1; have := tr_len (mon 1 k); rw [mon_len] at this; exact this, pwX_at hq ha h2 k⟩
section
variable {q a : List Rat} {l : Fac}
theorem RwI.row (hq : Can q) (ha : Can a) (h2 : 2 ≤ q.length) {k : Nat} (h : RwI q a k (rwK q a k)) : RI q a k (rwR q a k) ∧ ∀ y ∈ rwK q a k, cf (rwR q a k).1 (y.1.length - 1) = 0 := by
 obtain ⟨h1, h3, _⟩ := redR_I hq h2 (rwK q a k) _ h.dec h.can h.can2 h.at' (start_RI hq ha h2 k)
 exact ⟨h1, h3⟩
theorem RwI.next (hq : Can q) (ha : Can a) (h2 : 2 ≤ q.length) {k : Nat} (h : RwI q a k (rwK q a k)) (hne : (rwR q a k).1 ≠ []) : RwI q a (k + 1) (rwK q a (k + 1)) := by
 obtain ⟨r1, r2⟩ := h.row hq ha h2
 have e : rwK q a (k + 1) = insL (rwK q a k) (rwR q a k) := rfl
 rw [e]
 refine ⟨fun y hy => ?_, fun y hy => ?_, fun y hy => ?_, insL_dec h.dec fun y hy he => ?_, fun g hg hl => ?_⟩
 ·rcases insL_mem.1 hy with rfl | hy
  ·exact ⟨r1.can, hne⟩
  ·exact h.can y hy
 ·rcases insL_mem.1 hy with rfl | hy
  ·exact ⟨r1.can2, r1.len⟩
  ·have := h.can2 y hy
   exact ⟨this.1, by omega⟩
 ·rcases insL_mem.1 hy with rfl | hy
  ·exact r1.at'
  ·exact h.at' y hy
 ·have h3 := r2 y hy
  rw [he] at h3
  exact lead_ne r1.can hne h3
 ·have c1 : Can (pSub g (pSc (cf g k) (rwR q a k).2)) := can_pSub _ _
  have l1 : (pSub g (pSc (cf g k) (rwR q a k).2)).length ≤ k := by
   refine len_lt_of_top c1 ?_ ?_
   ·have := len_pSub g (pSc (cf g k) (rwR q a k).2)
    have := len_pSc (cf g k) (rwR q a k).2
    have := r1.len
    omega
   ·rw [cf_pSub, cf_pSc, r1.top]; grind
  obtain ⟨b, hb⟩ := h.span _ c1 l1
  obtain ⟨b', hb'⟩ := cmb_insL (rwK q a k) (rwR q a k) (cf g k) b
  refine ⟨b', fun d => ?_⟩
  have h3 := hb d
  rw [atm_lin hq h2, cf_pSub, cf_pSc, ← r1.at'] at h3
  rw [hb' d, ← h3]; grind
theorem rwK_zero : RwI q a 0 (rwK q a 0) := ⟨fun y hy => (by cases hy), fun y hy => (by cases hy), fun y hy => (by cases hy), List.Pairwise.nil, fun g hg hl => ⟨fun _ => 0, fun d => by
 have : g = [] := List.eq_nil_of_length_eq_zero (by omega)
 subst this; rfl⟩⟩
theorem min_first (hq : Can q) (ha : Can a) (h2 : 2 ≤ q.length) (hl : Good l) (hc : ∀ x, ev (chi q a) x = ev (PwL l) x) (hr : atm q a (PiL l) = []) :
 (∀ k, k < (PiL l).length - 1 → RwI q a k (rwK q a k) ∧ (rwR q a k).1 ≠ []) ∧ RwI q a ((PiL l).length - 1) (rwK q a ((PiL l).length - 1)) ∧ (rwR q a ((PiL l).length - 1)).1 = [] ∧ (rwR q a ((PiL l).length - 1)).2 = PiL l := by
 obtain ⟨g1, g2, _⟩ := lead_PiL hl
 have gl := List.length_pos_iff.2 g2
 have low : ∀ k, k < (PiL l).length - 1 → RwI q a k (rwK q a k) → (rwR q a k).1 ≠ [] := fun k hk hI h0 => by
  obtain ⟨r1, _⟩ := hI.row hq ha h2
  have h3 := r1.at'
  rw [h0] at h3
  have hd := rad_dvd hq ha h2 r1.can2 hl hc h3.symm
  have n0 : (rwR q a k).2 ≠ [] := fun e => by
   have := r1.top
   rw [e, cf_nil] at this
   exact absurd this (by decide)
  have := (dvd_len r1.can2 (can_PiL l) hd n0).1
  have := r1.len
  omega
 have all : ∀ k, k ≤ (PiL l).length - 1 → RwI q a k (rwK q a k) := fun k => by
  induction k with
  | zero => intro _; exact rwK_zero
  | succ k ih =>
    intro hk
    have hI := ih (by omega)
    exact hI.next hq ha h2 (low k (by omega) hI)
 refine ⟨fun k hk => ⟨all k (by omega), low k hk (all k (by omega))⟩, all _ (Nat.le_refl _), ?_⟩
 obtain ⟨D, eD⟩ : ∃ D, (PiL l).length - 1 = D := ⟨_, rfl⟩
 have hI := all D (by omega)
 rw [eD]
 obtain ⟨r1, r2⟩ := hI.row hq ha h2
 have t1 : cf (PiL l) D = 1 := by rw [← eD]; exact g1
 have c1 : Can (pSub (rwR q a D).2 (pSc 1 (PiL l))) := can_pSub _ _
 have l1 : (pSub (rwR q a D).2 (pSc 1 (PiL l))).length ≤ D := by
  refine len_lt_of_top c1 ?_ ?_
  ·have := len_pSub (rwR q a D).2 (pSc 1 (PiL l))
   have := len_pSc 1 (PiL l)
   have := r1.len
   omega
  ·rw [cf_pSub, cf_pSc, r1.top, t1]; decide +kernel
 obtain ⟨b, hb⟩ := hI.span _ c1 l1
 have e1 : ∀ d, cf (rwR q a D).1 d = cmb (rwK q a D) b d := fun d => by
  have h3 := hb d
  rw [atm_lin hq h2, hr, cf_pSub, cf_pSc, cf_nil, ← r1.at'] at h3
  rw [← h3]; grind
 have z := cmb_zero hI.dec hI.can (b := b) fun y hy => by rw [← e1]; exact r2 y hy
 have z1 : (rwR q a D).1 = [] := can_ext r1.can Can_nil fun d => by rw [e1 d, z d, cf_nil]
 refine ⟨z1, ?_⟩
 have h3 := r1.at'
 rw [z1] at h3
 have hd := rad_dvd hq ha h2 r1.can2 hl hc h3.symm
 have n0 : (rwR q a D).2 ≠ [] := fun e => by
  have := r1.top
  rw [e, cf_nil] at this
  exact absurd this (by decide)
 have ll := (dvd_len r1.can2 (can_PiL l) hd n0).1
 have le := r1.len
 have lt : (rwR q a D).2.length = D + 1 := by omega
 refine (dvd_same (can_PiL l) r1.can2 n0 hd (by omega) g1 ?_).symm
 show cf (rwR q a D).2 ((rwR q a D).2.length - 1) = 1
 rw [lt]
 exact r1.top
end
end Go.Proofs.YtfbogelmgdojgaaGreat


/- Rows of the reference's minimal polynomial as values. -/
namespace Go.Proofs.YtfbogelmgdojgaaGreat
set_option linter.unusedSimpArgs false
set_option linter.unusedVariables false
open Go.RowKit

def V.rws (L : List RwP) : List V := L.map fun y => .agg [.lst (V.rats y.1), .lst (V.rats y.2)]
def rwA (L : List RwP) (i : Nat) : List Rat := (L.getD i ([], [])).1
def rwC (L : List RwP) (i : Nat) : List Rat := (L.getD i ([], [])).2
@[go_sem] theorem rws_len (l : List RwP) : (V.rws l).length = l.length := by simp [V.rws]
@[go_sem] theorem rws_wid (l : List RwP) : allWid (V.rws l) 2 = True := eq_true fun y hy => by
  obtain ⟨p, _, rfl⟩ := List.mem_map.1 hy
  rfl
@[go_sem] theorem rws_frz (l : List RwP) : frzOk (V.rws l) = True := eq_true (frzOk_map (fun a => ⟨rfl, by simp, by simp⟩) l)
@[go_sem] theorem rws_take (l : List RwP) (n : Nat) : (V.rws l).take n = V.rws (l.take n) := by simp [V.rws]
@[go_sem] theorem rws_drop (l : List RwP) (n : Nat) : (V.rws l).drop n = V.rws (l.drop n) := by simp [V.rws]
theorem rws_app (l m : List RwP) : V.rws l ++ V.rws m = V.rws (l ++ m) := by simp [V.rws]
theorem rws_nil : V.rws [] = [] := rfl
@[go_sem ↓, go_sem] theorem ev_rws_get {l : List RwP} {i : Nat} {k : V → Prop} : optC (V.rws l)[i]? k = (i < l.length ∧ k (.agg [.lst (V.rats (rwA l i)), .lst (V.rats (rwC l i))])) := by
  unfold V.rws rwA rwC
  rw [List.getElem?_map, List.getD_eq_getElem?_getD]
  by_cases h : i < l.length
  ·simp [List.getElem?_eq_getElem h, optC, h]
  ·simp [List.getElem?_eq_none (Nat.le_of_not_lt h), optC, h]
def unrw : List V → Option (List RwP)
 | [] => some []
 | .agg [.lst l, .lst m] :: t => (unrat l).bind fun r => (unrat m).bind fun c => (unrw t).map fun s => (r, c) :: s
 | _ => none
theorem unrw_ok : ∀ (l : List V) (m : List RwP), unrw l = some m → l = V.rws m
 | [], m, h => by injection h with h; subst h; rfl
 | x :: t, m, h => by
   unfold unrw at h
   split at h
   ·rename_i e; cases e
   ·rename_i l' m' t' e
    injection e with e1 e2
    subst e1 e2
    rcases hr : unrat l' with _ | r <;> rw [hr] at h
    ·cases h
    ·rcases hc : unrat m' with _ | c <;> simp only [hc, bind_some] at h
     ·cases h
     ·rcases ht : unrw t with _ | s <;> rw [ht] at h
      ·cases h
      ·injection h with h
       subst h
       rw [unrw_ok t s ht, unrat_ok l' r hr, unrat_ok m' c hc]; rfl
   ·cases h
@[go_sem ↓, go_sem] theorem unrw_rws : ∀ m : List RwP, unrw (V.rws m) = some m
  | [] => rfl
  | r :: m => by
    show unrw (.agg [.lst (V.rats r.1), .lst (V.rats r.2)] :: V.rws m) = _
    rw [unrw, unrat_rats, unrat_rats, unrw_rws m]; rfl
def pRw : Pat RwP where
 p
  | .agg [.lst l, .lst m] => (unrat l).bind fun r => (unrat m).map fun c => (True, (r, c))
  | _ => none
 val y := .agg [.lst (V.rats y.1), .lst (V.rats y.2)]
 ok x c a h hc := by
  split at h
  ·rename_i l m
   rcases hr : unrat l with _ | r <;> rw [hr] at h
   ·cases h
   ·rcases hm : unrat m with _ | s <;> simp only [hm, bind_some] at h
    ·cases h
    ·injection h with h; injection h with h1 h2; subst h2
     rw [unrat_ok l r hr, unrat_ok m s hm]; exact .refl _
  ·cases h
@[go_sem ↓, go_sem] theorem ev_pRw {l m : List V} : pRw.p (.agg [.lst l, .lst m]) = (unrat l).bind fun r => (unrat m).map fun c => (True, (r, c)) := rfl
@[go_sem ↓, go_sem] theorem ev_pRw_mk {y : RwP} : pRw.val y = .agg [.lst (V.rats y.1), .lst (V.rats y.2)] := rfl
def pRws : Pat (List RwP) where
 p
  | .lst l => (unrw l).map fun m => (True, m)
  | .raw (.slice none 0 0) => some (True, [])
  | .emp => some (True, [])
  | _ => none
 val l := .lst (V.rws l)
 ok x c a h hc := by
  split at h
  ·rename_i l
   rcases hm : unrw l with _ | m <;> rw [hm] at h
   ·cases h
   ·injection h with h; injection h with h1 h2; subst h2
    rw [unrw_ok l m hm]; exact .refl _
  ·injection h with h; injection h with h1 h2; subst h2; exact .inr (.inr ⟨rfl, rfl, rfl, rfl⟩)
  ·injection h with h; injection h with h1 h2; subst h2; exact .inr (.inr ⟨rfl, rfl, rfl⟩)
  ·cases h
@[go_sem ↓, go_sem] theorem ev_pRws {l : List V} : pRws.p (.lst l) = (unrw l).map fun m => (True, m) := rfl
@[go_sem ↓, go_sem] theorem ev_pRws_nil : pRws.p (.raw (.slice none 0 0)) = some (True, []) := rfl
@[go_sem ↓, go_sem] theorem ev_pRws_emp : pRws.p .emp = some (True, []) := rfl
@[go_sem ↓, go_sem] theorem ev_pRws_mk {l : List RwP} : pRws.val l = .lst (V.rws l) := rfl
theorem atL_at : ∀ (L : List RwP) (n : Nat), (∀ i, i < atL L n → n < (rwA L i).length) ∧ (atL L n < L.length → ¬ n < (rwA L (atL L n)).length)
 | [], n => ⟨fun i hi => absurd hi (Nat.not_lt_zero i), fun h => absurd h (Nat.not_lt_zero _)⟩
 | y :: L, n => by
   obtain ⟨h1, h2⟩ := atL_at L n
   unfold atL
   by_cases c : n < y.1.length
   ·rw [if_pos c]
    refine ⟨fun i hi => ?_, fun h => ?_⟩
    ·cases i with
     | zero => exact c
     | succ i => exact h1 i (by omega)
    ·exact h2 (by simp only [List.length_cons] at h; omega)
   ·rw [if_neg c]
    exact ⟨fun i hi => absurd hi (Nat.not_lt_zero i), fun _ => c⟩
end Go.Proofs.YtfbogelmgdojgaaGreat


/- Sizes of the rows of the reference's minimal polynomial. No program in sight. -/
namespace Go.Proofs.YtfbogelmgdojgaaGreat
set_option linter.unusedSimpArgs false
set_option linter.unusedVariables false
open Go.RowKit

theorem redR_snoc (y : RwP) : ∀ (L : List RwP) (r : RwP), redR (L ++ [y]) r = red1 (redR L r) y
 | [], _ => rfl
 | z :: L, r => redR_snoc y L (red1 r z)
theorem redR_step {L : List RwP} {r : RwP} {i : Nat} (h : i < L.length) : redR (L.take (i + 1)) r = red1 (redR (L.take i) r) (L.getD i ([], [])) := by
 rw [List.take_add_one, List.getElem?_eq_getElem h, Option.toList_some, redR_snoc, List.getD_eq_getElem?_getD, List.getElem?_eq_getElem h]; rfl
theorem insL_len (L : List RwP) (r : RwP) : (insL L r).length = L.length + 1 := by
 unfold insL
 have := atL_le L r.1.length
 rw [List.length_append, List.length_cons, List.length_take, List.length_drop]; omega
theorem rwK_len (q a : List Rat) : ∀ k, (rwK q a k).length = k
 | 0 => rfl
 | k + 1 => by rw [rwK, insL_len, rwK_len q a k]
def SzR (n T : Nat) (y : RwP) : Prop := Sz y.1 n T ∧ Sz y.2 n T
theorem SzR.mono {n T T' : Nat} {y : RwP} (h : SzR n T y) (e : T ≤ T') : SzR n T' y := ⟨h.1.mono (Nat.le_refl _) e, h.2.mono (Nat.le_refl _) e⟩
theorem red1_sz {n u t : Nat} {r y : RwP} (hr : SzR n u r) (hy : SzR n t y) : SzR n (2 * u + 2 * t + 1) (red1 r y) := by
 unfold red1
 split
 ·have f := qs_div (cf r.1 (y.1.length - 1)) (cf y.1 (y.1.length - 1))
  have f1 := hr.1.pb (y.1.length - 1)
  have f2 := hy.1.pb (y.1.length - 1)
  have hf : qs (cf r.1 (y.1.length - 1) / cf y.1 (y.1.length - 1)) ≤ u + t := by omega
  exact ⟨(hr.1.sub (hy.1.sc hf)).mono (by omega) (by omega), (hr.2.sub (hy.2.sc hf)).mono (by omega) (by omega)⟩
 ·exact hr.mono (by omega)
def rzN (t u : Nat) : Nat → Nat
 | 0 => u
 | i + 1 => 2 * rzN t u i + 2 * t + 1
def rzB (X : Nat) : Nat → Nat
 | 0 => 0
 | k + 1 => rzN (rzB X k) X k
theorem rzN_mono (t u : Nat) {i : Nat} : ∀ {j}, i ≤ j → rzN t u i ≤ rzN t u j
 | 0, h => by rw [show i = 0 from by omega]; exact Nat.le_refl _
 | j + 1, h => by
   by_cases e : i = j + 1
   ·rw [e]; exact Nat.le_refl _
   ·have := rzN_mono t u (i := i) (j := j) (by omega)
    rw [rzN]; omega
theorem rzB_step (X : Nat) : ∀ k, rzB X k ≤ rzB X (k + 1)
 | 0 => Nat.zero_le _
 | k + 1 => by
   show _ ≤ 2 * rzN _ _ _ + 2 * rzB X (k + 1) + 1
   omega
theorem rzB_mono (X : Nat) {i : Nat} : ∀ {j}, i ≤ j → rzB X i ≤ rzB X j
 | 0, h => by rw [show i = 0 from by omega]; exact Nat.le_refl _
 | j + 1, h => by
   by_cases e : i = j + 1
   ·rw [e]; exact Nat.le_refl _
   ·exact Nat.le_trans (rzB_mono X (i := i) (j := j) (by omega)) (rzB_step X j)
theorem redR_sz {n u t : Nat} {L : List RwP} {r : RwP} (hr : SzR n u r) (hL : ∀ y ∈ L, SzR n t y) : ∀ i, i ≤ L.length → SzR n (rzN t u i) (redR (L.take i) r)
 | 0, _ => hr
 | i + 1, h => by
   rw [redR_step h]
   refine red1_sz (redR_sz hr hL i (by omega)) (hL _ ?_)
   rw [List.getD_eq_getElem?_getD, List.getElem?_eq_getElem h]
   exact List.getElem_mem _
theorem rwK_sz {q a : List Rat} {n X K : Nat} (hx : ∀ k, k ≤ K → SzR n X (pwX q a k, tr (mon 1 k))) : ∀ k, k ≤ K + 1 → ∀ y ∈ rwK q a k, SzR n (rzB X k) y
 | 0, _ => fun y hy => (by cases hy)
 | k + 1, h => fun y hy => by
   have ih := rwK_sz hx k (by omega)
   rcases insL_mem.1 (show y ∈ insL (rwK q a k) (rwR q a k) from hy) with rfl | hy
   ·have := redR_sz (hx k (by omega)) ih k (by rw [rwK_len]; exact Nat.le_refl _)
    rw [List.take_of_length_le (by rw [rwK_len]; exact Nat.le_refl _)] at this
    exact this
   ·exact (ih y hy).mono (rzB_step X k)
theorem pwX_eq {q a : List Rat} (hq : Can q) (ha : Can a) (h2 : 2 ≤ q.length) : ∀ k, pwX q a (k + 1) = pwE q (pMod a q) k
 | 0 => by
   have q0 : q ≠ [] := fun e => by rw [e] at h2; simp at h2
   show pMod (pMul (pMod [1] q) a) q = pMod a q
   rw [mod_mul_l can1 hq q0]
   congr 1
   exact ev_inj (can_pMul _ _) ha fun x => by rw [ev_pMul, ev1]; grind
 | k + 1 => by
   have q0 : q ≠ [] := fun e => by rw [e] at h2; simp at h2
   show pMod (pMul (pwX q a (k + 1)) a) q = pMod (pMul (pwE q (pMod a q) k) (pMod a q)) q
   rw [pwX_eq hq ha h2 k, mod_mul_r ha hq q0]
structure MrOk (q a : List Rat) (D : Nat) : Prop where
 len : q.length ≤ 100 ∧ D < q.length
 ne : ∀ k, k < D → (rwR q a k).1 ≠ []
 eq : (rwR q a D).1 = []
 rows : ∀ k, k ≤ D → ∀ i, i < k → (((rwK q a k).getD i ([], [])).1.length ≠ 0 ∧ cf ((rwK q a k).getD i ([], [])).1 (((rwK q a k).getD i ([], [])).1.length - 1) ≠ 0) ∧ SzR 1000 1000000000000 ((rwK q a k).getD i ([], []))
 red : ∀ k, k ≤ D → ∀ i, i ≤ k → SzR 1000 1000000000000 (redR ((rwK q a k).take i) (pwX q a k, tr (mon 1 k)))
 mul : ∀ k, k < D → ((pwX q a k).length + a.length ≤ 1000000 ∧ PB (pwX q a k) 5000000000000 ∧ PB a 5000000000000) ∧ (∃ i j, (PB (pwX q a k) i ∧ PB a j) ∧ (pwX q a k).length * (i + j + 1) ≤ 4999999999999) ∧ DvOk (pMul (pwX q a k) a) q ∧ q ≠ []
 start : DvOk [1] q ∧ q ≠ []
theorem rz5 : rzB 30000000 5 ≤ 1000000000000 := by decide
theorem Md.pwc {q : List Rat} {n k : Nat} (hq : Md q n k) : pwC6 n k = true := by
 rcases hq.cs with ⟨rfl, rfl⟩ | ⟨rfl, rfl⟩ | ⟨rfl, rfl⟩ | ⟨rfl, rfl⟩ <;> decide +kernel
theorem Md.pwX_sz {q a : List Rat} {n k : Nat} (hq : Md q n k) (ha : Sz a 6 1) {i : Nat} (hi : i < q.length) : Sz (pwX q a i) 4 30000000 := by
 have q0 := hq.ne
 have hl := hq.len
 have n5 := hq.cs0
 match i with
 | 0 =>
   show Sz (pMod [1] q) 4 _
   rw [(dm_small can1 hq.can (by show 1 < q.length; exact hq.two)).2]
   exact ⟨by decide, PB_cons (Nat.le_trans qs_1 (by decide)) (PB_nil (by decide)), can1⟩
 | i + 1 =>
   rw [pwX_eq hq.can ha.can hq.two]
   have h := allB_ok hq.pwc i (by omega)
   exact (hq.pw ha i).mono (by omega) (of_decide_eq_true h)
theorem mr_ok {q a : List Rat} {n k : Nat} {l : Fac} (hq : Md q n k) (ha : Sz a 6 1) (hl : Good l) (hc : ∀ x, ev (chi q a) x = ev (PwL l) x) (hr : atm q a (PiL l) = []) (hD : (PiL l).length ≤ q.length) :
 MrOk q a ((PiL l).length - 1) ∧ (rwR q a ((PiL l).length - 1)).2 = PiL l := by
 have q0 := hq.ne
 have hql := hq.len
 have n5 := hq.cs0
 have h2 := hq.two
 obtain ⟨m1, m2, m3, m4⟩ := min_first hq.can ha.can h2 hl hc hr
 have lp := List.length_pos_iff.2 (lead_PiL hl).2.1
 obtain ⟨D, eD⟩ : ∃ D, (PiL l).length - 1 = D := ⟨_, rfl⟩
 rw [eD] at m1 m2 m3 m4 ⊢
 have hX : ∀ k, k ≤ 4 ∧ k < q.length → SzR 5 30000000 (pwX q a k, tr (mon 1 k)) := fun k hk => ⟨(hq.pwX_sz ha hk.2).mono (by decide) (Nat.le_refl _), by
  show Sz (tr (mon 1 k)) _ _
  rw [tr_of_can (mon_can k (by decide))]
  have := mon_sz (i := k) (by omega)
  exact ⟨by rw [mon_len]; omega, this.pb.mono (by decide), this.can⟩⟩
 have hK : ∀ k, k ≤ D → ∀ y ∈ rwK q a k, SzR 5 (rzB 30000000 k) y := fun k hk => rwK_sz (K := D) (fun k hk => hX k (by omega)) k (by omega)
 have up : ∀ {T : Nat} {y : RwP}, T ≤ 1000000000000 → SzR 5 T y → SzR 1000 1000000000000 y := fun h g => ⟨g.1.mono (by decide) h, g.2.mono (by decide) h⟩
 have hI : ∀ k, k ≤ D → RwI q a k (rwK q a k) := fun k hk => by
  by_cases e : k = D
  ·rw [e]; exact m2
  ·exact (m1 k (by omega)).1
 refine ⟨⟨⟨by omega, by omega⟩, fun k hk => (m1 k hk).2, m3, fun k hk i hi => ?_, fun k hk i hi => ?_, fun k hk => ?_, (hq.dv (⟨by decide, PB_cons qs_1 (PB_nil (by decide)), can1⟩ : Sz [1] 2 1) (by decide))⟩, m4⟩
 ·have hil : i < (rwK q a k).length := by rw [rwK_len]; exact hi
  have hm : (rwK q a k).getD i ([], []) ∈ rwK q a k := by
   rw [List.getD_eq_getElem?_getD, List.getElem?_eq_getElem hil]
   exact List.getElem_mem _
  obtain ⟨c1, c2⟩ := (hI k hk).can _ hm
  exact ⟨⟨fun e => c2 (List.eq_nil_of_length_eq_zero e), lead_ne c1 c2⟩, up (Nat.le_trans (rzB_mono _ (show k ≤ 5 by omega)) rz5) (hK k hk _ hm)⟩
 ·have := redR_sz (hX k (by omega)) (hK k hk) i (by rw [rwK_len]; exact hi)
  exact up (Nat.le_trans (rzN_mono _ _ hi) (Nat.le_trans (rzB_mono (i := k + 1) _ (show k + 1 ≤ 5 by omega)) rz5)) this
 ·have hx := hq.pwX_sz ha (i := k) (by omega)
  obtain ⟨⟨u1, u2⟩, u3⟩ := hq.mu hx ha (by decide)
  exact ⟨⟨u1, hx.pb.mono (by decide), ha.pb.mono (by decide)⟩, u2, u3⟩
end Go.Proofs.YtfbogelmgdojgaaGreat


/- The reference's matrices: values and sizes. -/
namespace Go.Proofs.YtfbogelmgdojgaaGreat
set_option linter.unusedSimpArgs false
set_option linter.unusedVariables false
open Go.RowKit

def dtZ (S : Nat) : Nat → Nat
 | 0 => 1
 | n + 1 => (n + 1) * (S + dtZ S n + 1) + 1
theorem det_sz {S : Nat} : ∀ (n : Nat) (A : Mat), (∀ i, i < n → ∀ j, j < n → qs (A i j) ≤ S) → qs (det n A) ≤ dtZ S n
 | 0, _, _ => qs_1
 | n + 1, A, h => by
   refine sm_qs fun k hk => ?_
   have h1 := det_sz n (minor A k) fun i hi j hj => by
    unfold minor
    split
    ·exact h _ (by omega) _ (by omega)
    ·exact h _ (by omega) _ (by omega)
   have h2 := h 0 (by omega) k hk
   have h3 := qs_mul (A 0 k) (det n (minor A k))
   rw [Rat.mul_assoc, qs_sg]
   omega
def mxL (q a : List Rat) : List (List Rat) := (List.range (q.length - 1)).map fun i => rg (fun j => MA q a j i) (q.length - 1)
theorem mxL_len (q a : List Rat) : (mxL q a).length = q.length - 1 := by simp [mxL]
theorem mxL_get {q a : List Rat} {i : Nat} (h : i < q.length - 1) : (mxL q a).getD i [] = rg (fun j => MA q a j i) (q.length - 1) := by
 unfold mxL
 rw [List.getD_eq_getElem?_getD, List.getElem?_map, List.getElem?_range h]; rfl
theorem mxL_ge {q a : List Rat} {i : Nat} (h : q.length - 1 ≤ i) : (mxL q a).getD i [] = [] := by
 rw [List.getD_eq_getElem?_getD, List.getElem?_eq_none (by rw [mxL_len]; exact h)]; rfl
theorem mxL_cf {q a : List Rat} {i j : Nat} (hi : i < q.length - 1) (hj : j < q.length - 1) : cf ((mxL q a).getD i []) j = MA q a j i := by rw [mxL_get hi, cf_rg, if_pos hj]
theorem mxL_det (q a : List Rat) : det (mxL q a).length (subM 0 (mxL q a)) = Nm q a := by
 rw [← det_MAt, mxL_len]
 refine (det_ML _).congr fun i hi j hj => ?_
 unfold subM
 rw [Nat.zero_add, Nat.zero_add, mxL_cf hi hj]
def crL (M : List (List Rat)) (k m : Nat) : List (List Rat) := (List.range m).map fun i => (M.getD i []).set k (if i = 0 then 1 else 0)
theorem crL_len (M : List (List Rat)) (k m : Nat) : (crL M k m).length = m := by simp [crL]
theorem crL_snoc (M : List (List Rat)) (k m : Nat) : crL M k m ++ [(M.getD m []).set k (if m = 0 then 1 else 0)] = crL M k (m + 1) := by unfold crL; rw [List.range_succ, List.map_append]; rfl
theorem crL_get {M : List (List Rat)} {k m i : Nat} (h : i < m) : (crL M k m).getD i [] = (M.getD i []).set k (if i = 0 then 1 else 0) := by
 unfold crL
 rw [List.getD_eq_getElem?_getD, List.getElem?_map, List.getElem?_range h]; rfl
theorem crL_ge {M : List (List Rat)} {k m i : Nat} (h : m ≤ i) : (crL M k m).getD i [] = [] := by
 rw [List.getD_eq_getElem?_getD, List.getElem?_eq_none (by rw [crL_len]; exact h)]; rfl
theorem crL_det {q a s : List Rat} (hq : Can q) (h2 : 2 ≤ q.length) (hs : s.length ≤ q.length - 1) (h : pMod (pMul s a) q = [1]) {k : Nat} (hk : k < q.length - 1) :
 det (crL (mxL q a) k (q.length - 1)).length (subM 0 (crL (mxL q a) k (q.length - 1))) = cf s k * Nm q a := by
 rw [← inv_cramer hq h2 hs h hk, crL_len]
 refine (det_ML _).congr fun i hi j hj => ?_
 unfold subM
 rw [Nat.zero_add, Nat.zero_add, crL_get hi, cf_setL (by rw [mxL_get hi, rg_len]; exact hk), mxL_cf hi hj]
def ivL (q a : List Rat) : List Rat := tr ((List.range (q.length - 1)).map fun k => det (crL (mxL q a) k (q.length - 1)).length (subM 0 (crL (mxL q a) k (q.length - 1))) / Nm q a)
theorem ivL_eq {q a s : List Rat} (hq : Can q) (h2 : 2 ≤ q.length) (cs : Can s) (hs : s.length ≤ q.length - 1) (h : pMod (pMul s a) q = [1]) (h0 : Nm q a ≠ 0) : ivL q a = s :=
 inv_list cs hs h0 fun k hk => crL_det hq h2 hs h hk
theorem MA_sz {q a : List Rat} {n k m s : Nat} (hq : Md0 q n k) (ha : Sz a m s) (hm : 2 ≤ m) {i : Nat} (hi : i < q.length - 1) (j : Nat) : qs (MA q a i j) ≤ 2 ^ (m + 2) * (s + 11009) := by
 have n5 := hq.cs0
 have hl := hq.len
 have hx : Sz (xs i a) (m + 3) s := ⟨by have := len_xs (e := i) ha.can; have := ha.len; omega, xs_PB ha.pb i, can_xs i a⟩
 exact (hq.rm hx (by omega)).pb j
theorem det_ok {M : List (List Rat)} {n S : Nat} (hn : n ≤ 4) (hl : M.length = n) (hw : ∀ i, i < n → (M.getD i []).length = n) (hS : ∀ i, PB (M.getD i []) S) (h : eS S 4 ≤ 1000000000000 ∧ eT S 4 ≤ 1000000000000) : DetOk M :=
 ⟨⟨by omega, fun i hi => by rw [hw i (by omega), hl]⟩, S, hS, Nat.le_trans (eS_mono S (by omega)) h.1, Nat.le_trans (eT_mono S (by omega)) h.2⟩
theorem mxL_PB {q a : List Rat} {S : Nat} (h1 : 1 ≤ S) (h : ∀ i, i < q.length - 1 → ∀ j, qs (MA q a i j) ≤ S) (i : Nat) : PB ((mxL q a).getD i []) S := fun j => by
 by_cases hi : i < q.length - 1
 ·rw [mxL_get hi, cf_rg]
  split
  ·exact h j (by assumption) i
  ·exact Nat.le_trans qs_0 h1
 ·rw [mxL_ge (by omega)]
  exact Nat.le_trans qs_0 h1
theorem crL_PB {M : List (List Rat)} {k m S : Nat} (h1 : 1 ≤ S) (h : ∀ i, PB (M.getD i []) S) (i : Nat) : PB ((crL M k m).getD i []) S := fun j => by
 by_cases hi : i < m
 ·rw [crL_get hi]
  by_cases hk : k < (M.getD i []).length
  ·rw [cf_setL hk]
   split
   ·split
    ·exact Nat.le_trans qs_1 h1
    ·exact Nat.le_trans qs_0 h1
   ·exact h i j
  ·rw [List.set_eq_of_length_le (by omega)]
   exact h i j
 ·rw [crL_ge (by omega)]
  exact Nat.le_trans qs_0 h1
def MxOk (q a : List Rat) : Prop := (2 ≤ q.length ∧ q.length ≤ 100) ∧ ∀ j, j < q.length - 1 → ((a.length + (mon 1 j).length ≤ 1000000 ∧ PB a 5000000000000 ∧ PB (mon 1 j) 5000000000000) ∧ (∃ i k, (PB a i ∧ PB (mon 1 j) k) ∧ a.length * (i + k + 1) ≤ 4999999999999) ∧ DvOk (pMul a (mon 1 j)) q ∧ q ≠ [])
theorem mx_ok {q a : List Rat} {n k m s : Nat} (hq : Md0 q n k) (ha : Sz a m s) (h : ((2 ≤ m + 6 - 1 ∧ m + 6 - 1 ≤ 1000) ∧ 2 ^ (m + 6 - 1 - 1) * (m * (s + 1 + 1) + 1 + 11009) ≤ 2500000000000) ∧ m + 6 ≤ 1000000 ∧ m * (s + 1 + 1) + 1 ≤ 5000000000000 ∧ s ≤ 5000000000000) : MxOk q a := by
 have n5 := hq.cs0
 have hl := hq.len
 refine ⟨⟨hq.two, by omega⟩, fun j hj => ?_⟩
 have hm := mon_sz (i := j) (by omega)
 obtain ⟨⟨u1, u2⟩, u3⟩ := hq.mu ha hm ⟨h.1, h.2.1, h.2.2.1⟩
 exact ⟨⟨u1, ha.pb.mono h.2.2.2, hm.pb.mono (by decide)⟩, u2, u3⟩
theorem xs_mul {a : List Rat} (ha : Can a) (j : Nat) : pMul a (mon 1 j) = xs j a := ev_inj (can_pMul _ _) (can_xs _ _) fun x => by rw [ev_pMul, ev_xs, ev_mon]; grind
theorem pwX_z {q : List Rat} (hq : Can q) (h2 : 2 ≤ q.length) : ∀ i, pwX q (mon 1 1) i = pMod (mon 1 i) q
 | 0 => rfl
 | i + 1 => by
   have q0 : q ≠ [] := fun e => by rw [e] at h2; simp at h2
   rw [pwX, pwX_z hq h2 i, mod_mul_l (mon_can i (by decide)) hq q0]
   congr 1
   exact ev_inj (can_pMul _ _) (mon_can _ (by decide)) fun x => by rw [ev_pMul, ev_mon, ev_mon, ev_mon, powq_add]
theorem pow_tr {q : List Rat} (hq : Can q) (h2 : 2 ≤ q.length) (n : Nat) : (List.range n).map (fun i => TrM q (pwX q (mon 1 1) i)) = nwL (pMonic q) n := by
 have q0 : q ≠ [] := fun e => by rw [e] at h2; simp at h2
 refine List.ext_getElem (by simp [nwL_len]) fun i h1 h3 => ?_
 have hi : i < n := by simpa using h1
 have e := nwL_get (pMonic q) n i hi
 unfold cf at e
 rw [List.getD_eq_getElem?_getD, List.getElem?_eq_getElem h3, Option.getD_some] at e
 rw [List.getElem_map, List.getElem_range, e, pwX_z hq h2, TrM_mod (mon_can i (by decide)) hq q0, ← trQ_TrM (mon_can i (by decide)) hq h2, trQ_mon hq h2 (i + 1) i (by omega)]
end Go.Proofs.YtfbogelmgdojgaaGreat


/- What the law of the reference needs. -/
namespace Go.Proofs.YtfbogelmgdojgaaGreat
set_option linter.unusedSimpArgs false
set_option linter.unusedVariables false
open Go.RowKit

theorem Md.gc {q : List Rat} {n k : Nat} (hq : Md q n k) : ∃ m, GcOk m q (pDiff q) := by
 have hC : gcC 12 n k (n - 1) (k + 1) = true := by
  rcases hq.cs with ⟨rfl, rfl⟩ | ⟨rfl, rfl⟩ | ⟨rfl, rfl⟩ | ⟨rfl, rfl⟩ <;> decide +kernel
 exact ⟨12, (gcC_ok 12 hC hq.can (can_pDiff q) hq.len (by rw [len_pDiff hq.can, hq.len]) hq.pb (diff_PB hq.pb (by have := hq.sz.len; omega))).1⟩
theorem zs_gc {l : List Int} (h : ∀ z ∈ l, B8 z) (h2 : 1 < (zsL l 5).length) : ∃ m, GcOk m (zsL l 5) (pDiff (zsL l 5)) := by
 have hs : Sz (zsL l 5) 5 1 := zs_sz h 5
 have l5 := hs.len
 have key : ∀ n, n = 2 ∨ n = 3 ∨ n = 4 ∨ n = 5 → gcC 10 n 1 (n - 1) 1 = true := fun n hn => by
  rcases hn with rfl | rfl | rfl | rfl <;> decide +kernel
 exact ⟨10, (gcC_ok 10 (key _ (by omega)) hs.can (can_pDiff _) rfl (len_pDiff hs.can) hs.pb (zs_diff h)).1⟩
theorem Md.val {q : List Rat} {n k : Nat} (hq : Md q n k) (hs : cop q (pDiff q)) : validQ3 q = true := by
 unfold validQ3
 have h2 := hq.two
 rw [tr_of_can hq.can, cop_gcd1 hq.can (can_pDiff q) hs]
 simp only [List.length_singleton, decide_true, Bool.and_true, beq_self_eq_true, Bool.true_and]
 exact decide_eq_true (by omega)
structure IvC (q a : List Rat) : Prop where
 mx : MxOk q a
 dt : DetOk (mxL q a)
 cr : ∀ k, k < q.length - 1 → DetOk (crL (mxL q a) k (q.length - 1)) ∧ qs (det (crL (mxL q a) k (q.length - 1)).length (subM 0 (crL (mxL q a) k (q.length - 1)))) ≤ 5000000000000
 nm : qs (Nm q a) ≤ 5000000000000
theorem Md0.ivC {q a : List Rat} {n k : Nat} (hq : Md0 q n k) (ha : Sz a 6 1) : IvC q a := by
 have n5 := hq.cs0
 have hl := hq.len
 have hS : ∀ i, i < q.length - 1 → ∀ j, qs (MA q a i j) ≤ 2818560 := fun i hi j => MA_sz hq ha (by decide) hi j
 have hM := mxL_PB (q := q) (a := a) (by decide) hS
 have dS : ∀ m, m ≤ 4 → dtZ 2818560 m ≤ 5000000000000 := fun m hm => by
  have : m = 0 ∨ m = 1 ∨ m = 2 ∨ m = 3 ∨ m = 4 := by omega
  rcases this with rfl | rfl | rfl | rfl | rfl <;> decide
 refine ⟨mx_ok hq ha (by decide), det_ok (n := n - 1) (by omega) (by rw [mxL_len, hl]) (fun i hi => by rw [mxL_get (by omega), rg_len, hl]) hM (by decide), fun k hk => ⟨det_ok (n := n - 1) (by omega) (by rw [crL_len, hl]) (fun i hi => ?_) (crL_PB (by decide) hM) (by decide), ?_⟩, ?_⟩
 ·rw [crL_get (by omega), List.length_set, mxL_get (by omega), rg_len, hl]
 ·rw [crL_len]
  refine Nat.le_trans (det_sz (S := 2818560) _ _ fun i _ j _ => ?_) (dS _ (by omega))
  exact crL_PB (by decide) hM _ _
 ·rw [← det_MAt]
  exact Nat.le_trans (det_sz (S := 2818560) _ _ fun i hi j hj => hS j hj i) (dS _ (by omega))
def iv6 (q a : List Rat) : V := if Nm q a = 0 then .tup [.lst (V.rats []), .raw (.int .i64 60)] else .tup [.lst (V.rats (ivL q a)), .raw (.int .i64 0)]
theorem inv_both {q a : List Rat} {n k : Nat} (hq : Md q n k) (ha : Sz a 6 1) : ∃ s e, (s.length ≤ 1000000 ∧ PB s 5000000000000) ∧ invR q a = .tup [.lst (V.rats s), .raw (.int .i64 e)] ∧ iv6 q a = .tup [.lst (V.rats s), .raw (.int .i64 e)] := by
 have q0 := hq.ne
 have h2 := hq.two
 obtain ⟨_, S, ⟨s1, _⟩, hs⟩ := iv_ok hq ha
 have el := cop_len ha.can hq.can q0
 have nc := norm_cop ha.can hq.can h2
 rw [norm_Nm ha.can hq.can h2, Nm_monic hq.can q0, ← el] at nc
 have hl := hq.len
 have n5 := hq.cs0
 by_cases h1 : (pExt (pMod a q) q).1.length = 1
 ·have e1 : invR q a = .tup [.lst (V.rats (pMod (pExt (pMod a q) q).2.1 q)), .raw (.int .i64 0)] := if_pos h1
  have im := inv_mul ha.can hq.can h2 h1
  have sm : pMod (pExt (pMod a q) q).2.1 q = (pExt (pMod a q) q).2.1 := (dm_small hs.can hq.can (by have := hs.len; omega)).2
  rw [sm] at e1 im
  have n0 : Nm q a ≠ 0 := fun e => nc.1 e h1
  refine ⟨_, 0, ⟨by have := hs.len; omega, hs.pb.mono (by omega)⟩, e1, ?_⟩
  unfold iv6
  rw [if_neg n0, ivL_eq hq.can h2 hs.can (by have := hs.len; omega) im n0]
 ·have n0 : Nm q a = 0 := nc.2 h1
  exact ⟨[], 60, ⟨by decide, PB_nil (by decide)⟩, if_neg h1, by unfold iv6; rw [if_pos n0]⟩
def TrC (q a : List Rat) : Prop := MxOk q a ∧ (∀ i, i ≤ q.length - 1 → qs (sm i fun j => MA q a j j) ≤ 5000000000000) ∧ ∀ i, i < q.length - 1 → qs (MA q a i i) ≤ 5000000000000
theorem trC_of {q a : List Rat} {n k m s : Nat} (hq : Md0 q n k) (ha : Sz a m s) (h : 2 ≤ m ∧ 2 ^ (m + 2) * (s + 11009) ≤ 100000000000) (h' : ((2 ≤ m + 6 - 1 ∧ m + 6 - 1 ≤ 1000) ∧ 2 ^ (m + 6 - 1 - 1) * (m * (s + 1 + 1) + 1 + 11009) ≤ 2500000000000) ∧ m + 6 ≤ 1000000 ∧ m * (s + 1 + 1) + 1 ≤ 5000000000000 ∧ s ≤ 5000000000000) : TrC q a := by
 have n5 := hq.cs0
 have hl := hq.len
 obtain ⟨T, eT⟩ : ∃ T, T = 100000000000 := ⟨_, rfl⟩
 have hS : ∀ i, i < q.length - 1 → ∀ j, qs (MA q a i j) ≤ T := fun i hi j => Nat.le_trans (MA_sz hq ha h.1 hi j) (Nat.le_trans h.2 (Nat.le_of_eq eT.symm))
 refine ⟨mx_ok hq ha h', fun i hi => ?_, fun i hi => Nat.le_trans (hS i hi i) (by omega)⟩
 refine Nat.le_trans (sm_qs fun j hj => hS j (by omega) j) ?_
 have : i * (T + 1) ≤ 4 * (T + 1) := Nat.mul_le_mul_right _ (by omega)
 omega
def PwC (q : List Rat) (n : Nat) : Prop := (2 ≤ q.length ∧ q.length ≤ 100 ∧ n ≤ 100) ∧ ∀ i, i < n → TrC q (pwX q (mon 1 1) i) ∧ ((pwX q (mon 1 1) i).length + (mon 1 1).length ≤ 1000000 ∧ PB (pwX q (mon 1 1) i) 5000000000000 ∧ PB (mon 1 1) 5000000000000) ∧ (∃ j k, (PB (pwX q (mon 1 1) i) j ∧ PB (mon 1 1) k) ∧ (pwX q (mon 1 1) i).length * (j + k + 1) ≤ 4999999999999) ∧ DvOk (pMul (pwX q (mon 1 1) i) (mon 1 1)) q ∧ q ≠ []
theorem pwC_of {q : List Rat} {n k m : Nat} (hq : Md0 q n k) (hm : m ≤ 9) : PwC q m := by
 have n5 := hq.cs0
 have hl := hq.len
 refine ⟨⟨hq.two, by omega, by omega⟩, fun i hi => ?_⟩
 have hx : Sz (pwX q (mon 1 1) i) 4 2818560 := by
  rw [pwX_z hq.can hq.two]
  have : Sz (mon 1 i) 9 1 := ⟨by rw [mon_len]; omega, fun j => by
   by_cases e : j = i
   ·rw [e, mon_top]; exact qs_1
   ·rw [mon_low _ _ _ e]; exact qs_0, mon_can i (by decide)⟩
  exact hq.rm this (by decide)
 have h1 := mon_sz (i := 1) (by decide)
 obtain ⟨⟨u1, u2⟩, u3⟩ := hq.mu hx h1 (by decide)
 exact ⟨trC_of hq hx (by decide) (by decide), ⟨u1, hx.pb.mono (by decide), h1.pb.mono (by decide)⟩, u2, u3⟩
theorem nwZ8 : 5 * (11009 + nwZ 11009 8 + 1) + 1 ≤ 2500000000000 := by decide
theorem po8 {q : List Rat} {n k : Nat} (hq : Md0 q n k) {L : Nat} (hL : L ≤ 8) : PoOk q L ∧ PB (nwL (pMonic q) L) 5000000000000 := by
 have h2 := hq.two
 have h3 := hq.sz.len
 have h4 := nwZ_step 11009 hL
 have h5 := nwZ8
 generalize nwZ 11009 8 = Y at h4 h5
 exact ⟨⟨⟨hq.can, by omega, 5504, hq.sz.pb, by decide⟩, ⟨by rw [len_pMonic hq.can]; omega, by rw [len_pMonic hq.can]; omega⟩, nw_ok hq.mon.1 hq.mon.2 ⟨by omega, by omega⟩⟩, (nwL_sz hq.mon.1 hq.mon.2 L (by omega)).mono (by omega)⟩
end Go.Proofs.YtfbogelmgdojgaaGreat

