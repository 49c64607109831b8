/- Texts S13 S25 S26 ST13 ST14 S27 in one. -/
import Derived.Test.YtlhapagililgmaaGreatR33
import Derived.Test.YtlhapagililgmaaGreatR30
import Derived.Test.YtlhapagililgmaaGreatR23
import Derived.Test.YtlhapagililgmaaGreatR31
/- Contracts: rational roots. -/
namespace Go.Proofs.YtlhapagililgmaaGreat
set_option linter.unusedSimpArgs false
set_option linter.unusedVariables false
open Go.RowKit

def ldZ (p : List Rat) : Int := zz (igL p) (p.length - 1)
def pwQ (c : Rat) : Nat → Rat
 | 0 => ((1 : Int) : Rat)
 | i + 1 => pwQ c i * c
def lqL (p : List Rat) (n : Nat) : List Rat := (List.range n).map fun i => cf p i / pwQ (ldZ p : Rat) i
def lqP (p : List Rat) : List Rat := tr (lqL p p.length)
def rtL (p : List Rat) : List Rat := (intL (lqP p)).map fun n : Int => (n : Rat) / (ldZ p : Rat)
def ratL (p : List Rat) : List Rat := if p.length < 2 then [] else srt (rtL p)
def RaOk (p : List Rat) : Prop := 2 ≤ p.length → ((IgOk p ∧ PB p 5000000000000) ∧ (ldZ p ≠ 0 ∧ dl (ldZ p).natAbs ≤ 5000000000000 ∧ ∀ i, i ≤ p.length → pwQ (ldZ p : Rat) i ≠ 0 ∧ qs (pwQ (ldZ p : Rat) i) ≤ 5000000000000)) ∧ (lqP p ≠ [] → InOk (lqP p)) ∧ ((intL (lqP p)).length ≤ 12 ∧ (∀ i, dl (zz (intL (lqP p)) i).natAbs ≤ 5000000000000) ∧ PB (rtL p) 5000000000000)
theorem lqL_len (p : List Rat) (n : Nat) : (lqL p n).length = n := by simp [lqL]
theorem lqL_succ (p : List Rat) (n : Nat) : lqL p (n + 1) = lqL p n ++ [cf p n / pwQ (ldZ p : Rat) n] := by simp [lqL, List.range_succ]
theorem qr_set (l : List Rat) (n : Nat) (q : Rat) : (V.rats l ++ List.replicate (n + 1) z0).set l.length (.Q q) = V.rats (l ++ [q]) ++ List.replicate n z0 := by
 rw [List.set_append_right _ _ (by rw [rats_len]; exact Nat.le_refl _), rats_len, Nat.sub_self, List.replicate_succ]
 simp [V.rats]
theorem qr_at (l : List Rat) (n : Nat) : (V.rats l ++ List.replicate (n + 1) z0)[l.length]? = some z0 := by
 rw [List.getElem?_append_right (by rw [rats_len]; exact Nat.le_refl _), rats_len, Nat.sub_self, List.replicate_succ]; rfl
theorem qr_len (l : List Rat) (n : Nat) : (V.rats l ++ List.replicate n z0).length = l.length + n := by simp [V.rats]
theorem qr_pure (l : List Rat) (n : Nat) : allPure (V.rats l ++ List.replicate n z0) := fun y hy => by
 rcases List.mem_append.1 hy with h | h
 ·obtain ⟨z, _, rfl⟩ := List.mem_map.1 h; rfl
 ·rw [List.eq_of_mem_replicate h]; rfl
theorem qs_intB {z : Int} (h : dl z.natAbs ≤ 5000000000000) : qs (z : Rat) ≤ 5000000000000 := Nat.le_trans (qs_int z) (Nat.max_le.2 ⟨h, by decide⟩)
def rtS (p : List Rat) : Nat → St
 | 0 => mkSt [(4, .ptr 0 4 0 0), (8, .raw (.slice none 0 0)), (52, .lst (V.zs (intL (lqP p)))), (53, .raw (.int .i64 ((intL (lqP p)).length : Nat))), (54, .raw (.int .i64 ((0 : Nat) : Int)))] [(0, true, ⟨46, 4, [.Q (ldZ p : Rat)]⟩)] 1 73
 | i + 1 => mkSt [(4, .ptr 0 4 0 0), (8, .sl 1 4 0 (i + 1)), (52, .lst (V.zs (intL (lqP p)))), (53, .raw (.int .i64 ((intL (lqP p)).length : Nat))), (54, .raw (.int .i64 ((i + 1 : Nat) : Int)))] [(0, true, ⟨46, 4, [.Q (ldZ p : Rat)]⟩), (1, true, ⟨46, 4, V.rats ((rtL p).take (i + 1))⟩)] 2 73
theorem rtL_len (p : List Rat) : (rtL p).length = (intL (lqP p)).length := by simp [rtL]
theorem rtL_take (p : List Rat) {i : Nat} (h : i < (intL (lqP p)).length) : (rtL p).take (i + 1) = (rtL p).take i ++ [(zz (intL (lqP p)) i : Rat) / (ldZ p : Rat)] := by
 rw [List.take_add_one, List.getElem?_eq_getElem (by rw [rtL_len]; exact h)]
 unfold rtL zz
 rw [List.getElem_map, List.getD_eq_getElem?_getD, List.getElem?_eq_getElem h]
 rfl
def kRats : Con := con1 pR fun p => (p.length ≤ 1000000 ∧ RaOk p, .lst (V.rats (ratL p)))
attribute [go_sem ↓, go_sem] kRats
set_option maxRecDepth 4000 in
theorem rats_C : Ctr Tryz.prog 35 kRats := Ctr.c1 (by kernel_rfl) fun p h => by
 obtain ⟨hl, h⟩ := h
 show PCall _ _ _ (.lst (V.rats (ratL p)))
 have T := (tabsM mixed (tbl_cons integ_C (tbl_cons sWhole_C (tbl_cons whole_C (tbl_cons qDiv_C (tbl_cons qMul_C (tbl_cons trim_C (tbl_cons ints_C (tbl_cons sortF0_C tbl_nil)))))))) (mtb_cons sortF_C mtb_nil))
 refine PCall.of_awp Tryz.func35 rfl Tryz.ntmps35 Tryz.results35 (by simp) ?_
 refine AWp.seq (vc_ok T _ _ _ ?_)
 simp only [go_sem]
 refine AWp.seq (vc_ok T _ _ _ ?_)
 by_cases h2 : p.length < 2
 ·have c1 : (p.length : Int) < 2 := by omega
  have e1 : ratL p = [] := if_pos h2
  rw [e1]
  simp only [go_sem, c1]
  exact .refl _
 ·have c1 : ¬ (p.length : Int) < 2 := by omega
  have e1 : ratL p = srt (rtL p) := if_neg h2
  obtain ⟨⟨⟨hig, hb⟩, l0, l1, hpw⟩, hin, h12, hz, hrt⟩ := h (by omega)
  have c2 : (p.length : Int) - 1 = ((p.length - 1 : Nat) : Int) := by omega
  have c3 : p.length - 1 < (igL p).length := by rw [igL_len]; omega
  have c4 : ((igL p).length : Int) = (p.length : Nat) := by rw [igL_len]
  have e2 : zz (igL p) (p.length - 1) = ldZ p := rfl
  rw [e1]
  simp only [go_sem, c1]
  refine AWp.seq (vc_ok T _ _ _ ?_)
  simp only [go_sem]
  refine ⟨hig, ?_⟩
  refine AWp.seq (vc_ok T _ _ _ ?_)
  simp only [go_sem, c2, c3, c4, e2, igL_len]
  refine ⟨⟨by omega, by omega⟩, ⟨by omega, by omega⟩, by omega, ?_⟩
  refine AWp.seq (vc_ok T _ _ _ ?_)
  simp only [go_sem]
  refine ⟨⟨by omega, by omega, by omega, by omega⟩, ?_⟩
  refine AWp.seq (vc_ok T _ _ _ ?_)
  simp only [go_sem]
  refine AWp.seq (vc_ok T _ _ _ ?_)
  simp only [go_sem]
  refine AWp.loops (X := { i : Nat // i ≤ p.length }) (fun i => mkSt [(0, .lst (V.rats p)), (4, .ptr 0 4 0 0), (5, .sl 1 4 0 p.length), (6, .ptr 2 4 0 0), (30, .raw (.int .i64 (p.length : Nat))), (31, .raw (.int .i64 (i.1 : Nat)))]
   [(0, true, ⟨46, 4, [.Q (ldZ p : Rat)]⟩), (1, true, ⟨46, 4, V.rats (lqL p i.1) ++ List.replicate (p.length - i.1) z0⟩), (2, true, ⟨46, 4, [.Q (pwQ (ldZ p : Rat) i.1)]⟩)] 3 73) (fun i => p.length - i.1) ⟨0, Nat.zero_le _⟩ (Wk.of [14, 18, 21] (by decide) ?_) ?_
  ·simp only [go_sem, pwQ, Int.natCast_zero]
   exact ⟨rfl, qr_pure _ _⟩
  rintro ⟨i, hi⟩
  refine vc_at T ?_
  by_cases hlt : i < p.length
  ·have d1 : (i : Int) < (p.length : Int) := by omega
   have d2 : (i : Int) + 1 = ((i + 1 : Nat) : Int) := by omega
   have d3 : 0 ≤ (i : Int) := by omega
   obtain ⟨r, hr⟩ : ∃ r, p.length - i = r + 1 := ⟨p.length - i - 1, by omega⟩
   have hr2 : p.length - (i + 1) = r := by omega
   obtain ⟨w0, w1⟩ := hpw i hi
   have dv : divR (cf p i) (pwQ (ldZ p : Rat) i) = .tup [.Q (cf p i / pwQ (ldZ p : Rat) i), .raw (.int .i64 0)] := if_neg w0
   have q1 := hb i
   have q2 := qs_intB l1
   have s1 : (V.rats (lqL p i) ++ List.replicate (r + 1) z0).set i (.Q (cf p i / pwQ (ldZ p : Rat) i)) = V.rats (lqL p (i + 1)) ++ List.replicate r z0 := by
    have := qr_set (lqL p i) r (cf p i / pwQ (ldZ p : Rat) i)
    rwa [lqL_len, ← lqL_succ] at this
   have s3 : (V.rats (lqL p i) ++ List.replicate (r + 1) z0)[i]? = some (.agg [.raw (.bool false), .raw (.slice none 0 0), .raw (.bool false), .raw (.slice none 0 0)]) := by
    have := qr_at (lqL p i) r
    rwa [lqL_len] at this
   have s4 : (V.rats (lqL p i) ++ List.replicate (r + 1) z0).length = p.length := by rw [qr_len, lqL_len]; omega
   rw [hr]
   simp only [go_sem, d1, d2, d3, hlt, dv, q1, q2, w1, s1, s3, s4]
   refine ⟨by rfl, ⟨by omega, by omega⟩, ⟨i + 1, hlt⟩, Wk.of [0, 1, 2] (by decide) ?_, by simp only; omega⟩
   simp only [go_sem, hr2, pwQ]
   exact qr_pure _ _
  ·obtain rfl : i = p.length := by omega
   have d1 : ¬ (p.length : Int) < (p.length : Int) := by omega
   have s4 : V.rats (lqL p p.length) ++ List.replicate (p.length - p.length) z0 = V.rats (lqL p p.length) := by rw [Nat.sub_self, List.replicate_zero, List.append_nil]
   rw [s4]
   simp only [go_sem, d1]
   refine AWp.seq (vc_ok T _ _ _ ?_)
   simp only [go_sem]
   refine AWp.seq (vc_ok T _ _ _ ?_)
   have tk : List.take p.length (lqL p p.length) = lqL p p.length := List.take_of_length_le (by rw [lqL_len]; exact Nat.le_refl _)
   have etr : tr (lqL p p.length) = lqP p := rfl
   have hll : (lqL p p.length).length ≤ 1000000000 := by rw [lqL_len]; omega
   simp only [go_sem, lqL_len, tk, etr, Nat.le_refl]
   refine ⟨by omega, hin, ?_⟩
   have mx : maxLen = 9223372036854775807 := by decide
   refine AWp.loops (X := { i : Nat // i ≤ (intL (lqP p)).length }) (fun i => rtS p i.1) (fun i => (intL (lqP p)).length - i.1) ⟨0, Nat.zero_le _⟩ (Wk.of [0] (by decide) ?_) ?_
   ·simp only [go_sem, Int.natCast_zero]
   rintro ⟨i, hi⟩
   have q2 := qs_intB l1
   have lq0 : (ldZ p : Rat) ≠ 0 := fun e => l0 (by exact_mod_cast e)
   have dv : ∀ z : Int, divR (z : Rat) (ldZ p : Rat) = .tup [.Q ((z : Rat) / (ldZ p : Rat)), .raw (.int .i64 0)] := fun z => if_neg lq0
   rcases i with _ | i
   ·show AWp _ _ _ (mkSt _ _ _ _)
    refine vc_at T ?_
    by_cases hlt : 0 < (intL (lqP p)).length
    ·have d1 : (0 : Int) < ((intL (lqP p)).length : Int) := by omega
     have q1 := qs_intB (hz 0)
     have e3 : (rtL p).take (0 + 1) = [(zz (intL (lqP p)) 0 : Rat) / (ldZ p : Rat)] := rtL_take p hlt
     simp only [go_sem, d1, hlt, dv, q1, q2, mx, Int.natCast_zero]
     refine ⟨by rfl, ⟨0 + 1, hlt⟩, (Wk.of [0, 19] (ss := [(4, .ptr 0 4 0 0), (8, .sl 1 4 0 (0 + 1)), (52, .lst (V.zs (intL (lqP p)))), (53, .raw (.int .i64 ((intL (lqP p)).length : Nat))), (54, .raw (.int .i64 1))]) (hs := [(0, true, ⟨46, 4, [.Q (ldZ p : Rat)]⟩), (1, true, ⟨46, 4, V.rats ((rtL p).take (0 + 1))⟩)]) (n := 2) (N := 73) (by decide) ?_ : Wk _ (mkSt _ _ _ _)), by simp only; omega⟩
     rw [e3]
     simp only [go_sem]
     rfl
    ·have d1 : ¬ (0 : Int) < ((intL (lqP p)).length : Int) := by omega
     have er : rtL p = [] := List.eq_nil_of_length_eq_zero (by rw [rtL_len]; omega)
     rw [er]
     have e4 : srt [] = [] := rfl
     rw [e4]
     simp only [go_sem, d1, Int.natCast_zero]
     refine AWp.seq (vc_ok T _ _ _ ?_)
     simp only [go_sem]
     refine vc_ok T _ _ _ ?_
     simp only [go_sem]
     exact .refl _
   ·show AWp _ _ _ (mkSt _ _ _ _)
    refine vc_at T ?_
    have lt : (List.take (i + 1) (rtL p)).length = i + 1 := by rw [List.length_take, rtL_len]; omega
    have tk2 : (V.rats ((rtL p).take (i + 1))).take (i + 1) = V.rats ((rtL p).take (i + 1)) := List.take_of_length_le (by rw [rats_len, lt]; exact Nat.le_refl _)
    by_cases hlt : i + 1 < (intL (lqP p)).length
    ·have d1 : ((i + 1 : Nat) : Int) < ((intL (lqP p)).length : Int) := by omega
     have d2 : ((i + 1 : Nat) : Int) + 1 = ((i + 1 + 1 : Nat) : Int) := by omega
     have d3 : (0 : Int) ≤ ((i + 1 : Nat) : Int) := by omega
     have q1 := qs_intB (hz (i + 1))
     have e3 := rtL_take p hlt
     simp only [go_sem, d1, d2, d3, hlt, dv, q1, q2, mx, tk2, lt]
     refine ⟨by rfl, ⟨by omega, by omega⟩, ⟨by omega, by omega⟩, ⟨i + 1 + 1, hlt⟩, (Wk.of [0, 20] (by decide) ?_ : Wk _ (mkSt _ _ _ _)), by simp only; omega⟩
     simp only [go_sem, e3]
    ·have d1 : ¬ ((i + 1 : Nat) : Int) < ((intL (lqP p)).length : Int) := by omega
     have er : (rtL p).take (i + 1) = rtL p := List.take_of_length_le (by rw [rtL_len]; omega)
     rw [er] at tk2 lt ⊢
     simp only [go_sem, d1]
     refine AWp.seq (vc_ok T _ _ _ ?_)
     simp only [go_sem]
     have rl : (rtL p).length = i + 1 := by rw [rtL_len]; omega
     have tk3 : (V.rats (srt (rtL p))).take (i + 1) = V.rats (srt (rtL p)) := List.take_of_length_le (by rw [rats_len, srt_len, rl]; exact Nat.le_refl _)
     refine ⟨⟨rtL p, rfl, rl, by omega, hrt⟩, vc_ok T _ _ _ ?_⟩
     simp only [go_sem, tk3, srt_len, rl, Nat.le_refl]
end Go.Proofs.YtlhapagililgmaaGreat


/- The conditions of Integers, at small polynomials. -/
namespace Go.Proofs.YtlhapagililgmaaGreat
set_option linter.unusedSimpArgs false
set_option linter.unusedVariables false
open Go.RowKit

theorem cast_lt {a b : Int} (h : a < b) : (a : Rat) < (b : Rat) := Rat.intCast_lt_intCast.2 h
theorem hlv_len {p : List Rat} (hp : Can p) (p0 : p ≠ []) (own : List Int) : ∀ (n : Nat) (lo hi : Int), lo < hi → (hlv own (chZ p) n lo hi (vrS p (lo : Rat) : Nat) (vrS p (hi : Rat) : Nat)).length + vrS p (hi : Rat) ≤ vrS p (lo : Rat)
 | 0, lo, hi, h => by
   have hle := vrS_le hp p0 (Std.le_of_lt (cast_lt h))
   unfold hlv
   by_cases e : ((vrS p (lo : Rat) : Nat) : Int) = (vrS p (hi : Rat) : Nat)
   ·rw [if_pos e]; simpa using hle
   ·rw [if_neg e]
    split
    ·split
     ·simp; omega
     ·simpa using hle
    ·simpa using hle
 | n + 1, lo, hi, h => by
   have hle := vrS_le hp p0 (Std.le_of_lt (cast_lt h))
   unfold hlv
   by_cases e : ((vrS p (lo : Rat) : Nat) : Int) = (vrS p (hi : Rat) : Nat)
   ·rw [if_pos e]; simpa using hle
   ·rw [if_neg e]
    by_cases e2 : (lo + hi) / 2 = lo
    ·rw [if_pos e2]
     split
     ·simp; omega
     ·simpa using hle
    ·rw [if_neg e2]
     have eU : (vS (chZ p) (((lo + hi) / 2 : Int) : Rat) (chZ p).length).1 = ((vrS p (((lo + hi) / 2 : Int) : Rat) : Nat) : Int) := vS_vrS hp p0 _
     rw [eU, List.length_append]
     have h1 := hlv_len hp p0 own n lo ((lo + hi) / 2) (by omega)
     have h2 := hlv_len hp p0 own n ((lo + hi) / 2) hi (by omega)
     omega
theorem mxQ_nn (p : List Rat) : ∀ i, 0 ≤ mxQ p i
 | 0 => by show (0 : Rat) ≤ 0; grind
 | i + 1 => by
   have := mxQ_nn p i
   rw [mxQ]
   split
   ·grind
   ·exact this
theorem bndZ_nn (p : List Rat) : 0 ≤ bndZ p := by
 unfold bndZ
 split
 ·exact Int.le_refl 0
 ·have h := mxQ_nn p (p.length - 1)
  have h2 := Rat.floor_le (-(mxQ p (p.length - 1) + 1))
  have h3 : ((Rat.floor (-(mxQ p (p.length - 1) + 1)) : Int) : Rat) ≤ ((0 : Int) : Rat) := by
   have : ((0 : Int) : Rat) = 0 := rfl
   grind
  have := Rat.intCast_le_intCast.1 h3
  omega
section
variable {p : List Rat}
end
end Go.Proofs.YtlhapagililgmaaGreat


/- The bound of the roots is Cauchy's bound. -/
namespace Go.Proofs.YtlhapagililgmaaGreat
set_option linter.unusedSimpArgs false
set_option linter.unusedVariables false
open Go.RowKit

theorem abQ_ab (x : Rat) : abQ x = ab x := by unfold abQ ab; split <;> split <;> grind
theorem mxQ_ge (p : List Rat) : ∀ n i, i < n → abQ (cf p i / lead p) ≤ mxQ p n
 | 0, i, h => absurd h (Nat.not_lt_zero _)
 | n + 1, i, h => by
   rw [mxQ]
   by_cases e : i = n
   ·subst e
    split
    ·exact Std.le_refl _
    ·grind
   ·have := mxQ_ge p n i (by omega)
    split
    ·grind
    ·exact this
theorem mxQ_cf {p : List Rat} (hp : Can p) (p0 : p ≠ []) {i : Nat} (h : i + 1 < p.length) : ab (cf p i) ≤ mxQ p (p.length - 1) * ab (lead p) := by
 have l0 := lead_ne hp p0
 have h1 := mxQ_ge p (p.length - 1) i (by omega)
 rw [abQ_ab] at h1
 have e : cf p i = cf p i / lead p * lead p := by
  rw [Rat.div_def]
  have := Rat.mul_inv_cancel _ l0
  generalize (lead p)⁻¹ = y at this ⊢
  grind
 have h2 : ab (cf p i / lead p) * ab (lead p) ≤ mxQ p (p.length - 1) * ab (lead p) := Rat.mul_le_mul_of_nonneg_right h1 (ab_nn _)
 rw [← ab_mul, ← e] at h2
 exact h2
theorem bndZ_ge {p : List Rat} (h2 : 2 ≤ p.length) : mxQ p (p.length - 1) + 1 ≤ (bndZ p : Rat) := by
 unfold bndZ
 rw [if_neg (by omega)]
 have h := Rat.floor_le (-(mxQ p (p.length - 1) + 1))
 rw [Rat.intCast_neg]
 grind
end Go.Proofs.YtlhapagililgmaaGreat


/- What halving finds: exactly the integer roots. -/
namespace Go.Proofs.YtlhapagililgmaaGreat
set_option linter.unusedSimpArgs false
set_option linter.unusedVariables false
open Go.RowKit

theorem inc_uniq {α : Type} {lt : α → α → Prop} (irr : ∀ a, ¬ lt a a) (asy : ∀ a b, lt a b → ¬ lt b a) : ∀ {a b : List α}, a.Pairwise lt → b.Pairwise lt → (∀ r, r ∈ a ↔ r ∈ b) → a = b
 | [], [], _, _, _ => rfl
 | [], y :: b, _, _, h => by have := (h y).2 (by simp); simp at this
 | x :: a, [], _, _, h => by have := (h x).1 (by simp); simp at this
 | x :: a, y :: b, ha, hb, h => by
   obtain ⟨a1, a2⟩ := List.pairwise_cons.1 ha
   obtain ⟨b1, b2⟩ := List.pairwise_cons.1 hb
   have hxy : x = y := by
    rcases List.mem_cons.1 ((h x).1 (by simp)) with e | e
    ·exact e
    ·rcases List.mem_cons.1 ((h y).2 (by simp)) with e' | e'
     ·exact e'.symm
     ·exact absurd (a1 y e') (asy _ _ (b1 x e))
   subst hxy
   have := inc_uniq irr asy a2 b2 fun r => by
    constructor
    ·intro hr
     rcases List.mem_cons.1 ((h r).1 (by simp [hr])) with e | e
     ·subst e; exact absurd (a1 r hr) (irr r)
     ·exact e
    ·intro hr
     rcases List.mem_cons.1 ((h r).2 (by simp [hr])) with e | e
     ·subst e; exact absurd (b1 r hr) (irr r)
     ·exact e
   rw [this]
theorem inc_uniqZ {a b : List Int} (ha : a.Pairwise (· < ·)) (hb : b.Pairwise (· < ·)) (h : ∀ r, r ∈ a ↔ r ∈ b) : a = b := inc_uniq (lt := (· < ·)) (fun a h => by omega) (fun a b h => by omega) ha hb h
theorem inc_uniqQ {a b : List Rat} (ha : a.Pairwise (· < ·)) (hb : b.Pairwise (· < ·)) (h : ∀ r, r ∈ a ↔ r ∈ b) : a = b := inc_uniq (lt := (· < ·)) (fun a h => Rat.lt_irrefl h) (fun a b h h2 => by grind) ha hb h
theorem sgQ_root {p : List Rat} (hp : Can p) (p0 : p ≠ []) (x : Rat) : sgI (hsZ x (igL p)).1 = 0 ↔ ev p x = 0 := by rw [sg_igL hp p0, sgQ_zero]
theorem hlv_ok {p : List Rat} (hp : Can p) (p0 : p ≠ []) : ∀ (n : Nat) (lo hi : Int), lo < hi → hi - lo ≤ 2 ^ n →
 (∀ z, z ∈ hlv (igL p) (chZ p) n lo hi (vrS p (lo : Rat) : Nat) (vrS p (hi : Rat) : Nat) ↔ (lo < z ∧ z ≤ hi) ∧ ev p (z : Rat) = 0) ∧ (hlv (igL p) (chZ p) n lo hi (vrS p (lo : Rat) : Nat) (vrS p (hi : Rat) : Nat)).Pairwise (· < ·) := by
 have none : ∀ lo hi : Int, ((vrS p (lo : Rat) : Nat) : Int) = (vrS p (hi : Rat) : Nat) → ∀ z, ¬ ((lo < z ∧ z ≤ hi) ∧ ev p (z : Rat) = 0) := fun lo hi e z ⟨⟨h1, h2⟩, h3⟩ => by
  have k1 := vrS_root hp p0 (cast_lt h1) h3
  have k2 := vrS_le hp p0 (show (z : Rat) ≤ (hi : Rat) from Rat.intCast_le_intCast.2 h2)
  omega
 have one : ∀ lo hi : Int, lo < hi → (lo + hi) / 2 = lo → (∀ z, z ∈ (if sgI (hsZ (hi : Rat) (igL p)).1 = 0 then [hi] else []) ↔ (lo < z ∧ z ≤ hi) ∧ ev p (z : Rat) = 0) ∧ (if sgI (hsZ (hi : Rat) (igL p)).1 = 0 then [hi] else []).Pairwise (· < ·) := fun lo hi h1 h2 => by
  have e := sgQ_root hp p0 (hi : Rat)
  by_cases c : sgI (hsZ (hi : Rat) (igL p)).1 = 0
  ·rw [if_pos c]
   refine ⟨fun z => ⟨fun hz => ?_, fun ⟨⟨k1, k2⟩, k3⟩ => ?_⟩, by simp⟩
   ·rw [List.mem_singleton.1 hz]; exact ⟨⟨h1, Int.le_refl _⟩, e.1 c⟩
   ·rw [show z = hi by omega]; simp
  ·rw [if_neg c]
   refine ⟨fun z => ⟨fun hz => (by cases hz), fun ⟨⟨k1, k2⟩, k3⟩ => ?_⟩, by simp⟩
   rw [show z = hi by omega] at k3
   exact absurd (e.2 k3) c
 intro n
 induction n with
 | zero =>
   intro lo hi h1 h2
   have h2 : hi - lo ≤ 1 := h2
   unfold hlv
   by_cases e : ((vrS p (lo : Rat) : Nat) : Int) = (vrS p (hi : Rat) : Nat)
   ·rw [if_pos e]
    exact ⟨fun z => ⟨fun hz => (by cases hz), fun hz => absurd hz (none lo hi e z)⟩, by simp⟩
   ·rw [if_neg e, if_pos (by omega)]
    exact one lo hi h1 (by omega)
 | succ n ih =>
   intro lo hi h1 h2
   rw [Int.pow_succ] at h2
   unfold hlv
   by_cases e : ((vrS p (lo : Rat) : Nat) : Int) = (vrS p (hi : Rat) : Nat)
   ·rw [if_pos e]
    exact ⟨fun z => ⟨fun hz => (by cases hz), fun hz => absurd hz (none lo hi e z)⟩, by simp⟩
   ·rw [if_neg e]
    by_cases e2 : (lo + hi) / 2 = lo
    ·rw [if_pos e2]
     exact one lo hi h1 e2
    ·rw [if_neg e2]
     have eU : (vS (chZ p) (((lo + hi) / 2 : Int) : Rat) (chZ p).length).1 = ((vrS p (((lo + hi) / 2 : Int) : Rat) : Nat) : Int) := vS_vrS hp p0 _
     rw [eU]
     obtain ⟨m1, s1⟩ := ih lo ((lo + hi) / 2) (by omega) (by omega)
     obtain ⟨m2, s2⟩ := ih ((lo + hi) / 2) hi (by omega) (by omega)
     refine ⟨fun z => ?_, List.pairwise_append.2 ⟨s1, s2, fun a ha b hb => ?_⟩⟩
     ·rw [List.mem_append, m1, m2]
      constructor
      ·rintro (⟨⟨k1, k2⟩, k3⟩ | ⟨⟨k1, k2⟩, k3⟩)
       ·exact ⟨⟨k1, by omega⟩, k3⟩
       ·exact ⟨⟨by omega, k2⟩, k3⟩
      ·rintro ⟨⟨k1, k2⟩, k3⟩
       by_cases hz : z ≤ (lo + hi) / 2
       ·exact .inl ⟨⟨k1, hz⟩, k3⟩
       ·exact .inr ⟨⟨by omega, k2⟩, k3⟩
     ·have := ((m1 a).1 ha).1.2
      have := ((m2 b).1 hb).1.1
      omega
theorem root_bnd {p : List Rat} (hp : Can p) (p0 : p ≠ []) {x : Rat} (hx : ev p x = 0) : 2 ≤ p.length ∧ ab x < (bndZ p : Rat) := by
 have h2 : 2 ≤ p.length := by
  have := List.length_pos_iff.2 p0
  by_cases h1 : p.length = 1
  ·obtain ⟨c, hc, rfl⟩ := len_one hp h1
   rw [ev_sing] at hx
   exact absurd hx hc
  ·omega
 refine ⟨h2, ?_⟩
 have hb := bndZ_ge h2
 by_cases h : mxQ p (p.length - 1) + 1 ≤ ab x
 ·have h1 := cauchy (mxQ_nn p (p.length - 1)) h p p0 fun i hi => mxQ_cf hp p0 hi
  have h3 : ab (ev p x) = 0 := by rw [hx]; rfl
  have h4 := lead_ne hp p0
  have h5 : ab (lead p) ≤ 0 := by rw [← h3]; exact h1
  have h6 := (ab_le (x := lead p) (c := 0)).1 h5
  exact absurd (show lead p = 0 by grind) h4
 ·grind
theorem intL_ok {p : List Rat} (hp : Can p) (p0 : p ≠ []) : (∀ z, z ∈ intL p ↔ ev p (z : Rat) = 0) ∧ (intL p).Pairwise (· < ·) := by
 have e1 : intL p = intF p := if_neg p0
 have h0 := bndZ_nn p
 have eL : (vS (chZ p) ((-bndZ p - 1 : Int) : Rat) (chZ p).length).1 = ((vrS p ((-bndZ p - 1 : Int) : Rat) : Nat) : Int) := vS_vrS hp p0 _
 have eH : (vS (chZ p) ((bndZ p : Int) : Rat) (chZ p).length).1 = ((vrS p ((bndZ p : Int) : Rat) : Nat) : Int) := vS_vrS hp p0 _
 have tn : ((2 * bndZ p + 1).toNat : Int) = 2 * bndZ p + 1 := Int.toNat_of_nonneg (by omega)
 have tp := le_two_pow (2 * bndZ p + 1).toNat
 rw [tn] at tp
 obtain ⟨h1, h2⟩ := hlv_ok hp p0 (2 * bndZ p + 1).toNat (-bndZ p - 1) (bndZ p) (by omega) (by generalize (2 : Int) ^ (2 * bndZ p + 1).toNat = P at tp ⊢; omega)
 rw [e1]
 unfold intF
 rw [eL, eH]
 refine ⟨fun z => ⟨fun hz => ((h1 z).1 hz).2, fun hz => (h1 z).2 ⟨?_, hz⟩⟩, h2⟩
 obtain ⟨_, hb⟩ := root_bnd hp p0 hz
 obtain ⟨b1, b2⟩ := ab_le.1 (Std.le_of_lt hb)
 have b1 : ((-bndZ p : Int) : Rat) ≤ (z : Rat) := by rw [Rat.intCast_neg]; exact b1
 have b1 := Rat.intCast_le_intCast.1 b1
 have b2 := Rat.intCast_le_intCast.1 b2
 omega
theorem hsZ_low (x : Rat) : ∀ (l : List Int), l ≠ [] → (∃ k, (hsZ x l).1 = zz l (l.length - 1) * x.num ^ (l.length - 1) + k * (x.den : Int)) ∧ ∃ k, (hsZ x l).2 = k * (x.den : Int)
 | [], h => absurd rfl h
 | [c], _ => ⟨⟨0, by simp [hsZ, zz]⟩, ⟨1, rfl⟩⟩
 | c :: d :: l, _ => by
   obtain ⟨⟨k, hk⟩, ⟨m, hm⟩⟩ := hsZ_low x (d :: l) (by simp)
   have e1 : (hsZ x (c :: d :: l)).1 = (hsZ x (d :: l)).1 * x.num + c * (hsZ x (d :: l)).2 := rfl
   have e2 : (hsZ x (c :: d :: l)).2 = (hsZ x (d :: l)).2 * (x.den : Int) := rfl
   refine ⟨⟨k * x.num + c * m, ?_⟩, ⟨_, e2⟩⟩
   have e3 : zz (c :: d :: l) ((c :: d :: l).length - 1) = zz (d :: l) ((d :: l).length - 1) := rfl
   have e4 : (c :: d :: l).length - 1 = ((d :: l).length - 1) + 1 := rfl
   rw [e1, hk, hm, e3, e4, Int.pow_succ]
   generalize zz (d :: l) ((d :: l).length - 1) = u
   generalize x.num ^ ((d :: l).length - 1) = w
   grind
theorem den_dvd {p : List Rat} (hp : Can p) (p0 : p ≠ []) {x : Rat} (hx : ev p x = 0) : (x.den : Int) ∣ ldZ p := by
 have h1 := (sgQ_root hp p0 x).2 hx
 have l0 : igL p ≠ [] := fun e => p0 (List.eq_nil_of_length_eq_zero (by rw [← igL_len, e]; rfl))
 obtain ⟨⟨k, hk⟩, _⟩ := hsZ_low x (igL p) l0
 have h2 : (hsZ x (igL p)).1 = 0 := by
  have := sgI_sgQ (hsZ x (igL p)).1
  rw [h1] at this
  have := (sgQ_zero _).1 this.symm
  exact_mod_cast this
 rw [igL_len] at hk
 have h3 : (x.den : Int) ∣ ldZ p * x.num ^ (p.length - 1) := ⟨-k, by
  have : ldZ p = zz (igL p) (p.length - 1) := rfl
  rw [this]
  generalize x.num ^ (p.length - 1) = w at *
  grind⟩
 have h4 : x.den ∣ (ldZ p).natAbs * x.num.natAbs ^ (p.length - 1) := by
  have := Int.natAbs_dvd_natAbs.2 h3
  rwa [Int.natAbs_natCast, Int.natAbs_mul, Int.natAbs_pow] at this
 have h5 : Nat.Coprime x.den (x.num.natAbs ^ (p.length - 1)) := Nat.Coprime.pow_right _ x.reduced.symm
 have h6 := Nat.Coprime.dvd_of_dvd_mul_right h5 h4
 exact Int.natAbs_dvd_natAbs.1 (by rwa [Int.natAbs_natCast])
end Go.Proofs.YtlhapagililgmaaGreat


/- What Rationals finds: exactly the rational roots, in increasing order. -/
namespace Go.Proofs.YtlhapagililgmaaGreat
set_option linter.unusedSimpArgs false
set_option linter.unusedVariables false
open Go.RowKit

theorem ev_sdv {c : Rat} (hc : c ≠ 0) (y : Rat) : ∀ (p : List Rat) (w : Nat → Rat), (∀ i, w (i + 1) = w i * c) → w 0 ≠ 0 → ev ((List.range p.length).map fun i => cf p i / w i) y = ev p (y / c) / w 0
 | [], w, _, _ => by show (0 : Rat) = 0 / w 0; rw [Rat.div_def, Rat.zero_mul]
 | a :: p, w, hw, h0 => by
   have h1 : w 1 ≠ 0 := by rw [hw 0]; exact fun h => (Rat.mul_eq_zero.1 h).elim h0 hc
   have ih := ev_sdv hc y p (fun i => w (i + 1)) (fun i => hw (i + 1)) h1
   rw [List.length_cons, List.range_succ_eq_map, List.map_cons, List.map_map]
   show cf (a :: p) 0 / w 0 + y * ev ((List.range p.length).map fun i => cf (a :: p) (i + 1) / w (i + 1)) y = (a + y / c * ev p (y / c)) / w 0
   have e : ((List.range p.length).map fun i => cf (a :: p) (i + 1) / w (i + 1)) = (List.range p.length).map fun i => cf p i / w (i + 1) := rfl
   rw [e, ih, cf_zero, hw 0]
   have i0 := Rat.mul_inv_cancel _ h0
   have ic := Rat.mul_inv_cancel _ hc
   have i1 := Rat.mul_inv_cancel _ (show w 0 * c ≠ 0 from fun h => (Rat.mul_eq_zero.1 h).elim h0 hc)
   simp only [Rat.div_def]
   generalize ev p _ = E
   have e2 : (w 0 * c)⁻¹ = (w 0)⁻¹ * c⁻¹ := by
    generalize (w 0)⁻¹ = u at *
    generalize c⁻¹ = v at *
    generalize (w 0 * c)⁻¹ = t at *
    have : t * (w 0 * c) * (u * v) = u * v := by rw [show t * (w 0 * c) = 1 by grind]; grind
    have h3 : t * (w 0 * c) * (u * v) = t * ((w 0 * u) * (c * v)) := by grind
    rw [h3, i0, ic] at this
    grind
   rw [e2]
   generalize (w 0)⁻¹ = u at *
   generalize c⁻¹ = v at *
   grind
theorem lq_ev {p : List Rat} (h : (ldZ p : Rat) ≠ 0) (y : Rat) : ev (lqP p) y = ev p (y / (ldZ p : Rat)) := by
 unfold lqP lqL
 rw [ev_tr, ev_sdv h y p (pwQ (ldZ p : Rat)) (fun _ => rfl) (show ((1 : Int) : Rat) ≠ 0 by decide)]
 show _ / ((1 : Int) : Rat) = _
 rw [show ((1 : Int) : Rat) = 1 from rfl, Rat.div_def, show (1 : Rat)⁻¹ = 1 by decide +kernel, Rat.mul_one]
theorem pwQ_ne {c : Rat} (h : c ≠ 0) : ∀ i, pwQ c i ≠ 0
 | 0 => by show ((1 : Int) : Rat) ≠ 0; decide
 | i + 1 => fun e => (Rat.mul_eq_zero.1 e).elim (pwQ_ne h i) h
theorem ldZ_ne {p : List Rat} (hp : Can p) (p0 : p ≠ []) : ldZ p ≠ 0 := by
 obtain ⟨m, m0, hm⟩ := igL_mul hp p0
 have pl := List.length_pos_iff.2 p0
 have h1 := hm (p.length - 1) (by omega)
 have h2 := lead_ne hp p0
 intro e
 have e : zz (igL p) (p.length - 1) = 0 := e
 rw [e] at h1
 have h3 : m * cf p (p.length - 1) = 0 := h1.symm
 rcases Rat.mul_eq_zero.1 h3 with h | h
 ·rw [h] at m0; exact absurd m0 (by decide)
 ·exact h2 h
theorem ldZ_neQ {p : List Rat} (hp : Can p) (p0 : p ≠ []) : (ldZ p : Rat) ≠ 0 := fun e => ldZ_ne hp p0 (by exact_mod_cast e)
theorem lq_can (p : List Rat) : Can (lqP p) := tr_can _
theorem cf_lqL (p : List Rat) {n i : Nat} (h : i < n) : cf (lqL p n) i = cf p i / pwQ (ldZ p : Rat) i := by
 unfold lqL
 rw [cf_map_range, if_pos h]
theorem lq_len {p : List Rat} (hp : Can p) (p0 : p ≠ []) : (lqP p).length = p.length := by
 have pl := List.length_pos_iff.2 p0
 have hc : Can (lqL p p.length) := fun _ => by
  rw [lqL_len, cf_lqL p (by omega)]
  intro e
  have h1 := lead_ne hp p0
  have h2 := pwQ_ne (ldZ_neQ hp p0) (p.length - 1)
  rw [Rat.div_def] at e
  rcases Rat.mul_eq_zero.1 e with h | h
  ·exact h1 h
  ·have := Rat.mul_inv_cancel _ h2
   rw [h, Rat.mul_zero] at this
   exact absurd this (by decide)
 unfold lqP
 rw [tr_of_can hc, lqL_len]
theorem lq_ne {p : List Rat} (hp : Can p) (p0 : p ≠ []) : lqP p ≠ [] := fun e => p0 (List.eq_nil_of_length_eq_zero (by rw [← lq_len hp p0, e]; rfl))
theorem rtL_mem {p : List Rat} (hp : Can p) (p0 : p ≠ []) (r : Rat) : r ∈ rtL p ↔ ev p r = 0 := by
 have l0 := ldZ_neQ hp p0
 have li := Rat.mul_inv_cancel _ l0
 obtain ⟨h1, _⟩ := intL_ok (lq_can p) (lq_ne hp p0)
 unfold rtL
 rw [List.mem_map]
 constructor
 ·rintro ⟨n, hn, rfl⟩
  rw [← lq_ev l0]
  exact (h1 n).1 hn
 ·intro hr
  obtain ⟨k, hk⟩ := den_dvd hp p0 hr
  have e : ((k * r.num : Int) : Rat) = (ldZ p : Rat) * r := by
   rw [hk, Rat.intCast_mul, Rat.intCast_mul, ← rat_md r]
   have : (((r.den : Nat) : Int) : Rat) = (r.den : Rat) := rfl
   rw [this]; grind
  have e2 : ((k * r.num : Int) : Rat) / (ldZ p : Rat) = r := by
   rw [e, Rat.div_def]
   generalize (ldZ p : Rat)⁻¹ = y at li ⊢
   grind
  refine ⟨k * r.num, (h1 _).2 ?_, e2⟩
  rw [lq_ev l0, e2]
  exact hr
def Dst (l : List Rat) : Prop := ∀ i k, i < k → k < l.length → cf l i ≠ cf l k
theorem mem_cf {l : List Rat} {r : Rat} : r ∈ l ↔ ∃ i, i < l.length ∧ cf l i = r := by
 rw [List.mem_iff_getElem]
 constructor
 ·rintro ⟨i, h, e⟩; exact ⟨i, h, by rw [cf_lt h, e]⟩
 ·rintro ⟨i, h, e⟩; exact ⟨i, h, by rw [← cf_lt h, e]⟩
theorem intCast_inj4 {a b : Int} (h : (a : Rat) = (b : Rat)) : a = b := by exact_mod_cast h
theorem cf_rtL {p : List Rat} {i : Nat} (h : i < (intL (lqP p)).length) : cf (rtL p) i = ((intL (lqP p))[i] : Rat) / (ldZ p : Rat) := by
 rw [cf_lt (by rw [rtL_len]; exact h)]
 unfold rtL
 rw [List.getElem_map]
theorem rtL_dst {p : List Rat} (hp : Can p) (p0 : p ≠ []) : Dst (rtL p) := by
 have l0 := ldZ_neQ hp p0
 have li := Rat.mul_inv_cancel _ l0
 obtain ⟨_, h2⟩ := intL_ok (lq_can p) (lq_ne hp p0)
 intro i k hik hk
 have hk' : k < (intL (lqP p)).length := by rwa [rtL_len] at hk
 have hi' : i < (intL (lqP p)).length := by omega
 rw [cf_rtL hi', cf_rtL hk']
 have h3 := List.pairwise_iff_getElem.1 h2 i k hi' hk' hik
 intro e
 generalize (intL (lqP p))[i] = a at *
 generalize (intL (lqP p))[k] = b at *
 have h4 : (a : Rat) = (b : Rat) := by
  simp only [Rat.div_def] at e
  have : (a : Rat) * (ldZ p : Rat)⁻¹ * (ldZ p : Rat) = (b : Rat) * (ldZ p : Rat)⁻¹ * (ldZ p : Rat) := by rw [e]
  generalize (ldZ p : Rat)⁻¹ = y at *
  grind
 have h5 := intCast_inj4 h4
 omega
theorem cf_swp {L : List Rat} {j : Nat} (h : j + 1 < L.length) (i : Nat) : cf (swp L (j + 1)) i = if i = j then cf L (j + 1) else if i = j + 1 then cf L j else cf L i := by
 unfold swp
 rw [cf_set, List.length_set, Nat.add_sub_cancel]
 by_cases e1 : i = j
 ·subst e1
  rw [if_pos ⟨rfl, by omega⟩, if_pos rfl]
 ·rw [if_neg fun h => e1 h.1.symm, if_neg e1, cf_set]
  by_cases e2 : i = j + 1
  ·subst e2
   rw [if_pos ⟨rfl, h⟩, if_pos rfl]
  ·rw [if_neg fun h => e2 h.1.symm, if_neg e2]
theorem swp_mem {L : List Rat} {j : Nat} (h : j + 1 < L.length) (r : Rat) : r ∈ swp L (j + 1) ↔ r ∈ L := by
 rw [mem_cf, mem_cf, swp_len]
 have c := cf_swp h
 constructor
 ·rintro ⟨i, hi, e⟩
  rw [c] at e
  split at e
  ·exact ⟨j + 1, h, e⟩
  ·split at e
   ·exact ⟨j, by omega, e⟩
   ·exact ⟨i, hi, e⟩
 ·rintro ⟨i, hi, e⟩
  by_cases e1 : i = j
  ·refine ⟨j + 1, h, ?_⟩
   rw [c, if_neg (by omega), if_pos rfl, ← e1, e]
  ·by_cases e2 : i = j + 1
   ·refine ⟨j, by omega, ?_⟩
    rw [c, if_pos rfl, ← e2, e]
   ·refine ⟨i, hi, ?_⟩
    rw [c, if_neg e1, if_neg e2, e]
theorem swp_dst {L : List Rat} {j : Nat} (h : j + 1 < L.length) (hd : Dst L) : Dst (swp L (j + 1)) := fun i k hik hk => by
 rw [swp_len] at hk
 have c := cf_swp h
 rw [c, c]
 have sy : ∀ a b, a ≠ b → a < L.length → b < L.length → cf L a ≠ cf L b := fun a b hab ha hb => by
  by_cases hlt : a < b
  ·exact hd a b hlt hb
  ·exact (hd b a (by omega) ha).symm
 split
 ·split
  ·omega
  ·split
   ·exact sy _ _ (by omega) (by omega) (by omega)
   ·exact sy _ _ (by omega) (by omega) (by omega)
 ·split
  ·split
   ·exact sy _ _ (by omega) (by omega) (by omega)
   ·split
    ·omega
    ·exact sy _ _ (by omega) (by omega) (by omega)
  ·split
   ·exact sy _ _ (by omega) (by omega) (by omega)
   ·split
    ·exact sy _ _ (by omega) (by omega) (by omega)
    ·exact sy _ _ (by omega) (by omega) (by omega)
def Up (l : List Rat) (n : Nat) : Prop := ∀ i k, i < k → k < n → cf l i < cf l k
theorem insJ_ok : ∀ (j m : Nat) (L : List Rat), j ≤ m → m < L.length → Dst L → (∀ i k, i < k → k ≤ m → i ≠ j → k ≠ j → cf L i < cf L k) → (∀ k, j < k → k ≤ m → cf L j < cf L k) →
 Up (insJ j L) (m + 1) ∧ Dst (insJ j L) ∧ (∀ r, r ∈ insJ j L ↔ r ∈ L) ∧ ∀ k, m < k → cf (insJ j L) k = cf L k
 | 0, m, L, _, _, hd, h1, h2 => ⟨fun i k hik hk => by
  show cf L i < cf L k
  by_cases e : i = 0
  ·subst e; exact h2 k hik (by omega)
  ·exact h1 i k hik (by omega) e (by omega), hd, fun r => Iff.rfl, fun k hk => rfl⟩
 | j + 1, m, L, hj, hm, hd, h1, h2 => by
   rw [insJ]
   by_cases c : cf L (j + 1) < cf L j
   ·rw [if_pos c]
    have hl : j + 1 < L.length := by omega
    have e := cf_swp hl
    obtain ⟨r1, r2, r3, r4⟩ := insJ_ok j m (swp L (j + 1)) (by omega) (by rw [swp_len]; omega) (swp_dst hl hd) (fun i k hik hk n1 n2 => by
     rw [e, e, if_neg n1, if_neg n2]
     by_cases c1 : i = j + 1
     ·subst c1
      rw [if_pos rfl, if_neg (by omega)]
      exact h1 j k (by omega) hk (by omega) (by omega)
     ·rw [if_neg c1]
      by_cases c2 : k = j + 1
      ·subst c2
       rw [if_pos rfl]
       exact h1 i j (by omega) (by omega) c1 (by omega)
      ·rw [if_neg c2]
       exact h1 i k hik hk c1 c2) fun k hk1 hk2 => by
     rw [e, e, if_pos rfl, if_neg (by omega)]
     by_cases c2 : k = j + 1
     ·rw [if_pos c2]; exact c
     ·rw [if_neg c2]; exact h2 k (by omega) hk2
    refine ⟨r1, r2, fun r => by rw [r3, swp_mem hl], fun k hk => ?_⟩
    rw [r4 k hk, e, if_neg (by omega), if_neg (by omega)]
   ·rw [if_neg c]
    have hlt : cf L j < cf L (j + 1) := by
     have := hd j (j + 1) (by omega) (by omega)
     have : cf L j ≤ cf L (j + 1) := Rat.not_lt.1 c
     grind
    refine ⟨fun i k hik hk => ?_, hd, fun r => Iff.rfl, fun k hk => rfl⟩
    by_cases c1 : i = j + 1
    ·subst c1; exact h2 k hik (by omega)
    ·by_cases c2 : k = j + 1
     ·subst c2
      by_cases c3 : i = j
      ·rw [c3]; exact hlt
      ·have := h1 i j (by omega) (by omega) c1 (by omega)
       grind
     ·exact h1 i k hik (by omega) c1 c2
theorem insI_ok {L : List Rat} (hd : Dst L) : ∀ i, i < L.length → Up (insI L i) (i + 1) ∧ Dst (insI L i) ∧ ∀ r, r ∈ insI L i ↔ r ∈ L
 | 0, _ => ⟨fun i k h1 h2 => by omega, hd, fun r => Iff.rfl⟩
 | i + 1, h => by
   obtain ⟨h1, h2, h3⟩ := insI_ok hd i (by omega)
   rw [insI]
   obtain ⟨r1, r2, r3, _⟩ := insJ_ok (i + 1) (i + 1) (insI L i) (Nat.le_refl _) (by rw [insI_len]; exact h) h2 (fun a b hab hb _ n2 => h1 a b hab (by omega)) fun k k1 k2 => by omega
   exact ⟨r1, r2, fun r => by rw [r3, h3]⟩
theorem srt_ok {L : List Rat} (hd : Dst L) : (srt L).Pairwise (· < ·) ∧ ∀ r, r ∈ srt L ↔ r ∈ L := by
 by_cases h0 : L = []
 ·subst h0; exact ⟨by simp [srt, insI], fun r => Iff.rfl⟩
 ·have hl := List.length_pos_iff.2 h0
  obtain ⟨h1, _, h3⟩ := insI_ok hd (L.length - 1) (by omega)
  refine ⟨List.pairwise_iff_getElem.2 fun i k hi hk hik => ?_, h3⟩
  have hk' : k < L.length := by
   have := srt_len L
   omega
  have := h1 i k hik (by omega)
  rwa [cf_lt (by rw [insI_len]; omega), cf_lt (by rw [insI_len]; omega)] at this
theorem ratL_ok {p : List Rat} (hp : Can p) (h2 : 2 ≤ p.length) : (∀ r, r ∈ ratL p ↔ ev p r = 0) ∧ (ratL p).Pairwise (· < ·) := by
 have p0 : p ≠ [] := fun e => by rw [e] at h2; simp at h2
 have e : ratL p = srt (rtL p) := if_neg (by omega)
 obtain ⟨h3, h4⟩ := srt_ok (rtL_dst hp p0)
 rw [e]
 exact ⟨fun r => by rw [h4, rtL_mem hp p0], h3⟩
end Go.Proofs.YtlhapagililgmaaGreat


/- Sizes of polynomials that have a multiple with small integer coefficients. -/
namespace Go.Proofs.YtlhapagililgmaaGreat
set_option linter.unusedSimpArgs false
set_option linter.unusedVariables false
open Go.RowKit

def Tb (p : List Rat) (T H : Nat) : Prop := ∃ t : Nat, (1 ≤ t ∧ t ≤ T) ∧ ∀ i, ∃ z : Int, (t : Rat) * cf p i = (z : Rat) ∧ z.natAbs ≤ H
theorem Tb.mono {p : List Rat} {T H T' H' : Nat} (h : Tb p T H) (h1 : T ≤ T') (h2 : H ≤ H') : Tb p T' H' := by
 obtain ⟨t, ⟨a, b⟩, c⟩ := h
 exact ⟨t, ⟨a, by omega⟩, fun i => let ⟨z, e, l⟩ := c i; ⟨z, e, by omega⟩⟩
theorem Tb.ht {p : List Rat} {T H : Nat} (h : Tb p T H) : Ht H p := by
 obtain ⟨t, ⟨a, b⟩, c⟩ := h
 refine ⟨(t : Rat), natR_ne a, fun i => ?_⟩
 obtain ⟨z, e, l⟩ := c i
 rw [cf_pSc, e]
 exact ⟨⟨z, rfl⟩, Bd_int.2 l⟩
theorem Tb.div {q : Rat} {t : Nat} {z : Int} (a : 1 ≤ t) (e : (t : Rat) * q = (z : Rat)) : q = Rat.divInt z (t : Int) := by
 have t0 := natR_ne a
 rw [Rat.divInt_eq_div]
 have := congrArg (fun y => (t : Rat)⁻¹ * y) e
 simp only [← Rat.mul_assoc, Rat.inv_mul_cancel _ t0, Rat.one_mul] at this
 rw [this, Rat.div_def, Rat.mul_comm]; rfl
theorem Tb.pb {p : List Rat} {T H k : Nat} (h : Tb p T H) (h1 : T < 4294967296 ^ k) (h2 : H < 4294967296 ^ k) (hk : 1 ≤ k) : PB p k := fun i => by
 obtain ⟨t, ⟨a, b⟩, c⟩ := h
 obtain ⟨z, e, l⟩ := c i
 rw [Tb.div a e]
 refine Nat.le_trans (qs_divInt _ _) ?_
 have h3 : dl z.natAbs ≤ k := dl_le.2 (by omega)
 have h4 : dl (t : Int).natAbs ≤ k := dl_le.2 (by rw [Int.natAbs_natCast]; omega)
 omega
theorem den_dvd_t {q : Rat} {t : Nat} {z : Int} (e : (t : Rat) * q = (z : Rat)) : (t : Int) * q.num = z * (q.den : Int) := by
 have h1 := rat_md q
 have h2 : ((((t : Int) * q.num : Int)) : Rat) = (((z * (q.den : Int) : Int)) : Rat) := by
  rw [Rat.intCast_mul, Rat.intCast_mul, ← h1, ← e]
  have : (((q.den : Nat) : Int) : Rat) = (q.den : Rat) := rfl
  have h3 : (((t : Nat) : Int) : Rat) = (t : Rat) := rfl
  rw [this, h3]; grind
 exact intCast_inj h2
theorem den_dvd_n {q : Rat} {t : Nat} {z : Int} (e : (t : Rat) * q = (z : Rat)) : q.den ∣ t := by
 have h := den_dvd_t e
 have h1 : (q.den : Int) ∣ (t : Int) * q.num := ⟨z, by rw [h, Int.mul_comm]⟩
 have h2 : q.den ∣ t * q.num.natAbs := by
  have := Int.natAbs_dvd_natAbs.2 h1
  rwa [Int.natAbs_natCast, Int.natAbs_mul, Int.natAbs_natCast] at this
 exact Nat.Coprime.dvd_of_dvd_mul_right q.reduced.symm h2
theorem dnL_lcm {p : List Rat} {t : Nat} (h : ∀ i, (cf p i).den ∣ t) : ∀ n, (dnL p n).natAbs ∣ t
 | 0 => Nat.one_dvd t
 | n + 1 => by
   have ih := dnL_lcm h n
   have e : (dnL p (n + 1)).natAbs = Nat.lcm (dnL p n).natAbs (cf p n).den := by
    rw [dnL, ← Int.natCast_ediv, Int.natAbs_mul, Int.natAbs_natCast, Nat.lcm, Nat.mul_div_assoc _ (Nat.gcd_dvd_right _ _)]
   rw [e]
   exact Nat.lcm_dvd ih (h n)
theorem ogI_le {p : List Rat} {T H : Nat} (h : Tb p T H) {i : Nat} (hi : i < p.length) : (ogI p i).natAbs ≤ H := by
 obtain ⟨t, ⟨a, b⟩, c⟩ := h
 obtain ⟨z, e, l⟩ := c i
 have d1 := dnL_lcm (p := p) (t := t) (fun j => den_dvd_n (c j).choose_spec.1) p.length
 have d2 : (dnL p p.length).natAbs ≤ t := Nat.le_of_dvd (by omega) d1
 have d3 := den_dvd_t e
 obtain ⟨u, hu⟩ := dnL_dvd p p.length i hi
 have dp := dnL_pos p p.length
 have qp := (cf p i).den_pos
 have e1 : ogI p i = (cf p i).num * u := by
  unfold ogI
  rw [hu, Int.mul_ediv_cancel_left _ (by omega)]
 have e2 : ((cf p i).den * (ogI p i).natAbs) ≤ (cf p i).den * z.natAbs := by
  have h1 : (cf p i).den * (ogI p i).natAbs = (cf p i).num.natAbs * (dnL p p.length).natAbs := by
   rw [e1, hu, Int.natAbs_mul, Int.natAbs_mul, Int.natAbs_natCast]
   rw [Nat.mul_left_comm]
  have h2 : (cf p i).den * z.natAbs = (cf p i).num.natAbs * t := by
   have := congrArg Int.natAbs d3
   rw [Int.natAbs_mul, Int.natAbs_mul, Int.natAbs_natCast, Int.natAbs_natCast] at this
   rw [Nat.mul_comm, ← this, Nat.mul_comm]
  rw [h1, h2]
  exact Nat.mul_le_mul_left _ d2
 have := Nat.le_of_mul_le_mul_left e2 qp
 omega
theorem ldZ_le {p : List Rat} {T H : Nat} (h : Tb p T H) (p0 : p ≠ []) : (ldZ p).natAbs ≤ H := by
 have pl := List.length_pos_iff.2 p0
 show (zz (igL p) (p.length - 1)).natAbs ≤ H
 rw [igL_get (by omega)]
 exact Nat.le_trans (Int.natAbs_ediv_le_natAbs _ _) (ogI_le h (by omega))
theorem pwQ_pow (c : Rat) : ∀ i, pwQ c i = c ^ i
 | 0 => by show ((1 : Int) : Rat) = c ^ 0; rw [Rat.pow_zero]; rfl
 | i + 1 => by rw [pwQ, pwQ_pow c i, Rat.pow_succ]
theorem intPow (z : Int) : ∀ n : Nat, ((z ^ n : Int) : Rat) = (z : Rat) ^ n
 | 0 => by rw [Int.pow_zero, Rat.pow_zero]; rfl
 | n + 1 => by rw [Int.pow_succ, Rat.pow_succ, Rat.intCast_mul, intPow z n]
theorem ratPow_add (x : Rat) (a : Nat) : ∀ b : Nat, x ^ (a + b) = x ^ a * x ^ b
 | 0 => by rw [Nat.add_zero, Rat.pow_zero, Rat.mul_one]
 | b + 1 => by rw [← Nat.add_assoc, Rat.pow_succ, ratPow_add x a b, Rat.pow_succ]; grind
theorem natPow (z : Nat) : ∀ n : Nat, ((z ^ n : Nat) : Rat) = (z : Rat) ^ n
 | 0 => by rw [Nat.pow_zero, Rat.pow_zero]; rfl
 | n + 1 => by rw [Nat.pow_succ, Rat.pow_succ, natR_mul, natPow z n]
theorem natAbs_sq (z : Int) : ((z.natAbs : Nat) : Rat) * ((z.natAbs : Nat) : Rat) = (z : Rat) * (z : Rat) := by
 have h : ((z.natAbs : Nat) : Int) * (z.natAbs : Nat) = z * z := Int.natAbs_mul_self
 have h2 := congrArg (fun y : Int => (y : Rat)) h
 simp only [Rat.intCast_mul] at h2
 exact h2
theorem natAbs_pw (z : Int) : ∀ N : Nat, ((z.natAbs : Nat) : Rat) ^ (2 * N) = (z : Rat) ^ (2 * N)
 | 0 => by rw [Nat.mul_zero, Rat.pow_zero, Rat.pow_zero]
 | N + 1 => by
   have e : 2 * (N + 1) = 2 * N + 1 + 1 := by omega
   rw [e, Rat.pow_succ, Rat.pow_succ, Rat.pow_succ, Rat.pow_succ, natAbs_pw z N, Rat.mul_assoc, natAbs_sq, Rat.mul_assoc]
theorem Tb.lq {p : List Rat} {T H : Nat} (h : Tb p T H) (hp : Can p) (p0 : p ≠ []) {N : Nat} (hN : p.length ≤ N + 1) : Tb (lqP p) (T * H ^ (2 * N)) (H ^ (2 * N + 1)) := by
 have hL := ldZ_le h p0
 have L0 := ldZ_ne hp p0
 have L0q := ldZ_neQ hp p0
 obtain ⟨t, ⟨a, b⟩, c⟩ := h
 obtain ⟨L, eL⟩ : ∃ L, ldZ p = L := ⟨_, rfl⟩
 have hL1 : 1 ≤ L.natAbs := by rw [← eL]; omega
 have hH : 1 ≤ H := by rw [eL] at hL; omega
 refine ⟨t * L.natAbs ^ (2 * N), ⟨Nat.mul_pos a (Nat.pow_pos hL1), Nat.mul_le_mul b (Nat.pow_le_pow_left (by rw [← eL]; exact hL) _)⟩, fun i => ?_⟩
 obtain ⟨z, e, l⟩ := c i
 rw [natR_mul, natPow, natAbs_pw]
 by_cases hi : i < p.length
 ·have e1 : cf (lqP p) i = cf p i / (L : Rat) ^ i := by
   unfold lqP
   rw [cf_tr, cf_lqL p hi, pwQ_pow, eL]
  obtain ⟨r, hr⟩ : ∃ r, 2 * N = r + i := ⟨2 * N - i, by omega⟩
  refine ⟨z * L ^ r, ?_, ?_⟩
  ·rw [e1, hr, ratPow_add, Rat.intCast_mul, intPow, ← e, Rat.div_def]
   have hi0 : (L : Rat) ^ i ≠ 0 := by
    have := pwQ_ne L0q i
    rwa [pwQ_pow, eL] at this
   have := Rat.mul_inv_cancel _ hi0
   generalize ((L : Rat) ^ i)⁻¹ = y at *
   generalize (L : Rat) ^ i = w at *
   grind
  ·rw [Int.natAbs_mul, Int.natAbs_pow, Nat.pow_succ, Nat.mul_comm]
   refine Nat.mul_le_mul ?_ l
   exact Nat.le_trans (Nat.pow_le_pow_left (by rw [← eL]; exact hL) _) (Nat.pow_le_pow_right hH (by omega))
 ·refine ⟨0, ?_, Nat.zero_le _⟩
  have : cf (lqP p) i = 0 := by
   unfold lqP
   rw [cf_tr, cf_ge (by rw [lqL_len]; omega)]
  rw [this, Rat.mul_zero]; rfl
theorem sqp_PB {H S k : Nat} {p : List Rat} (hH : H < 4294967296 ^ S ∧ ipB 9 (vlB H 9) < 4294967296 ^ S ∧ 1 ≤ S) (hp : Can p) (p0 : p ≠ []) (h : Ht H p) (hl : p.length ≤ 9) (hk : PB p k) : PB (sqp p) (k + S) := by
 obtain ⟨c, l, ⟨hc, hg⟩, e, e1⟩ := facOf hp p0
 have e2 : p = pSc c (PwL l) := ev_inj hp (can_pSc _ _) fun x => by rw [e x, ev_pSc]
 obtain ⟨⟨p1, p0'⟩, _⟩ := lead_PwL hg
 have la : lead p = c := by rw [e2, lead_pSc hc (can_PwL l), p1]; grind
 have qc : qs c ≤ k := by rw [← la]; exact hk _
 obtain ⟨g1, g2, _⟩ := lead_PiL hg
 have hs := dvd_sz hH hp p0 h hl (can_PiL l) g1 ⟨pSc c (GL l), can_pSc _ _, fun x => by rw [e x, GL_Pi hg x, ev_pSc]; grind⟩
 rw [e1]
 intro i
 rw [cf_pSc]
 have := qs_mul c (cf (PiL l) i)
 have := hs.pb i
 omega
end Go.Proofs.YtlhapagililgmaaGreat

