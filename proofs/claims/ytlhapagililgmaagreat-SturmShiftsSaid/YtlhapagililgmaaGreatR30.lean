/- Texts ST8 S7 S8 S11 S12 S14 S15 S16 S17 in one. -/
import Derived.Test.YtlhapagililgmaaGreatR29
import Derived.Test.YtlhapagililgmaaGreatR28
import Derived.Test.YtlhapagililgmaaGreatR14
import Derived.Test.YtlhapagililgmaaGreatR21
import Derived.Test.YtlhapagililgmaaGreatR26
/- The changes of sign that the program counts. -/
namespace Go.Proofs.YtlhapagililgmaaGreat
set_option linter.unusedSimpArgs false
set_option linter.unusedVariables false
open Go.RowKit

def lstQ : Rat → List Rat → Rat
 | u, [] => u
 | u, s :: l => lstQ (if s = 0 then u else s) l
theorem vr_snoc (s : Rat) : ∀ (l : List Rat) (u : Rat), vr u (l ++ [s]) = vr u l + (if s * lstQ u l < 0 then 1 else 0) ∧ lstQ u (l ++ [s]) = if s = 0 then lstQ u l else s
 | [], u => ⟨by show (if s * u < 0 then 1 else 0) + vr _ [] = 0 + _; rw [vr]; show _ = 0 + if s * u < 0 then 1 else 0; omega, rfl⟩
 | t :: l, u => by
   obtain ⟨h1, h2⟩ := vr_snoc s l (if t = 0 then u else t)
   refine ⟨?_, h2⟩
   show (if t * u < 0 then 1 else 0) + vr (if t = 0 then u else t) (l ++ [s]) = (if t * u < 0 then 1 else 0) + vr (if t = 0 then u else t) l + (if s * lstQ (if t = 0 then u else t) l < 0 then 1 else 0)
   rw [h1]; omega
theorem sgQ_mulneg (s u : Rat) : (sgQ s * sgQ u < 0) ↔ s * u < 0 := by
 rw [neg_mul_iff]
 unfold sgQ
 rcases sgn_cases s with h1 | h1 | h1 <;> rcases sgn_cases u with h2 | h2 | h2
 ·rw [if_pos h1, if_pos h2]; exact ⟨fun h => absurd h (by decide), fun h => by grind⟩
 ·rw [if_pos h1, if_neg (by grind), if_pos h2]; exact ⟨fun h => absurd h (by decide), fun h => by grind⟩
 ·rw [if_pos h1, if_neg (show ¬ u < 0 by grind), if_neg (show ¬ u = 0 by grind)]; exact ⟨fun _ => .inl ⟨h1, h2⟩, fun _ => by decide⟩
 ·rw [if_neg (show ¬ s < 0 by grind), if_pos h1]; exact ⟨fun h => by rw [Int.zero_mul] at h; exact absurd h (by decide), fun h => by grind⟩
 ·rw [if_neg (show ¬ s < 0 by grind), if_pos h1]; exact ⟨fun h => by rw [Int.zero_mul] at h; exact absurd h (by decide), fun h => by grind⟩
 ·rw [if_neg (show ¬ s < 0 by grind), if_pos h1]; exact ⟨fun h => by rw [Int.zero_mul] at h; exact absurd h (by decide), fun h => by grind⟩
 ·rw [if_neg (show ¬ s < 0 by grind), if_neg (show ¬ s = 0 by grind), if_pos h2]; exact ⟨fun _ => .inr ⟨h1, h2⟩, fun _ => by decide⟩
 ·rw [if_neg (show ¬ s < 0 by grind), if_neg (show ¬ s = 0 by grind), if_neg (show ¬ u < 0 by grind), if_pos h2]; exact ⟨fun h => absurd h (by decide), fun h => by grind⟩
 ·rw [if_neg (show ¬ s < 0 by grind), if_neg (show ¬ s = 0 by grind), if_neg (show ¬ u < 0 by grind), if_neg (show ¬ u = 0 by grind)]; exact ⟨fun h => absurd h (by decide), fun h => by grind⟩
theorem sgQ_zero (s : Rat) : sgQ s = 0 ↔ s = 0 := by
 unfold sgQ
 rcases sgn_cases s with h | h | h
 ·rw [if_pos h]; exact ⟨fun e => absurd e (by decide), fun e => by grind⟩
 ·rw [if_neg (by grind), if_pos h]; exact ⟨fun _ => h, fun _ => rfl⟩
 ·rw [if_neg (by grind), if_neg (by grind)]; exact ⟨fun e => absurd e (by decide), fun e => by grind⟩
theorem vS_vr {L : List (List Rat)} {l : List (List Int)} {x : Rat} (hl : l.length = L.length) (h : ∀ i, i < L.length → sgI (hsZ x (l.getD i [])).1 = sgQ (ev (L.getD i []) x)) : ∀ i, i ≤ L.length →
 (vS l x i).1 = ((vr 0 ((L.take i).map fun q => ev q x) : Nat) : Int) ∧ (vS l x i).2 = sgQ (lstQ 0 ((L.take i).map fun q => ev q x))
 | 0, _ => ⟨rfl, rfl⟩
 | i + 1, hi => by
   obtain ⟨h1, h2⟩ := vS_vr hl h i (by omega)
   have h3 := h i (by omega)
   have e : (L.take (i + 1)).map (fun q => ev q x) = (L.take i).map (fun q => ev q x) ++ [ev (L.getD i []) x] := by
    rw [List.take_add_one, List.getElem?_eq_getElem (show i < L.length by omega), List.map_append, List.getD_eq_getElem?_getD, List.getElem?_eq_getElem (show i < L.length by omega)]
    rfl
   obtain ⟨k1, k2⟩ := vr_snoc (ev (L.getD i []) x) ((L.take i).map fun q => ev q x) 0
   rw [e, k1, k2]
   simp only [vS]
   rw [h1, h2, h3]
   refine ⟨?_, ?_⟩
   ·unfold nxN
    by_cases c : ev (L.getD i []) x * lstQ 0 ((L.take i).map fun q => ev q x) < 0
    ·rw [if_pos ((sgQ_mulneg _ _).2 c), if_pos c]; push_cast; rfl
    ·rw [if_neg fun h => c ((sgQ_mulneg _ _).1 h), if_neg c]; rfl
   ·unfold nxA
    by_cases c : ev (L.getD i []) x = 0
    ·rw [if_pos ((sgQ_zero _).2 c), if_pos c]
    ·rw [if_neg fun h => c ((sgQ_zero _).1 h), if_neg c]
theorem vS_vrL {L : List (List Rat)} (h : ∀ a ∈ L, Can a ∧ a ≠ []) (x : Rat) : (vS (L.map igL) x (L.map igL).length).1 = (vrL L x : Nat) := by
 have := (vS_vr (L := L) (l := L.map igL) (x := x) (by simp) (fun i hi => by
  have e : (L.map igL).getD i [] = igL (L.getD i []) := by
   rw [List.getD_eq_getElem?_getD, List.getElem?_map, List.getD_eq_getElem?_getD, List.getElem?_eq_getElem hi]; rfl
  have hm : L.getD i [] ∈ L := by
   rw [List.getD_eq_getElem?_getD, List.getElem?_eq_getElem hi]; exact List.getElem_mem hi
  rw [e, sg_igL (h _ hm).1 (h _ hm).2]) L.length (Nat.le_refl _)).1
 rw [List.length_map, this, List.take_of_length_le (Nat.le_refl _)]
 rfl
theorem stL_mem : ∀ (n : Nat) (a b : List Rat), Can a → Can b → b.length < n → ∀ c ∈ stL a b, Can c ∧ c ≠ []
 | 0, _, _, _, _, h => absurd h (Nat.not_lt_zero _)
 | n + 1, a, b, ha, hb, h => fun c hc => by
   by_cases a0 : a = []
   ·rw [a0, stL_nil] at hc; simp at hc
   ·rw [stL_cons ha hb a0] at hc
    rcases List.mem_cons.1 hc with e | hc
    ·rw [e]; exact ⟨ha, a0⟩
    ·by_cases b0 : b = []
     ·rw [b0, stL_nil] at hc; simp at hc
     ·exact stL_mem n b (nxt a b) hb (can_nxt a b) (by have := nxt_len ha hb b0; omega) c hc
theorem vS_vrS {p : List Rat} (hp : Can p) (p0 : p ≠ []) (x : Rat) : (vS ((chS p).map igL) x ((chS p).map igL).length).1 = (vrS p x : Nat) :=
 vS_vrL (stL_mem _ _ _ (sqp_can hp p0).1 (can_pDiff _) (Nat.lt_succ_self _)) x
end Go.Proofs.YtlhapagililgmaaGreat


/- Contracts: Count. -/
namespace Go.Proofs.YtlhapagililgmaaGreat
set_option linter.unusedSimpArgs false
set_option linter.unusedVariables false
open Go.RowKit

def cntP (p : List Rat) (lo hi : Rat) : Int := if p = [] ∨ hi ≤ lo then 0 else (vrS p lo : Int) - (vrS p hi : Int)
def CtOk (p : List Rat) (lo hi : Rat) : Prop := (qs lo ≤ 5000000000000 ∧ qs hi ≤ 5000000000000) ∧ (p ≠ [] → (Can p ∧ p.length ≤ 1000000) ∧ CkOk p ∧ VrOk (chZ p) lo ∧ VrOk (chZ p) hi)
def kCount : Con := con3 pR pQ pQ fun p lo hi => (CtOk p lo hi, .raw (.int .i64 (cntP p lo hi)))
attribute [go_sem ↓, go_sem] kCount
theorem count_C : Ctr Tryz.prog 19 kCount := Ctr.c3 (by kernel_rfl) fun p lo hi h => by
 obtain ⟨⟨h1, h2⟩, hk⟩ := h
 show PCall _ _ _ (.raw (.int .i64 (cntP p lo hi)))
 have T := (tabs mixed (tbl_cons qCmp_C (tbl_cons chainZ_C (tbl_cons var_C tbl_nil))))
 refine PCall.of_vc T Tryz.func19 rfl Tryz.ntmps19 Tryz.results19 (by simp) ?_
 by_cases p0 : p = []
 ·subst p0
  have e1 : cntP [] lo hi = 0 := if_pos (.inl rfl)
  have c1 : ((([] : List Rat).length : Int) == 0) = true := rfl
  rw [e1]
  simp only [go_sem, c1]
 ·obtain ⟨⟨hc, hl⟩, hck, v1, v2⟩ := hk p0
  have pl := List.length_pos_iff.2 p0
  have c1 : ((p.length : Int) == 0) = false := beqF (by omega)
  by_cases hle : hi ≤ lo
  ·have e1 : cntP p lo hi = 0 := if_pos (.inr hle)
   have c2 : 0 ≤ cmpQ lo hi := by
    unfold cmpQ
    rw [if_neg (Rat.not_lt.2 hle)]
    split <;> decide
   rw [e1]
   simp only [go_sem, c1, c2, h1, h2]
  ·have e1 : cntP p lo hi = (vrS p lo : Int) - (vrS p hi : Int) := if_neg fun h => h.elim p0 hle
   have c2 : ¬ 0 ≤ cmpQ lo hi := by
    unfold cmpQ
    rw [if_pos (Rat.not_le.1 hle)]
    decide
   have w1 := vS_vrS hc p0 lo
   have w2 := vS_vrS hc p0 hi
   have d1 := vrS_deg hc p0 lo
   have d2 := vrS_deg hc p0 hi
   have ez : chZ p = (chS p).map igL := rfl
   rw [e1]
   simp only [go_sem, c1, c2, h1, h2, ez, w1, w2]
   exact ⟨hck, v1, v2, ⟨by omega, by omega⟩, by rfl⟩
def kSWhole : Con := con1 pI fun z => (True, .Q (z : Rat))
attribute [go_sem ↓, go_sem] kSWhole
theorem sWhole_C : Ctr Tryz.prog 83 kSWhole := Ctr.c1 (by kernel_rfl) fun z h => by
 refine PCall.of_vc (tabs mixed (tbl_cons of_C tbl_nil)) Tryz.func83 rfl Tryz.ntmps83 Tryz.results83 (by simp) ?_
 simp only [go_sem]
 exact ⟨by rfl, out_Q (.refl _) (.refl _) rfl rfl⟩
end Go.Proofs.YtlhapagililgmaaGreat


/- Contracts: Bound. -/
namespace Go.Proofs.YtlhapagililgmaaGreat
set_option linter.unusedSimpArgs false
set_option linter.unusedVariables false
open Go.RowKit

def abQ (x : Rat) : Rat := if x < 0 then -x else x
def mxQ (p : List Rat) : Nat → Rat
 | 0 => 0
 | i + 1 => if mxQ p i < abQ (cf p i / lead p) then abQ (cf p i / lead p) else mxQ p i
def bndZ (p : List Rat) : Int := if p.length < 2 then 0 else -(Rat.floor (-(mxQ p (p.length - 1) + 1)))
def BdOk (p : List Rat) : Prop := Can p ∧ p.length ≤ 1000000 ∧ ∃ s, PB p s ∧ s ≤ 1000000000000
theorem qs_abQ (x : Rat) : qs (abQ x) = qs x := by
 unfold abQ
 split
 ·exact qs_neg x
 ·rfl
theorem abQ_nd (q : Rat) : (abQ q).num = sv false (dg q.num.natAbs) ∧ (abQ q).den = q.den := by
 have e : sv false (dg q.num.natAbs) = (q.num.natAbs : Int) := by unfold sv; rw [if_neg (by decide), lv_dg]
 rw [e]
 unfold abQ
 have h : (q < 0) ↔ q.num < 0 := by
  have := Rat.num_nonneg (q := q)
  rw [← Rat.not_le, ← this]; omega
 by_cases c : q < 0
 ·rw [if_pos c]
  have := h.1 c
  exact ⟨by show -q.num = _; omega, rfl⟩
 ·rw [if_neg c]
  have : ¬ q.num < 0 := fun k => c (h.2 k)
  exact ⟨by omega, rfl⟩
def agQ (q : Rat) : V := .agg [.agg [.raw (.bool false), .lst (V.limbs (dg q.num.natAbs))], .I (q.den : Int)]
theorem ag_atoms (q : Rat) : (V.Q (abQ q)).atoms = (agQ q).atoms := by
 obtain ⟨e1, e2⟩ := abQ_nd q
 have h := atoms_I (s := false) (dg_canon q.num.natAbs) (fun e => by cases e)
 show V.atomsI (abQ q).num ++ V.atomsI (abQ q).den = [.raw (.bool false), .lst (V.limbs (dg q.num.natAbs))] ++ (V.atomsI (q.den : Int) ++ [])
 rw [← h, e1, e2, List.append_nil]; rfl
theorem ag_ren (θ : List Nat) (q : Rat) : RenV θ (.Q (abQ q)) (agQ q) := ⟨rfl, .inr ⟨rfl, rfl, ag_atoms q⟩⟩
theorem ag_p (q : Rat) : pQ.p (.agg [.agg [.raw (.bool false), .lst (V.limbs (dg q.num.natAbs))], .I (q.den : Int)]) = some (True, abQ q) := by
 obtain ⟨e1, e2⟩ := abQ_nd q
 have h1 : pI.p (.agg [.raw (.bool false), .lst (V.limbs (dg q.num.natAbs))]) = some (True, (abQ q).num) := by
  rw [ev_pI_lst, unlimb_limbs, Option.map_some, ← e1]
  have : (Canon (dg q.num.natAbs) ∧ (false = true → dg q.num.natAbs ≠ [])) = True := eq_true ⟨dg_canon _, fun e => by cases e⟩
  rw [this]
 show ((pI.p _).bind fun a => (pI.p (.I (q.den : Int))).map fun b => _) = _
 rw [h1]
 show some _ = _
 have e3 : Rat.divInt (abQ q).num (q.den : Int) = abQ q := by rw [← e2]; exact Rat.num_divInt_den _
 simp only [e3, e2, and_self]
theorem mxQ_sz {p : List Rat} {s : Nat} (h : PB p s) : ∀ i, qs (mxQ p i) ≤ s + s
 | 0 => Nat.le_trans qs_0 (by have := h.pos; omega)
 | i + 1 => by
   rw [mxQ]
   split
   ·rw [qs_abQ]
    exact qsD (h i) (h _)
   ·exact mxQ_sz h i
def kBound : Con := con1 pR fun p => (BdOk p, .I (bndZ p))
attribute [go_sem ↓, go_sem] kBound
theorem bound_C : Ctr Tryz.prog 22 kBound := Ctr.c1 (by kernel_rfl) fun p h => by
 obtain ⟨hc, hl, s, hs, hb⟩ := h
 show PCall _ _ _ (.I (bndZ p))
 have T := (tabs mixed (tbl_cons of_C (tbl_cons whole_C (tbl_cons qDiv_C (tbl_cons qCmp_C (tbl_cons qAdd_C (tbl_cons qNeg_C (tbl_cons floor_C (tbl_cons neg_C tbl_nil)))))))))
 refine PCall.of_vc T Tryz.func22 rfl Tryz.ntmps22 Tryz.results22 (by simp) ?_
 by_cases h2 : p.length < 2
 ·have c1 : (p.length : Int) < 2 := by omega
  have e1 : bndZ p = 0 := if_pos h2
  rw [e1]
  simp only [go_sem, c1]
 ·have c1 : ¬ (p.length : Int) < 2 := by omega
  have e1 : bndZ p = -(Rat.floor (-(mxQ p (p.length - 1) + 1))) := if_neg h2
  have c2 : (p.length : Int) - 1 = ((p.length - 1 : Nat) : Int) := by omega
  rw [e1]
  simp only [go_sem, c1, c2]
  refine ⟨⟨by omega, by omega⟩, ⟨by omega, by omega⟩, ?_⟩
  have mn : min (p.length - 1) p.length = p.length - 1 := by omega
  rw [mn]
  obtain ⟨m, em⟩ : ∃ m, p.length - 1 = m := ⟨_, rfl⟩
  rw [em]
  refine AWp.loops (X := { i : Nat // i ≤ m }) (fun i => mkSt [(0, .lst (V.rats p)), (2, .ptr 0 2 0 0), (3, .ptr 1 4 0 0), (18, .lst (V.rats (List.take m p))), (19, .raw (.int .i64 (m : Nat))), (20, .raw (.int .i64 (i.1 : Nat)))]
   [(0, true, ⟨44, 2, [.agg [.raw (.bool false), .raw (.slice none 0 0)]]⟩), (1, false, ⟨46, 4, [.Q (mxQ p i.1)]⟩)] 2 50) (fun i => m - i.1) ⟨0, Nat.zero_le _⟩ (Wk.of [0, 5] (by decide) ?_) ?_
  ·simp only [go_sem, mxQ, Int.natCast_zero]
   exact renV_pure rfl
  ·rintro ⟨i, hi⟩
   refine vc_at T ?_
   by_cases hlt : i < m
   ·have c3 : (i : Int) < (m : Int) := by omega
    have c4 : (i : Int) + 1 = ((i + 1 : Nat) : Int) := by omega
    have c5 : 0 ≤ (i : Int) := by omega
    have c6 : min m p.length = m := by omega
    have c7 : cf (List.take m p) i = cf p i := by rw [cf_take, if_pos hlt]
    have c8 : m < p.length := by omega
    have c9 : cf p m = lead p := by rw [← em]; rfl
    have l0 : lead p ≠ 0 := lead_ne hc (fun e => by rw [e] at h2; exact h2 (by decide))
    have hd : divR (cf p i) (lead p) = .tup [.Q (cf p i / lead p), .raw (.int .i64 0)] := if_neg l0
    have q1 : qs (cf p i) ≤ 5000000000000 := Nat.le_trans (hs i) (by omega)
    have q2 : qs (lead p) ≤ 5000000000000 := Nat.le_trans (hs _) (by omega)
    have cc2 : (p.length : Int) - 1 = (m : Int) := by omega
    have b2 := mxQ_sz hs i
    have b3 : qs (abQ (cf p i / lead p)) ≤ s + s := by rw [qs_abQ]; exact qsD (hs i) (hs _)
    have q3 : qs (abQ (cf p i / lead p)) ≤ 5000000000000 := by omega
    have q4 : qs (mxQ p i) ≤ 5000000000000 := by omega
    by_cases hg : mxQ p i < abQ (cf p i / lead p)
    ·have d1 : 0 < cmpQ (abQ (cf p i / lead p)) (mxQ p i) := by
      unfold cmpQ
      rw [if_neg (by grind), if_neg (by grind)]; decide
     have e2 : mxQ p (i + 1) = abQ (cf p i / lead p) := if_pos hg
     simp only [go_sem, c3, c4, c5, hlt, c6, c7, c8, c9, hd, q1, q2, q3, q4, cc2, ag_p, d1]
     refine ⟨⟨by omega, by omega⟩, ⟨by omega, by omega⟩, by rfl, ⟨by omega, by omega⟩, ⟨i + 1, hlt⟩, Wk.of [0, 1] (by decide) ?_, by simp only; omega⟩
     simp only [go_sem, e2]
     exact ag_ren _ _
    ·have d1 : ¬ 0 < cmpQ (abQ (cf p i / lead p)) (mxQ p i) := by
      unfold cmpQ
      split
      ·decide
      ·split
       ·decide
       ·exact absurd (show mxQ p i < abQ (cf p i / lead p) by grind) hg
     have e2 : mxQ p (i + 1) = mxQ p i := if_neg hg
     simp only [go_sem, c3, c4, c5, hlt, c6, c7, c8, c9, hd, q1, q2, q3, q4, cc2, ag_p, d1]
     refine ⟨⟨by omega, by omega⟩, ⟨by omega, by omega⟩, by rfl, ⟨by omega, by omega⟩, ⟨i + 1, hlt⟩, Wk.of [0, 1] (by decide) ?_, by simp only; omega⟩
     simp only [go_sem, e2]
     exact renV_pure rfl
   ·obtain rfl : i = m := by omega
    have c1 : ¬ (i : Int) < (i : Int) := by omega
    have b2 := mxQ_sz hs i
    have z1 : qs ((1 : Int) : Rat) ≤ 1 := qs_1
    have z2 : qs (-(mxQ p i + ((1 : Int) : Rat))) ≤ 12000000000000 := by
     rw [qs_neg]
     exact Nat.le_trans (qsA b2 z1) (by omega)
    simp only [go_sem, c1]
    exact ⟨⟨by omega, by omega⟩, z2, by rfl, .refl _⟩
end Go.Proofs.YtlhapagililgmaaGreat


/- Contracts: a short list of numbers is sorted. -/
namespace Go.Proofs.YtlhapagililgmaaGreat
set_option linter.unusedSimpArgs false
set_option linter.unusedVariables false
open Go.RowKit

def swp (L : List Rat) (j : Nat) : List Rat := (L.set j (cf L (j - 1))).set (j - 1) (cf L j)
def insJ : Nat → List Rat → List Rat
 | 0, L => L
 | j + 1, L => if cf L (j + 1) < cf L j then insJ j (swp L (j + 1)) else L
def insI (L : List Rat) : Nat → List Rat
 | 0 => L
 | i + 1 => insJ (i + 1) (insI L i)
def srt (L : List Rat) : List Rat := insI L (L.length - 1)
theorem swp_len (L : List Rat) (j : Nat) : (swp L j).length = L.length := by simp [swp]
theorem swp_PB {L : List Rat} {s j : Nat} (h : PB L s) : PB (swp L j) s := fun i => by
 unfold swp
 rw [cf_set]
 split
 ·exact h _
 ·rw [cf_set]
  split
  ·exact h _
  ·exact h _
theorem insJ_len : ∀ (j : Nat) (L : List Rat), (insJ j L).length = L.length
 | 0, _ => rfl
 | j + 1, L => by
   rw [insJ]
   split
   ·rw [insJ_len j, swp_len]
   ·rfl
theorem insJ_PB {s : Nat} : ∀ (j : Nat) (L : List Rat), PB L s → PB (insJ j L) s
 | 0, _, h => h
 | j + 1, L, h => by
   rw [insJ]
   split
   ·exact insJ_PB j _ (swp_PB h)
   ·exact h
theorem insI_len (L : List Rat) : ∀ i, (insI L i).length = L.length
 | 0 => rfl
 | i + 1 => by rw [insI, insJ_len, insI_len L i]
theorem insI_PB {L : List Rat} {s : Nat} (h : PB L s) : ∀ i, PB (insI L i) s
 | 0 => h
 | i + 1 => insJ_PB _ _ (insI_PB h i)
set_option maxRecDepth 4000 in
theorem isort_M (L : List Rat) (hl : L.length ≤ 1000000) (hp : PB L 5000000000000) : MCall Tryz.prog 139 [.sl 0 4 0 L.length, .raw (.int .i64 0), .raw (.int .i64 (L.length : Nat)), .clo (.func 60) [] []] [⟨46, 4, V.rats L⟩] [⟨46, 4, V.rats (srt L)⟩] (.tup []) := by
 have T := (tabs mixed (tbl_cons qCmp_C tbl_nil))
 refine MCall.of_vc T Tryz.func139 rfl Tryz.ntmps139 Tryz.results139 (by simp) rfl (fun x hx y hy => ?_) ?_
 ·simp at hx; subst hx; exact of_eq_true (rats_pure _) y hy
 simp only [go_sem]
 refine AWp.loops (X := { i : Nat // i + 1 ≤ L.length ∨ i = 0 }) (fun i => mkStM 1 [(0, .sl 0 4 0 L.length), (1, .raw (.int .i64 0)), (2, .raw (.int .i64 (L.length : Nat))), (3, .clo (.func 60) [] []), (8, .raw (.int .i64 ((i.1 + 1 : Nat) : Int)))] [(0, true, ⟨46, 4, V.rats (insI L i.1)⟩)] 1 53) (fun i => L.length - i.1) ⟨0, .inr rfl⟩ (Wk.ofM 1 [0] (by decide) (by decide) ?_) ?_
 ·simp only [go_sem, insI]
 ·rintro ⟨i, hi⟩
  refine vc_atM T ?_
  by_cases hlt : i + 1 < L.length
  ·have c1 : ((i + 1 : Nat) : Int) < (L.length : Int) := by omega
   simp only [go_sem, c1]
   refine AWp.loops (X := { x : Nat × List Rat // (x.1 ≤ i + 1 ∧ x.2.length = L.length) ∧ PB x.2 5000000000000 ∧ insJ x.1 x.2 = insI L (i + 1) }) (fun x => mkStM 1 [(0, .sl 0 4 0 L.length), (1, .raw (.int .i64 0)), (2, .raw (.int .i64 (L.length : Nat))), (3, .clo (.func 60) [] []), (8, .raw (.int .i64 ((i + 1 : Nat) : Int))), (9, .raw (.int .i64 (x.1.1 : Nat)))] [(0, true, ⟨46, 4, V.rats x.1.2⟩)] 1 53) (fun x => x.1.1) ⟨(i + 1, insI L i), ⟨Nat.le_refl _, insI_len L i⟩, insI_PB hp i, rfl⟩ (Wk.ofM 1 [0] (by decide) (by decide) ?_) ?_
   ·simp only [go_sem]
   rintro ⟨⟨j, M⟩, ⟨hj, hM⟩, hpM, he⟩
   simp only at hj hM hpM he
   refine vc_atM T ?_
   have fin : ∀ M', M' = insI L (i + 1) → (-9223372036854775808 ≤ ((i + 1 : Nat) : Int) + 1 ∧ ((i + 1 : Nat) : Int) + 1 ≤ 9223372036854775807) := fun _ _ => ⟨by omega, by omega⟩
   have c2 : ((i + 1 : Nat) : Int) + 1 = ((i + 1 + 1 : Nat) : Int) := by omega
   rcases j with _ | j
   ·have d1 : ¬ (0 : Int) < ((0 : Nat) : Int) := by decide
    have he : M = insI L (i + 1) := he
    subst he
    simp only [go_sem, d1, c2]
    refine ⟨by rfl, ⟨by omega, by omega⟩, ⟨i + 1, .inl (by omega)⟩, Wk.ofM 1 [0] (by decide) (by decide) ?_, by simp only; omega⟩
    simp only [go_sem]
   ·have d1 : (0 : Int) < ((j + 1 : Nat) : Int) := by omega
    have d2 : ((j + 1 : Nat) : Int) - 1 = (j : Int) := by omega
    have d3 : j + 1 < M.length := by omega
    have d4 : j < M.length := by omega
    have d5 : 0 ≤ (j : Int) := by omega
    have d6 : 0 ≤ ((j + 1 : Nat) : Int) := by omega
    have q1 := hpM (j + 1)
    have q2 := hpM j
    by_cases hc : cf M (j + 1) < cf M j
    ·have d7 : cmpQ (cf M (j + 1)) (cf M j) < 0 := by unfold cmpQ; rw [if_pos hc]; decide
     simp only [go_sem, d1, d2, d3, d4, d5, d6, d7, q1, q2, hM]
     refine ⟨by omega, by omega, ⟨by omega, by omega⟩, by omega, by omega, ?_⟩
     have esw : ((M.set (j + 1) (cf M j)).set j (cf M (j + 1))) = swp M (j + 1) := rfl
     refine ⟨by rfl, ⟨by omega, by omega⟩, ⟨by omega, by omega⟩, by omega, by omega, by omega, by omega, by omega, by omega, by omega, by omega, by rfl, ⟨by omega, by omega⟩, ⟨(j, swp M (j + 1)), ⟨by simp only; omega, by simp only [swp_len]; exact hM⟩, swp_PB hpM, by rw [← he, insJ, if_pos hc]⟩, Wk.ofM 1 [0] (by decide) (by decide) ?_, Nat.lt_succ_self j⟩
     simp only [go_sem, esw]
    ·have d7 : ¬ cmpQ (cf M (j + 1)) (cf M j) < 0 := by
      unfold cmpQ; rw [if_neg hc]; split <;> decide
     have he : M = insI L (i + 1) := by rw [← he, insJ, if_neg hc]
     simp only [go_sem, d1, d2, d3, d4, d5, d6, d7, q1, q2, hM, c2]
     refine ⟨by omega, by omega, ⟨by omega, by omega⟩, by omega, by omega, ?_⟩
     refine ⟨by rfl, ⟨by omega, by omega⟩, ⟨i + 1, .inl (by omega)⟩, Wk.ofM 1 [0] (by decide) (by decide) ?_, by simp only; omega⟩
     simp only [go_sem, he]
  ·have c1 : ¬ ((i + 1 : Nat) : Int) < (L.length : Int) := by omega
   have e1 : insI L i = srt L := by
    unfold srt
    rw [show L.length - 1 = i from by omega]
   simp only [go_sem, c1, e1]
   exact fun i hi => by simp at hi
def kSrtK (k n : Nat) (N : Nat) : List (Option Blk) → Prop × V × List (Nat × Option Blk)
 | [some ⟨t, e, l⟩] => ((t = 46 ∧ e = 4) ∧ ∃ L : List Rat, l = V.rats L ∧ L.length = n ∧ n ≤ N ∧ PB L 5000000000000, .tup [], [(k, some ⟨46, 4, V.rats (srt ((unrat l).getD []))⟩)])
 | _ => (False, .any, [])
theorem srt_M {f : FuncId} {args args' : List V} {L : List Rat} {k : Nat} {H : Hp} (hM : MCall Tryz.prog f args [⟨46, 4, V.rats L⟩] [⟨46, 4, V.rats (srt L)⟩] (.tup [])) (hk : H k = some ⟨46, 4, V.rats L⟩) (ha : args.length = args'.length)
 (hren : ∀ (j : Nat) (x y : V), args[j]? = some x → args'[j]? = some y → RenV [k] x y ∧ x.noTup = true) (m : Nat) : GCall Tryz.prog f args' H m (.tup []) [(k, some ⟨46, 4, V.rats (srt L)⟩)] := by
 refine hM.gcall [k] (H := H) (by simp) rfl rfl (fun i j hi => ?_) (fun x hx => ?_) (fun x hx => ?_) ha hren m
 ·match i, hi with
  | 0, hi => simp at hi; subst hi; exact hk
  | i + 1, hi => simp at hi
 ·simp at hx; subst hx; exact of_eq_true (rats_pure _)
 ·simp at hx; subst hx; exact of_eq_true (rats_pure _)
end Go.Proofs.YtlhapagililgmaaGreat


/- Contracts: sorting a short list of numbers. -/
namespace Go.Proofs.YtlhapagililgmaaGreat
set_option linter.unusedSimpArgs false
set_option linter.unusedVariables false
open Go.RowKit

def kIso : MCon
 | [.sl k 4 0 n, .raw (.int .i64 z), .raw (.int .i64 m), .clo (.func f) [] []] => if z = 0 ∧ m = (n : Int) ∧ f = 60 then some ([k], kSrtK k n 1000000) else none
 | _ => none
attribute [go_sem] kIso.eq_1 kSrtK.eq_1
theorem iso_C : MCtr Tryz.prog 139 kIso := by
 refine ⟨by kernel_rfl, fun args θ k H m hC hp => ?_⟩
 unfold kIso at hC
 split at hC
 ·rename_i k1 n z m1 f
  split at hC
  ·rename_i he
   obtain ⟨rfl, rfl, rfl⟩ := he
   injection hC with hC
   injection hC with h1 h2
   subst h1 h2
   simp only [List.map_cons, List.map_nil] at hp ⊢
   generalize hb1 : H k1 = b1 at hp ⊢
   unfold kSrtK at hp ⊢
   split at hp
   ·rename_i t e l hl
    injection hl with q1 q2
    subst q1
    obtain ⟨⟨rfl, rfl⟩, L, rfl, rfl, hl, hP⟩ := hp
    rw [unrat_rats]
    show GCall _ _ _ _ _ (.tup []) [(k1, some ⟨46, 4, V.rats (srt L)⟩)]
    refine srt_M (args' := [.sl k1 4 0 L.length, .raw (.int .i64 0), .raw (.int .i64 (L.length : Nat)), .clo (.func 60) [] []]) (isort_M L hl hP) hb1 rfl (fun j x y hx hy => ?_) m
    match j, hx, hy with
    | 0, hx, hy => simp at hx hy; subst hx hy; exact ⟨⟨rfl, rfl, rfl, rfl⟩, rfl⟩
    | 1, hx, hy => simp at hx hy; subst hx hy; exact ⟨renV_pure rfl, rfl⟩
    | 2, hx, hy => simp at hx hy; subst hx hy; exact ⟨renV_pure rfl, rfl⟩
    | 3, hx, hy => simp at hx hy; subst hx hy; exact ⟨⟨rfl, trivial, trivial⟩, rfl⟩
    | j + 4, hx, _ => simp at hx
   ·exact hp.elim
  ·cases hC
 ·cases hC
theorem pdq_M (L : List Rat) (z : Int) (hl : L.length ≤ 12) (hp : PB L 5000000000000) : MCall Tryz.prog 119 [.sl 0 4 0 L.length, .raw (.int .i64 0), .raw (.int .i64 (L.length : Nat)), .raw (.int .i64 z), .clo (.func 60) [] []] [⟨46, 4, V.rats L⟩] [⟨46, 4, V.rats (srt L)⟩] (.tup []) := by
 have T := (tabsM mixed tbl_nil (mtb_cons iso_C mtb_nil))
 refine MCall.of_vc T Tryz.func119 rfl Tryz.ntmps119 Tryz.results119 (by simp) rfl (fun x hx y hy => ?_) ?_
 ·simp at hx; subst hx; exact of_eq_true (rats_pure _) y hy
 have c1 : (L.length : Int) ≤ 12 := by omega
 simp only [go_sem]
 refine AWp.loops (X := Unit) (fun _ => mkStM 1 [(0, .sl 0 4 0 L.length), (1, .raw (.int .i64 0)), (2, .raw (.int .i64 (L.length : Nat))), (4, .clo (.func 60) [] [])] [(0, true, ⟨46, 4, V.rats L⟩)] 1 148) (fun _ => 0) () (Wk.ofM 1 [0] (by decide) (by decide) ?_) ?_
 ·simp only [go_sem]
 rintro ⟨⟩
 refine vc_atM T ?_
 have c2 : (L.length : Int) - 0 = (L.length : Int) := by omega
 simp only [go_sem, c1, c2]
 refine ⟨⟨by omega, by omega⟩, ⟨L, rfl, rfl, by omega, hp⟩, ?_⟩
 exact fun i hi => by simp at hi
def kPdq : MCon
 | [.sl k 4 0 n, .raw (.int .i64 z), .raw (.int .i64 m), .raw (.int .i64 _), .clo (.func f) [] []] => if z = 0 ∧ m = (n : Int) ∧ f = 60 then some ([k], kSrtK k n 12) else none
 | _ => none
attribute [go_sem] kPdq.eq_1
theorem pdq_C : MCtr Tryz.prog 119 kPdq := by
 refine ⟨by kernel_rfl, fun args θ k H m hC hp => ?_⟩
 unfold kPdq at hC
 split at hC
 ·rename_i k1 n z m1 y f
  split at hC
  ·rename_i he
   obtain ⟨rfl, rfl, rfl⟩ := he
   injection hC with hC
   injection hC with h1 h2
   subst h1 h2
   simp only [List.map_cons, List.map_nil] at hp ⊢
   generalize hb1 : H k1 = b1 at hp ⊢
   unfold kSrtK at hp ⊢
   split at hp
   ·rename_i t e l hl
    injection hl with q1 q2
    subst q1
    obtain ⟨⟨rfl, rfl⟩, L, rfl, rfl, hl, hP⟩ := hp
    rw [unrat_rats]
    show GCall _ _ _ _ _ (.tup []) [(k1, some ⟨46, 4, V.rats (srt L)⟩)]
    refine srt_M (args' := [.sl k1 4 0 L.length, .raw (.int .i64 0), .raw (.int .i64 (L.length : Nat)), .raw (.int .i64 y), .clo (.func 60) [] []]) (pdq_M L y hl hP) hb1 rfl (fun j x y hx hy => ?_) m
    match j, hx, hy with
    | 0, hx, hy => simp at hx hy; subst hx hy; exact ⟨⟨rfl, rfl, rfl, rfl⟩, rfl⟩
    | 1, hx, hy => simp at hx hy; subst hx hy; exact ⟨renV_pure rfl, rfl⟩
    | 2, hx, hy => simp at hx hy; subst hx hy; exact ⟨renV_pure rfl, rfl⟩
    | 3, hx, hy => simp at hx hy; subst hx hy; exact ⟨renV_pure rfl, rfl⟩
    | 4, hx, hy => simp at hx hy; subst hx hy; exact ⟨⟨rfl, trivial, trivial⟩, rfl⟩
    | j + 5, hx, _ => simp at hx
   ·exact hp.elim
  ·cases hC
 ·cases hC
theorem sortF_M (L : List Rat) (hl : L.length ≤ 12) (hp : PB L 5000000000000) : MCall Tryz.prog 86 [.sl 0 4 0 L.length, .clo (.func 60) [] []] [⟨46, 4, V.rats L⟩] [⟨46, 4, V.rats (srt L)⟩] (.tup []) := by
 have T := (tabsM mixed (tbl_cons len_C tbl_nil) (mtb_cons pdq_C mtb_nil))
 refine MCall.of_vc T Tryz.func86 rfl Tryz.ntmps86 Tryz.results86 (by simp) rfl (fun x hx y hy => ?_) ?_
 ·simp at hx; subst hx; exact of_eq_true (rats_pure _) y hy
 simp only [go_sem]
 exact ⟨⟨by omega, by omega⟩, ⟨L, rfl, rfl, hl, hp⟩, fun i hi => by simp at hi⟩
def kSortF : MCon
 | [.sl k 4 0 n, .clo (.func f) [] []] => if f = 60 then some ([k], kSrtK k n 12) else none
 | _ => none
attribute [go_sem] kSortF.eq_1
@[go_sem] theorem kSortF_nil (c : V) : kSortF [.raw (.slice none 0 0), c] = none := rfl
theorem sortF_C : MCtr Tryz.prog 86 kSortF := by
 refine ⟨by kernel_rfl, fun args θ k H m hC hp => ?_⟩
 unfold kSortF at hC
 split at hC
 ·rename_i k1 n f
  split at hC
  ·rename_i he
   subst he
   injection hC with hC
   injection hC with h1 h2
   subst h1 h2
   simp only [List.map_cons, List.map_nil] at hp ⊢
   generalize hb1 : H k1 = b1 at hp ⊢
   unfold kSrtK at hp ⊢
   split at hp
   ·rename_i t e l hl
    injection hl with q1 q2
    subst q1
    obtain ⟨⟨rfl, rfl⟩, L, rfl, rfl, hl, hP⟩ := hp
    rw [unrat_rats]
    show GCall _ _ _ _ _ (.tup []) [(k1, some ⟨46, 4, V.rats (srt L)⟩)]
    refine srt_M (args' := [.sl k1 4 0 L.length, .clo (.func 60) [] []]) (sortF_M L hl hP) hb1 rfl (fun j x y hx hy => ?_) m
    match j, hx, hy with
    | 0, hx, hy => simp at hx hy; subst hx hy; exact ⟨⟨rfl, rfl, rfl, rfl⟩, rfl⟩
    | 1, hx, hy => simp at hx hy; subst hx hy; exact ⟨⟨rfl, trivial, trivial⟩, rfl⟩
    | j + 2, hx, _ => simp at hx
   ·exact hp.elim
  ·cases hC
 ·cases hC
/- The empty list. -/
def kIso0 : Con
 | [.lst [], .raw (.int .i64 z), .raw (.int .i64 m), .clo (.func f) [] []] => some ((z = 0 ∧ m = 0) ∧ f = 60, .tup [])
 | _ => none
attribute [go_sem] kIso0.eq_1
theorem iso0_C : Ctr Tryz.prog 139 kIso0 := ⟨by kernel_rfl, fun args p r e hp => by
 unfold kIso0 at e
 split at e
 ·injection e with e; injection e with e1 e2; subst e1 e2
  obtain ⟨⟨rfl, rfl⟩, rfl⟩ := hp
  have T := (tabs mixed (tbl_cons qCmp_C tbl_nil))
  refine PCall.of_vc T Tryz.func139 rfl Tryz.ntmps139 Tryz.results139 (by simp) ?_
  simp only [go_sem]
  refine AWp.loops (X := Unit) (fun _ => mkSt [(0, .lst []), (1, .raw (.int .i64 0)), (2, .raw (.int .i64 0)), (3, .clo (.func 60) [] []), (8, .raw (.int .i64 1))] [] 0 53) (fun _ => 0) () (Wk.of [] (by decide) ?_) ?_
  ·simp only [go_sem]
  rintro ⟨⟩
  refine vc_at T ?_
  have c1 : ¬ (1 : Int) < 0 := by decide
  simp only [go_sem, c1]
 ·cases e⟩
def kPdq0 : Con
 | [.lst [], .raw (.int .i64 z), .raw (.int .i64 m), .raw (.int .i64 _), .clo (.func f) [] []] => some ((z = 0 ∧ m = 0) ∧ f = 60, .tup [])
 | _ => none
attribute [go_sem] kPdq0.eq_1
theorem pdq0_C : Ctr Tryz.prog 119 kPdq0 := ⟨by kernel_rfl, fun args p r e hp => by
 unfold kPdq0 at e
 split at e
 ·injection e with e; injection e with e1 e2; subst e1 e2
  obtain ⟨⟨rfl, rfl⟩, rfl⟩ := hp
  have T := (tabs mixed (tbl_cons iso0_C tbl_nil))
  refine PCall.of_vc T Tryz.func119 rfl Tryz.ntmps119 Tryz.results119 (by simp) ?_
  simp only [go_sem]
  refine AWp.loops (X := Unit) (fun _ => mkSt [(0, .lst []), (1, .raw (.int .i64 0)), (2, .raw (.int .i64 0)), (4, .clo (.func 60) [] [])] [] 0 148) (fun _ => 0) () (Wk.of [] (by decide) ?_) ?_
  ·simp only [go_sem]
  rintro ⟨⟩
  refine vc_at T ?_
  have c1 : (0 : Int) - 0 = 0 := by decide
  have c2 : (0 : Int) ≤ 12 := by decide
  simp only [go_sem, c1, c2]
 ·cases e⟩
def kSortF0 : Con
 | [.raw (.slice none 0 0), .clo (.func f) [] []] => some (f = 60, .tup [])
 | [.lst [], .clo (.func f) [] []] => some (f = 60, .tup [])
 | _ => none
attribute [go_sem] kSortF0.eq_1 kSortF0.eq_2
theorem sortF0_V (y : V) (hy : y = .raw (.slice none 0 0) ∨ y = .lst []) : PCall Tryz.prog 86 [y, .clo (.func 60) [] []] (.tup []) := by
 have T := (tabs mixed (tbl_cons len_C (tbl_cons pdq0_C tbl_nil)))
 refine PCall.of_vc T Tryz.func86 rfl Tryz.ntmps86 Tryz.results86 (by simp) ?_
 rcases hy with rfl | rfl
 ·simp only [go_sem]
 ·simp only [go_sem]
theorem sortF0_C : Ctr Tryz.prog 86 kSortF0 := ⟨by kernel_rfl, fun args p r e hp => by
 unfold kSortF0 at e
 split at e
 ·injection e with e; injection e with e1 e2; subst e1 e2
  obtain rfl := hp
  exact sortF0_V _ (.inl rfl)
 ·injection e with e; injection e with e1 e2; subst e1 e2
  obtain rfl := hp
  exact sortF0_V _ (.inr rfl)
 ·cases e⟩
theorem srt_len (L : List Rat) : (srt L).length = L.length := insI_len L _
end Go.Proofs.YtlhapagililgmaaGreat


/- Contracts: the reference of package sturm, equal lists. -/
namespace Go.Proofs.YtlhapagililgmaaGreat
set_option linter.unusedSimpArgs false
set_option linter.unusedVariables false
open Go.RowKit

theorem rl_ext {a b : List Rat} (hl : a.length = b.length) (h : ∀ j, j < a.length → cf a j = cf b j) : a = b := by
 refine List.ext_getElem hl fun i h1 h2 => ?_
 have := h i h1
 unfold cf at this
 rw [List.getD_eq_getElem?_getD, List.getD_eq_getElem?_getD, List.getElem?_eq_getElem h1, List.getElem?_eq_getElem h2] at this
 exact this
theorem zl_ext {a b : List Int} (hl : a.length = b.length) (h : ∀ j, j < a.length → zz a j = zz b j) : a = b := by
 refine List.ext_getElem hl fun i h1 h2 => ?_
 have := h i h1
 unfold zz at this
 rw [List.getD_eq_getElem?_getD, List.getD_eq_getElem?_getD, List.getElem?_eq_getElem h1, List.getElem?_eq_getElem h2] at this
 exact this
theorem qpair (a b : Rat) : decide ((a.num, (a.den : Int)) = (b.num, (b.den : Int))) = decide (a = b) := by
 by_cases h : a = b
 ·rw [h]; simp
 ·rw [decide_eq_false h]
  refine decide_eq_false fun e => h ?_
  injection e with e1 e2
  exact Rat.ext e1 (by omega)
theorem sz_num {q : Rat} {k : Nat} (h : qs q ≤ k) : dl q.num.natAbs ≤ k := Nat.le_trans (qs_num q) h
theorem sz_den {q : Rat} {k : Nat} (h : qs q ≤ k) : dl ((q.den : Int)).natAbs ≤ k := Nat.le_trans (by simpa using qs_den q) h
def LB (l : List Rat) : Prop := l.length ≤ 1000000 ∧ ∀ k, qs (cf l k) ≤ 5000000000000
def kSameRats : Con := con2 pR pR fun a b => (LB a ∧ LB b, .raw (.bool (decide (a = b))))
attribute [go_sem ↓, go_sem] kSameRats
theorem sameRats_C : Ctr Tryz.prog 37 kSameRats := Ctr.c2 (by kernel_rfl) fun a b h => by
 obtain ⟨⟨la, ha⟩, lb, hb⟩ := h
 show PCall _ _ _ (.raw (.bool (decide (a = b))))
 have T := (tabs mixed (tbl_cons r2Same_C tbl_nil))
 refine PCall.of_vc T Tryz.func37 rfl Tryz.ntmps37 Tryz.results37 (by simp) ?_
 by_cases hl : a.length = b.length
 ·have d0 : ((a.length : Int) != (b.length : Int)) = false := by rw [hl]; simp
  simp only [go_sem, d0]
  refine AWp.loops (X := { i : Nat // i ≤ a.length ∧ ∀ j, j < i → cf a j = cf b j }) (fun i => mkSt [(0, .lst (V.rats a)), (1, .lst (V.rats b)), (5, .raw (.int .i64 (i.1 : Nat)))] [] 0 27) (fun i => a.length - i.1) ⟨0, Nat.zero_le _, fun j h => absurd h (Nat.not_lt_zero _)⟩ (Wk.of [] (by decide) ?_) ?_
  ·simp only [go_sem, Int.natCast_zero]
  rintro ⟨i, hi, inv⟩
  refine vc_at T ?_
  by_cases hin : i < a.length
  ·have d1 : (i : Int) < (a.length : Int) := by omega
   have d2 : (i : Int) + 1 = ((i + 1 : Nat) : Int) := by omega
   have d3 : 0 ≤ (i : Int) := by omega
   have hib : i < b.length := by omega
   have s1 : dl (cf a i).num.natAbs ≤ 30000000000000 := Nat.le_trans (sz_num (ha i)) (by decide)
   have s2 : dl ((cf a i).den : Int).natAbs ≤ 30000000000000 := Nat.le_trans (sz_den (ha i)) (by decide)
   have s3 : dl (cf b i).num.natAbs ≤ 30000000000000 := Nat.le_trans (sz_num (hb i)) (by decide)
   have s4 : dl ((cf b i).den : Int).natAbs ≤ 30000000000000 := Nat.le_trans (sz_den (hb i)) (by decide)
   by_cases he : cf a i = cf b i
   ·have d4 : decide (cf a i = cf b i) = true := decide_eq_true he
    simp only [go_sem, d1, d2, d3, d4, hin, hib, s1, s2, s3, s4, qpair]
    refine ⟨by omega, by rfl, ⟨by omega, by omega⟩, ⟨i + 1, hin, fun j hj => ?_⟩, Wk.of [] (by decide) ?_, by simp only; omega⟩
    ·by_cases e : j = i
     ·rw [e]; exact he
     ·exact inv j (by omega)
    ·simp only [go_sem]
   ·have d4 : decide (cf a i = cf b i) = false := decide_eq_false he
    have d5 : decide (a = b) = false := decide_eq_false fun e => he (by rw [e])
    simp only [go_sem, d1, d2, d3, d4, d5, hin, hib, s1, s2, s3, s4, qpair]
    exact ⟨by omega, by rfl⟩
  ·obtain rfl : i = a.length := by omega
   have d1 : ¬ (a.length : Int) < (a.length : Int) := by omega
   have d5 : decide (a = b) = true := decide_eq_true (rl_ext hl inv)
   simp only [go_sem, d1, d5]
 ·have d0 : ((a.length : Int) != (b.length : Int)) = true := by simp; omega
  have d5 : decide (a = b) = false := decide_eq_false fun e => hl (by rw [e])
  simp only [go_sem, d0, d5]
def LZ (l : List Int) : Prop := l.length ≤ 1000000 ∧ ∀ k, dl (zz l k).natAbs ≤ 30000000000000
def kSameInts : Con := con2 pZs pZs fun a b => (LZ a ∧ LZ b, .raw (.bool (decide (a = b))))
attribute [go_sem ↓, go_sem] kSameInts
theorem sameInts_C : Ctr Tryz.prog 38 kSameInts := Ctr.c2 (by kernel_rfl) fun a b h => by
 obtain ⟨⟨la, ha⟩, lb, hb⟩ := h
 show PCall _ _ _ (.raw (.bool (decide (a = b))))
 have T := (tabs mixed (tbl_cons same_C tbl_nil))
 refine PCall.of_vc T Tryz.func38 rfl Tryz.ntmps38 Tryz.results38 (by simp) ?_
 by_cases hl : a.length = b.length
 ·have d0 : ((a.length : Int) != (b.length : Int)) = false := by rw [hl]; simp
  simp only [go_sem, d0]
  refine AWp.loops (X := { i : Nat // i ≤ a.length ∧ ∀ j, j < i → zz a j = zz b j }) (fun i => mkSt [(0, .lst (V.zs a)), (1, .lst (V.zs b)), (5, .raw (.int .i64 (i.1 : Nat)))] [] 0 27) (fun i => a.length - i.1) ⟨0, Nat.zero_le _, fun j h => absurd h (Nat.not_lt_zero _)⟩ (Wk.of [] (by decide) ?_) ?_
  ·simp only [go_sem, Int.natCast_zero]
  rintro ⟨i, hi, inv⟩
  refine vc_at T ?_
  by_cases hin : i < a.length
  ·have d1 : (i : Int) < (a.length : Int) := by omega
   have d2 : (i : Int) + 1 = ((i + 1 : Nat) : Int) := by omega
   have d3 : 0 ≤ (i : Int) := by omega
   have hib : i < b.length := by omega
   have s1 := ha i
   have s3 := hb i
   by_cases he : zz a i = zz b i
   ·have d4 : decide (zz a i = zz b i) = true := decide_eq_true he
    simp only [go_sem, d1, d2, d3, d4, hin, hib, s1, s3]
    refine ⟨by omega, by rfl, ⟨by omega, by omega⟩, ⟨i + 1, hin, fun j hj => ?_⟩, Wk.of [] (by decide) ?_, by simp only; omega⟩
    ·by_cases e : j = i
     ·rw [e]; exact he
     ·exact inv j (by omega)
    ·simp only [go_sem]
   ·have d4 : decide (zz a i = zz b i) = false := decide_eq_false he
    have d5 : decide (a = b) = false := decide_eq_false fun e => he (by rw [e])
    simp only [go_sem, d1, d2, d3, d4, d5, hin, hib, s1, s3]
    exact ⟨by omega, by rfl⟩
  ·obtain rfl : i = a.length := by omega
   have d1 : ¬ (a.length : Int) < (a.length : Int) := by omega
   have d5 : decide (a = b) = true := decide_eq_true (zl_ext hl inv)
   simp only [go_sem, d1, d5]
 ·have d0 : ((a.length : Int) != (b.length : Int)) = true := by simp; omega
  have d5 : decide (a = b) = false := decide_eq_false fun e => hl (by rw [e])
  simp only [go_sem, d0, d5]
end Go.Proofs.YtlhapagililgmaaGreat


/- Contracts: the reference of package sturm, chains and counts. -/
namespace Go.Proofs.YtlhapagililgmaaGreat
set_option linter.unusedSimpArgs false
set_option linter.unusedVariables false
open Go.RowKit

end Go.Proofs.YtlhapagililgmaaGreat


/- Contracts: the reference of package sturm, changes of sign, counts, bounds. -/
namespace Go.Proofs.YtlhapagililgmaaGreat
set_option linter.unusedSimpArgs false
set_option linter.unusedVariables false
open Go.RowKit

end Go.Proofs.YtlhapagililgmaaGreat


/- Contracts: the reference of package sturm, the bound; the polynomials of the laws. -/
namespace Go.Proofs.YtlhapagililgmaaGreat
set_option linter.unusedSimpArgs false
set_option linter.unusedVariables false
open Go.RowKit

end Go.Proofs.YtlhapagililgmaaGreat

