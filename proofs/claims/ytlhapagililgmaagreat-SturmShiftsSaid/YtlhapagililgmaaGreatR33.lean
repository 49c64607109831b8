/- Texts S9 S10 in one. -/
import Derived.Test.YtlhapagililgmaaGreatR30
import Derived.Test.YtlhapagililgmaaGreatR32
/- Contracts: integer roots by halving. -/
namespace Go.Proofs.YtlhapagililgmaaGreat
set_option linter.unusedSimpArgs false
set_option linter.unusedVariables false
open Go.RowKit

def hlv (own : List Int) (l : List (List Int)) : Nat → Int → Int → Int → Int → List Int
 | 0, lo, hi, v, w => if v = w then [] else if (lo + hi) / 2 = lo then (if sgI (hsZ (hi : Rat) own).1 = 0 then [hi] else []) else []
 | n + 1, lo, hi, v, w => if v = w then [] else if (lo + hi) / 2 = lo then (if sgI (hsZ (hi : Rat) own).1 = 0 then [hi] else []) else
  hlv own l n lo ((lo + hi) / 2) v (vS l (((lo + hi) / 2 : Int) : Rat) l.length).1 ++ hlv own l n ((lo + hi) / 2) hi (vS l (((lo + hi) / 2 : Int) : Rat) l.length).1 w
def rowO (found : List Int) : Option Blk := if found = [] then none else some ⟨44, 2, V.zs found⟩
def outC (r : Nat) (found : List Int) : Blk := ⟨71, 1, [if found = [] then .raw (.slice none 0 0) else .sl r 2 0 found.length]⟩
def inH (base : Hp) (r : Nat) (found : List Int) : Hp := (base.up 1 (some (outC r found))).up r (rowO found)
def haC : List V := [.ptr 0 1 0 0, .ptr 1 1 0 0, .ptr 2 1 0 0, .ptr 3 1 0 0]
structure InB (base : Hp) (n0 : Nat) (own : List Int) (l : List (List Int)) : Prop where
 n : 4 ≤ n0
 closed : ClosedH n0 base
 live : ∀ k, k < n0 → k ≠ 1 → (base k).isSome = true
 b0 : base 0 = some ⟨71, 1, [.lst (V.zs own)]⟩
 b2 : base 2 = some ⟨92, 1, [.lst (V.zss l)]⟩
 b3 : base 3 = some ⟨110, 1, [.clo (.func 87) [] haC]⟩
theorem renV_sub {n : Nat} {θ : List Nat} (hs : ∀ k, k < n → θ[k]? = some k) {x y : V} (h : RenV (List.range n) x y) : RenV θ x y := by
 have sub : ∀ k k0, (List.range n)[k]? = some k0 → θ[k]? = some k0 := fun k k0 e => by
  have hk : k < n := by have := (List.getElem?_eq_some_iff.1 e).1; simpa using this
  rw [List.getElem?_range hk] at e
  rw [hs k hk]; exact e
 have cs : ∀ (a b : List V), RenCs (List.range n) a b → RenCs θ a b := fun a => by
  induction a with
  | nil => intro b hb; cases b <;> exact hb
  | cons p a ih =>
    intro b hb
    cases b with
    | nil => exact hb
    | cons q b =>
      refine ⟨?_, ih b hb.2⟩
      have := hb.1
      unfold RenC at this ⊢
      split at this
      ·exact ⟨sub _ _ this.1, this.2⟩
      ·exact this
 unfold RenV at h ⊢
 split at h
 ·trivial
 ·exact ⟨h.1, cs _ _ h.2.1, cs _ _ h.2.2⟩
 ·exact ⟨sub _ _ h.1, h.2⟩
 ·exact ⟨sub _ _ h.1, h.2⟩
 ·exact h
theorem renLE_sub {n : Nat} {θ : List Nat} (hs : ∀ k, k < n → θ[k]? = some k) {l m : List V} (h : RenLE (List.range n) l m) : RenLE θ l m :=
 ⟨h.1, fun i x y hx hy => ⟨(h.2 i x y hx hy).1, fun j z u hz hu => renV_sub hs ((h.2 i x y hx hy).2 j z u hz hu)⟩⟩
theorem inH_row {base : Hp} {r : Nat} {found : List Int} : inH base r found r = rowO found := by
 unfold inH Hp.up
 rw [if_pos rfl]
theorem inH_out {base : Hp} {r : Nat} {found : List Int} (h : r ≠ 1) : inH base r found 1 = some (outC r found) := by
 unfold inH Hp.up
 rw [if_neg (fun e => h e.symm), if_pos rfl]
theorem inH_else {base : Hp} {r k : Nat} {found : List Int} (h : k ≠ r) (h1 : k ≠ 1) : inH base r found k = base k := by
 unfold inH Hp.up
 rw [if_neg h, if_neg h1]
theorem renLE_out {θ : List Nat} {r r' : Nat} (hr : θ[r']? = some r) (found : List Int) : RenLE θ (outC r' found).l (outC r found).l := by
 unfold outC
 by_cases e : found = []
 ·rw [if_pos e, if_pos e]
  exact .of (renL_refl fun y hy => by simp at hy; subst hy; rfl)
 ·rw [if_neg e, if_neg e]
  refine .of ⟨rfl, fun i x y hx hy => ?_⟩
  cases i with
  | zero => simp at hx hy; subst hx hy; exact ⟨⟨hr, rfl, rfl, rfl⟩, rfl, fun h => by cases h⟩
  | succ i => simp at hx
theorem Wk.inB {σ : St} {base B' : Hp} {n0 r r' : Nat} {θ : List Nat} {found : List Int} {ss : List (Nat × V)} (hm : σ.m = n0) (hq : σ.q = false) (hn : 1 < n0) (hr0 : n0 ≤ r') (hc : ClosedH n0 base) (hθ : ∀ k, k < n0 → θ[k]? = some k) (hnd : θ.Nodup) (hlen : θ.length = r' + 1) (hr : θ[r']? = some r)
 (h1 : σ.H 1 = some (outC r found)) (hrow : found ≠ [] → σ.H r = some ⟨44, 2, V.zs found⟩) (hb : ∀ k, k < n0 → k ≠ 1 → σ.H k = base k) (hB : ∀ k, k < n0 → B' k = base k)
 (hloc : ∀ k x, n0 ≤ k → k ≠ r' → B' k = some x → ∃ k0, θ[k]? = some k0 ∧ σ.H k0 = some x ∧ allPure x.l) (hs : wkS θ σ.s ss) : Wk σ { s := mkS ss, H := inH B' r' found, n := r' + 1, N := σ.N, m := n0 } := by
 refine Wk.mkE θ rfl hm.symm hq.symm (fun k hk => hθ k (by omega)) hlen.symm (wkS_ren ss hs).1 (fun k x hk => ?_) hnd (wkS_ren ss hs).2
 have hk : inH B' r' found k = some x := hk
 by_cases e1 : k = r'
 ·subst e1
  rw [inH_row] at hk
  unfold rowO at hk
  split at hk
  ·cases hk
  ·rename_i hf
   injection hk with hk
   subst hk
   exact ⟨r, _, hr, hrow hf, rfl, rfl, .of (renL_refl (of_eq_true (zs_pure _)))⟩
 ·by_cases e2 : k = 1
  ·subst e2
   rw [inH_out (by omega)] at hk
   injection hk with hk
   subst hk
   exact ⟨1, _, hθ 1 hn, h1, rfl, rfl, renLE_out hr found⟩
  ·rw [inH_else e1 e2] at hk
   by_cases e3 : k < n0
   ·have hk2 := hk
    rw [hB k e3] at hk2
    exact ⟨k, x, hθ k e3, by rw [hb k e3 e2]; exact hk2, rfl, rfl, renLE_sub hθ (hc k x hk2).2⟩
   ·obtain ⟨k0, g1, g2, g3⟩ := hloc k x (by omega) e1 hk
    exact ⟨k0, x, g1, g2, rfl, rfl, .of (renL_refl g3)⟩
theorem nq1 {q k : Nat} : (q + (k + 1) = q) = False := eq_false (by omega)
theorem nq2 {q k : Nat} : (q = q + (k + 1)) = False := eq_false (by omega)
theorem nq3 {q j k : Nat} : (q + (j + 1) + (k + 1) = q) = False := eq_false (by omega)
theorem nq4 {q j k : Nat} : (q = q + (j + 1) + (k + 1)) = False := eq_false (by omega)
theorem upN {H : Hp} {j k : Nat} {x : Option Blk} (h : k ≠ j) : (H.up j x) k = H k := if_neg h
theorem upE {H : Hp} {k : Nat} {x : Option Blk} : (H.up k x) k = x := if_pos rfl
theorem th_lo {n r : Nat} {tl : List Nat} : ∀ k, k < n → (List.range n ++ tl)[k]? = some k := fun k hk => by
 rw [List.getElem?_append_left (by simpa using hk), List.getElem?_range hk]
theorem th_nd {n : Nat} {tl : List Nat} (h1 : tl.Nodup) (h2 : ∀ x ∈ tl, n ≤ x) : (List.range n ++ tl).Nodup := by
 rw [List.nodup_append]
 refine ⟨List.nodup_range, h1, fun a ha b hb e => ?_⟩
 have := List.mem_range.1 ha
 have := h2 b hb
 omega
def boxI (z : Int) : Option Blk := some ⟨44, 2, [.I z]⟩
def frB (base : Hp) (n0 : Nat) (a b c : Int) : Hp := ((base.up n0 (boxI a)).up (n0 + 1) (boxI b)).up (n0 + 2) (boxI c)
theorem frB_lo {base : Hp} {n0 k : Nat} {a b c : Int} (h : k < n0) : frB base n0 a b c k = base k := by
 unfold frB
 rw [upN (by omega), upN (by omega), upN (by omega)]
theorem frB_0 {base : Hp} {n0 : Nat} {a b c : Int} : frB base n0 a b c n0 = boxI a := by
 unfold frB
 rw [upN (by omega), upN (by omega), upE]
theorem frB_1 {base : Hp} {n0 : Nat} {a b c : Int} : frB base n0 a b c (n0 + 1) = boxI b := by
 unfold frB
 rw [upN (by omega), upE]
theorem frB_2 {base : Hp} {n0 : Nat} {a b c : Int} : frB base n0 a b c (n0 + 2) = boxI c := by
 unfold frB
 rw [upE]
theorem InB.frame {base : Hp} {n0 : Nat} {own : List Int} {l : List (List Int)} (h : InB base n0 own l) (a b c : Int) : InB (frB base n0 a b c) (n0 + 3) own l := by
 have h4 := h.n
 have pI : ∀ z, RenLE (List.range (n0 + 3)) [V.I z] [V.I z] := fun z => .of (renL_refl fun y hy => by simp at hy; subst hy; rfl)
 refine ⟨by omega, ?_, fun k hk h1 => ?_, by rw [frB_lo (by omega)]; exact h.b0, by rw [frB_lo (by omega)]; exact h.b2, by rw [frB_lo (by omega)]; exact h.b3⟩
 ·exact closed_up (closed_up (closed_up (closed_mono h.closed (by omega)) (by omega) (pI a)) (by omega) (pI b)) (by omega) (pI c)
 ·by_cases e : k < n0
  ·rw [frB_lo e]; exact h.live k e h1
  ·have : k = n0 ∨ k = n0 + 1 ∨ k = n0 + 2 := by omega
   rcases this with rfl | rfl | rfl
   ·rw [frB_0]; rfl
   ·rw [frB_1]; rfl
   ·rw [frB_2]; rfl
theorem inH_live {base : Hp} {n0 r : Nat} {own : List Int} {l : List (List Int)} (h : InB base n0 own l) (hr : n0 ≤ r) (found : List Int) {k : Nat} (hk : k < n0) : (inH base r found k).isSome = true := by
 by_cases e : k = 1
 ·subst e; rw [inH_out (by omega)]; rfl
 ·rw [inH_else (by omega) e]; exact h.live k hk e
theorem inH_closed {base : Hp} {n0 : Nat} {own : List Int} {l : List (List Int)} (h : InB base n0 own l) (found : List Int) : ClosedH (n0 + 1) (inH base n0 found) := fun k x hk => by
 have h4 := h.n
 by_cases e1 : k = n0
 ·subst e1
  rw [inH_row] at hk
  unfold rowO at hk
  split at hk
  ·cases hk
  ·injection hk with hk
   subst hk
   exact ⟨by omega, .of (renL_refl (of_eq_true (zs_pure _)))⟩
 ·by_cases e2 : k = 1
  ·subst e2
   rw [inH_out (by omega)] at hk
   injection hk with hk
   subst hk
   exact ⟨by omega, renLE_out (List.getElem?_range (by omega)) found⟩
  ·rw [inH_else e1 e2] at hk
   exact closed_mono h.closed (by omega) k x hk
theorem halve_H {own : List Int} {l : List (List Int)} {lo0 hi0 : Int} (hA : ∀ z, lo0 ≤ z → z ≤ hi0 → SgOk own (z : Rat) ∧ VrOk l (z : Rat) ∧ dl z.natAbs ≤ 1000000000000) : ∀ (n : Nat) (base : Hp) (n0 : Nat) (found : List Int) (lo hi v w : Int), InB base n0 own l → (lo0 ≤ lo ∧ lo < hi ∧ hi ≤ hi0 ∧ hi - lo ≤ 2 ^ n) → ((-1000000 ≤ v ∧ v ≤ 1000000) ∧ -1000000 ≤ w ∧ w ≤ 1000000) → (found ++ hlv own l n lo hi v w).length ≤ 1000000 →
 HCall Tryz.prog 87 [.I lo, .I hi, .raw (.int .i64 v), .raw (.int .i64 w), .ptr 0 1 0 0, .ptr 1 1 0 0, .ptr 2 1 0 0, .ptr 3 1 0 0] (inH base n0 found) (n0 + 1) n0 .any (inH base n0 (found ++ hlv own l n lo hi v w)) (n0 + 1) := fun n => by
 have T := (tabs mixed (tbl_cons add_C (tbl_cons of_C (tbl_cons divModA_C (tbl_cons cmpZ_C (tbl_cons sWhole_C (tbl_cons sgn_C (tbl_cons var_C tbl_nil))))))))
 induction n with
 | zero =>
   intro base n0 found lo hi v w hB ⟨h1, h2, h3, h4⟩ ⟨hv, hw⟩ hlen
   obtain ⟨x1, x2⟩ := hv
   obtain ⟨x3, x4⟩ := hw
   refine HCall.of Tryz.func87 rfl (by kernel_rfl) Tryz.ntmps87 Tryz.results87 (by simp) ?_
   have n4 := hB.n
   obtain ⟨q, rfl⟩ : ∃ q, n0 = q + 4 := ⟨n0 - 4, by omega⟩
   obtain ⟨hA1, hA2, hA3⟩ := hA hi (by omega) h3
   have hA4 := (hA lo h1 (by omega)).2.2
   obtain ⟨m, em⟩ : ∃ m, (lo + hi) / 2 = m := ⟨_, rfl⟩
   obtain ⟨hM1, hM2, hM3⟩ := hA m (by omega) (by omega)
   have hs2 := dl_addI lo hi
   have dm2 : dmR (lo + hi) 2 = .tup [.I m, .I ((lo + hi) % 2), .raw (.int .i64 0)] := by rw [← em]; exact if_neg (by decide)
   have l2 : dl (Int.natAbs 2) ≤ 12000000000000 := Nat.le_trans ((dl_le (k := 1)).2 (by decide)) (by decide)
   obtain ⟨U, eU⟩ : ∃ U, (vS l (m : Rat) l.length).1 = U := ⟨_, rfl⟩
   unfold inH
   refine AWp.seq (vc_ok T _ _ _ ?_)
   simp only [go_sem, nq1, nq2, nq3, nq4]
   refine AWp.seq (vc_ok T _ _ _ ?_)
   by_cases hvw : v = w
   ·have c1 : (v == w) = true := by simp [hvw]
    have e1 : hlv own l 0 lo hi v w = [] := if_pos hvw
    rw [e1, List.append_nil]
    simp only [go_sem, nq1, nq2, nq3, nq4, c1]
    refine Wk.inB (base := base) (B' := base) (θ := List.range (q + 4) ++ [q + 4]) (r := q + 4) (r' := q + 4) (ss := []) rfl rfl (by omega) (Nat.le_refl _) hB.closed (th_lo (r := 0)) (th_nd (by simp) (by simp)) (by simp) (by rw [List.getElem?_append_right (by simp)]; simp) ?_ (fun hf => ?_) (fun k hk h1 => ?_) (fun k hk => rfl) (fun k x hk h1 hx => ?_) trivial
    ·dsimp only
     repeat rw [upN (by omega)]
     exact upE
    ·dsimp only
     repeat rw [upN (by omega)]
     rw [upE]
     exact if_neg hf
    ·dsimp only
     repeat rw [upN (by omega)]
    ·have := (hB.closed k x hx).1
     omega
   ·have c1 : (v == w) = false := by simp [hvw]
    simp only [go_sem, nq1, nq2, nq3, nq4, c1]
    refine AWp.seq (vc_ok T _ _ _ ?_)
    simp only [go_sem, nq1, nq2, nq3, nq4, dm2, l2]
    refine ⟨⟨by omega, by omega⟩, by omega, ?_⟩
    refine AWp.seq (vc_ok T _ _ _ ?_)
    have b0 := hB.b0
    have b2 := hB.b2
    have b3 := hB.b3
    by_cases hml : m = lo
    ·have c2 : (cmpI m lo == 0) = true := by rw [hml]; simp [cmpI]
     by_cases hz : sgI (hsZ (hi : Rat) own).1 = 0
     ·have c3 : (sgI (hsZ (hi : Rat) own).1 == 0) = true := by rw [hz]; rfl
      have e1 : hlv own l 0 lo hi v w = [hi] := by
       show (if v = w then [] else if (lo + hi) / 2 = lo then _ else _) = _
       rw [if_neg hvw, if_pos (by rw [em, hml]), if_pos hz]
      rw [e1] at hlen ⊢
      have mx : maxLen = 9223372036854775807 := by decide
      have hl1 : found.length + 1 ≤ 1000000 := by simpa using hlen
      by_cases hf : found = []
      ·have o1 : outC (q + 4) found = ⟨71, 1, [.raw (.slice none 0 0)]⟩ := by unfold outC; rw [if_pos hf]
       rw [o1]
       simp only [go_sem, nq1, nq2, nq3, nq4, c2, c3, b0, b2, b3, mx]
       have o3 : found = [] := hf
       refine ⟨⟨by omega, by omega⟩, hA1, chk_map (fun _ => 0) (by simp only [List.map_cons, List.map_nil, mapF]; rfl), ?_⟩
       refine Wk.inB (base := base) (B' := base) (θ := List.range (q + 4) ++ [q + 36]) (r := q + 36) (r' := q + 4) (ss := []) rfl rfl (by omega) (Nat.le_refl _) hB.closed (th_lo (r := 0)) (th_nd (by simp) (by simp)) (by simp) (by rw [List.getElem?_append_right (by simp)]; simp) ?_ (fun hf => ?_) (fun k hk h1 => ?_) (fun k hk => rfl) (fun k x hk h1 hx => ?_) trivial
       ·dsimp only
        repeat rw [upN (by omega)]
        rw [upE]
        unfold outC
        rw [if_neg (by simp)]
        try simp [o3]
       ·dsimp only
        repeat rw [upN (by omega)]
        rw [upE]
        try simp [o3, V.zs]
       ·dsimp only
        repeat rw [upN (by omega)]
       ·have := (hB.closed k x hx).1
        omega
      ·have o1 : outC (q + 4) found = ⟨71, 1, [.sl (q + 4) 2 0 found.length]⟩ := by unfold outC; rw [if_neg hf]
       have o2 : rowO found = some ⟨44, 2, V.zs found⟩ := if_neg hf
       have tk : (V.zs found).take found.length = V.zs found := List.take_of_length_le (by rw [zs_len]; exact Nat.le_refl _)
       rw [o1, o2]
       simp only [go_sem, nq1, nq2, nq3, nq4, c2, c3, b0, b2, b3, mx, tk]
       have o3 : True := trivial
       refine ⟨⟨by omega, by omega⟩, hA1, chk_map (fun _ => 0) (by simp only [List.map_cons, List.map_nil, mapF]; rfl), ⟨by omega, by omega⟩, ?_⟩
       refine Wk.inB (base := base) (B' := base) (θ := List.range (q + 4) ++ [q + 36]) (r := q + 36) (r' := q + 4) (ss := []) rfl rfl (by omega) (Nat.le_refl _) hB.closed (th_lo (r := 0)) (th_nd (by simp) (by simp)) (by simp) (by rw [List.getElem?_append_right (by simp)]; simp) ?_ (fun hf => ?_) (fun k hk h1 => ?_) (fun k hk => rfl) (fun k x hk h1 hx => ?_) trivial
       ·dsimp only
        repeat rw [upN (by omega)]
        rw [upE]
        unfold outC
        rw [if_neg (by simp)]
        try simp [o3]
       ·dsimp only
        repeat rw [upN (by omega)]
        rw [upE]
        try simp [o3, V.zs]
       ·dsimp only
        repeat rw [upN (by omega)]
       ·have := (hB.closed k x hx).1
        omega
     ·have c3 : (sgI (hsZ (hi : Rat) own).1 == 0) = false := by simp [hz]
      have e1 : hlv own l 0 lo hi v w = [] := by
       show (if v = w then [] else if (lo + hi) / 2 = lo then _ else _) = _
       rw [if_neg hvw, if_pos (by rw [em, hml]), if_neg hz]
      rw [e1, List.append_nil]
      simp only [go_sem, nq1, nq2, nq3, nq4, c2, c3, b0, b2, b3]
      refine ⟨⟨by omega, by omega⟩, hA1, chk_map (fun _ => 0) (by simp only [List.map_cons, List.map_nil, mapF]; rfl), ?_⟩
      refine Wk.inB (base := base) (B' := base) (θ := List.range (q + 4) ++ [q + 4]) (r := q + 4) (r' := q + 4) (ss := []) rfl rfl (by omega) (Nat.le_refl _) hB.closed (th_lo (r := 0)) (th_nd (by simp) (by simp)) (by simp) (by rw [List.getElem?_append_right (by simp)]; simp) ?_ (fun hf => ?_) (fun k hk h1 => ?_) (fun k hk => rfl) (fun k x hk h1 hx => ?_) trivial
      ·dsimp only
       repeat rw [upN (by omega)]
       exact upE
      ·dsimp only
       repeat rw [upN (by omega)]
       rw [upE]
       exact if_neg hf
      ·dsimp only
       repeat rw [upN (by omega)]
      ·have := (hB.closed k x hx).1
       omega
    ·exact absurd (show m = lo by simp only [Int.pow_zero] at h4; omega) hml
 | succ n ih =>
   intro base n0 found lo hi v w hB ⟨h1, h2, h3, h4⟩ ⟨hv, hw⟩ hlen
   obtain ⟨x1, x2⟩ := hv
   obtain ⟨x3, x4⟩ := hw
   refine HCall.of Tryz.func87 rfl (by kernel_rfl) Tryz.ntmps87 Tryz.results87 (by simp) ?_
   have n4 := hB.n
   obtain ⟨q, rfl⟩ : ∃ q, n0 = q + 4 := ⟨n0 - 4, by omega⟩
   obtain ⟨hA1, hA2, hA3⟩ := hA hi (by omega) h3
   have hA4 := (hA lo h1 (by omega)).2.2
   obtain ⟨m, em⟩ : ∃ m, (lo + hi) / 2 = m := ⟨_, rfl⟩
   obtain ⟨hM1, hM2, hM3⟩ := hA m (by omega) (by omega)
   have hs2 := dl_addI lo hi
   have dm2 : dmR (lo + hi) 2 = .tup [.I m, .I ((lo + hi) % 2), .raw (.int .i64 0)] := by rw [← em]; exact if_neg (by decide)
   have l2 : dl (Int.natAbs 2) ≤ 12000000000000 := Nat.le_trans ((dl_le (k := 1)).2 (by decide)) (by decide)
   obtain ⟨U, eU⟩ : ∃ U, (vS l (m : Rat) l.length).1 = U := ⟨_, rfl⟩
   unfold inH
   refine AWp.seq (vc_ok T _ _ _ ?_)
   simp only [go_sem, nq1, nq2, nq3, nq4]
   refine AWp.seq (vc_ok T _ _ _ ?_)
   by_cases hvw : v = w
   ·have c1 : (v == w) = true := by simp [hvw]
    have e1 : hlv own l (n + 1) lo hi v w = [] := if_pos hvw
    rw [e1, List.append_nil]
    simp only [go_sem, nq1, nq2, nq3, nq4, c1]
    refine Wk.inB (base := base) (B' := base) (θ := List.range (q + 4) ++ [q + 4]) (r := q + 4) (r' := q + 4) (ss := []) rfl rfl (by omega) (Nat.le_refl _) hB.closed (th_lo (r := 0)) (th_nd (by simp) (by simp)) (by simp) (by rw [List.getElem?_append_right (by simp)]; simp) ?_ (fun hf => ?_) (fun k hk h1 => ?_) (fun k hk => rfl) (fun k x hk h1 hx => ?_) trivial
    ·dsimp only
     repeat rw [upN (by omega)]
     exact upE
    ·dsimp only
     repeat rw [upN (by omega)]
     rw [upE]
     exact if_neg hf
    ·dsimp only
     repeat rw [upN (by omega)]
    ·have := (hB.closed k x hx).1
     omega
   ·have c1 : (v == w) = false := by simp [hvw]
    simp only [go_sem, nq1, nq2, nq3, nq4, c1]
    refine AWp.seq (vc_ok T _ _ _ ?_)
    simp only [go_sem, nq1, nq2, nq3, nq4, dm2, l2]
    refine ⟨⟨by omega, by omega⟩, by omega, ?_⟩
    refine AWp.seq (vc_ok T _ _ _ ?_)
    have b0 := hB.b0
    have b2 := hB.b2
    have b3 := hB.b3
    by_cases hml : m = lo
    ·have c2 : (cmpI m lo == 0) = true := by rw [hml]; simp [cmpI]
     by_cases hz : sgI (hsZ (hi : Rat) own).1 = 0
     ·have c3 : (sgI (hsZ (hi : Rat) own).1 == 0) = true := by rw [hz]; rfl
      have e1 : hlv own l (n + 1) lo hi v w = [hi] := by
       show (if v = w then [] else if (lo + hi) / 2 = lo then _ else _) = _
       rw [if_neg hvw, if_pos (by rw [em, hml]), if_pos hz]
      rw [e1] at hlen ⊢
      have mx : maxLen = 9223372036854775807 := by decide
      have hl1 : found.length + 1 ≤ 1000000 := by simpa using hlen
      by_cases hf : found = []
      ·have o1 : outC (q + 4) found = ⟨71, 1, [.raw (.slice none 0 0)]⟩ := by unfold outC; rw [if_pos hf]
       rw [o1]
       simp only [go_sem, nq1, nq2, nq3, nq4, c2, c3, b0, b2, b3, mx]
       have o3 : found = [] := hf
       refine ⟨⟨by omega, by omega⟩, hA1, chk_map (fun _ => 0) (by simp only [List.map_cons, List.map_nil, mapF]; rfl), ?_⟩
       refine Wk.inB (base := base) (B' := base) (θ := List.range (q + 4) ++ [q + 36]) (r := q + 36) (r' := q + 4) (ss := []) rfl rfl (by omega) (Nat.le_refl _) hB.closed (th_lo (r := 0)) (th_nd (by simp) (by simp)) (by simp) (by rw [List.getElem?_append_right (by simp)]; simp) ?_ (fun hf => ?_) (fun k hk h1 => ?_) (fun k hk => rfl) (fun k x hk h1 hx => ?_) trivial
       ·dsimp only
        repeat rw [upN (by omega)]
        rw [upE]
        unfold outC
        rw [if_neg (by simp)]
        try simp [o3]
       ·dsimp only
        repeat rw [upN (by omega)]
        rw [upE]
        try simp [o3, V.zs]
       ·dsimp only
        repeat rw [upN (by omega)]
       ·have := (hB.closed k x hx).1
        omega
      ·have o1 : outC (q + 4) found = ⟨71, 1, [.sl (q + 4) 2 0 found.length]⟩ := by unfold outC; rw [if_neg hf]
       have o2 : rowO found = some ⟨44, 2, V.zs found⟩ := if_neg hf
       have tk : (V.zs found).take found.length = V.zs found := List.take_of_length_le (by rw [zs_len]; exact Nat.le_refl _)
       rw [o1, o2]
       simp only [go_sem, nq1, nq2, nq3, nq4, c2, c3, b0, b2, b3, mx, tk]
       have o3 : True := trivial
       refine ⟨⟨by omega, by omega⟩, hA1, chk_map (fun _ => 0) (by simp only [List.map_cons, List.map_nil, mapF]; rfl), ⟨by omega, by omega⟩, ?_⟩
       refine Wk.inB (base := base) (B' := base) (θ := List.range (q + 4) ++ [q + 36]) (r := q + 36) (r' := q + 4) (ss := []) rfl rfl (by omega) (Nat.le_refl _) hB.closed (th_lo (r := 0)) (th_nd (by simp) (by simp)) (by simp) (by rw [List.getElem?_append_right (by simp)]; simp) ?_ (fun hf => ?_) (fun k hk h1 => ?_) (fun k hk => rfl) (fun k x hk h1 hx => ?_) trivial
       ·dsimp only
        repeat rw [upN (by omega)]
        rw [upE]
        unfold outC
        rw [if_neg (by simp)]
        try simp [o3]
       ·dsimp only
        repeat rw [upN (by omega)]
        rw [upE]
        try simp [o3, V.zs]
       ·dsimp only
        repeat rw [upN (by omega)]
       ·have := (hB.closed k x hx).1
        omega
     ·have c3 : (sgI (hsZ (hi : Rat) own).1 == 0) = false := by simp [hz]
      have e1 : hlv own l (n + 1) lo hi v w = [] := by
       show (if v = w then [] else if (lo + hi) / 2 = lo then _ else _) = _
       rw [if_neg hvw, if_pos (by rw [em, hml]), if_neg hz]
      rw [e1, List.append_nil]
      simp only [go_sem, nq1, nq2, nq3, nq4, c2, c3, b0, b2, b3]
      refine ⟨⟨by omega, by omega⟩, hA1, chk_map (fun _ => 0) (by simp only [List.map_cons, List.map_nil, mapF]; rfl), ?_⟩
      refine Wk.inB (base := base) (B' := base) (θ := List.range (q + 4) ++ [q + 4]) (r := q + 4) (r' := q + 4) (ss := []) rfl rfl (by omega) (Nat.le_refl _) hB.closed (th_lo (r := 0)) (th_nd (by simp) (by simp)) (by simp) (by rw [List.getElem?_append_right (by simp)]; simp) ?_ (fun hf => ?_) (fun k hk h1 => ?_) (fun k hk => rfl) (fun k x hk h1 hx => ?_) trivial
      ·dsimp only
       repeat rw [upN (by omega)]
       exact upE
      ·dsimp only
       repeat rw [upN (by omega)]
       rw [upE]
       exact if_neg hf
      ·dsimp only
       repeat rw [upN (by omega)]
      ·have := (hB.closed k x hx).1
       omega
    ·have c2 : (cmpI m lo == 0) = false := by simp [cmpI]; omega
     simp only [go_sem, nq1, nq2, nq3, nq4, c2, b0, b2, b3]
     refine ⟨by omega, ?_⟩
     refine AWp.seq (vc_ok T _ _ _ ?_)
     simp only [go_sem, nq1, nq2, nq3, nq4, c2, b0, b2, b3]
     refine ⟨hM2, chk_map (fun _ => 0) (by simp only [List.map_cons, List.map_nil, mapF]; rfl), ?_⟩
     obtain ⟨θ, eθ⟩ : ∃ θ, θ = List.range (q + 4) ++ [q + 5, q + 6, q + 19, q + 4] := ⟨_, rfl⟩
     have tlo : ∀ k, k < q + 4 → θ[k]? = some k := by rw [eθ]; exact th_lo (r := 0)
     have tnd : θ.Nodup := by rw [eθ]; exact th_nd (by simp) (by simp)
     have tln : θ.length = q + 7 + 1 := by rw [eθ]; simp
     have t3 : θ[3]? = some 3 := tlo 3 (by omega)
     have t4 : θ[q + 4]? = some (q + 5) := by rw [eθ, List.getElem?_append_right (by simp)]; simp
     have t5 : θ[q + 5]? = some (q + 6) := by rw [eθ, List.getElem?_append_right (by simp)]; simp
     have t6 : θ[q + 6]? = some (q + 19) := by rw [eθ, List.getElem?_append_right (by simp)]; simp
     have t7 : θ[q + 7]? = some (q + 4) := by rw [eθ, List.getElem?_append_right (by simp)]; simp
     refine AWp.weaken ?_ (Wk.inB (n0 := q + 4) (found := found) (base := base) (B' := frB base (q + 4) lo hi m) (θ := θ) (r := q + 4) (r' := q + 7) (ss := [(2, .raw (.int .i64 v)), (3, .raw (.int .i64 w)), (7, .ptr 3 1 0 0), (8, .ptr (q + 4) 2 0 0), (9, .ptr (q + 5) 2 0 0), (12, .ptr (q + 6) 2 0 0), (15, .raw (.int .i64 (vS l (m : Rat) l.length).1))]) rfl rfl (by omega) (by omega) hB.closed tlo tnd tln t7 ?_ (fun hf => ?_) (fun k hk h1 => ?_) (fun k hk => frB_lo hk) (fun k x hk h1 hx => ?_) ?_)
     ·dsimp only
      have hF := hB.frame lo hi m
      have g3 := hF.b3
      have f3 : inH (frB base (q + 4) lo hi m) (q + 7) found 3 = _ := (inH_else (by omega) (by omega)).trans hF.b3
      have f4 : inH (frB base (q + 4) lo hi m) (q + 7) found (q + 4) = boxI lo := (inH_else (by omega) (by omega)).trans frB_0
      have f6 : inH (frB base (q + 4) lo hi m) (q + 7) found (q + 6) = boxI m := (inH_else (by omega) (by omega)).trans frB_2
      unfold boxI at f4 f6
      refine AWp.seq (AWp.regs ?_)
      refine RegI.cut T 0 5 rfl rfl (by decide) ?_
      simp only [go_sem, f3, f4, f6, haC]
      refine ⟨_, Wk.lowS (q + 7 + 1) (ss := [(2, .raw (.int .i64 v)), (3, .raw (.int .i64 w)), (7, .ptr 3 1 0 0), (8, .ptr (q + 4) 2 0 0), (9, .ptr (q + 5) 2 0 0), (12, .ptr (q + 6) 2 0 0), (15, .raw (.int .i64 (vS l (m : Rat) l.length).1)), (45, .clo (.func 87) [] haC), (46, .I lo), (47, .I m), (48, .raw (.int .i64 v)), (49, .raw (.int .i64 (vS l (m : Rat) l.length).1))]) (N := 57) rfl rfl rfl (by show q + 4 ≤ q + 7 + 1; omega) ?_ (inH_closed hF found) (fun k hk => rfl), ?_⟩
      ·have r3 : (List.range (q + 7 + 1))[3]? = some 3 := List.getElem?_range (by omega)
       have r0 : (List.range (q + 7 + 1))[0]? = some 0 := List.getElem?_range (by omega)
       have r1 : (List.range (q + 7 + 1))[1]? = some 1 := List.getElem?_range (by omega)
       have r2 : (List.range (q + 7 + 1))[2]? = some 2 := List.getElem?_range (by omega)
       have r4 : (List.range (q + 7 + 1))[q + 4]? = some (q + 4) := List.getElem?_range (by omega)
       have r5 : (List.range (q + 7 + 1))[q + 5]? = some (q + 5) := List.getElem?_range (by omega)
       have r6 : (List.range (q + 7 + 1))[q + 6]? = some (q + 6) := List.getElem?_range (by omega)
       generalize List.range (q + 7 + 1) = θ8 at r0 r1 r2 r3 r4 r5 r6 ⊢
       simp only [go_sem, r0, r1, r2, r3, r4, r5, r6, haC]
       exact ⟨renV_pure rfl, renV_pure rfl⟩
      have p2 : (2 : Int) ^ (n + 1) = 2 * 2 ^ n := by rw [Int.pow_succ, Int.mul_comm]
      rw [p2] at h4
      have d1 : m - lo ≤ 2 ^ n := by generalize (2 : Int) ^ n = P at h4 ⊢; omega
      have d2 : hi - m ≤ 2 ^ n := by generalize (2 : Int) ^ n = P at h4 ⊢; omega
      have vb := vS_bd l (m : Rat) l.length
      have hll := hM2.1
      have e1 : hlv own l (n + 1) lo hi v w = hlv own l n lo m v (vS l (m : Rat) l.length).1 ++ hlv own l n m hi (vS l (m : Rat) l.length).1 w := by
       show (if v = w then [] else if (lo + hi) / 2 = lo then _ else _) = _
       rw [if_neg hvw, if_neg (by rw [em]; exact hml), em]
      rw [e1] at hlen ⊢
      rw [eU] at vb hlen ⊢
      obtain ⟨A, eA⟩ : ∃ A, hlv own l n lo m v U = A := ⟨_, rfl⟩
      obtain ⟨A2, eA2⟩ : ∃ A2, hlv own l n m hi U w = A2 := ⟨_, rfl⟩
      have hlA : (found ++ hlv own l n lo m v U).length ≤ 1000000 := by
       simp only [List.length_append] at hlen ⊢; omega
      have H1 := ih (frB base (q + 4) lo hi m) (q + 7) found lo m v U hF ⟨h1, by omega, by omega, d1⟩ ⟨⟨x1, x2⟩, by omega⟩ hlA
      refine RegI.callH (dst := some 50) 5 rfl rfl rfl rfl rfl rfl (q + 7) (by show q + 4 ≤ q + 7; omega) (liveTo_of fun k hk => inH_live hF (Nat.le_refl _) found (Nat.lt_of_lt_of_le hk (show q + 4 ≤ q + 4 + 3 by omega))) [(3, .raw (.int .i64 w)), (7, .ptr 3 1 0 0), (9, .ptr (q + 5) 2 0 0), (12, .ptr (q + 6) 2 0 0), (15, .raw (.int .i64 U))] ?_ rfl (by show (50 : Nat) < 57; decide) H1 ?_
      ·have r3 := lvT_get (m := q + 7) (H := inH (frB base (q + 4) lo hi m) (q + 7) found) (n := q + 7 + 1) (show 3 < q + 7 by omega) (inH_live hF (Nat.le_refl _) found (by omega))
       have r5 := lvT_get (m := q + 7) (H := inH (frB base (q + 4) lo hi m) (q + 7) found) (n := q + 7 + 1) (show q + 5 < q + 7 by omega) (inH_live hF (Nat.le_refl _) found (by omega))
       have r6 := lvT_get (m := q + 7) (H := inH (frB base (q + 4) lo hi m) (q + 7) found) (n := q + 7 + 1) (show q + 6 < q + 7 by omega) (inH_live hF (Nat.le_refl _) found (by omega))
       show wkS (lvT (q + 7) (inH (frB base (q + 4) lo hi m) (q + 7) found) (q + 7 + 1)) _ _
       generalize lvT (q + 7) (inH (frB base (q + 4) lo hi m) (q + 7) found) (q + 7 + 1) = θ9 at r3 r5 r6 ⊢
       simp only [go_sem, r3, r5, r6]
      refine RegI.fin T 6 rfl ?_
      rw [eA]
      have f3' : inH (frB base (q + 4) lo hi m) (q + 7) (found ++ A) 3 = _ := (inH_else (by omega) (by omega)).trans hF.b3
      have f5' : inH (frB base (q + 4) lo hi m) (q + 7) (found ++ A) (q + 5) = boxI hi := (inH_else (by omega) (by omega)).trans frB_1
      have f6' : inH (frB base (q + 4) lo hi m) (q + 7) (found ++ A) (q + 6) = boxI m := (inH_else (by omega) (by omega)).trans frB_2
      unfold boxI at f5' f6'
      simp only [go_sem]
      refine AWp.regs ?_
      refine RegI.cut T 0 5 rfl rfl (by decide) ?_
      simp only [go_sem, f3', f5', f6', haC]
      refine ⟨_, Wk.lowS (q + 7 + 1) (ss := [(51, .clo (.func 87) [] haC), (52, .I m), (53, .I hi), (54, .raw (.int .i64 U)), (55, .raw (.int .i64 w))]) (N := 57) rfl rfl rfl (by show q + 4 ≤ q + 7 + 1; omega) ?_ (inH_closed hF (found ++ A)) (fun k hk => rfl), ?_⟩
      ·have r3 : (List.range (q + 7 + 1))[3]? = some 3 := List.getElem?_range (by omega)
       have r0 : (List.range (q + 7 + 1))[0]? = some 0 := List.getElem?_range (by omega)
       have r1 : (List.range (q + 7 + 1))[1]? = some 1 := List.getElem?_range (by omega)
       have r2 : (List.range (q + 7 + 1))[2]? = some 2 := List.getElem?_range (by omega)
       generalize List.range (q + 7 + 1) = θ8 at r0 r1 r2 r3 ⊢
       simp only [go_sem, r0, r1, r2, r3, haC]
       exact ⟨renV_pure rfl, renV_pure rfl⟩
      have hlA2 : (found ++ A ++ hlv own l n m hi U w).length ≤ 1000000 := by
       rw [eA] at hlen
       rw [List.append_assoc]; exact hlen
      have H2 := ih (frB base (q + 4) lo hi m) (q + 7) (found ++ A) m hi U w hF ⟨by omega, by omega, by omega, d2⟩ ⟨by omega, x3, x4⟩ hlA2
      refine RegI.callH (dst := some 56) 5 rfl rfl rfl rfl rfl rfl (q + 7) (by show q + 4 ≤ q + 7; omega) (liveTo_of fun k hk => inH_live hF (Nat.le_refl _) (found ++ A) (Nat.lt_of_lt_of_le hk (show q + 4 ≤ q + 4 + 3 by omega))) [] trivial rfl (by show (56 : Nat) < 57; decide) H2 ?_
      refine RegI.fin T 6 rfl ?_
      rw [eA2, ← List.append_assoc]
      simp only [go_sem]
      refine Wk.inB (n0 := q + 4) (found := found ++ A ++ A2) (base := base) (B' := base) (θ := List.range (q + 4) ++ [q + 7]) (r := q + 7) (r' := q + 4) (ss := []) rfl rfl (by omega) (Nat.le_refl _) hB.closed (th_lo (r := 0)) (th_nd (by simp) (by simp)) (by simp) (by rw [List.getElem?_append_right (by simp)]; simp) ?_ (fun hf => ?_) (fun k hk h1 => ?_) (fun k hk => rfl) (fun k x hk h1 hx => ?_) trivial
      ·exact inH_out (base := frB base (q + 4) lo hi m) (r := q + 7) (show q + 7 ≠ 1 by omega)
      ·exact inH_row.trans (if_neg hf)
      ·show inH (frB base (q + 4) lo hi m) (q + 7) (found ++ A ++ A2) k = base k
       rw [inH_else (by omega) h1]
       exact frB_lo hk
      ·have := (hB.closed k x hx).1
       omega
     ·dsimp only
      repeat rw [upN (by omega)]
      exact upE
     ·dsimp only
      repeat rw [upN (by omega)]
      rw [upE]
      exact if_neg hf
     ·dsimp only
      repeat rw [upN (by omega)]
     ·have hkk : k = q + 4 ∨ k = q + 5 ∨ k = q + 6 := by
       by_cases e : k < q + 7
       ·omega
       ·have : frB base (q + 4) lo hi m k = base k := by unfold frB; rw [upN (by omega), upN (by omega), upN (by omega)]
        rw [this] at hx
        have := (hB.closed k x hx).1
        omega
      rcases hkk with rfl | rfl | rfl
      ·rw [frB_0] at hx
       injection hx with hx
       subst hx
       refine ⟨_, t4, ?_, fun y hy => by simp at hy; subst hy; rfl⟩
       dsimp only
       repeat rw [upN (by omega)]
       exact upE
      ·rw [show q + 5 = q + 4 + 1 from rfl, frB_1] at hx
       injection hx with hx
       subst hx
       refine ⟨_, t5, ?_, fun y hy => by simp at hy; subst hy; rfl⟩
       dsimp only
       repeat rw [upN (by omega)]
       exact upE
      ·rw [show q + 6 = q + 4 + 2 from rfl, frB_2] at hx
       injection hx with hx
       subst hx
       refine ⟨_, t6, ?_, fun y hy => by simp at hy; subst hy; rfl⟩
       dsimp only
       repeat rw [upN (by omega)]
       exact upE
     ·simp only [go_sem, t3, t4, t5, t6]
end Go.Proofs.YtlhapagililgmaaGreat


/- Contracts: integer roots. -/
namespace Go.Proofs.YtlhapagililgmaaGreat
set_option linter.unusedSimpArgs false
set_option linter.unusedVariables false
open Go.RowKit

def intF (p : List Rat) : List Int := hlv (igL p) (chZ p) (2 * bndZ p + 1).toNat (-bndZ p - 1) (bndZ p) (vS (chZ p) ((-bndZ p - 1 : Int) : Rat) (chZ p).length).1 (vS (chZ p) ((bndZ p : Int) : Rat) (chZ p).length).1
def intL (p : List Rat) : List Int := if p = [] then [] else intF p
def InOk (p : List Rat) : Prop := (CkOk p ∧ IgOk p ∧ BdOk p) ∧ (∀ z, -bndZ p - 1 ≤ z → z ≤ bndZ p → SgOk (igL p) (z : Rat) ∧ VrOk (chZ p) (z : Rat) ∧ dl z.natAbs ≤ 1000000000000) ∧ (intF p).length ≤ 1000000 ∧ 0 ≤ bndZ p
theorem le_two_pow (n : Nat) : (n : Int) ≤ 2 ^ n := by
 have : n < 2 ^ n := Nat.lt_two_pow_self
 have h : (n : Int) < ((2 ^ n : Nat) : Int) := by exact_mod_cast this
 rw [Int.natCast_pow] at h
 exact Int.le_of_lt h
theorem up_same {H : Hp} {k : Nat} {x : Option Blk} (h : H k = x) : H.up k x = H := by
 funext j
 unfold Hp.up
 by_cases e : j = k
 ·rw [if_pos e, e, h]
 ·rw [if_neg e]
def inHs (own : List Int) (l : List (List Int)) (hi lo : Int) : List (Nat × Bool × Blk) := [(0, true, ⟨71, 1, [.lst (V.zs own)]⟩), (1, true, ⟨71, 1, [.raw (.slice none 0 0)]⟩), (2, true, ⟨92, 1, [.lst (V.zss l)]⟩), (3, false, ⟨110, 1, [.clo (.func 87) [] haC]⟩), (4, true, ⟨44, 2, [.I hi]⟩), (5, true, ⟨44, 2, [.I lo]⟩)]
theorem inHs_eq (own : List Int) (l : List (List Int)) (hi lo : Int) : inH (mkH (inHs own l hi lo)) 6 [] = mkH (inHs own l hi lo) := by
 unfold inH
 rw [up_same (H := mkH (inHs own l hi lo)) (k := 1) (x := some (outC 6 [])) rfl, up_same (x := rowO []) rfl]
theorem inHs_B (own : List Int) (l : List (List Int)) (hi lo : Int) : InB (mkH (inHs own l hi lo)) 6 own l := by
 have pu : ∀ (L : List V), allPure L → RenLE (List.range 6) L L := fun L h => .of (renL_refl h)
 refine ⟨by decide, ?_, fun k hk h1 => ?_, rfl, rfl, rfl⟩
 ·have h0 : ClosedH 6 (fun _ => none) := fun k x h => by cases h
  refine closed_up (closed_up (closed_up (closed_up (closed_up (closed_up h0 (by decide) (pu _ ?_)) (by decide) (pu _ ?_)) (by decide) ?_) (by decide) (pu _ ?_)) (by decide) (pu _ ?_)) (by decide) (pu _ ?_)
  ·exact fun y hy => by simp at hy; subst hy; rfl
  ·exact fun y hy => by simp at hy; subst hy; rfl
  ·refine .of ⟨rfl, fun i x y hx hy => ?_⟩
   cases i with
   | zero => simp at hx hy; subst hx hy; exact ⟨⟨rfl, trivial, ⟨rfl, rfl, rfl, rfl⟩, ⟨rfl, rfl, rfl, rfl⟩, ⟨rfl, rfl, rfl, rfl⟩, ⟨rfl, rfl, rfl, rfl⟩, trivial⟩, rfl, fun h => by cases h⟩
   | succ i => simp at hx
  ·exact fun y hy => by simp at hy; subst hy; rfl
  ·exact fun y hy => by simp at hy; subst hy; rfl
  ·exact fun y hy => by simp at hy; subst hy; rfl
 ·match k, hk with
  | 0, _ => rfl
  | 1, _ => rfl
  | 2, _ => rfl
  | 3, _ => rfl
  | 4, _ => rfl
  | 5, _ => rfl
def kInts : Con := con1 pR fun p => (p ≠ [] → InOk p, .lst (V.zs (intL p)))
attribute [go_sem ↓, go_sem] kInts
theorem ints_C : Ctr Tryz.prog 39 kInts := Ctr.c1 (by kernel_rfl) fun p h => by
 show PCall _ _ _ (.lst (V.zs (intL p)))
 have T := (tabs mixed (tbl_cons chainZ_C (tbl_cons integ_C (tbl_cons bound_C (tbl_cons neg_C (tbl_cons of_C (tbl_cons sub_C (tbl_cons sWhole_C (tbl_cons var_C tbl_nil)))))))))
 refine PCall.of_awp Tryz.func39 rfl Tryz.ntmps39 Tryz.results39 (by simp) ?_
 refine AWp.seq (vc_ok T _ _ _ ?_)
 simp only [go_sem]
 refine AWp.seq (vc_ok T _ _ _ ?_)
 by_cases p0 : p = []
 ·subst p0
  have e1 : intL [] = [] := if_pos rfl
  have c1 : ((([] : List Rat).length : Int) == 0) = true := rfl
  rw [e1]
  simp only [go_sem, c1]
  exact .refl _
 ·have e1 : intL p = intF p := if_neg p0
  obtain ⟨⟨hck, hig, hbd⟩, hA, hlen, hb0⟩ := h p0
  have pl := List.length_pos_iff.2 p0
  have c1 : ((p.length : Int) == 0) = false := beqF (by omega)
  have s1 := (hA (bndZ p) (by omega) (Int.le_refl _)).2.2
  have s2 := dl_negI (bndZ p)
  have l1 : dl (Int.natAbs 1) ≤ 14000000000000 := Nat.le_trans ((dl_le (k := 1)).2 (by decide)) (by decide)
  rw [e1]
  simp only [go_sem, c1]
  refine AWp.seq (vc_ok T _ _ _ ?_)
  simp only [go_sem]
  refine ⟨hck, hig, ?_⟩
  refine AWp.seq (vc_ok T _ _ _ ?_)
  simp only [go_sem]
  refine AWp.seq (vc_ok T _ _ _ ?_)
  simp only [go_sem]
  refine AWp.seq (vc_ok T _ _ _ ?_)
  simp only [go_sem]
  refine AWp.seq (vc_ok T _ _ _ ?_)
  simp only [go_sem]
  refine ⟨hbd, ?_⟩
  refine AWp.seq (vc_ok T _ _ _ ?_)
  simp only [go_sem, l1]
  refine ⟨by omega, ?_⟩
  refine AWp.weaken ?_ (Wk.of [9, 12, 8, 13, 18, 24] (ss := [(3, .ptr 2 1 0 0), (5, .ptr 1 1 0 0), (6, .ptr 3 1 0 0), (7, .ptr 4 2 0 0), (8, .ptr 5 2 0 0)]) (hs := inHs (igL p) (chZ p) (bndZ p) (-bndZ p - 1)) (n := 6) (N := 36) (by decide) ?_)
  ·refine AWp.seq (AWp.lastL T 11 rfl rfl rfl rfl rfl rfl ?_)
   show vcDraw _ _ _ _ { s := mkS _, H := mkH _, n := _, N := _ } _
   unfold vcDraw
   have aH := hA (bndZ p) (by omega) (Int.le_refl _)
   have aL := hA (-bndZ p - 1) (Int.le_refl _) (by omega)
   obtain ⟨vl, evl⟩ : ∃ v, (vS (chZ p) ((-bndZ p - 1 : Int) : Rat) (chZ p).length).1 = v := ⟨_, rfl⟩
   obtain ⟨vh, evh⟩ : ∃ v, (vS (chZ p) ((bndZ p : Int) : Rat) (chZ p).length).1 = v := ⟨_, rfl⟩
   have bl := vS_bd (chZ p) ((-bndZ p - 1 : Int) : Rat) (chZ p).length
   have bh := vS_bd (chZ p) ((bndZ p : Int) : Rat) (chZ p).length
   have ll := aL.2.1.1
   have hB := inHs_B (igL p) (chZ p) (bndZ p) (-bndZ p - 1)
   have e2 : intF p = hlv (igL p) (chZ p) (2 * bndZ p + 1).toNat (-bndZ p - 1) (bndZ p) vl vh := by rw [← evl, ← evh]; rfl
   rw [e2] at hlen ⊢
   simp only [go_sem, inHs]
   rw [evl] at bl
   rw [evh] at bh
   rw [evl, evh]
   refine ⟨aL.2.1, aH.2.1, by rfl, _, Wk.lowS 7 (ss := [(5, .ptr 1 1 0 0), (23, .clo (.func 87) [] haC), (24, .I (-bndZ p - 1)), (25, .I (bndZ p)), (29, .raw (.int .i64 vl)), (33, .raw (.int .i64 vh))]) (H := inH (mkH (inHs (igL p) (chZ p) (bndZ p) (-bndZ p - 1))) 6 []) (N := 36) rfl rfl rfl (Nat.zero_le _) ?_ (inH_closed hB []) (fun k hk => by rw [inHs_eq]; rfl), ?_⟩
   ·have r0 : (List.range 7)[0]? = some 0 := rfl
    have r1 : (List.range 7)[1]? = some 1 := rfl
    have r2 : (List.range 7)[2]? = some 2 := rfl
    have r3 : (List.range 7)[3]? = some 3 := rfl
    generalize List.range 7 = θ at r0 r1 r2 r3 ⊢
    simp only [go_sem, haC, r0, r1, r2, r3]
    exact ⟨renV_pure rfl, renV_pure rfl⟩
   have tn : ((2 * bndZ p + 1).toNat : Int) = 2 * bndZ p + 1 := Int.toNat_of_nonneg (by omega)
   have tp := le_two_pow (2 * bndZ p + 1).toNat
   rw [tn] at tp
   have H1 := halve_H hA (2 * bndZ p + 1).toNat (mkH (inHs (igL p) (chZ p) (bndZ p) (-bndZ p - 1))) 6 [] (-bndZ p - 1) (bndZ p) vl vh hB ⟨Int.le_refl _, by omega, Int.le_refl _, by generalize (2 : Int) ^ (2 * bndZ p + 1).toNat = P at tp ⊢; omega⟩ ⟨by omega, by omega⟩ (by rw [List.nil_append]; exact hlen)
   refine RegI.callH (dst := some 34) 11 rfl rfl rfl rfl rfl rfl 6 (Nat.zero_le _) (liveTo_of fun k hk => absurd hk (Nat.not_lt_zero _)) [(5, .ptr 1 1 0 0)] ?_ rfl (by show (34 : Nat) < 36; decide) H1 ?_
   ·have r1 := lvT_get (m := 6) (H := inH (mkH (inHs (igL p) (chZ p) (bndZ p) (-bndZ p - 1))) 6 []) (n := 7) (show 1 < 6 by decide) rfl
    show wkS (lvT 6 (inH (mkH (inHs (igL p) (chZ p) (bndZ p) (-bndZ p - 1))) 6 []) 7) _ _
    generalize lvT 6 (inH (mkH (inHs (igL p) (chZ p) (bndZ p) (-bndZ p - 1))) 6 []) 7 = θ at r1 ⊢
    simp only [go_sem, r1]
   refine RegI.fin T 12 rfl ?_
   rw [List.nil_append]
   obtain ⟨found, ef⟩ : ∃ f, hlv (igL p) (chZ p) (2 * bndZ p + 1).toNat (-bndZ p - 1) (bndZ p) vl vh = f := ⟨_, rfl⟩
   rw [ef] at hlen ⊢
   simp only [go_sem]
   refine vc_ok T _ _ _ ?_
   unfold inH
   by_cases hf : found = []
   ·have o1 : outC 6 found = ⟨71, 1, [.raw (.slice none 0 0)]⟩ := by unfold outC; rw [if_pos hf]
    rw [o1, hf]
    simp only [go_sem]
    exact .refl _
   ·have o1 : outC 6 found = ⟨71, 1, [.sl 6 2 0 found.length]⟩ := by unfold outC; rw [if_neg hf]
    have o2 : rowO found = some ⟨44, 2, V.zs found⟩ := if_neg hf
    have tk : (V.zs found).take found.length = V.zs found := List.take_of_length_le (by rw [zs_len]; exact Nat.le_refl _)
    rw [o1, o2]
    simp only [go_sem, tk]
  ·simp only [go_sem, inHs, haC]
end Go.Proofs.YtlhapagililgmaaGreat

