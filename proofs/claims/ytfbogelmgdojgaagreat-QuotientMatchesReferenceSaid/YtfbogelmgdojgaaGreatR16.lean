/- Texts E4 K1 K2 E6 in one. -/
import Derived.Test.YtfbogelmgdojgaaGreatR15
import Derived.Test.YtfbogelmgdojgaaGreatR09
import Derived.WalkKit
import Derived.ProofKit
import Derived.OpenShut
import Derived.Lib.SmallJoins
import Derived.Carry
import Derived.Test.YtfbogelmgdojgaaGreatRows
/- Contracts of the reference: Mul, Pow. -/
namespace Go.Proofs.YtfbogelmgdojgaaGreat
set_option linter.unusedSimpArgs false
set_option linter.unusedVariables false
open Go.RowKit

def kRMul : Con := con2 pI pI fun x y => (dl x.natAbs ≤ 14000000000000 ∧ dl y.natAbs ≤ 14000000000000, .I (x * y))
attribute [go_sem ↓, go_sem] kRMul
set_option maxRecDepth 8000 in
set_option maxHeartbeats 1000000 in
theorem rmul_C : Ctr Tryz.prog 83 kRMul := Ctr.c2 (by kernel_rfl) fun x y h => by
 obtain ⟨h1, h2⟩ := h
 obtain ⟨s, l, hz, hl, hs, e1, e2, e3⟩ := sv_open x
 obtain ⟨t, m, hz', hm, ht, f1, f2, f3⟩ := sv_open y
 refine PCall.of_vc (tabs mixed (tbl_cons rmade_C tbl_nil)) Tryz.func83 rfl Tryz.ntmps83 Tryz.results83 (by simp) ?_
 have e4 : (l.length : Int) + m.length = ((l.length + m.length : Nat) : Int) := by omega
 have e5 : ((l.length + m.length : Nat) : Int) + 1 = ((l.length + m.length + 1 : Nat) : Int) := by omega
 have hlen : l.length ≤ 14000000000000 ∧ m.length ≤ 14000000000000 := by omega
 simp only [go_sem, e1, e2, f1, f2, e4, e5]
 and_intros
 any_goals omega
 refine AWp.loops (X := { x : Nat × List Nat // x.1 ≤ l.length ∧ Lim x.2 ∧ x.2.length = l.length + m.length + 1 ∧ lv x.2 = lv (l.take x.1) * lv m ∧ ∀ j, x.1 + m.length ≤ j → at0 x.2 j = 0 })
  (fun a => mkSt [(2, .ptr 0 2 0 0), (3, .ptr 1 2 0 0), (4, .ptr 2 2 0 0), (5, .sl 3 1 0 (l.length + m.length + 1)), (6, .raw (.int .i64 (a.1.1 : Nat)))]
   [(0, true, ⟨43, 2, [.I x]⟩), (1, true, ⟨43, 2, [.I y]⟩), (2, true, ⟨43, 2, [.agg [.raw (.bool false), .raw (.slice none 0 0)]]⟩), (3, true, ⟨110, 1, V.limbs a.1.2⟩)] 4 81)
  (fun a => l.length - a.1.1) ⟨(0, List.replicate (l.length + m.length + 1) 0), Nat.zero_le _, Lim.replicate _, by simp, by simp [lv, lv_replicate], fun j _ => at0_replicate _ _⟩ (Wk.of [0, 1, 2, 11] (by decide) ?_) ?_
 ·simp only [go_sem]
 ·rintro ⟨⟨i, r⟩, hi, hr, hrl, hv, h0⟩
  simp only at hi hr hrl hv h0
  refine vc_at (tabs mixed (tbl_cons rmade_C tbl_nil)) ?_
  by_cases h : i < l.length
  ·have g1 : (i : Int) < l.length := by omega
   simp only [go_sem, e1, e2, f1, f2, g1]
   have l1 := hl.1.at0 i
   refine AWp.loops (X := { x : Nat × Nat × List Nat // x.1 ≤ m.length + 1 ∧ x.2.1 < 4294967296 ∧ (x.1 = m.length + 1 → x.2.1 = 0) ∧ Lim x.2.2 ∧ x.2.2.length = l.length + m.length + 1 ∧ lv x.2.2 + 4294967296 ^ i * 4294967296 ^ x.1 * x.2.1 = lv (l.take i) * lv m + 4294967296 ^ i * (at0 l i * lv (m.take x.1)) ∧ (∀ j, i + m.length + 1 ≤ j → at0 x.2.2 j = 0) ∧ (x.1 ≤ m.length → at0 x.2.2 (i + m.length) = 0) })
    (fun a => mkSt [(2, .ptr 0 2 0 0), (3, .ptr 1 2 0 0), (4, .ptr 2 2 0 0), (5, .sl 3 1 0 (l.length + m.length + 1)), (6, .raw (.int .i64 (i : Nat))), (7, .raw (.int .u64 (a.1.2.1 : Nat))), (8, .raw (.int .i64 (a.1.1 : Nat)))]
     [(0, true, ⟨43, 2, [.I x]⟩), (1, true, ⟨43, 2, [.I y]⟩), (2, true, ⟨43, 2, [.agg [.raw (.bool false), .raw (.slice none 0 0)]]⟩), (3, true, ⟨110, 1, V.limbs a.1.2.2⟩)] 4 81)
    (fun a => m.length + 1 - a.1.1) ⟨(0, 0, r), Nat.zero_le _, by simp, by simp, hr, hrl, by simp [lv, hv], fun j hj => h0 j (by omega), fun _ => h0 _ (Nat.le_refl _)⟩ (Wk.of [0, 1, 2, 3] (by decide) ?_) ?_
   ·simp only [go_sem]
   ·rintro ⟨⟨k, cr, r'⟩, hk, hcr, hck, hr', hrl', hv', h0', hz0⟩
    simp only at hk hcr hck hr' hrl' hv' h0' hz0
    refine vc_at (tabs mixed (tbl_cons rmade_C tbl_nil)) ?_
    have o1 := hr'.at0 (i + k)
    have a3 : (at0 r' (i + k) : Int) % 18446744073709551616 = at0 r' (i + k) := by omega
    have a4 : (i : Int) + k = ((i + k : Nat) : Int) := by omega
    have a7 : (k : Int) + 1 = ((k + 1 : Nat) : Int) := by omega
    have hmx : IntKind.u64.max = 18446744073709551615 := by decide
    have a8 : (i : Int) + 1 = ((i + 1 : Nat) : Int) := by omega
    by_cases hkm : k < m.length
    ·have e6 : (k : Int) < m.length := by omega
     have m1 := hm.1.at0 k
     have hb1 := mulb _ _ _ _ l1 m1 hcr o1
     obtain ⟨p, hp⟩ : ∃ p : Nat, p = at0 l i * at0 m k := ⟨_, rfl⟩
     have hpI : ((at0 l i : Int) * (at0 m k : Int)) = (p : Int) := by rw [hp]; simp
     rw [← hp] at hb1
     obtain ⟨T, hT⟩ : ∃ T : Nat, T = cr + (p + at0 r' (i + k)) := ⟨_, rfl⟩
     have hTI : (cr : Int) + (at0 r' (i + k) : Int) + (p : Int) = (T : Int) := by rw [hT]; simp; omega
     rw [← hT] at hb1
     have a1 : (at0 l i : Int) % 18446744073709551616 = at0 l i := by omega
     have a2 : (at0 m k : Int) % 18446744073709551616 = at0 m k := by omega
     have a5 : (T : Int) % 4294967296 = ((T % 4294967296 : Nat) : Int) := by omega
     have a6 : (T : Int) / 4294967296 = ((T / 4294967296 : Nat) : Int) := by omega
     have hlt' : i + k < r'.length := by omega
     simp only [go_sem, e1, e2, f1, f2, e6, hrl', a1, a2, a3, a4, hpI, hTI, a5, a6, a7, hmx]
     and_intros
     any_goals omega
     ·rfl
     have hT2 : T / 4294967296 < 4294967296 := by omega
     refine ⟨⟨(k + 1, T / 4294967296, r'.set (i + k) (T % 4294967296)), by simp only; omega, hT2, by simp only; omega, hr'.set _ (by omega), by simp [hrl'], ?_, fun j hj => by rw [at0_set hlt', if_neg (by omega)]; exact h0' j hj, fun h9 => by simp only at h9; rw [at0_set hlt', if_neg (by omega)]; exact hz0 (by omega)⟩, Wk.of [0, 1, 2, 3] (by decide) ?_, by simp only; omega⟩
     ·have hs := lv_set (l := r') (i := i + k) (x := T % 4294967296) hlt'
      rw [Nat.pow_add] at hs
      rw [Nat.pow_succ, mul_step hv' hT hs, hp, lv_take_succ', Nat.mul_add (at0 l i), Nat.mul_add, Nat.mul_left_comm (at0 l i)]
     ·simp only [go_sem, hrl']
    ·have e6 : ¬ (k : Int) < m.length := by omega
     by_cases hc0 : 0 < cr
     ·have e7 : 0 < (cr : Int) := by omega
      obtain rfl : k = m.length := by
       rcases Nat.lt_or_ge k (m.length + 1) with h | h
       ·omega
       ·have := hck (by omega); omega
      have hz := hz0 (Nat.le_refl _)
      have hlt' : i + m.length < r'.length := by omega
      have b1 : (cr : Int) + (at0 r' (i + m.length) : Int) = (cr : Nat) := by rw [hz]; simp
      have b2 : (cr : Int) % 4294967296 = (cr : Nat) := by omega
      have b3 : (cr : Int) / 4294967296 = ((0 : Nat) : Int) := by omega
      simp only [go_sem, e1, e2, f1, f2, e6, e7, hrl', a3, a4, b1, b2, b3, a7, hmx]
      and_intros
      any_goals omega
      refine ⟨⟨(m.length + 1, 0, r'.set (i + m.length) cr), Nat.le_refl _, by simp, by simp, hr'.set _ hcr, by simp [hrl'], ?_, fun j hj => by rw [at0_set hlt', if_neg (by omega)]; exact h0' j hj, fun h9 => by simp only at h9; omega⟩, Wk.of [0, 1, 2, 3] (by decide) ?_, by simp only; omega⟩
      ·have hs := lv_set (l := r') (i := i + m.length) (x := cr) hlt'
       rw [hz, Nat.mul_zero, Nat.add_zero, Nat.pow_add] at hs
       have e9 : m.take (m.length + 1) = m := List.take_of_length_le (Nat.le_succ _)
       rw [List.take_length] at hv'
       show lv (r'.set (i + m.length) cr) + 4294967296 ^ i * 4294967296 ^ (m.length + 1) * 0 = lv (List.take i l) * lv m + 4294967296 ^ i * (at0 l i * lv (m.take (m.length + 1)))
       rw [Nat.mul_zero, Nat.add_zero, e9, hs]
       exact hv'
      ·simp only [go_sem, hrl']
     ·have e7 : ¬ 0 < (cr : Int) := by omega
      obtain rfl : cr = 0 := by omega
      simp only [go_sem, e1, e2, f1, f2, e6, e7, a8]
      rw [Nat.mul_zero, Nat.add_zero, List.take_of_length_le (l := m) (by omega)] at hv'
      refine ⟨by omega, ⟨(i + 1, r'), h, hr', hrl', ?_, fun j hj => h0' j (by simp only at hj; omega)⟩, Wk.of [0, 1, 2, 3] (by decide) ?_, by simp only; omega⟩
      ·simp only
       rw [hv', lv_take_succ', Nat.add_mul, Nat.mul_assoc]
      ·simp only [go_sem, hrl']
  ·have g1 : ¬ (i : Int) < l.length := by omega
   have hil : i = l.length := by omega
   subst hil
   rw [List.take_length] at hv
   simp only [go_sem, e1, e2, f1, f2, g1, hrl, List.take_of_length_le (Nat.le_of_eq hrl)]
   refine ⟨⟨hr, by omega⟩, out_II ?_⟩
   have e : sv (s != t) l * (lv m : Int) = sv (s != t) r := by unfold sv; rw [hv]; split <;> simp [Int.natCast_mul, Int.neg_mul]
   rw [← e, hz, hz']
   cases s <;> cases t <;> simp [sv, Int.neg_mul, Int.mul_neg]
end Go.Proofs.YtfbogelmgdojgaaGreat


/- The frame of a law: what came in reads as it did, and the result is true. No program in sight. -/
namespace Go.Proofs.YtfbogelmgdojgaaGreat
set_option linter.unusedSimpArgs false
set_option linter.unusedVariables false
open Go.ChangeShapes Go.WideShapes Go.ChangeAt Go.RowKit Go.Joins

section
variable {H : Type} {enc : TypeId × Value → H} {P : Program}
theorem trodAll_stays (hl : laidOutB P = true) {W W' : World} (hb : Below W.heap.size W W') {sp' : Nat → Bool} : ∀ {ts : List TypeId} {vs : List Value} {ds : List (DataW H)} {ps : List MemPlace}, (∀ t ∈ ts, P.readableRec t = true ∧ t < P.types.size) →
 DataW.TrodAll enc P W 0 (fun _ => true) true ts vs ds ps → (∀ p ∈ ps, p.block < W.heap.size) → (∀ p ∈ ps, sp' p.block = true) → DataW.TrodAll enc P W' 0 sp' true ts vs ds ps
 | [], _, _, _, _, h, _, _ => by
   obtain ⟨rfl, rfl, rfl⟩ := trodAll_nil h
   exact trodAll_mk0
 | t :: ts, _, _, _, ht, h, hlt, hsp => by
   obtain ⟨v, vs1, d, ds1, a, b, rfl, rfl, rfl, h1, h2⟩ := trodAll_cons h
   obtain ⟨r1, r2⟩ := ht t (by simp)
   exact trodAll_cons_mk (WideElems.Trod_stays hl r1 r2 h1 (fun x hx => hb.same (hlt x (by simp [hx]))) (fun x hx => hsp x (by simp [hx])))
    (trodAll_stays hl hb (fun t' ht' => ht t' (by simp [ht'])) h2 (fun x hx => hlt x (by simp [hx])) (fun x hx => hsp x (by simp [hx])))
theorem below_frozen {W W' : World} (hb : Below W.heap.size W W') {b off : Nat} (h : b < W.heap.size) : W'.frozen? ⟨b, off, none⟩ = W.frozen? ⟨b, off, none⟩ := by
 unfold World.frozen?
 rw [hb.block b h]
theorem law_post {fn : Func} {s : ChangeSpec} {apart fresh : Bool} {tb : TypeId} {W W' : World} {args : Array Value} {ds gs : List (DataW H)} {before : List MemPlace} (hvars : s.vars = []) (hl : laidOutB P = true)
 (hr : ∀ t ∈ fn.params.toList, P.readableRec t = true ∧ t < P.types.size) (hres : fn.resultTypes = #[tb]) (htb : P.underlying tb = some .bool)
 (hs : s.fn H ds = { results := [.lit (.bool true)], args := ds })
 (hW : DataW.Whole enc P fn.params.toList s.vars apart W args.toList ds gs before) (hb : Below W.heap.size W W') : s.post enc P fn apart fresh false false W args (.bool true) W' := by
 have hW0 := hW
 obtain ⟨p, q, hA, hV, rfl, hz, hn⟩ := hW
 rw [hvars] at hV
 obtain ⟨rfl, rfl⟩ := trodVars_none hV
 have hlt : ∀ x ∈ p, x.block < W.heap.size := fun x hx => by simpa using hW0.lt x (by simpa using hx)
 have hargs : ∀ sp : Nat → Bool, (∀ x ∈ p, sp x.block = true) → DataW.TrodAll enc P W' 0 sp true fn.params.toList args.toList ds p := fun sp hsp => trodAll_stays hl hb hr hA hlt hsp
 have hres' : ∀ (b : Nat) (sp : Nat → Bool) (hd : Bool), DataW.TrodAll enc P W' b sp hd fn.resultTypes.toList ((Value.bool true).resultList fn.resultTypes.size) [.lit (.bool true)] [] := fun b sp hd => by
  rw [hres]
  exact trodAll_mk1 (shut_bool htb _)
 have e1 : (s.fn H (ds ++ [])).results = [.lit (.bool true)] := by rw [List.append_nil, hs]
 have e2 : (s.fn H (ds ++ [])).args = ds := by rw [List.append_nil, hs]
 have e3 : (s.fn H (ds ++ [])).vars = [] := by rw [List.append_nil, hs]
 have hnil : DataW.TrodVars enc P W' (fun _ => true) s.vars [] [] := by rw [hvars]; rfl
 have hold : ∀ x ∈ p, (fun b => decide (b < W.heap.size)) x.block = true := fun x hx => by simpa using hlt x hx
 refine ⟨ds, [], p ++ [], [], p, [], hW0, by rw [e1]; exact hres' _ _ _, by rw [e2]; exact hargs _ hold, by rw [hvars, e3]; rfl, World.keptBut_mono (fun x hx => ⟨hx, ?_⟩) (hb.frame (fun x => x ∈ p ++ [])), fun _ => ?_⟩
 ·exact .inr (by simpa using hx)
 ·refine ⟨ok_one hres rfl (okWide_bool_mk htb _), _, _, ([] ++ p) ++ [], ⟨[] ++ p, [], trodAll_append (hargs _ (fun _ _ => rfl)) (hres' _ _ _), hnil, rfl, ?_, ?_⟩, ?_⟩
  ·intro b off hp
   have hp' : MemPlace.cell b off ∈ p := by simpa using hp
   have hbl := hlt _ hp'
   rw [below_frozen hb (b := b) (off := off) hbl]
   exact hz b off (by simpa using hp)
  ·intro ha
   simpa using hn ha
  ·intro x hx _
   simpa using hx
end

/- What the arguments stand for. -/
abbrev Nb : Nat → Prop := fun _ => False
abbrev Nr : Nat → Option Nat := fun _ => none
section
variable {H : Type} {enc : TypeId × Value → H} {P : Program} {w : World}
theorem cell_block {b o : Nat} {v : Value} (h : w.cell? ⟨b, o, none⟩ = some v) : b < w.heap.size := by
 rcases Nat.lt_or_ge b w.heap.size with h1 | h1
 ·exact h1
 ·unfold World.cell? at h
  simp [Array.getElem?_eq_none h1] at h
theorem law_calls {f : FuncId} {xs : List V} {vs : List Value} (h : PCall P f xs (.raw (.bool true))) (hl : vs.length = xs.length)
 (hv : ∀ (j : Nat) (x : V) (v : Value), xs[j]? = some x → vs[j]? = some v → RepW w Nb Nr x v) : Calls P f vs.toArray w fun e w' => e = .returned (.bool true) ∧ Below w.heap.size w w' := by
 refine (h Nb w vs hl hv (fun b hb => hb.elim)).mono ?_
 rintro e w' ⟨v, rfl, hv, hb⟩
 have : v = .bool true := RepW.raw_inv hv
 subst this
 exact ⟨rfl, hb⟩
end
end Go.Proofs.YtfbogelmgdojgaaGreat


/- What the statements of this seat share. -/
namespace Go.Proofs.YtfbogelmgdojgaaGreat
set_option linter.unusedSimpArgs false
set_option linter.unusedVariables false
open Go.ChangeShapes Go.WideShapes Go.ChangeAt Go.RowKit

theorem own_knob : ownKnob Tryz.prog.godebug = none := by kernel_rfl
theorem laid_out : laidOutB Tryz.prog = true := by kernel_rfl
end Go.Proofs.YtfbogelmgdojgaaGreat


/- Contracts of the reference: divide for one limb, DivMod, Gcd. -/
namespace Go.Proofs.YtfbogelmgdojgaaGreat
set_option linter.unusedSimpArgs false
set_option linter.unusedVariables false
open Go.RowKit

def RDivTo (N : Nat) : Prop := ∀ l m : List Nat, Canon l → Canon m → m ≠ [] → l.length ≤ 13000000000000 → m.length ≤ 13000000000000 → m.length ≤ N →
 PCall Tryz.prog 148 [.lst (V.limbs l), .lst (V.limbs m)] (.tup [.I (lv l / lv m : Nat), .I (lv l % lv m : Nat)])
set_option maxRecDepth 2000 in
theorem rdiv_short (l : List Nat) (y : Nat) (hl : Canon l) (hm : Canon [y]) (h1 : l.length ≤ 13000000000000) :
 PCall Tryz.prog 148 [.lst (V.limbs l), .lst (V.limbs [y])] (.tup [.I (lv l / lv [y] : Nat), .I (lv l % lv [y] : Nat)]) := by
 refine PCall.of_vc (tabs mixed (tbl_cons rshort_C (tbl_cons rmade_C tbl_nil))) Tryz.func148 rfl Tryz.ntmps148 Tryz.results148 (by simp) ?_
 have c2 : (((([y] : List Nat).length : Nat) : Int) == 1) = true := rfl
 have hy := hm.1.head
 have hy0 : y ≠ 0 := hm.2 (by simp)
 have hlt := Nat.mod_lt (lv l) (Nat.pos_of_ne_zero hy0)
 have s1 : sv false (nl l.length (lv l / y)) = ((lv l / y : Nat) : Int) := by
  rw [sv_false, lv_nl _ _ (Nat.lt_of_le_of_lt (Nat.div_le_self _ _) (lv_lt hl.1))]
 have s2 : sv false [lv l % y] = ((lv l % y : Nat) : Int) := by rw [sv_false, lv_one]
 have t1 : ([lv l % y] : List Nat).take 1 = [lv l % y] := rfl
 rw [lv_one]
 simp only [go_sem, c2, at0_cons_zero, s1, s2, nl_length, List.set_cons_zero, t1]
 exact ⟨⟨hl.1, by omega, by omega, by omega⟩, ⟨nl_lim _ _, by omega⟩, Lim.cons (by omega) Lim.nil⟩
def kRDivide (N : Nat) : Con := con2 pL pL fun l m => ((Canon l ∧ Canon m) ∧ m ≠ [] ∧ l.length ≤ 13000000000000 ∧ m.length ≤ 13000000000000 ∧ m.length ≤ N, .tup [.I (lv l / lv m : Nat), .I (lv l % lv m : Nat)])
attribute [go_sem ↓, go_sem] kRDivide
theorem rdivide_C {N : Nat} (hL : RDivTo N) : Ctr Tryz.prog 148 (kRDivide N) := Ctr.c2 (by kernel_rfl) fun l m h => hL l m h.1.1 h.1.2 h.2.1 h.2.2.1 h.2.2.2.1 h.2.2.2.2
set_option maxRecDepth 8000 in
set_option maxHeartbeats 2000000 in
theorem rdivMod_V {N : Nat} (hL : RDivTo N) (x y : Int) (hx : dl x.natAbs ≤ 12000000000000) (hy : dl y.natAbs ≤ 12000000000000) (hN : dl y.natAbs ≤ N) :
 PCall Tryz.prog 140 [.I x, .I y] (dmR x y) := by
 obtain ⟨s, l, hz, hl, hs, e1, e2, e3⟩ := sv_open x
 obtain ⟨t, m, hz', hm, ht, f1, f2, f3⟩ := sv_open y
 refine PCall.of_vc (tabs mixed (tbl_cons (rdivide_C hL) (tbl_cons rmade_C (tbl_cons radd_C (tbl_cons rof_C (tbl_cons rsub_C (tbl_cons (C := kRNeg) rneg_C (tbl_cons rsign_C tbl_nil)))))))) Tryz.func140 rfl Tryz.ntmps140 Tryz.results140 (by simp) ?_
 unfold dmR
 have z1 : sv s l = x := hz.symm
 have z2 : sv t m = y := hz'.symm
 by_cases hy0 : y = 0
 ·have hm0 : m = [] := by rw [← sv_zero (s := t) hm, ← hz', hy0]
  rw [if_pos hy0]
  have b0 : (sgI y == 0) = true := by rw [hy0]; rfl
  have m1 := hl.1
  have m2 := hm.1
  simp only [go_sem, e1, e2, f1, f2, z1, z2, b0]
  exact ⟨⟨m1, by omega⟩, ⟨m2, by omega⟩, by rfl, out_In rfl⟩
 ·have hm0 : m ≠ [] := fun h => hy0 (by rw [hz']; exact (sv_zero hm).2 h)
  have b0 : (sgI y == 0) = false := by
   have : sgI y ≠ 0 := fun h => hy0 (by unfold sgI cmpI at h; split at h <;> (try split at h) <;> omega)
   simpa using this
  have hp := lv_pos hm hm0
  rw [if_neg hy0]
  have d1 : dl (Int.natAbs 1) ≤ 14000000000000 := Nat.le_trans (dl_le (k := 1).2 (by decide)) (by decide)
  have d2 : dl (lv l / lv m) ≤ l.length := dl_le.2 (Nat.lt_of_le_of_lt (Nat.div_le_self _ _) (lv_lt hl.1))
  have hrm := Nat.mod_lt (lv l) hp
  have d3 : dl (lv l % lv m) ≤ m.length := dl_le.2 (Nat.lt_trans hrm (lv_lt hm.1))
  have g1 : sv s l / sv t m = x / y := by rw [hz, hz']
  have g2 : sv s l % sv t m = x % y := by rw [hz, hz']
  have m1 := hl.1
  have m2 := hm.1
  have d4 : dl (((lv l / lv m : Nat) : Int)).natAbs ≤ l.length := by rw [Int.natAbs_natCast]; exact d2
  have d5 : dl (sv false m).natAbs ≤ m.length := by rw [sv_natAbs]; exact dl_le_of_lim hm.1
  have d6 : dl (((lv l % lv m : Nat) : Int)).natAbs ≤ m.length := by rw [Int.natAbs_natCast]; exact d3
  have d7 := dl_addI ((lv l / lv m : Nat) : Int) 1
  by_cases hR : s = false ∨ lv l % lv m = 0
  ·obtain ⟨h1, h2⟩ := dm_pos (t := t) (l := l) hp hR
   rw [← g1, ← g2, h1, h2]
   cases s
   ·cases t
    ·simp only [go_sem, e1, e2, f1, f2, z1, z2, b0]
     and_intros <;> first | rfl | assumption | omega | exact hl.2 | exact hm.2
    ·simp only [go_sem, e1, e2, f1, f2, z1, z2, b0]
     and_intros <;> first | rfl | assumption | omega | exact hl.2 | exact hm.2
   ·have hR2 : ¬ 0 < sgI ((lv l % lv m : Nat) : Int) := by
     have h0 : lv l % lv m = 0 := by simpa using hR
     rw [h0]; decide
    cases t
    ·simp only [go_sem, e1, e2, f1, f2, z1, z2, b0, hR2]
     and_intros <;> first | rfl | assumption | omega | exact hl.2 | exact hm.2
    ·simp only [go_sem, e1, e2, f1, f2, z1, z2, b0, hR2]
     and_intros <;> first | rfl | assumption | omega | exact hl.2 | exact hm.2
  ·have hs1 : s = true := by
    cases s
    ·exact absurd (.inl rfl) hR
    ·rfl
   have hR0 : lv l % lv m ≠ 0 := fun h => hR (.inr h)
   subst hs1
   have c1 : 0 < sgI ((lv l % lv m : Nat) : Int) := by
    rw [show sgI ((lv l % lv m : Nat) : Int) = 1 from cmpI_gt (by omega)]; decide
   obtain ⟨h1, h2⟩ := dm_neg (t := t) (l := l) hp hR0
   rw [← g1, ← g2, h1, h2]
   have z3 : sv false m - ((lv l % lv m : Nat) : Int) = ((lv m - lv l % lv m : Nat) : Int) := by rw [sv_false]; omega
   have z4 : sv false m = ((lv m : Nat) : Int) := rfl
   cases t
   ·have z5 : y - ((lv l % lv m : Nat) : Int) = ((lv m - lv l % lv m : Nat) : Int) := by rw [hz']; exact z3
    simp only [go_sem, e1, e2, f1, f2, z1, z2, b0, c1, z5]
    and_intros <;> first | rfl | assumption | omega | exact hl.2 | exact hm.2
   ·simp only [go_sem, e1, e2, f1, f2, z1, z2, b0, c1, z3]
    and_intros <;> first | rfl | assumption | omega | exact hl.2 | exact hm.2
end Go.Proofs.YtfbogelmgdojgaaGreat

