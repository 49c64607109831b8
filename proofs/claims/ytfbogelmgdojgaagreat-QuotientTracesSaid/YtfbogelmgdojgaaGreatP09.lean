/- Texts B1 M1 M2 B2 in one. -/
import Derived.Test.YtfbogelmgdojgaaGreatP08
import Derived.Test.YtfbogelmgdojgaaGreatP01
import Derived.Lib.BitFns
import Derived.BigQuiet
import Derived.Deep.QuietTactic
/- Rows of limbs and of bytes in the abstract run. -/
namespace Go.Proofs.YtfbogelmgdojgaaGreat
set_option linter.unusedSimpArgs false
set_option linter.unusedVariables false
open Go.RowKit

theorem mixed : Tryz.prog.follows .mixedOrders = true := by rfl
@[go_sem] theorem limbs_len (l : List Nat) : (V.limbs l).length = l.length := by simp [V.limbs]
theorem limbs_get {l : List Nat} {i : Nat} (h : i < l.length) : (V.limbs l)[i]? = some (.raw (.int .u32 (at0 l i))) := by
  simp [V.limbs, at0, List.getElem?_eq_getElem h]
@[go_sem ↓, go_sem] theorem ev_limbs_get {l : List Nat} {i : Nat} {k : V → Prop} : optC (V.limbs l)[i]? k = (i < l.length ∧ k (.raw (.int .u32 (at0 l i : Nat)))) := by
  by_cases h : i < l.length
  · rw [limbs_get h]; simp [optC, h]
  · have : (V.limbs l)[i]? = none := by rw [List.getElem?_eq_none]; rw [limbs_len]; omega
    rw [this]; simp [optC, h]
@[go_sem] theorem limbs_take (l : List Nat) (n : Nat) : (V.limbs l).take n = V.limbs (l.take n) := by simp [V.limbs]
@[go_sem] theorem limbs_drop (l : List Nat) (n : Nat) : (V.limbs l).drop n = V.limbs (l.drop n) := by simp [V.limbs]
@[go_sem] theorem limbs_append (l m : List Nat) : V.limbs l ++ V.limbs m = V.limbs (l ++ m) := by simp [V.limbs]
@[go_sem] theorem limbs_wid (l : List Nat) : allWid (V.limbs l) 1 = True := by
  simp only [eq_iff_iff, iff_true]
  intro y hy
  obtain ⟨x, _, rfl⟩ := List.mem_map.1 hy
  rfl
@[go_sem] theorem limbs_wid' (l : List Nat) : (∀ y ∈ V.limbs l, y.atoms.length = 1) = True := by
  simp only [eq_iff_iff, iff_true]
  intro y hy
  obtain ⟨x, _, rfl⟩ := List.mem_map.1 hy
  rfl
@[go_sem] theorem limbs_good (l : List Nat) : allGood (V.limbs l) = True := by
  simp only [eq_iff_iff, iff_true]
  intro y hy
  obtain ⟨x, _, rfl⟩ := List.mem_map.1 hy
  rfl
@[go_sem] theorem limbs_pure (l : List Nat) : allPure (V.limbs l) = True := by
  simp only [eq_iff_iff, iff_true]
  intro y hy
  obtain ⟨x, _, rfl⟩ := List.mem_map.1 hy
  rfl
theorem limbs_set {l : List Nat} {i x : Nat} {X : Int} (h : X = x) : (V.limbs l).set i (.raw (.int .u32 X)) = V.limbs (l.set i x) := by
  subst h; simp [V.limbs, List.map_set]
@[go_sem] theorem limbs_rep (n : Nat) : List.replicate n (.raw (.int .u32 0)) = V.limbs (List.replicate n 0) := by simp [V.limbs]
@[go_sem] theorem limbs_setN (l : List Nat) (i x : Nat) : (V.limbs l).set i (.raw (.int .u32 (x : Nat))) = V.limbs (l.set i x) := limbs_set rfl
theorem limbs_nil : ([] : List V) = V.limbs [] := rfl
theorem limbs_one {x : Nat} {X : Int} (h : X = x) : [V.raw (.int .u32 X)] = V.limbs [x] := by subst h; rfl
theorem limbs_two {x y : Nat} {X Y : Int} (h : X = x) (h' : Y = y) : [V.raw (.int .u32 X), V.raw (.int .u32 Y)] = V.limbs [x, y] := by subst h h'; rfl
/-- The integer that a sign and limbs are. -/
def sv (s : Bool) (l : List Nat) : Int := if s = true then -(lv l : Int) else lv l
theorem sv_natAbs (s : Bool) (l : List Nat) : (sv s l).natAbs = lv l := by unfold sv; split <;> omega
/-- A sign and canonical limbs are an integer. -/
theorem atoms_I {s : Bool} {l : List Nat} (hl : Canon l) (hs : s = true → l ≠ []) : V.atoms (.I (sv s l)) = [.raw (.bool s), .lst (V.limbs l)] := by
  have e : dg (sv s l).natAbs = l := by rw [sv_natAbs]; exact (dg_of_canon hl rfl).symm
  have h2 : decide (sv s l < 0) = s := by
    cases s
    · simp [sv]
    · have := lv_pos hl (hs rfl); simp [sv]; omega
  show V.atomsI _ = _
  unfold V.atomsI
  rw [e, h2]
theorem out_I {s : Bool} {l : List Nat} {z : Int} (hl : Canon l) (hs : s = true → l ≠ []) (hz : z = sv s l) : OutEq (.agg [.raw (.bool s), .lst (V.limbs l)]) (.I z) := by
  subst hz
  refine .atoms rfl rfl ?_
  rw [atoms_I hl hs]
  simp [V.atoms, V.atomsL]
theorem out_I0 {z : Int} (hz : z = 0) : OutEq (.agg [.raw (.bool false), .emp]) (.I z) := by
  subst hz
  exact .inr (.inl ⟨rfl, rfl, rfl, rfl, trivial⟩)
theorem out_In {z : Int} (hz : z = 0) : OutEq (.agg [.raw (.bool false), .raw (.slice none 0 0)]) (.I z) := by
  subst hz
  exact .inr (.inl ⟨rfl, rfl, rfl, ⟨rfl, rfl⟩, trivial⟩)
theorem sv_open (z : Int) : ∃ s l, z = sv s l ∧ Canon l ∧ (s = true → l ≠ []) ∧ dg z.natAbs = l ∧ decide (z < 0) = s ∧ l.length = dl z.natAbs := by
  refine ⟨decide (z < 0), dg z.natAbs, ?_, dg_canon _, ?_, rfl, rfl, rfl⟩
  · unfold sv; rw [lv_dg]; by_cases hz : z < 0 <;> simp [hz] <;> omega
  · intro hz e; rw [dg_eq_nil] at e; simp at hz; omega
theorem sv_zero {s : Bool} {l : List Nat} (hl : Canon l) : sv s l = 0 ↔ l = [] := by
  constructor
  · intro h
    have : lv l = 0 := by rw [← sv_natAbs s l, h]; rfl
    by_cases e : l = []
    · exact e
    · have := lv_pos hl e; omega
  · rintro rfl; cases s <;> rfl
attribute [go_sem] Int.toNat_natCast List.length_replicate List.length_append List.length_set List.length_take List.length_drop decide_eq_true_eq decide_eq_false_iff_not
theorem raw_int {k : IntKind} {a b : Int} (h : a = b) : V.raw (.int k a) = .raw (.int k b) := by rw [h]
theorem out_int {k : IntKind} {a b : Int} (h : a = b) : OutEq (V.raw (.int k a)) (.raw (.int k b)) := .inl (by rw [h])
theorem out_bool {a b : Bool} (h : a = b) : OutEq (V.raw (.bool a)) (.raw (.bool b)) := .inl (by rw [h])
end Go.Proofs.YtfbogelmgdojgaaGreat

/- Plain arithmetic for the integers. No program in sight. -/
namespace Go.Proofs.YtfbogelmgdojgaaGreat
set_option linter.unusedSimpArgs false
set_option linter.unusedVariables false
open Go.RowKit

theorem sv_true (l : List Nat) : sv true l = -(lv l : Int) := rfl
theorem sv_false (l : List Nat) : sv false l = lv l := rfl
theorem sv_neg_iff {s : Bool} {l : List Nat} (hl : Canon l) (hs : s = true → l ≠ []) : s = decide (sv s l < 0) := by
  cases s
  · rw [sv_false]; simp
  · have := lv_pos hl (hs rfl); rw [sv_true]; simp; omega
theorem sv_zero_iff {s : Bool} {l : List Nat} (hl : Canon l) : sv s l = 0 ↔ l = [] := sv_zero hl
def cmpI (a b : Int) : Int := if a < b then -1 else if a = b then 0 else 1
theorem cmpI_lt {a b : Int} (h : a < b) : cmpI a b = -1 := if_pos h
theorem cmpI_eq {a b : Int} (h : a = b) : cmpI a b = 0 := by unfold cmpI; rw [if_neg (by omega), if_pos h]
theorem cmpI_gt {a b : Int} (h : b < a) : cmpI a b = 1 := by unfold cmpI; rw [if_neg (by omega), if_neg (by omega)]
theorem lv_lt_of_top {l m : List Nat} (hl : Lim l) (hm : Lim m) (n : Nat) (h1 : l.length = n) (h2 : m.length = n) (k : Nat) (hk : k < n)
    (hlt : at0 l k < at0 m k) (hh : ∀ j, k < j → at0 l j = at0 m j) : lv l < lv m := by
  induction l generalizing m n k with
  | nil => simp at h1; omega
  | cons x l ih =>
    cases m with
    | nil => simp at h2; omega
    | cons y m =>
      simp only [List.length_cons] at h1 h2
      rw [lv_cons, lv_cons]
      cases k with
      | zero =>
        simp only [at0_cons_zero] at hlt
        have : l = m := by
          apply List.ext_getElem (by omega)
          intro i hi hi'
          have := hh (i + 1) (by omega)
          simpa [at0, hi, hi'] using this
        subst this; omega
      | succ k =>
        have := ih hl.tail hm.tail (n - 1) (by omega) (by omega) k (by omega) (by simpa [at0_cons_succ] using hlt) (fun j hj => by simpa [at0_cons_succ] using hh (j + 1) (by omega))
        have := hl.head
        have := hm.head
        omega
theorem eq_of_at0 {l m : List Nat} (h : l.length = m.length) (hh : ∀ j, at0 l j = at0 m j) : l = m := by
  apply List.ext_getElem h
  intro i hi hi'
  simpa [at0, hi, hi'] using hh i
theorem lv_lt_of_len {l m : List Nat} (hl : Lim l) (hm : Canon m) (h : l.length < m.length) : lv l < lv m := by
  have h1 := lv_lt hl
  have h2 := pow_dl_le hm (by rintro rfl; simp at h)
  have h3 : 4294967296 ^ l.length ≤ 4294967296 ^ (m.length - 1) := Nat.pow_le_pow_right (by decide) (by omega)
  omega
def sgI (z : Int) : Int := cmpI z 0
theorem sgI_sv {s : Bool} {l : List Nat} (hl : Canon l) (hs : s = true → l ≠ []) : sgI (sv s l) = if l = [] then 0 else if s = true then -1 else 1 := by
  unfold sgI
  by_cases h0 : l = []
  · rw [if_pos h0, cmpI_eq ((sv_zero_iff hl).2 h0)]
  · have := lv_pos hl h0
    rw [if_neg h0]
    cases s
    · rw [sv_false, cmpI_gt (by omega)]; rfl
    · rw [sv_true, cmpI_lt (by omega)]; rfl
theorem sv_flip (s : Bool) (l : List Nat) : sv (!s) l = -sv s l := by cases s <;> simp [sv]
def validB (s : Bool) (l : List Nat) : Bool := if l = [] then !s else decide (at0 l (l.length - 1) ≠ 0)
theorem lv_two (x y : Nat) : lv [x, y] = x + 4294967296 * y := by simp [lv]
theorem lim_two {x y : Nat} (hx : x < 4294967296) (hy : y < 4294967296) : Lim [x, y] := Lim.cons hx (Lim.cons hy Lim.nil)
theorem wraps_u64 (n : Int) (h₀ : 0 ≤ n) (h₁ : n < 2 ^ 64) : IntKind.u64.wrap n = n := by
  have : (2 : Int) ^ 64 = 18446744073709551616 := by decide
  exact IntWalk.u64_in n (by omega)
theorem or_shift (x y : Int) (hx0 : 0 ≤ x) (hx : x < 4294967296) (hy0 : 0 ≤ y) (hy : y < 4294967296) : bits BinOp.or IntKind.u64 (y * 4294967296) x = y * 4294967296 + x := by
  have e : (2 : Int) ^ 64 = 18446744073709551616 := by decide
  have e' : (2 : Int) ^ 32 = 4294967296 := by decide
  exact bits_join .u64 64 (by decide) wraps_u64 32 _ _ (by omega) (by rw [e']; omega) (by rw [e]; omega) hx0 (by rw [e']; exact hx) (by rw [e]; omega)
theorem w64neg (m : Int) (h0 : 0 ≤ m) (h : m ≤ 9223372036854775808) : wrap64 (-wrap64 m) = -m := by
  rcases Int.lt_or_le m 9223372036854775808 with h1 | h1
  · rw [IntWalk.wrap64_in m (by omega), IntWalk.wrap64_in (-m) (by omega)]
  · have e : m = 9223372036854775808 := by omega
    have e1 : wrap64 9223372036854775808 = -9223372036854775808 := by unfold wrap64; decide
    rw [e, e1]
    show wrap64 9223372036854775808 = -9223372036854775808
    exact e1
def smallB (z : Int) : Bool := decide (-9223372036854775808 ≤ z ∧ z ≤ 9223372036854775807)
def smallV (z : Int) : Int := if -9223372036854775808 ≤ z ∧ z ≤ 9223372036854775807 then z else 0
theorem add_step {P a b c s l m r : Nat} (h : r + P * c = l + m) (hs : s = a + b + c) :
    r + P * (s % 4294967296) + P * 4294967296 * (s / 4294967296) = (l + P * a) + (m + P * b) := by
  have e : P * (s % 4294967296) + P * 4294967296 * (s / 4294967296) = P * s := by
    rw [Nat.mul_assoc, ← Nat.mul_add, Nat.mod_add_div]
  rw [Nat.add_assoc, e, hs, Nat.mul_add, Nat.mul_add]
  omega
def bor (x y c : Int) : Int := if x < y + c then 1 else 0
theorem bor_range (x y c : Int) : 0 ≤ bor x y c ∧ bor x y c ≤ 1 := by unfold bor; split <;> omega
theorem bv_cast (v : BitVec 32) : IntKind.u32.wrap (v.toNat : Int) = v.toNat := IntWalk.u32_in _ (by have := v.isLt; omega)
theorem bits_and32 (a b : Int) : bits BinOp.and IntKind.u32 a b = ((BitVec.ofInt 32 a &&& BitVec.ofInt 32 b).toNat : Int) := bv_cast _
theorem bits_or32 (a b : Int) : bits BinOp.or IntKind.u32 a b = ((BitVec.ofInt 32 a ||| BitVec.ofInt 32 b).toNat : Int) := bv_cast _
theorem bits_xor32 (a b : Int) : bits BinOp.xor IntKind.u32 a b = ((BitVec.ofInt 32 a ^^^ BitVec.ofInt 32 b).toNat : Int) := bv_cast _
theorem ofInt_toNat (v : BitVec 32) : BitVec.ofInt 32 (v.toNat : Int) = v := by rw [BitVec.ofInt_natCast, BitVec.ofNat_toNat, BitVec.setWidth_eq]
theorem top_bit (v : BitVec 32) : v.toNat / 2147483648 = if v.msb = true then 1 else 0 := by
  have := v.isLt
  rw [BitVec.msb_eq_decide]
  split <;> rename_i h <;> simp at h <;> omega
theorem ofInt_nat32 (x : Int) (h0 : 0 ≤ x) (h1 : x < 4294967296) : ((BitVec.ofInt 32 x).toNat : Int) = x := by
  rw [BitVec.toNat_ofInt]; omega
theorem sub32_bits (x y c : Int) (hx : 0 ≤ x) (hx' : x < 4294967296) (hy : 0 ≤ y) (hy' : y < 4294967296) (hc : 0 ≤ c) (hc' : c ≤ 1) :
    bits BinOp.or IntKind.u32 (bits BinOp.and IntKind.u32 (bits BinOp.xor IntKind.u32 IntKind.u32.max x) y)
      (bits BinOp.and IntKind.u32 (bits BinOp.xor IntKind.u32 IntKind.u32.max (bits BinOp.xor IntKind.u32 x y)) ((x - y - c) % 4294967296)) / 2147483648 = bor x y c := by
  simp only [bits_and32, bits_or32, bits_xor32, ofInt_toNat]
  have hmax : BitVec.ofInt 32 IntKind.u32.max = BitVec.allOnes 32 := by decide
  rw [hmax, BitVec.allOnes_xor, BitVec.allOnes_xor]
  have e : ∀ v : BitVec 32, ((v.toNat : Int)) / 2147483648 = ((v.toNat / 2147483648 : Nat) : Int) := fun v => by omega
  rw [e, top_bit]
  have hX := ofInt_nat32 x hx hx'
  have hY := ofInt_nat32 y hy hy'
  have hD := ofInt_nat32 ((x - y - c) % 4294967296) (by omega) (by omega)
  generalize BitVec.ofInt 32 x = X at *
  generalize BitVec.ofInt 32 y = Y at *
  generalize BitVec.ofInt 32 ((x - y - c) % 4294967296) = D at *
  simp only [BitVec.msb_or, BitVec.msb_and, BitVec.msb_not, BitVec.msb_xor]
  have mX := BitVec.msb_eq_decide X
  have mY := BitVec.msb_eq_decide Y
  have mD := BitVec.msb_eq_decide D
  unfold bor
  cases hx1 : X.msb <;> cases hy1 : Y.msb <;> cases hd1 : D.msb <;> rw [hx1] at mX <;> rw [hy1] at mY <;> rw [hd1] at mD <;> simp at mX mY mD ⊢ <;> omega
theorem sub_step {P a b c r l m d t : Nat} (h : r + m = l + P * c) (hs : d + b + c = a + 4294967296 * t) :
    r + P * d + (m + P * b) = l + P * a + P * 4294967296 * t := by
  have e : P * d + P * b + P * c = P * a + P * 4294967296 * t := by
    rw [← Nat.mul_add, ← Nat.mul_add, hs, Nat.mul_add, Nat.mul_assoc]
  omega
theorem dl_neg (x : Int) : dl (-x).natAbs = dl x.natAbs := by rw [Int.natAbs_neg]
theorem mul_step {P Q c xy o t r' k lr lm : Nat} (h : lr + P * Q * c = k + lm) (ht : t = c + (xy + o)) (hs : r' + P * Q * o = lr + P * Q * (t % 4294967296)) :
    r' + P * (Q * 4294967296) * (t / 4294967296) = k + (lm + P * (Q * xy)) := by
  have e : P * Q * (t % 4294967296) + P * (Q * 4294967296) * (t / 4294967296) = P * Q * t := by
    rw [← Nat.mul_assoc P Q 4294967296, Nat.mul_assoc (P * Q) 4294967296, ← Nat.mul_add, Nat.mod_add_div]
  have e2 : P * Q * t = P * Q * c + (P * Q * xy + P * Q * o) := by rw [ht, Nat.mul_add, Nat.mul_add]
  have e3 : P * (Q * xy) = P * Q * xy := by rw [Nat.mul_assoc]
  omega
theorem mulb (x y c o : Nat) (hx : x < 4294967296) (hy : y < 4294967296) (hc : c < 4294967296) (ho : o < 4294967296) : c + (x * y + o) < 18446744073709551616 := by
  have : x * y ≤ 4294967295 * 4294967295 := Nat.mul_le_mul (by omega) (by omega)
  omega
theorem lv_drop (l : List Nat) (i : Nat) : lv (l.drop i) = at0 l i + 4294967296 * lv (l.drop (i + 1)) := by
  by_cases h : i < l.length
  · rw [List.drop_eq_getElem_cons h, lv_cons]
    unfold at0; rw [List.getD_eq_getElem?_getD, List.getElem?_eq_getElem h]; rfl
  · rw [at0_beyond (by omega), List.drop_eq_nil_of_le (by omega), List.drop_eq_nil_of_le (by omega)]; rfl
theorem drop_set_lt (l : List Nat) (i x k : Nat) (h : i < k) : (l.set i x).drop k = l.drop k := by
  induction l generalizing i k with
  | nil => simp
  | cons y l ih =>
    cases k with
    | zero => omega
    | succ k =>
      cases i with
      | zero => simp
      | succ i => simp only [List.set_cons_succ, List.drop_succ_cons, ih i k (by omega)]
theorem lv_drop_set {l : List Nat} {i : Nat} (x : Nat) (h : i < l.length) : lv ((l.set i x).drop i) = x + 4294967296 * lv (l.drop (i + 1)) := by
  rw [lv_drop, at0_set h, if_pos rfl, drop_set_lt _ _ _ _ (by omega)]
theorem wraps_u32 (n : Int) (h₀ : 0 ≤ n) (h₁ : n < 2 ^ 32) : IntKind.u32.wrap n = n := by
  have : (2 : Int) ^ 32 = 4294967296 := by decide
  exact IntWalk.u32_in n (by omega)
theorem bits_or_u32 (a b j : Nat) (hj : j ≤ 32) (ha : a < 2 ^ j) (hb : b % 2 ^ j = 0) (hb' : b < 4294967296) : bits BinOp.or IntKind.u32 (a : Int) (b : Int) = ((a + b : Nat) : Int) := by
  have e32 : (2 : Nat) ^ 32 = 4294967296 := by decide
  have ha' : a < 2 ^ 32 := Nat.lt_of_lt_of_le ha (Nat.pow_le_pow_right (by decide) hj)
  rw [(bits_nat .u32 32 (by decide) wraps_u32 a b ha' (by omega)).2]
  have hq : b = 2 ^ j * (b / 2 ^ j) := by have := Nat.div_add_mod b (2 ^ j); omega
  congr 1
  rw [Nat.or_comm]
  conv => lhs; rw [hq]
  rw [← Nat.two_pow_add_eq_or_of_lt ha (b / 2 ^ j), ← hq, Nat.add_comm]
theorem bitLen_bounds : ∀ (f x : Nat), x < 2 ^ f → x ≠ 0 → x < 2 ^ 64 → 2 ^ (Lib.bitLen x - 1) ≤ x ∧ x < 2 ^ Lib.bitLen x ∧ 1 ≤ Lib.bitLen x := by
  intro f
  induction f with
  | zero => intro x hx h0; simp at hx; omega
  | succ f ih =>
    intro x hx h0 h64
    rw [Lib.bitLen_half x h0 h64]
    by_cases h1 : x / 2 = 0
    · have : x = 1 := by omega
      subst this
      decide
    · obtain ⟨a, b, c⟩ := ih (x / 2) (by rw [Nat.pow_succ] at hx; omega) h1 (by omega)
      generalize Lib.bitLen (x / 2) = n at *
      obtain ⟨n, rfl⟩ : ∃ m, n = m + 1 := ⟨n - 1, by omega⟩
      rw [show 1 + (n + 1) - 1 = n + 1 from by omega, show 1 + (n + 1) = n + 1 + 1 from by omega]
      rw [Nat.add_sub_cancel] at a
      refine ⟨?_, ?_, by omega⟩
      · rw [Nat.pow_succ]; omega
      · rw [Nat.pow_succ]; omega
def qN (l m : List Nat) : Nat := lv l / lv m
def rN (l m : List Nat) : Nat := lv l % lv m
def sgn (t : Bool) (z : Int) : Int := if t = true then -z else z
def qM (l m : List Nat) : Nat := if rN l m = 0 then qN l m else qN l m + 1
def rM (l m : List Nat) : Nat := if rN l m = 0 then 0 else lv m - rN l m
theorem ediv_of {a b q r : Int} (hb : 0 < b) (h : r + b * q = a) (h0 : 0 ≤ r) (h1 : r < b) : a / b = q ∧ a % b = r := (Int.ediv_emod_unique hb).2 ⟨h, h0, h1⟩
theorem dm_math (s t : Bool) (l m : List Nat) (hm : 0 < lv m) :
    (s = false → sv s l / sv t m = sgn t (qN l m) ∧ sv s l % sv t m = rN l m) ∧ (s = true → sv s l / sv t m = sgn (!t) (qM l m) ∧ sv s l % sv t m = rM l m) := by
  have hd : lv l = lv m * qN l m + rN l m := (Nat.div_add_mod (lv l) (lv m)).symm
  have hr : rN l m < lv m := Nat.mod_lt _ hm
  have pos : (lv l : Int) / lv m = qN l m ∧ (lv l : Int) % lv m = rN l m := ⟨by unfold qN; simp, by unfold rN; simp⟩
  have neg : (-(lv l : Int)) / lv m = -(qM l m : Int) ∧ (-(lv l : Int)) % lv m = rM l m := by
    apply ediv_of (by omega)
    · unfold qM rM
      have e : ((lv l : Nat) : Int) = lv m * qN l m + rN l m := by rw [← Int.natCast_mul, ← Int.natCast_add, ← hd]
      split
      · rename_i h0; rw [e, h0]; simp [Int.mul_neg]
      · rw [e, Int.natCast_sub (by omega), Int.natCast_add, Int.mul_neg, Int.mul_add]; simp; omega
    · omega
    · unfold rM; split <;> omega
  refine ⟨fun hs => ?_, fun hs => ?_⟩
  · subst hs
    cases t
    · rw [sv_false, sv_false]; exact pos
    · rw [sv_false, sv_true, Int.ediv_neg, Int.emod_neg, pos.1, pos.2]; exact ⟨rfl, rfl⟩
  · subst hs
    cases t
    · rw [sv_true, sv_false]; exact neg
    · rw [sv_true, sv_true, Int.ediv_neg, Int.emod_neg, neg.1, neg.2]; exact ⟨by simp [sgn], rfl⟩
def pw (x : Int) (k : Nat) : Int := x ^ k
theorem dl_pw (x : Int) (k : Nat) (hk : 0 < k) : dl (pw x k).natAbs ≤ k * dl x.natAbs := by
  unfold pw
  induction k with
  | zero => omega
  | succ k ih =>
    rcases Nat.eq_zero_or_pos k with rfl | h
    · simp
    · rw [Int.pow_succ, Int.natAbs_mul]
      have h1 := ih h
      have h2 := dl_mul (x ^ k).natAbs x.natAbs
      rw [Nat.add_mul]; omega
theorem dl_pw1 (x : Int) (k : Nat) : dl (pw x k).natAbs ≤ k * dl x.natAbs + 1 := by
  rcases Nat.eq_zero_or_pos k with rfl | h
  · have : dl (pw x 0).natAbs = 1 := by unfold pw; simp; decide
    omega
  · have := dl_pw x k h; omega
theorem wraps_i64 (n : Int) (h₀ : 0 ≤ n) (h₁ : n < 2 ^ 63) : IntKind.i64.wrap n = n := by
  have : (2 : Int) ^ 63 = 9223372036854775808 := by decide
  exact IntWalk.i64_in n (by omega)
theorem and_one (n i : Nat) (hn : n ≤ 256) : bits BinOp.and IntKind.i64 ((n : Int) / 2 ^ i) 1 = ((n / 2 ^ i % 2 : Nat) : Int) := by
  have e : (n : Int) / 2 ^ i = ((n / 2 ^ i : Nat) : Int) := by simp
  have h := Nat.div_le_self n (2 ^ i)
  rw [e]
  generalize n / 2 ^ i = m at *
  have e63 : (2 : Int) ^ 63 = 9223372036854775808 := by decide
  have := bits_mask .i64 63 (by decide) wraps_i64 1 (by decide) (m : Int) (by omega) (by omega)
  rw [show (2 : Int) ^ 1 - 1 = 1 from by decide, show (2 : Int) ^ 1 = 2 from by decide] at this
  rw [this]; omega
theorem bitLen_lt (n : Nat) (hn : n ≤ 256) : n < 2 ^ Lib.bitLen n ∧ Lib.bitLen n ≤ 9 := by
  rcases Nat.eq_zero_or_pos n with rfl | h
  · decide
  · have e64 : (2 : Nat) ^ 64 = 18446744073709551616 := by decide
    obtain ⟨a, b, c⟩ := bitLen_bounds 64 n (by omega) (by omega) (by omega)
    refine ⟨b, ?_⟩
    rcases Nat.lt_or_ge 9 (Lib.bitLen n) with h | h
    · have h2 : 2 ^ 9 ≤ 2 ^ (Lib.bitLen n - 1) := Nat.pow_le_pow_right (by decide) (by omega)
      have e9 : (2 : Nat) ^ 9 = 512 := by decide
      omega
    · exact h
theorem pw_sq (x : Int) (i : Nat) : pw x (2 ^ i) * pw x (2 ^ i) = pw x (2 ^ (i + 1)) := by
  unfold pw; rw [← Int.pow_add, Nat.pow_succ, Nat.mul_two]
theorem pw_bit0 (x : Int) (n i : Nat) (h : n / 2 ^ i % 2 = 0) : pw x (n % 2 ^ (i + 1)) = pw x (n % 2 ^ i) := by
  rw [Nat.pow_succ, Nat.mod_mul, h, Nat.mul_zero, Nat.add_zero]
theorem pw_bit1 (x : Int) (n i : Nat) (h : n / 2 ^ i % 2 = 1) : pw x (n % 2 ^ (i + 1)) = pw x (n % 2 ^ i) * pw x (2 ^ i) := by
  rw [Nat.pow_succ, Nat.mod_mul, h, Nat.mul_one]; unfold pw; rw [Int.pow_add]
def val10 (l : List UInt8) : Nat := l.foldl (fun a c => a * 10 + (c.toNat - 48)) 0
def isDig (c : UInt8) : Bool := decide (48 ≤ c.toNat ∧ c.toNat ≤ 57)
def digs (l : List UInt8) : Bool := l.all isDig
def bat (l : List UInt8) (j : Nat) : Nat := (l.getD j 0).toNat
def rdZ (neg : Bool) (l : List UInt8) : Int := if digs l = true then sgn neg (val10 l) else 0
def rdE (l : List UInt8) : Int := if digs l = true then 0 else 4
theorem sizeL (s : ByteArray) : s.size = s.data.toList.length := by simp only [Array.length_toList]; rfl
theorem toListL (s : ByteArray) : s.toList = s.data.toList := ByteArray.toList_eq s
theorem emptyL (s : ByteArray) (h : 0 < s.size) : s.toList.isEmpty = false := by
  rw [toListL]; rw [sizeL] at h
  cases hd : s.data.toList with
  | nil => rw [hd] at h; simp at h
  | cons a b => rfl
theorem val10_take (l : List UInt8) (i : Nat) (h : i < l.length) : val10 (l.take (i + 1)) = val10 (l.take i) * 10 + (bat l i - 48) := by
  rw [List.take_succ_eq_append_getElem h]
  unfold val10 bat
  rw [List.foldl_append, List.getD_eq_getElem?_getD, List.getElem?_eq_getElem h]; rfl
theorem digs_take_succ (l : List UInt8) (i : Nat) (h : i < l.length) : digs (l.take (i + 1)) = (digs (l.take i) && decide (48 ≤ bat l i ∧ bat l i ≤ 57)) := by
  rw [List.take_succ_eq_append_getElem h]
  unfold digs bat isDig
  rw [List.all_append, List.getD_eq_getElem?_getD, List.getElem?_eq_getElem h]; simp
theorem digs_of_bad (l : List UInt8) (i : Nat) (h : i < l.length) (hb : ¬ (48 ≤ bat l i ∧ bat l i ≤ 57)) : digs l = false := by
  have := digs_take_succ l i h
  rw [show decide (48 ≤ bat l i ∧ bat l i ≤ 57) = false from by simpa using hb, Bool.and_false] at this
  have e : digs l = (digs (l.take (i + 1)) && digs (l.drop (i + 1))) := by unfold digs; rw [← List.all_append, List.take_append_drop]
  rw [e, this]; rfl
theorem val10_lt (l : List UInt8) (h : digs l = true) : val10 l < 10 ^ l.length := by
  have key : ∀ (l : List UInt8) (a : Nat), digs l = true → l.foldl (fun a c => a * 10 + (c.toNat - 48)) a < (a + 1) * 10 ^ l.length := by
    intro l
    induction l with
    | nil => intro a _; simp
    | cons c l ih =>
      intro a hd
      unfold digs at hd
      rw [List.all_cons, Bool.and_eq_true] at hd
      have hc := hd.1
      unfold isDig at hc
      simp only [decide_eq_true_eq] at hc
      rw [List.foldl_cons, List.length_cons, Nat.pow_succ]
      have := ih (a * 10 + (c.toNat - 48)) hd.2
      have h2 : (a * 10 + (c.toNat - 48) + 1) * 10 ^ l.length ≤ (a + 1) * 10 * 10 ^ l.length := Nat.mul_le_mul_right _ (by omega)
      rw [Nat.mul_comm (10 ^ l.length) 10, ← Nat.mul_assoc]
      omega
  have := key l 0 h
  simpa [val10] using this
theorem ten_pow (n : Nat) : 10 ^ n ≤ 4294967296 ^ (n / 9 + 1) := by
  have h1 : 10 ^ n ≤ 10 ^ (9 * (n / 9 + 1)) := Nat.pow_le_pow_right (by decide) (by omega)
  have h2 : (10 : Nat) ^ (9 * (n / 9 + 1)) = (10 ^ 9) ^ (n / 9 + 1) := Nat.pow_mul 10 9 _
  have h3 : ((10 : Nat) ^ 9) ^ (n / 9 + 1) ≤ 4294967296 ^ (n / 9 + 1) := Nat.pow_le_pow_left (by decide) _
  omega
theorem ten_step {P c x t r r' : Nat} {L : Nat} (h : r + P * c = L) (ht : t = c + x * 10) (hs : r' + P * x = r + P * (t % 4294967296)) :
    r' + P * 4294967296 * (t / 4294967296) = L + P * x * 9 := by
  have e : P * (t % 4294967296) + P * 4294967296 * (t / 4294967296) = P * t := by
    rw [Nat.mul_assoc, ← Nat.mul_add, Nat.mod_add_div]
  have e2 : P * t = P * c + P * x * 10 := by rw [ht, Nat.mul_add, Nat.mul_assoc P x 10]
  omega
theorem sv_inj {s t : Bool} {l m : List Nat} (hl : Canon l) (hm : Canon m) (hs : s = true → l ≠ []) (ht : t = true → m ≠ []) : sv s l = sv t m ↔ s = t ∧ lv l = lv m := by
  constructor
  · intro h
    refine ⟨?_, by rw [← sv_natAbs s l, h, sv_natAbs]⟩
    rw [sv_neg_iff hl hs, sv_neg_iff hm ht, h]
  · rintro ⟨rfl, h⟩
    unfold sv; rw [h]
theorem txt_sv {s : Bool} {l : List Nat} (hl : Canon l) (h0 : l ≠ []) : txt (sv s l) = (if s = true then [45] else []) ++ dec (lv l) := by
  have hp := lv_pos hl h0
  unfold txt
  rw [sv_natAbs]
  cases s
  · rw [sv_false, if_neg (by omega), if_neg (by omega)]; rfl
  · rw [sv_true, if_neg (by omega), if_pos (by omega)]; rfl
end Go.Proofs.YtfbogelmgdojgaaGreat

/- Limbs of a given length. No program in sight. -/
namespace Go.Proofs.YtfbogelmgdojgaaGreat
set_option linter.unusedSimpArgs false
set_option linter.unusedVariables false
open Go.RowKit

/-- The lowest limbs of a number. -/
def nl : Nat → Nat → List Nat
  | 0, _ => []
  | n + 1, v => v % 4294967296 :: nl n (v / 4294967296)
theorem nl_length (n v : Nat) : (nl n v).length = n := by
  induction n generalizing v with
  | zero => rfl
  | succ n ih => simp [nl, ih]
theorem nl_lim (n v : Nat) : Lim (nl n v) := by
  induction n generalizing v with
  | zero => exact Lim.nil
  | succ n ih => exact Lim.cons (Nat.mod_lt _ (by decide)) (ih _)
theorem lv_nl (n v : Nat) (h : v < 4294967296 ^ n) : lv (nl n v) = v := by
  induction n generalizing v with
  | zero => simp at h; subst h; rfl
  | succ n ih =>
    rw [nl, lv_cons, ih _ (by rw [Nat.pow_succ] at h; exact Nat.div_lt_of_lt_mul (by rw [Nat.mul_comm]; exact h))]
    omega
theorem nl_of {l : List Nat} {n v : Nat} (h : Lim l) (hn : l.length = n) (hv : lv l = v) : l = nl n v := by
  induction l generalizing n v with
  | nil => subst hn; rfl
  | cons x l ih =>
    cases n with
    | zero => simp at hn
    | succ n =>
      rw [lv_cons] at hv
      have hx := h.head
      rw [nl, ← ih h.tail (by simpa using hn) (v := v / 4294967296) (by omega)]
      congr 1
      omega
theorem pow_pos' (n : Nat) : 0 < 4294967296 ^ n := Nat.pow_pos (by decide)
theorem pow_le' {m n : Nat} (h : m ≤ n) : 4294967296 ^ m ≤ 4294967296 ^ n := Nat.pow_le_pow_right (by decide) h
theorem lv_lt_le {l : List Nat} (h : Lim l) {n : Nat} (hn : l.length ≤ n) : lv l < 4294967296 ^ n := Nat.lt_of_lt_of_le (lv_lt h) (pow_le' hn)
theorem sum_lt {l m : List Nat} (hl : Lim l) (hm : Lim m) {n : Nat} (h1 : l.length ≤ n) (h2 : m.length ≤ n) : lv l + lv m < 4294967296 ^ (n + 1) := by
  have := lv_lt_le hl h1
  have := lv_lt_le hm h2
  rw [Nat.pow_succ]; omega
theorem prod_lt {l m : List Nat} (hl : Lim l) (hm : Lim m) : lv l * lv m < 4294967296 ^ (l.length + m.length) := by
  rw [Nat.pow_add]
  exact Nat.mul_lt_mul'' (lv_lt hl) (lv_lt hm)
end Go.Proofs.YtfbogelmgdojgaaGreat

/- Contracts by the shape of the arguments. -/
namespace Go.Proofs.YtfbogelmgdojgaaGreat
set_option linter.unusedSimpArgs false
set_option linter.unusedVariables false
open Go.RowKit

@[go_sem] theorem out_refl (y : V) : OutEq y y = True := by simp [OutEq.refl]
@[go_sem ↓, go_sem] theorem map_some {α β : Type} (f : α → β) (x : α) : Option.map f (some x) = some (f x) := rfl
@[go_sem ↓, go_sem] theorem map_none {α β : Type} (f : α → β) : Option.map f none = none := rfl
@[go_sem ↓, go_sem] theorem bind_some {α β : Type} (f : α → Option β) (x : α) : Option.bind (some x) f = f x := rfl
@[go_sem ↓, go_sem] theorem bind_none {α β : Type} (f : α → Option β) : Option.bind none f = none := rfl
theorem out_II {a b : Int} (h : a = b) : OutEq (.I a) (.I b) := .inl (by rw [h])
structure Pat (α : Type) where
  p : V → Option (Prop × α)
  val : α → V
  ok : ∀ x c a, p x = some (c, a) → c → OutEq x (val a)
def con0 {R : Type} (f : Prop × R) : List V → Option (Prop × R)
  | [] => some f
  | _ => none
def con1 {R : Type} {α : Type} (A : Pat α) (f : α → Prop × R) : List V → Option (Prop × R)
  | [x] => (A.p x).map fun a => (a.1 ∧ (f a.2).1, (f a.2).2)
  | _ => none
def con2 {R : Type} {α β : Type} (A : Pat α) (B : Pat β) (f : α → β → Prop × R) : List V → Option (Prop × R)
  | [x, y] => (A.p x).bind fun a => (B.p y).map fun b => (a.1 ∧ b.1 ∧ (f a.2 b.2).1, (f a.2 b.2).2)
  | _ => none
def con3 {R : Type} {α β γ : Type} (A : Pat α) (B : Pat β) (C : Pat γ) (f : α → β → γ → Prop × R) : List V → Option (Prop × R)
  | [x, y, z] => (A.p x).bind fun a => (B.p y).bind fun b => (C.p z).map fun c => (a.1 ∧ b.1 ∧ c.1 ∧ (f a.2 b.2 c.2).1, (f a.2 b.2 c.2).2)
  | _ => none
def con4 {R : Type} {α β γ δ : Type} (A : Pat α) (B : Pat β) (C : Pat γ) (D : Pat δ) (f : α → β → γ → δ → Prop × R) : List V → Option (Prop × R)
  | [x, y, z, u] => (A.p x).bind fun a => (B.p y).bind fun b => (C.p z).bind fun c => (D.p u).map fun d => (a.1 ∧ b.1 ∧ c.1 ∧ d.1 ∧ (f a.2 b.2 c.2 d.2).1, (f a.2 b.2 c.2 d.2).2)
  | _ => none
@[go_sem ↓, go_sem] theorem ev_con0 {R : Type} {f : Prop × R} : con0 f [] = some f := rfl
@[go_sem ↓, go_sem] theorem ev_con1 {R : Type} {α : Type} {A : Pat α} {f : α → Prop × R} {x : V} : con1 A f [x] = (A.p x).map fun a => (a.1 ∧ (f a.2).1, (f a.2).2) := rfl
@[go_sem ↓, go_sem] theorem ev_con2 {R : Type} {α β : Type} {A : Pat α} {B : Pat β} {f : α → β → Prop × R} {x y : V} : con2 A B f [x, y] = (A.p x).bind fun a => (B.p y).map fun b => (a.1 ∧ b.1 ∧ (f a.2 b.2).1, (f a.2 b.2).2) := rfl
@[go_sem ↓, go_sem] theorem ev_con3 {R : Type} {α β γ : Type} {A : Pat α} {B : Pat β} {C : Pat γ} {f : α → β → γ → Prop × R} {x y z : V} : con3 A B C f [x, y, z] = (A.p x).bind fun a => (B.p y).bind fun b => (C.p z).map fun c => (a.1 ∧ b.1 ∧ c.1 ∧ (f a.2 b.2 c.2).1, (f a.2 b.2 c.2).2) := rfl
@[go_sem ↓, go_sem] theorem ev_con4 {R : Type} {α β γ δ : Type} {A : Pat α} {B : Pat β} {C : Pat γ} {D : Pat δ} {f : α → β → γ → δ → Prop × R} {x y z u : V} : con4 A B C D f [x, y, z, u] = (A.p x).bind fun a => (B.p y).bind fun b => (C.p z).bind fun c => (D.p u).map fun d => (a.1 ∧ b.1 ∧ c.1 ∧ d.1 ∧ (f a.2 b.2 c.2 d.2).1, (f a.2 b.2 c.2 d.2).2) := rfl
section
variable {P : Program} {g : FuncId} {α β γ δ : Type} {A : Pat α} {B : Pat β} {C : Pat γ} {D : Pat δ}
theorem Ctr.c0 {f : Prop × V} (hc : callable P g = true) (h : f.1 → PCall P g [] f.2) : Ctr P g (con0 f) := ⟨hc, fun args p r e hp => by
  unfold con0 at e
  split at e
  · injection e with e; subst e; exact h hp
  · cases e⟩
theorem Ctr.c1 {f : α → Prop × V} (hc : callable P g = true) (h : ∀ a, (f a).1 → PCall P g [A.val a] (f a).2) : Ctr P g (con1 A f) := ⟨hc, fun args p r e hp => by
  unfold con1 at e
  split at e
  · rename_i x
    rcases ha : A.p x with _ | ⟨c, a⟩ <;> rw [ha] at e
    · cases e
    · injection e with e; injection e with e1 e2; subst e1 e2
      exact (h a hp.2).le ⟨A.ok _ _ _ ha hp.1, trivial⟩
  · cases e⟩
theorem Ctr.c2 {f : α → β → Prop × V} (hc : callable P g = true) (h : ∀ a b, (f a b).1 → PCall P g [A.val a, B.val b] (f a b).2) : Ctr P g (con2 A B f) := ⟨hc, fun args p r e hp => by
  unfold con2 at e
  split at e
  · rename_i x y
    rcases ha : A.p x with _ | ⟨c, a⟩ <;> rw [ha] at e
    · cases e
    · rcases hb : B.p y with _ | ⟨d, b⟩ <;> simp only [hb, bind_some] at e
      · cases e
      · injection e with e; injection e with e1 e2; subst e1 e2
        exact (h a b hp.2.2).le ⟨A.ok _ _ _ ha hp.1, B.ok _ _ _ hb hp.2.1, trivial⟩
  · cases e⟩
theorem Ctr.c3 {f : α → β → γ → Prop × V} (hc : callable P g = true) (h : ∀ a b c, (f a b c).1 → PCall P g [A.val a, B.val b, C.val c] (f a b c).2) : Ctr P g (con3 A B C f) := ⟨hc, fun args p r e hp => by
  unfold con3 at e
  split at e
  · rename_i x y z
    rcases ha : A.p x with _ | ⟨c, a⟩ <;> rw [ha] at e
    · cases e
    · rcases hb : B.p y with _ | ⟨d, b⟩ <;> simp only [hb, bind_some] at e
      · cases e
      · rcases hz : C.p z with _ | ⟨q, t⟩ <;> simp only [hz] at e
        · cases e
        · injection e with e; injection e with e1 e2; subst e1 e2
          exact (h a b t hp.2.2.2).le ⟨A.ok _ _ _ ha hp.1, B.ok _ _ _ hb hp.2.1, C.ok _ _ _ hz hp.2.2.1, trivial⟩
  · cases e⟩
theorem Ctr.c4 {f : α → β → γ → δ → Prop × V} (hc : callable P g = true) (h : ∀ a b c d, (f a b c d).1 → PCall P g [A.val a, B.val b, C.val c, D.val d] (f a b c d).2) : Ctr P g (con4 A B C D f) := ⟨hc, fun args p r e hp => by
  unfold con4 at e
  split at e
  · rename_i x y z u
    rcases ha : A.p x with _ | ⟨c, a⟩ <;> rw [ha] at e
    · cases e
    · rcases hb : B.p y with _ | ⟨d, b⟩ <;> simp only [hb, bind_some] at e
      · cases e
      · rcases hz : C.p z with _ | ⟨q, t⟩ <;> simp only [hz, bind_some] at e
        · cases e
        · rcases hu : D.p u with _ | ⟨q', t'⟩ <;> simp only [hu] at e
          · cases e
          · injection e with e; injection e with e1 e2; subst e1 e2
            exact (h a b t t' hp.2.2.2.2).le ⟨A.ok _ _ _ ha hp.1, B.ok _ _ _ hb hp.2.1, C.ok _ _ _ hz hp.2.2.1, D.ok _ _ _ hu hp.2.2.2.1, trivial⟩
  · cases e⟩
theorem FCtr.c1 {f : α → Prop × FRes} (hc : callable P g = true) (h : ∀ a, (f a).1 → FCall P g [A.val a] (f a).2) : FCtr P g (con1 A f) := ⟨hc, fun args p r e hp => by
  unfold con1 at e
  split at e
  · rename_i x
    rcases ha : A.p x with _ | ⟨c, a⟩ <;> rw [ha] at e
    · cases e
    · injection e with e; injection e with e1 e2; subst e1 e2
      exact (h a hp.2).le ⟨A.ok _ _ _ ha hp.1, trivial⟩
  · cases e⟩
theorem FCtr.c2 {f : α → β → Prop × FRes} (hc : callable P g = true) (h : ∀ a b, (f a b).1 → FCall P g [A.val a, B.val b] (f a b).2) : FCtr P g (con2 A B f) := ⟨hc, fun args p r e hp => by
  unfold con2 at e
  split at e
  · rename_i x y
    rcases ha : A.p x with _ | ⟨c, a⟩ <;> rw [ha] at e
    · cases e
    · rcases hb : B.p y with _ | ⟨d, b⟩ <;> simp only [hb, bind_some] at e
      · cases e
      · injection e with e; injection e with e1 e2; subst e1 e2
        exact (h a b hp.2.2).le ⟨A.ok _ _ _ ha hp.1, B.ok _ _ _ hb hp.2.1, trivial⟩
  · cases e⟩
end
/- The shapes. -/
/-- The numbers of a row of limbs. -/
def unlimb : List V → Option (List Nat)
  | [] => some []
  | .raw (.int .u32 x) :: l => if 0 ≤ x then (unlimb l).map (x.toNat :: ·) else none
  | _ => none
theorem unlimb_ok : ∀ (l : List V) (m : List Nat), unlimb l = some m → l = V.limbs m
  | [], m, h => by injection h with h; subst h; rfl
  | .raw (.int .u32 x) :: l, m, h => by
    unfold unlimb at h
    split at h
    · rename_i hx
      rcases hm : unlimb l with _ | m' <;> rw [hm] at h
      · cases h
      · injection h with h
        subst h
        rw [unlimb_ok l m' hm]
        simp only [V.limbs, List.map_cons]
        rw [show ((x.toNat : Nat) : Int) = x from by omega]
    · cases h
@[go_sem] theorem unlimb_limbs (l : List Nat) : unlimb (V.limbs l) = some l := by
  induction l with
  | nil => rfl
  | cons x l ih =>
    simp only [V.limbs, List.map_cons] at ih ⊢
    unfold unlimb
    rw [if_pos (by omega), ih]
    simp
@[go_sem] theorem unlimb_nil : unlimb [] = some [] := rfl
/-- An integer. -/
def pI : Pat Int where
  p
    | .I z => some (True, z)
    | .agg [.raw (.bool false), .raw (.slice none 0 0)] => some (True, 0)
    | .agg [.raw (.bool false), .emp] => some (True, 0)
    | .agg [.raw (.bool s), .lst l] => (unlimb l).map fun m => (Canon m ∧ (s = true → m ≠ []), sv s m)
    | _ => none
  val := .I
  ok x c a h hc := by
    split at h
    · injection h with h; injection h with h1 h2; subst h2; exact .refl _
    · injection h with h; injection h with h1 h2; subst h2; exact out_In rfl
    · injection h with h; injection h with h1 h2; subst h2; exact out_I0 rfl
    · rename_i s l
      rcases hm : unlimb l with _ | m <;> rw [hm] at h
      · cases h
      · injection h with h; injection h with h1 h2; subst h1 h2
        rw [unlimb_ok l m hm]
        exact out_I hc.1 hc.2 rfl
    · cases h
@[go_sem ↓, go_sem] theorem ev_pI {z : Int} : pI.p (.I z) = some (True, z) := rfl
@[go_sem ↓, go_sem] theorem ev_pI_nil : pI.p (.agg [.raw (.bool false), .raw (.slice none 0 0)]) = some (True, 0) := rfl
@[go_sem ↓, go_sem] theorem ev_pI_emp : pI.p (.agg [.raw (.bool false), .emp]) = some (True, 0) := rfl
@[go_sem ↓, go_sem] theorem ev_pI_lst {s : Bool} {l : List V} : pI.p (.agg [.raw (.bool s), .lst l]) = (unlimb l).map fun m => (Canon m ∧ (s = true → m ≠ []), sv s m) := by
  cases s <;> rfl
@[go_sem ↓, go_sem] theorem ev_pI_mk {z : Int} : pI.val z = .I z := rfl
/-- Limbs. -/
def pL : Pat (List Nat) where
  p
    | .lst l => (unlimb l).map fun m => (True, m)
    | .raw (.slice none 0 0) => some (True, [])
    | .emp => some (True, [])
    | _ => none
  val l := .lst (V.limbs l)
  ok x c a h hc := by
    split at h
    · rename_i l
      rcases hm : unlimb l with _ | m <;> rw [hm] at h
      · cases h
      · injection h with h; injection h with h1 h2; subst h2
        rw [unlimb_ok l m hm]; exact .refl _
    · injection h with h; injection h with h1 h2; subst h2; exact .inr (.inr ⟨rfl, rfl, rfl, rfl⟩)
    · injection h with h; injection h with h1 h2; subst h2; exact .inr (.inr ⟨rfl, rfl, rfl⟩)
    · cases h
@[go_sem ↓, go_sem] theorem ev_pL {l : List V} : pL.p (.lst l) = (unlimb l).map fun m => (True, m) := rfl
@[go_sem ↓, go_sem] theorem ev_pL_mk {l : List Nat} : pL.val l = .lst (V.limbs l) := rfl
/-- Scalars. -/
def pB : Pat Bool where
  p
    | .raw (.bool b) => some (True, b)
    | _ => none
  val b := .raw (.bool b)
  ok x c a h hc := by
    split at h
    · injection h with h; injection h with h1 h2; subst h2; exact .refl _
    · cases h
@[go_sem ↓, go_sem] theorem ev_pB {b : Bool} : pB.p (.raw (.bool b)) = some (True, b) := rfl
@[go_sem ↓, go_sem] theorem ev_pB_mk {b : Bool} : pB.val b = .raw (.bool b) := rfl
def pN (k : IntKind) : Pat Int where
  p
    | .raw (.int k' n) => if k' = k then some (True, n) else none
    | _ => none
  val n := .raw (.int k n)
  ok x c a h hc := by
    split at h
    · split at h
      · rename_i e; subst e; injection h with h; injection h with h1 h2; subst h2; exact .refl _
      · cases h
    · cases h
@[go_sem ↓, go_sem] theorem ev_pN {k : IntKind} {n : Int} : (pN k).p (.raw (.int k n)) = some (True, n) := by simp [pN]
@[go_sem ↓, go_sem] theorem ev_pN_mk {k : IntKind} {n : Int} : (pN k).val n = .raw (.int k n) := rfl
def pS : Pat ByteArray where
  p
    | .raw (.string b) => some (True, b)
    | _ => none
  val b := .raw (.string b)
  ok x c a h hc := by
    split at h
    · injection h with h; injection h with h1 h2; subst h2; exact .refl _
    · cases h
@[go_sem ↓, go_sem] theorem ev_pS {b : ByteArray} : pS.p (.raw (.string b)) = some (True, b) := rfl
@[go_sem ↓, go_sem] theorem ev_pS_mk {b : ByteArray} : pS.val b = .raw (.string b) := rfl
end Go.Proofs.YtfbogelmgdojgaaGreat
