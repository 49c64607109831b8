/- Texts M3 D1 D2 D3 in one. -/
import Derived.Test.YtfbogelmgdojgaaGreatP09
import Derived.Test.YtfbogelmgdojgaaGreatP14
/- Plain arithmetic for the long division. No program in sight. -/
namespace Go.Proofs.YtfbogelmgdojgaaGreat
set_option linter.unusedSimpArgs false
set_option linter.unusedVariables false
open Go.RowKit

/-- The guess is too large. -/
theorem est_dec {B P v1 v2 v' top u2 w' g rest : Nat} (hw : w' < P) (h : g * v1 + rest = top) (hc : rest * B + u2 < g * v2) :
    (top * B + u2) * P + w' < g * ((v1 * B + v2) * P + v') := by
  have e1 : g * (v1 * B + v2) = g * v1 * B + g * v2 := by rw [Nat.mul_add, Nat.mul_assoc]
  have e2 : top * B = g * v1 * B + rest * B := by rw [← h, Nat.add_mul]
  have e3 : top * B + u2 + 1 ≤ g * (v1 * B + v2) := by omega
  have e4 := Nat.mul_le_mul_right P e3
  have e5 : g * ((v1 * B + v2) * P + v') = g * (v1 * B + v2) * P + g * v' := by rw [Nat.mul_add, Nat.mul_assoc]
  have e6 : (top * B + u2 + 1) * P = (top * B + u2) * P + P := by rw [Nat.add_mul _ 1, Nat.one_mul]
  have e7 : 0 ≤ g * v' := Nat.zero_le _
  omega
/-- The guess is at most one too large. -/
theorem est_fin {B P v1 v2 v' top u2 w' g rest : Nat} (hv1 : 1 ≤ v1) (hv' : v' < P) (hg : g ≤ B) (h : g * v1 + rest = top) (hc : g * v2 ≤ rest * B + u2) :
    g * ((v1 * B + v2) * P + v') ≤ (top * B + u2) * P + w' + ((v1 * B + v2) * P + v') := by
  have e1 : g * (v1 * B + v2) = g * v1 * B + g * v2 := by rw [Nat.mul_add, Nat.mul_assoc]
  have e2 : top * B = g * v1 * B + rest * B := by rw [← h, Nat.add_mul]
  have e3 : g * (v1 * B + v2) ≤ top * B + u2 := by omega
  have e4 := Nat.mul_le_mul_right P e3
  have e5 : g * ((v1 * B + v2) * P + v') = g * (v1 * B + v2) * P + g * v' := by rw [Nat.mul_add, Nat.mul_assoc]
  have e6 : g * v' ≤ B * P := Nat.mul_le_mul hg (Nat.le_of_lt hv')
  have e7 : B * P ≤ (v1 * B + v2) * P := by
    refine Nat.mul_le_mul_right P ?_
    have : 1 * B ≤ v1 * B := Nat.mul_le_mul_right B hv1
    omega
  omega
/-- The guess, once the rest is large. -/
theorem est_big {B v2 u2 g rest : Nat} (hg : g ≤ B) (hv2 : v2 < B) (hr : B ≤ rest) : g * v2 ≤ rest * B + u2 := by
  have h1 : g * v2 ≤ B * B := Nat.mul_le_mul hg (Nat.le_of_lt hv2)
  have h2 : B * B ≤ rest * B := Nat.mul_le_mul_right B hr
  omega
/-- One limb of the difference. -/
theorem ms_step {P g c b ul vl nl' u y low c' d b' : Nat} (h : nl' + g * vl = ul + P * (c + b)) (ht : c + g * y = low + 4294967296 * c') (hd : d + low + b = u + 4294967296 * b') :
    nl' + P * d + g * (vl + P * y) = ul + P * u + P * 4294967296 * (c' + b') := by
  have e1 : g * (vl + P * y) = g * vl + P * (g * y) := by rw [Nat.mul_add, Nat.mul_left_comm]
  have e2 : P * (c + g * y) = P * low + P * 4294967296 * c' := by rw [ht, Nat.mul_add, Nat.mul_assoc]
  have e3 : P * (d + low + b) = P * u + P * 4294967296 * b' := by rw [hd, Nat.mul_add, Nat.mul_assoc]
  have e4 : P * (c + b) = P * c + P * b := Nat.mul_add _ _ _
  have e5 : P * (c + g * y) = P * c + P * (g * y) := Nat.mul_add _ _ _
  have e6 : P * (d + low + b) = P * d + P * low + P * b := by rw [Nat.mul_add, Nat.mul_add]
  have e7 : P * 4294967296 * (c' + b') = P * 4294967296 * c' + P * 4294967296 * b' := Nat.mul_add _ _ _
  omega
theorem take_lt {l : List Nat} (h : Lim l) (i : Nat) : lv (l.take i) < 4294967296 ^ i :=
  lv_lt_le (h.take i) (by rw [List.length_take]; omega)
theorem pow_pred {n : Nat} (h : 1 ≤ n) : 4294967296 ^ n = 4294967296 ^ (n - 1) * 4294967296 := by
  rw [← Nat.pow_succ]; congr 1; omega
/-- The shifted divisor. -/
theorem norm_top {m : List Nat} (hm : Lim m) {n k : Nat} (hn : n = m.length) (h1 : 1 ≤ n) (hk : k < 32) (h2 : 2147483648 ≤ at0 m (n - 1) * 2 ^ k) (h3 : at0 m (n - 1) * 2 ^ k < 4294967296) :
    lv m * 2 ^ k < 4294967296 ^ n ∧ 4294967296 ^ (n - 1) * 2147483648 ≤ lv m * 2 ^ k := by
  have e1 : lv m = lv (m.take (n - 1)) + 4294967296 ^ (n - 1) * at0 m (n - 1) := by
    have := lv_take_succ' m (n - 1)
    rw [show n - 1 + 1 = n from by omega, hn, List.take_length] at this
    rw [hn]; exact this
  have e2 := take_lt hm (n - 1)
  have hp : (2 : Nat) ^ k * 2 ^ (32 - k) = 4294967296 := by rw [← Nat.pow_add, show k + (32 - k) = 32 from by omega]
  have e3 : (at0 m (n - 1) + 1) * 2 ^ k ≤ 4294967296 := by
    have : at0 m (n - 1) < 2 ^ (32 - k) := by
      rcases Nat.lt_or_ge (at0 m (n - 1)) (2 ^ (32 - k)) with h | h
      · exact h
      · have := Nat.mul_le_mul_right (2 ^ k) h
        rw [Nat.mul_comm (2 ^ (32 - k)), hp] at this
        omega
    have := Nat.mul_le_mul_right (2 ^ k) this
    rw [Nat.mul_comm (2 ^ (32 - k)), hp] at this
    exact this
  constructor
  · have h5 : lv m < 4294967296 ^ (n - 1) * (at0 m (n - 1) + 1) := by rw [Nat.mul_add, Nat.mul_one]; omega
    have h6 := Nat.mul_lt_mul_of_pos_right h5 (Nat.two_pow_pos k)
    have h7 : 4294967296 ^ (n - 1) * (at0 m (n - 1) + 1) * 2 ^ k ≤ 4294967296 ^ n := by
      rw [Nat.mul_assoc, pow_pred h1]; exact Nat.mul_le_mul_left _ e3
    omega
  · rw [e1, Nat.add_mul, Nat.mul_assoc]
    have := Nat.mul_le_mul_left (4294967296 ^ (n - 1)) h2
    omega
/-- The limbs at the top of a number below a power. -/
theorem top_zero {v : List Nat} {n : Nat} (hn : v.length = n + 1) (h : lv v < 4294967296 ^ n) : at0 v n = 0 := by
  have e := lv_take_succ' v n
  rw [← hn, List.take_length] at e
  rcases Nat.eq_zero_or_pos (at0 v n) with h0 | h0
  · exact h0
  · have := Nat.mul_le_mul_left (4294967296 ^ n) h0
    omega
theorem top_half {v : List Nat} {n : Nat} (hv : Lim v) (hn : v.length = n + 1) (h1 : 1 ≤ n) (h : lv v < 4294967296 ^ n) (h2 : 4294967296 ^ (n - 1) * 2147483648 ≤ lv v) : 2147483648 ≤ at0 v (n - 1) := by
  have e := lv_take_succ' v n
  rw [← hn, List.take_length, top_zero hn h, Nat.mul_zero, Nat.add_zero] at e
  have e2 := lv_take_succ' v (n - 1)
  rw [show n - 1 + 1 = n from by omega] at e2
  have e3 := take_lt hv (n - 1)
  rcases Nat.lt_or_ge (at0 v (n - 1)) 2147483648 with h0 | h0
  · have := Nat.mul_le_mul_left (4294967296 ^ (n - 1)) h0
    rw [Nat.succ_eq_add_one, Nat.mul_add, Nat.mul_one] at this
    omega
  · exact h0
/-- At the start what is left is less than the divisor. -/
theorem start_lt {l u : List Nat} (hl : Lim l) (hu : Lim u) {n k D : Nat} (hul : u.length = l.length + 1) (hn : 1 ≤ n) (hnl : n ≤ l.length) (hk : k < 32) (he : lv u = lv l * 2 ^ k) (hD : 4294967296 ^ (n - 1) * 2147483648 ≤ D) :
    lv (u.drop (l.length + 1 - n)) < D := by
  have e1 := lv_take_drop u (l.length + 1 - n) (by omega)
  have e2 := lv_lt hl
  have hp : (2 : Nat) ^ k ≤ 2147483648 := by
    have : (2 : Nat) ^ k ≤ 2 ^ 31 := Nat.pow_le_pow_right (by decide) (by omega)
    have e : (2 : Nat) ^ 31 = 2147483648 := by decide
    omega
  have e3 : lv u < 4294967296 ^ l.length * 2147483648 := by
    rw [he]
    exact Nat.lt_of_lt_of_le (Nat.mul_lt_mul_of_pos_right e2 (Nat.two_pow_pos k)) (Nat.mul_le_mul_left _ hp)
  have e4 : 4294967296 ^ l.length * 2147483648 = 4294967296 ^ (l.length + 1 - n) * (4294967296 ^ (n - 1) * 2147483648) := by
    rw [← Nat.mul_assoc, ← Nat.pow_add]; congr 2; omega
  have e5 : 4294967296 ^ (l.length + 1 - n) * lv (u.drop (l.length + 1 - n)) < 4294967296 ^ (l.length + 1 - n) * (4294967296 ^ (n - 1) * 2147483648) := by omega
  have := Nat.lt_of_mul_lt_mul_left e5
  omega
end Go.Proofs.YtfbogelmgdojgaaGreat

/- Contracts: divide. -/
namespace Go.Proofs.YtfbogelmgdojgaaGreat
set_option linter.unusedSimpArgs false
set_option linter.unusedVariables false
open Go.RowKit

attribute [go_sem] Bool.and_self Bool.false_and Bool.and_false Bool.true_and Bool.and_true Bool.false_eq_true Bool.not_true Bool.not_false Bool.cond_true Bool.cond_false
@[go_sem] theorem beq_tt : (true == true) = true := rfl
@[go_sem] theorem beq_ff : (false == false) = true := rfl
@[go_sem] theorem beq_tf : (true == false) = false := rfl
@[go_sem] theorem beq_ft : (false == true) = false := rfl
@[go_sem] theorem bne_tt : (true != true) = false := rfl
@[go_sem] theorem bne_ff : (false != false) = false := rfl
@[go_sem] theorem bne_tf : (true != false) = true := rfl
@[go_sem] theorem bne_ft : (false != true) = true := rfl

/-- The long division works for divisors of at most N limbs. -/
def LongTo (N : Nat) : Prop := ∀ l m : List Nat, Lim l → Canon m → l.length ≤ 4000000000000 → m.length ≤ l.length → 2 ≤ m.length → m.length ≤ N →
  PCall Tryz.prog 152 [.lst (V.limbs l), .lst (V.limbs m)] (.tup [.lst (V.limbs (nl (l.length + 1 - m.length) (lv l / lv m))), .lst (V.limbs (nl m.length (lv l % lv m)))])
theorem longTo_one : LongTo 1 := fun l m _ _ _ _ h1 h2 => by omega
def dq (l m : List Nat) : List Nat := if lv l < lv m then [] else if m.length = 1 then nl l.length (lv l / lv m) else nl (l.length + 1 - m.length) (lv l / lv m)
def dr (l m : List Nat) : List Nat := if lv l < lv m then l else if m.length = 1 then [lv l % lv m] else nl m.length (lv l % lv m)
theorem lv_one (x : Nat) : lv [x] = x := by simp [lv]
theorem div_lt_pow {l m : List Nat} (hl : Lim l) (hm : Canon m) (h0 : m ≠ []) (h : m.length ≤ l.length) : lv l / lv m < 4294967296 ^ (l.length + 1 - m.length) := by
  have h1 := lv_lt hl
  have h2 := pow_dl_le hm h0
  have h3 : 0 < m.length := List.length_pos_iff.2 h0
  rw [Nat.div_lt_iff_lt_mul (lv_pos hm h0)]
  refine Nat.lt_of_lt_of_le h1 ?_
  have h4 : 4294967296 ^ l.length = 4294967296 ^ (l.length + 1 - m.length) * 4294967296 ^ (m.length - 1) := by rw [← Nat.pow_add]; congr 1; omega
  rw [h4]
  exact Nat.mul_le_mul_left _ h2
theorem dq_spec {l m : List Nat} (hl : Canon l) (hm : Canon m) (h0 : m ≠ []) : Lim (dq l m) ∧ lv (dq l m) = lv l / lv m ∧ (dq l m).length ≤ l.length := by
  have h3 : 0 < m.length := List.length_pos_iff.2 h0
  unfold dq
  split
  · exact ⟨Lim.nil, by rw [Nat.div_eq_of_lt ‹_›]; rfl, by simp⟩
  · rename_i h
    have hle := len_of_lt hm hl (by omega)
    split
    · exact ⟨nl_lim _ _, lv_nl _ _ (Nat.lt_of_le_of_lt (Nat.div_le_self _ _) (lv_lt hl.1)), by rw [nl_length]; exact Nat.le_refl _⟩
    · exact ⟨nl_lim _ _, lv_nl _ _ (div_lt_pow hl.1 hm h0 hle), by rw [nl_length]; omega⟩
theorem dr_spec {l m : List Nat} (hl : Canon l) (hm : Canon m) (h0 : m ≠ []) : Lim (dr l m) ∧ lv (dr l m) = lv l % lv m ∧ (dr l m).length ≤ max l.length m.length := by
  have hp := lv_pos hm h0
  have hlt := Nat.mod_lt (lv l) hp
  unfold dr
  split
  · exact ⟨hl.1, by rw [Nat.mod_eq_of_lt ‹_›], by omega⟩
  · split
    · rename_i h h1
      have h2 := lv_lt hm.1
      rw [h1, Nat.pow_one] at h2
      exact ⟨Lim.cons (by omega) Lim.nil, lv_one _, by simp; omega⟩
    · exact ⟨nl_lim _ _, lv_nl _ _ (Nat.lt_trans hlt (lv_lt hm.1)), by rw [nl_length]; omega⟩
set_option maxRecDepth 2000 in
theorem divide_V {N : Nat} (hL : LongTo N) (l m : List Nat) (hl : Canon l) (hm : Canon m) (h0 : m ≠ []) (h1 : l.length ≤ 4000000000000) (h2 : m.length ≤ 4000000000000) (hN : m.length ≤ N) :
    PCall Tryz.prog 143 [.lst (V.limbs l), .lst (V.limbs m)] (.tup [.lst (V.limbs (dq l m)), .lst (V.limbs (dr l m))]) := by
  have h3 : 0 < m.length := List.length_pos_iff.2 h0
  have hlong : Ctr Tryz.prog 152 (con2 pL pL fun l m => (((Lim l ∧ Canon m) ∧ l.length ≤ 4000000000000 ∧ m.length ≤ l.length ∧ 2 ≤ m.length ∧ m.length ≤ N), .tup [.lst (V.limbs (nl (l.length + 1 - m.length) (lv l / lv m))), .lst (V.limbs (nl m.length (lv l % lv m)))])) :=
    Ctr.c2 (by kernel_rfl) fun l m h => hL l m h.1.1 h.1.2 h.2.1 h.2.2.1 h.2.2.2.1 h.2.2.2.2
  refine PCall.of_vc (tabs mixed (tbl_cons compare_C (tbl_cons clone_C (tbl_cons short_C (tbl_cons hlong tbl_nil))))) Tryz.func143 rfl Tryz.ntmps143 Tryz.results143 (by simp) ?_
  by_cases hlt : lv l < lv m
  · have c1 : cmpI (lv l) (lv m) < 0 := by unfold cmpI; split <;> omega
    simp only [go_sem, c1]
    unfold dq dr
    rw [if_pos hlt, if_pos hlt]
    exact ⟨⟨⟨hl, hm⟩, by omega, by omega⟩, by omega, .refl _, .refl _⟩
  · have c1 : ¬ cmpI (lv l) (lv m) < 0 := by unfold cmpI; split <;> (try split) <;> omega
    have hle := len_of_lt hm hl (by omega)
    by_cases h4 : m.length = 1
    · obtain ⟨y, rfl⟩ : ∃ y, m = [y] := by
        match m, h4 with
        | [y], _ => exact ⟨y, rfl⟩
      have c2 : ((([y] : List Nat).length : Nat) : Int) = 1 := rfl
      have hy := hm.1.head
      have hy0 : y ≠ 0 := hm.2 (by simp)
      simp only [go_sem, c1, at0_cons_zero]
      unfold dq dr
      rw [if_neg hlt, if_neg hlt, if_pos h4, if_pos h4, lv_one]
      exact ⟨⟨⟨hl, hm⟩, by omega⟩, ⟨hl.1, by omega, by omega, by omega⟩, .refl _, .refl _⟩
    · have c2 : ((m.length : Int) == 1) = false := by simp; omega
      simp only [go_sem, c1, c2]
      unfold dq dr
      rw [if_neg hlt, if_neg hlt, if_neg h4, if_neg h4]
      exact ⟨⟨⟨hl, hm⟩, by omega, by omega⟩, ⟨⟨hl.1, hm⟩, h1, hle, by omega, hN⟩, .refl _, .refl _⟩
def kDivide (N : Nat) : Con := con2 pL pL fun l m => ((Canon l ∧ Canon m) ∧ m ≠ [] ∧ l.length ≤ 4000000000000 ∧ m.length ≤ 4000000000000 ∧ m.length ≤ N, .tup [.lst (V.limbs (dq l m)), .lst (V.limbs (dr l m))])
attribute [go_sem ↓, go_sem] kDivide
theorem divide_C {N : Nat} (hL : LongTo N) : Ctr Tryz.prog 143 (kDivide N) := Ctr.c2 (by kernel_rfl) fun l m h => divide_V hL l m h.1.1 h.1.2 h.2.1 h.2.2.1 h.2.2.2.1 h.2.2.2.2
end Go.Proofs.YtfbogelmgdojgaaGreat

/- Contracts: DivMod. -/
namespace Go.Proofs.YtfbogelmgdojgaaGreat
set_option linter.unusedSimpArgs false
set_option linter.unusedVariables false
open Go.RowKit

theorem dm_uniq {x y q r : Int} (h : x = q * y + r) (h0 : 0 ≤ r) (h1 : r < y.natAbs) : x / y = q ∧ x % y = r := by
  rcases Int.lt_trichotomy y 0 with hy | hy | hy
  · have e := (Int.ediv_emod_unique (a := x) (b := -y) (r := r) (q := -q) (by omega)).2 ⟨by rw [h, Int.neg_mul_neg, Int.mul_comm]; omega, h0, by omega⟩
    rw [Int.ediv_neg, Int.emod_neg] at e
    omega
  · subst hy; omega
  · exact (Int.ediv_emod_unique hy).2 ⟨by rw [h, Int.mul_comm]; omega, h0, by omega⟩
/-- What the code reckons is the quotient and the remainder. -/
theorem dm_pos {s t : Bool} {l m : List Nat} (hm : 0 < lv m) (h : s = false ∨ lv l % lv m = 0) :
    sv s l / sv t m = (if s = t then ((lv l / lv m : Nat) : Int) else -((lv l / lv m : Nat) : Int)) ∧ sv s l % sv t m = ((lv l % lv m : Nat) : Int) := by
  have e : lv l = lv m * (lv l / lv m) + lv l % lv m := (Nat.div_add_mod _ _).symm
  have hr := Nat.mod_lt (lv l) hm
  generalize lv l / lv m = Q at e ⊢
  generalize lv l % lv m = R at e hr h ⊢
  have e' : (lv l : Int) = lv m * Q + R := by rw [e]; push_cast; rfl
  refine dm_uniq ?_ (by omega) (by rw [sv_natAbs]; omega)
  cases s <;> cases t <;> simp only [sv, e'] <;> simp at h ⊢ <;> grind
theorem dm_neg {t : Bool} {l m : List Nat} (hm : 0 < lv m) (h : lv l % lv m ≠ 0) :
    sv true l / sv t m = (if t = true then ((lv l / lv m : Nat) : Int) + 1 else -(((lv l / lv m : Nat) : Int) + 1)) ∧ sv true l % sv t m = ((lv m - lv l % lv m : Nat) : Int) := by
  have e : lv l = lv m * (lv l / lv m) + lv l % lv m := (Nat.div_add_mod _ _).symm
  have hr := Nat.mod_lt (lv l) hm
  generalize lv l / lv m = Q at e ⊢
  generalize lv l % lv m = R at e hr h ⊢
  have e' : (lv l : Int) = lv m * Q + R := by rw [e]; push_cast; rfl
  have e2 : ((lv m - R : Nat) : Int) = lv m - R := by omega
  rw [e2]
  refine dm_uniq ?_ (by omega) (by rw [sv_natAbs]; omega)
  cases t <;> simp only [sv, e'] <;> simp <;> grind
/-- DivMod answers these. -/
def dmR (x y : Int) : V := if y = 0 then .tup [.I 0, .I 0, .raw (.int .i64 3)] else .tup [.I (x / y), .I (x % y), .raw (.int .i64 0)]
set_option maxRecDepth 2000 in
theorem divMod_V {N : Nat} (hL : LongTo N) (x y : Int) (hx : dl x.natAbs ≤ 100000000000) (hy : dl y.natAbs ≤ 100000000000) (hN : dl y.natAbs ≤ N) :
    PCall Tryz.prog 128 [.I x, .I y] (dmR x y) := by
  obtain ⟨s, l, hz, hl, hs, e1, e2, e3⟩ := sv_open x
  obtain ⟨t, m, hz', hm, ht, f1, f2, f3⟩ := sv_open y
  refine PCall.of_vc (tabs mixed (tbl_cons (divide_C hL) (tbl_cons norm_C (tbl_cons add_C (tbl_cons of_C (tbl_cons minus_C (tbl_cons neg_C tbl_nil))))))) Tryz.func128 rfl Tryz.ntmps128 Tryz.results128 (by simp) ?_
  unfold dmR
  by_cases hy0 : y = 0
  · have hm0 : m = [] := by rw [← sv_zero (s := t) hm, ← hz', hy0]
    rw [if_pos hy0]
    subst hm0
    simp only [go_sem, e1, e2, f1, f2]
    exact out_In rfl
  · have hm0 : m ≠ [] := fun h => hy0 (by rw [hz']; exact (sv_zero hm).2 h)
    have c0 : ((m.length : Int) == 0) = false := by have := List.length_pos_iff.2 hm0; simp; omega
    have hp := lv_pos hm hm0
    rw [if_neg hy0]
    obtain ⟨q1, q2, q3⟩ := dq_spec hl hm hm0
    obtain ⟨r1, r2, r3⟩ := dr_spec hl hm hm0
    have sq : sv false (dq l m) = ((lv l / lv m : Nat) : Int) := by rw [sv_false, q2]
    have sr : sv false (dr l m) = ((lv l % lv m : Nat) : Int) := by rw [sv_false, r2]
    have d1 : dl (Int.natAbs 1) ≤ 4000000000000 := Nat.le_trans (dl_le (k := 1).2 (by decide)) (by decide)
    have d2 : dl (lv l / lv m) ≤ l.length := dl_le.2 (Nat.lt_of_le_of_lt (Nat.div_le_self _ _) (lv_lt hl.1))
    have hrm := Nat.mod_lt (lv l) hp
    have g1 : sv s l / sv t m = x / y := by rw [hz, hz']
    have g2 : sv s l % sv t m = x % y := by rw [hz, hz']
    have x1 : (true != false) = true := rfl
    have x2 : (true != true) = false := rfl
    have x3 : (false != false) = false := rfl
    have x4 : (false != true) = true := rfl
    by_cases hR : s = false ∨ lv l % lv m = 0
    · obtain ⟨h1, h2⟩ := dm_pos (t := t) (l := l) hp hR
      rw [← g1, ← g2, h1, h2]
      have hR' : (bif s then decide (0 < (((dg (lv l % lv m)).length : Nat) : Int)) else false) = false := by
        rcases hR with rfl | h
        · rfl
        · rw [h]; cases s <;> rfl
      cases s <;> cases t <;> simp only [Bool.cond_true, Bool.cond_false] at hR' <;> simp only [go_sem, e1, e2, f1, f2, c0, sq, sr, Int.natAbs_natCast, hR', lv_dg, x1, x2, x3, x4]
      all_goals (and_intros <;> first | rfl | assumption | omega | exact hl.1 | exact hl.2 | exact hm.1 | exact hm.2)
    · have hs1 : s = true := by cases s <;> simp_all
      have hR0 : lv l % lv m ≠ 0 := fun h => hR (.inr h)
      subst hs1
      have c1 : 0 < (((dg (lv l % lv m)).length : Nat) : Int) := by
        have := dl_eq_zero (n := lv l % lv m)
        unfold dl at this
        omega
      obtain ⟨h1, h2⟩ := dm_neg (t := t) (l := l) hp hR0
      rw [← g1, ← g2, h1, h2]
      have s3 : sv false (nl m.length (lv m - lv l % lv m)) = ((lv m - lv l % lv m : Nat) : Int) := by
        rw [sv_false, lv_nl _ _ (Nat.lt_of_le_of_lt (Nat.sub_le _ _) (lv_lt hm.1))]
      have s4 : (dg (lv l % lv m)).length ≤ m.length := dl_le.2 (Nat.lt_trans hrm (lv_lt hm.1))
      have s5 := dg_lim (lv l % lv m)
      have s6 := nl_lim m.length (lv m - lv l % lv m)
      have s7 := hm.1
      cases t <;> simp only [go_sem, e1, e2, f1, f2, c0, c1, sq, sr, Int.natAbs_natCast, lv_dg, x1, x2, x3, x4, s3, nl_length]
      all_goals (and_intros <;> first | rfl | assumption | omega | exact hl.1 | exact hl.2 | exact hm.1 | exact hm.2)
def kDivMod (N : Nat) : Con := con2 pI pI fun x y => (dl x.natAbs ≤ 100000000000 ∧ dl y.natAbs ≤ 100000000000 ∧ dl y.natAbs ≤ N, dmR x y)
attribute [go_sem ↓, go_sem] kDivMod
theorem divMod_C {N : Nat} (hL : LongTo N) : Ctr Tryz.prog 128 (kDivMod N) := Ctr.c2 (by kernel_rfl) fun x y h => divMod_V hL x y h.1 h.2.1 h.2.2
end Go.Proofs.YtfbogelmgdojgaaGreat

/- Contracts: Gcd. -/
namespace Go.Proofs.YtfbogelmgdojgaaGreat
set_option linter.unusedSimpArgs false
set_option linter.unusedVariables false
open Go.RowKit

set_option maxRecDepth 2000 in
theorem gcd_V {N : Nat} (hL : LongTo N) (x y : Int) (hx : dl x.natAbs ≤ 100000000000) (hy : dl y.natAbs ≤ 100000000000) (hN : dl y.natAbs ≤ N) :
    PCall Tryz.prog 126 [.I x, .I y] (.I (Nat.gcd x.natAbs y.natAbs : Nat)) := by
  refine PCall.of_vc (tabs mixed (tbl_cons (divide_C hL) (tbl_cons norm_C tbl_nil))) Tryz.func126 rfl Tryz.ntmps126 Tryz.results126 (by simp) ?_
  simp only [go_sem]
  refine ⟨by rfl, ?_⟩
  refine AWp.loops (X := { p : Nat × Nat // Nat.gcd p.1 p.2 = Nat.gcd x.natAbs y.natAbs ∧ dl p.1 ≤ 100000000000 ∧ dl p.2 ≤ dl y.natAbs })
    (fun a => mkSt [(4, .ptr 0 2 0 0), (5, .lst (V.limbs (dg a.1.1))), (6, .lst (V.limbs (dg a.1.2)))]
      [(0, true, ⟨43, 2, [.agg [.raw (.bool false), .raw (.slice none 0 0)]]⟩)] 1 28)
    (fun a => a.1.2) ⟨(x.natAbs, y.natAbs), rfl, hx, Nat.le_refl _⟩ (Wk.of [2] (by decide) ?_) ?_
  · simp only [go_sem]
  · rintro ⟨⟨p, q⟩, hg, hp, hq⟩
    simp only at hg hp hq
    refine vc_at (tabs mixed (tbl_cons (divide_C hL) (tbl_cons norm_C tbl_nil))) ?_
    by_cases h0 : q = 0
    · subst h0
      simp only [go_sem, dg_zero]
      refine out_I (dg_canon _) (by simp) ?_
      rw [sv_false, lv_dg, ← hg, Nat.gcd_zero_right]
    · have c1 : 0 < (((dg q).length : Nat) : Int) := by
        have := dl_eq_zero (n := q)
        unfold dl at this
        omega
      have hq0 : dg q ≠ [] := fun h => h0 (dg_eq_nil.1 h)
      obtain ⟨r1, r2, r3⟩ := dr_spec (dg_canon p) (dg_canon q) hq0
      have sr : sv false (dr (dg p) (dg q)) = ((p % q : Nat) : Int) := by rw [sv_false, r2, lv_dg, lv_dg]
      have l1 : (dg p).length = dl p := rfl
      have l2 : (dg q).length = dl q := rfl
      have hlt := Nat.mod_lt p (Nat.pos_of_ne_zero h0)
      have hd := dl_mono (Nat.le_of_lt hlt)
      simp only [go_sem, c1, sr, Int.natAbs_natCast]
      refine ⟨⟨⟨dg_canon _, dg_canon _⟩, hq0, by omega, by omega, by omega⟩, ⟨r1, by omega⟩, ?_⟩
      refine ⟨⟨(q, p % q), ?_, by simp only; omega, by simp only; omega⟩, Wk.of [0] (by decide) ?_, hlt⟩
      · rw [← hg, Nat.gcd_comm p q, Nat.gcd_rec q p, Nat.gcd_comm]
      · simp only [go_sem]
def kGcd (N : Nat) : Con := con2 pI pI fun x y => (dl x.natAbs ≤ 100000000000 ∧ dl y.natAbs ≤ 100000000000 ∧ dl y.natAbs ≤ N, .I (Nat.gcd x.natAbs y.natAbs : Nat))
attribute [go_sem ↓, go_sem] kGcd
theorem gcd_C {N : Nat} (hL : LongTo N) : Ctr Tryz.prog 126 (kGcd N) := Ctr.c2 (by kernel_rfl) fun x y h => gcd_V hL x y h.1 h.2.1 h.2.2
end Go.Proofs.YtfbogelmgdojgaaGreat
