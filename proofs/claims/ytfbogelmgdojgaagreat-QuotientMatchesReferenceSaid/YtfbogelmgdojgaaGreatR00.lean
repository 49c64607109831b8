/- Texts Base Dec A1 A2 in one. -/
import Derived.WalkKit
import Derived.Handy
import Derived.Lib.Hide
/- Plain arithmetic of limbs (base 2^32, least significant first). No program in sight. -/
namespace Go.Proofs.YtfbogelmgdojgaaGreat
set_option linter.unusedSimpArgs false
set_option linter.unusedVariables false
open Go.RowKit

def at0 (l : List Nat) (j : Nat) : Nat := l.getD j 0

def lv : List Nat → Nat
 | [] => 0
 | x :: l => x + 4294967296 * lv l

def Lim (l : List Nat) : Prop := ∀ x, x ∈ l → x < 4294967296

def nlen (l : List Nat) : Nat → Nat
 | 0 => 0
 | n + 1 => if at0 l n = 0 then nlen l n else n + 1

def dgs : Nat → Nat → List Nat
 | 0, _ => []
 | f + 1, n => if n = 0 then [] else n % 4294967296 :: dgs f (n / 4294967296)
def dg (n : Nat) : List Nat := dgs n n

theorem at0_cons_zero (x : Nat) (l : List Nat) : at0 (x :: l) 0 = x := rfl
theorem at0_cons_succ (x : Nat) (l : List Nat) (j : Nat) : at0 (x :: l) (j + 1) = at0 l j := rfl
theorem at0_mem {l : List Nat} {j : Nat} (h : j < l.length) : at0 l j ∈ l := by
 unfold at0; rw [List.getD_eq_getElem?_getD, List.getElem?_eq_getElem h]; exact List.getElem_mem h
theorem at0_beyond {l : List Nat} {j : Nat} (h : l.length ≤ j) : at0 l j = 0 := by
 unfold at0; rw [List.getD_eq_getElem?_getD, List.getElem?_eq_none h]; rfl
theorem Lim.at0 {l : List Nat} (h : Lim l) (j : Nat) : at0 l j < 4294967296 := by
 by_cases hj : j < l.length
 ·exact h _ (at0_mem hj)
 ·rw [at0_beyond (by omega)]; decide
theorem Lim.tail {x : Nat} {l : List Nat} (h : Lim (x :: l)) : Lim l := fun y hy => h y (List.mem_cons_of_mem _ hy)
theorem Lim.head {x : Nat} {l : List Nat} (h : Lim (x :: l)) : x < 4294967296 := h x List.mem_cons_self
theorem Lim.cons {x : Nat} {l : List Nat} (hx : x < 4294967296) (h : Lim l) : Lim (x :: l) := by
 intro y hy
 rcases List.mem_cons.1 hy with rfl | hy
 ·exact hx
 ·exact h y hy
theorem Lim.nil : Lim [] := by intro x hx; cases hx
theorem Lim.take {l : List Nat} (h : Lim l) (n : Nat) : Lim (l.take n) := fun x hx => h x (List.mem_of_mem_take hx)
theorem Lim.drop {l : List Nat} (h : Lim l) (n : Nat) : Lim (l.drop n) := fun x hx => h x (List.mem_of_mem_drop hx)
theorem Lim.append {l m : List Nat} (h : Lim l) (h' : Lim m) : Lim (l ++ m) := fun x hx => by
 rcases List.mem_append.1 hx with hx | hx
 ·exact h x hx
 ·exact h' x hx
theorem Lim.set {l : List Nat} (h : Lim l) (i : Nat) {x : Nat} (hx : x < 4294967296) : Lim (l.set i x) := fun y hy => by
 rcases List.mem_or_eq_of_mem_set hy with hy | rfl
 ·exact h y hy
 ·exact hx
theorem Lim.replicate (n : Nat) : Lim (List.replicate n 0) := fun x hx => by
 rw [List.eq_of_mem_replicate hx]; decide

theorem at0_set {l : List Nat} {i j x : Nat} (hi : i < l.length) : at0 (l.set i x) j = if j = i then x else at0 l j := by
 unfold at0
 simp only [List.getD_eq_getElem?_getD, List.getElem?_set]
 split
 ·rename_i h; subst h; simp [hi]
 ·rename_i h; rw [if_neg (fun e => h e.symm)]
theorem at0_replicate (n j : Nat) : at0 (List.replicate n 0) j = 0 := by
 unfold at0; simp only [List.getD_eq_getElem?_getD, List.getElem?_replicate]; split <;> rfl
theorem at0_take {l : List Nat} {n j : Nat} (h : j < n) : at0 (l.take n) j = at0 l j := by
 unfold at0; simp only [List.getD_eq_getElem?_getD]; rw [List.getElem?_take_of_lt h]
theorem at0_drop {l : List Nat} {n j : Nat} : at0 (l.drop n) j = at0 l (n + j) := by
 unfold at0; simp only [List.getD_eq_getElem?_getD]; rw [List.getElem?_drop]
theorem take_succ_at0 {l : List Nat} {k : Nat} (h : k < l.length) : l.take (k + 1) = l.take k ++ [at0 l k] := by
 rw [List.take_succ_eq_append_getElem h]
 unfold at0; rw [List.getD_eq_getElem?_getD, List.getElem?_eq_getElem h]; rfl

theorem lv_nil : lv [] = 0 := rfl
theorem lv_cons (x : Nat) (l : List Nat) : lv (x :: l) = x + 4294967296 * lv l := rfl
theorem lv_append (l m : List Nat) : lv (l ++ m) = lv l + 4294967296 ^ l.length * lv m := by
 induction l with
 | nil => simp [lv]
 | cons x l ih =>
   rw [List.cons_append, lv_cons, lv_cons, ih, List.length_cons, Nat.pow_succ, Nat.mul_add, Nat.add_assoc]
   congr 2
   rw [← Nat.mul_assoc, Nat.mul_comm 4294967296 (4294967296 ^ l.length)]
theorem lv_replicate (n : Nat) : lv (List.replicate n 0) = 0 := by
 induction n with
 | zero => rfl
 | succ n ih => rw [List.replicate_succ, lv_cons, ih]
theorem lv_lt {l : List Nat} (h : Lim l) : lv l < 4294967296 ^ l.length := by
 induction l with
 | nil => simp [lv]
 | cons x l ih =>
   have h1 := ih h.tail
   have h2 := h.head
   rw [lv_cons, List.length_cons, Nat.pow_succ, Nat.mul_comm (4294967296 ^ l.length)]
   omega
theorem lv_set {l : List Nat} {i x : Nat} (hi : i < l.length) : lv (l.set i x) + 4294967296 ^ i * at0 l i = lv l + 4294967296 ^ i * x := by
 induction l generalizing i with
 | nil => cases hi
 | cons y l ih =>
   cases i with
   | zero => simp only [List.set_cons_zero, lv_cons, at0_cons_zero, Nat.pow_zero, Nat.one_mul]; omega
   | succ i =>
     have := ih (i := i) (by simpa using hi)
     simp only [List.set_cons_succ, lv_cons, at0_cons_succ, Nat.pow_succ]
     rw [Nat.mul_comm (4294967296 ^ i) 4294967296, Nat.mul_assoc, Nat.mul_assoc]
     omega
theorem lv_take_succ {l : List Nat} {k : Nat} (h : k < l.length) : lv (l.take (k + 1)) = lv (l.take k) + 4294967296 ^ k * at0 l k := by
 rw [take_succ_at0 h, lv_append]
 simp only [List.length_take, lv_cons, lv_nil, Nat.mul_zero, Nat.add_zero]
 rw [Nat.min_eq_left (by omega)]
theorem lv_take_succ' (l : List Nat) (k : Nat) : lv (l.take (k + 1)) = lv (l.take k) + 4294967296 ^ k * at0 l k := by
 by_cases h : k < l.length
 ·exact lv_take_succ h
 ·rw [at0_beyond (by omega), List.take_of_length_le (by omega), List.take_of_length_le (by omega)]; omega
theorem take_set_le (l : List Nat) (i x k : Nat) (h : k ≤ i) : (l.set i x).take k = l.take k := by
 induction l generalizing i k with
 | nil => simp
 | cons y l ih =>
   cases k with
   | zero => simp
   | succ k =>
     cases i with
     | zero => omega
     | succ i => simp only [List.set_cons_succ, List.take_succ_cons, ih i k (by omega)]
theorem lv_take_set {l : List Nat} {i : Nat} (x : Nat) (h : i < l.length) : lv ((l.set i x).take (i + 1)) = lv (l.take i) + 4294967296 ^ i * x := by
 rw [lv_take_succ', take_set_le _ _ _ _ (Nat.le_refl _), at0_set h, if_pos rfl]
theorem lv_take_drop (l : List Nat) (k : Nat) (h : k ≤ l.length) : lv l = lv (l.take k) + 4294967296 ^ k * lv (l.drop k) := by
 have := lv_append (l.take k) (l.drop k)
 rw [List.take_append_drop, List.length_take, Nat.min_eq_left h] at this
 exact this

theorem nlen_succ_zero {l : List Nat} {n : Nat} (h : at0 l n = 0) : nlen l (n + 1) = nlen l n := by rw [nlen, if_pos h]
theorem nlen_succ_pos {l : List Nat} {n : Nat} (h : at0 l n ≠ 0) : nlen l (n + 1) = n + 1 := by rw [nlen, if_neg h]

def Canon (l : List Nat) : Prop := Lim l ∧ (l ≠ [] → at0 l (l.length - 1) ≠ 0)

theorem Canon.nil : Canon [] := ⟨Lim.nil, fun h => absurd rfl h⟩
theorem Canon.tail {x : Nat} {l : List Nat} (h : Canon (x :: l)) : Canon l := by
 refine ⟨h.1.tail, fun hl => ?_⟩
 have := h.2 (by simp)
 cases l with
 | nil => exact absurd rfl hl
 | cons y l => simpa [at0_cons_succ] using this
theorem lv_pos {l : List Nat} (h : Canon l) (hl : l ≠ []) : 0 < lv l := by
 induction l with
 | nil => exact absurd rfl hl
 | cons x l ih =>
   rw [lv_cons]
   cases l with
   | nil =>
     have := h.2 (by simp)
     simp only [List.length_cons, List.length_nil, Nat.zero_add, Nat.sub_self, at0_cons_zero] at this
     omega
   | cons y l =>
     have := ih h.tail (by simp)
     omega
theorem Canon.inj {l m : List Nat} (hl : Canon l) (hm : Canon m) (h : lv l = lv m) : l = m := by
 induction l generalizing m with
 | nil =>
   cases m with
   | nil => rfl
   | cons y m => have := lv_pos hm (by simp); rw [← h, lv_nil] at this; omega
 | cons x l ih =>
   cases m with
   | nil => have := lv_pos hl (by simp); rw [h, lv_nil] at this; omega
   | cons y m =>
     rw [lv_cons, lv_cons] at h
     have h1 := hl.1.head
     have h2 := hm.1.head
     have e1 : x = y := by omega
     have e2 : lv l = lv m := by omega
     rw [e1, ih hl.tail hm.tail e2]

theorem nlen_take_canon {l : List Nat} (h : Lim l) (n : Nat) (hn : n ≤ l.length) : Canon (l.take (nlen l n)) ∧ lv (l.take (nlen l n)) = lv (l.take n) := by
 induction n with
 | zero => exact ⟨by simpa [nlen] using Canon.nil, rfl⟩
 | succ n ih =>
   obtain ⟨h1, h2⟩ := ih (by omega)
   by_cases h0 : at0 l n = 0
   ·rw [nlen_succ_zero h0]
    refine ⟨h1, ?_⟩
    rw [h2, lv_take_succ (by omega), h0]; omega
   ·rw [nlen_succ_pos h0]
    refine ⟨⟨h.take _, fun _ => ?_⟩, rfl⟩
    rw [List.length_take, Nat.min_eq_left hn, Nat.add_sub_cancel, at0_take (by omega)]
    exact h0

/-! ### Digits -/
theorem dgs_spec : ∀ (f n : Nat), n ≤ f → Canon (dgs f n) ∧ lv (dgs f n) = n := by
 intro f
 induction f with
 | zero => intro n hn; have : n = 0 := by omega
           subst this; exact ⟨Canon.nil, rfl⟩
 | succ f ih =>
   intro n hn
   unfold dgs
   by_cases h0 : n = 0
   ·rw [if_pos h0]; exact ⟨Canon.nil, h0 ▸ rfl⟩
   ·rw [if_neg h0]
    have hlt : n / 4294967296 ≤ f := by omega
    obtain ⟨h1, h2⟩ := ih _ hlt
    refine ⟨⟨Lim.cons (by omega) h1.1, fun _ => ?_⟩, ?_⟩
    ·cases hd : dgs f (n / 4294967296) with
     | nil =>
       rw [hd, lv_nil] at h2
       simp only [List.length_cons, List.length_nil, Nat.zero_add, Nat.sub_self, at0_cons_zero]
       omega
     | cons y m =>
       have := h1.2 (by rw [hd]; simp)
       rw [hd] at this
       simpa [at0_cons_succ] using this
    ·rw [lv_cons, h2]; omega
theorem dg_canon (n : Nat) : Canon (dg n) := (dgs_spec n n (Nat.le_refl _)).1
theorem lv_dg (n : Nat) : lv (dg n) = n := (dgs_spec n n (Nat.le_refl _)).2
theorem dg_lim (n : Nat) : Lim (dg n) := (dg_canon n).1
theorem dg_of_canon {l : List Nat} (h : Canon l) {n : Nat} (hn : lv l = n) : l = dg n := (h.inj (dg_canon n) (by rw [lv_dg, hn]))
theorem dg_zero : dg 0 = [] := rfl
theorem dg_eq_nil {n : Nat} : dg n = [] ↔ n = 0 := by
 constructor
 ·intro h; have := lv_dg n; rw [h, lv_nil] at this; exact this.symm
 ·rintro rfl; rfl
def dl (n : Nat) : Nat := (dg n).length
theorem dl_zero : dl 0 = 0 := rfl
theorem dl_eq_zero {n : Nat} : dl n = 0 ↔ n = 0 := by
 unfold dl; rw [List.length_eq_zero_iff, dg_eq_nil]
theorem lt_pow_dl (n : Nat) : n < 4294967296 ^ dl n := by
 have := lv_lt (dg_lim n); rw [lv_dg] at this; exact this
theorem pow_dl_le {l : List Nat} (h : Canon l) (hl : l ≠ []) : 4294967296 ^ (l.length - 1) ≤ lv l := by
 induction l with
 | nil => exact absurd rfl hl
 | cons x l ih =>
   cases l with
   | nil => have := lv_pos h (by simp); rw [List.length_singleton, Nat.sub_self, Nat.pow_zero]; exact this
   | cons y l =>
     have := ih h.tail (by simp)
     simp only [List.length_cons, Nat.add_sub_cancel] at this ⊢
     rw [lv_cons, Nat.pow_succ, Nat.mul_comm]
     omega
theorem dl_le {n k : Nat} : dl n ≤ k ↔ n < 4294967296 ^ k := by
 constructor
 ·intro h
  exact Nat.lt_of_lt_of_le (lt_pow_dl n) (Nat.pow_le_pow_right (by decide) h)
 ·intro h
  rcases Nat.lt_or_ge k (dl n) with hlt | hge
  ·have h1 := pow_dl_le (dg_canon n) (by intro e; rw [dl, e] at hlt; cases hlt)
   rw [lv_dg] at h1
   have h2 : 4294967296 ^ k ≤ 4294967296 ^ ((dg n).length - 1) := Nat.pow_le_pow_right (by decide) (by unfold dl at hlt; omega)
   omega
  ·exact hge
theorem dl_mono {m n : Nat} (h : m ≤ n) : dl m ≤ dl n := dl_le.2 (Nat.lt_of_le_of_lt h (lt_pow_dl n))
theorem dl_add (m n : Nat) : dl (m + n) ≤ max (dl m) (dl n) + 1 := by
 rw [dl_le]
 have h1 := Nat.lt_of_lt_of_le (lt_pow_dl m) (Nat.pow_le_pow_right (n := 4294967296) (by decide) (Nat.le_max_left (dl m) (dl n)))
 have h2 := Nat.lt_of_lt_of_le (lt_pow_dl n) (Nat.pow_le_pow_right (n := 4294967296) (by decide) (Nat.le_max_right (dl m) (dl n)))
 rw [Nat.pow_succ]; omega
theorem dl_mul (m n : Nat) : dl (m * n) ≤ dl m + dl n := by
 rw [dl_le, Nat.pow_add]
 rcases Nat.eq_zero_or_pos m with rfl | hm
 ·rw [Nat.zero_mul]; exact Nat.mul_pos (Nat.pow_pos (by decide)) (Nat.pow_pos (by decide))
 ·exact Nat.mul_lt_mul'' (lt_pow_dl m) (lt_pow_dl n)
theorem dl_le_of_lim {l : List Nat} (h : Lim l) : dl (lv l) ≤ l.length := dl_le.2 (lv_lt h)

end Go.Proofs.YtfbogelmgdojgaaGreat


/- Plain: the decimal digits of a number, as bytes. No program in sight. -/
namespace Go.Proofs.YtfbogelmgdojgaaGreat
set_option linter.unusedSimpArgs false
set_option linter.unusedVariables false

def decs : Nat → Nat → List UInt8
 | 0, _ => []
 | f + 1, n => if n = 0 then [] else decs f (n / 10) ++ [UInt8.ofNat (48 + n % 10)]
def dec (n : Nat) : List UInt8 := decs n n
end Go.Proofs.YtfbogelmgdojgaaGreat


/- Abstract values and what they stand for in a world. No program in sight. -/
namespace Go.Proofs.YtfbogelmgdojgaaGreat
set_option linter.unusedSimpArgs false
set_option linter.unusedVariables false
open Go.RowKit

inductive V where
 | any
 | raw (v : Value)
 | agg (l : List V)
 | tup (l : List V)
 | lst (l : List V)
 | emp
 | I (z : Int)
 | Q (q : Rat)
 | ptr (k e i off : Nat)
 | sl (k e o n : Nat)
 | pel (x : V)
 | clo (fn : Fn) (first caps : List V)

abbrev V.int (k : IntKind) (n : Int) : V := .raw (.int k n)
abbrev V.bool (b : Bool) : V := .raw (.bool b)
def V.limbs (l : List Nat) : List V := l.map fun (x : Nat) => V.raw (.int .u32 (x : Int))

def V.atomsI (z : Int) : List V := [.raw (.bool (decide (z < 0))), .lst (V.limbs (dg z.natAbs))]
mutual
def V.atoms : V → List V
 | .agg l => V.atomsL l
 | .I z => V.atomsI z
 | .Q q => V.atomsI q.num ++ V.atomsI q.den
 | .any => [.any]
 | .raw v => [.raw v]
 | .tup l => [.tup l]
 | .lst l => [.lst l]
 | .emp => [.emp]
 | .ptr k e i off => [.ptr k e i off]
 | .sl k e o n => [.sl k e o n]
 | .pel x => [.pel x]
 | .clo f a b => [.clo f a b]
def V.atomsL : List V → List V
 | [] => []
 | x :: l => x.atoms ++ V.atomsL l
end
def V.isAgg : V → Bool
 | .agg _ | .I _ | .Q _ => true
 | _ => false
def V.wid (x : V) : Nat := x.atoms.length

theorem V.atomsL_append (l m : List V) : V.atomsL (l ++ m) = V.atomsL l ++ V.atomsL m := by
 induction l with
 | nil => rfl
 | cons x l ih => simp [V.atomsL, ih]
theorem V.atoms_single {x : V} (h : x.isAgg = false) : x.atoms = [x] := by
 cases x <;> first | rfl | (simp [V.isAgg] at h)
theorem V.atomsL_length {l : List V} {e : Nat} (h : ∀ x ∈ l, x.wid = e) : (V.atomsL l).length = l.length * e := by
 induction l with
 | nil => simp [V.atomsL]
 | cons x l ih =>
   have h1 := h x (by simp)
   have h2 := ih fun y hy => h y (by simp [hy])
   unfold V.wid at h1
   simp only [V.atomsL, List.length_append, h1, h2, List.length_cons, Nat.add_mul]; omega
theorem V.atomsL_get {l : List V} {e : Nat} (h : ∀ x ∈ l, x.wid = e) {i : Nat} {x : V} (hi : l[i]? = some x) {j : Nat} (hj : j < e) :
 (V.atomsL l)[i * e + j]? = x.atoms[j]? := by
 induction l generalizing i with
 | nil => simp at hi
 | cons y l ih =>
   have h1 : y.atoms.length = e := h y (by simp)
   cases i with
   | zero =>
     simp only [List.getElem?_cons_zero, Option.some.injEq] at hi
     subst hi
     simp only [V.atomsL, Nat.zero_mul, Nat.zero_add]
     rw [List.getElem?_append_left (by omega)]
   | succ i =>
     simp only [List.getElem?_cons_succ] at hi
     have := ih (fun z hz => h z (by simp [hz])) hi
     simp only [V.atomsL]
     rw [List.getElem?_append_right (by rw [h1, Nat.add_mul]; omega), h1, ← this]
     congr 1
     rw [Nat.add_mul]; omega

def ShapeOk (x : V) (v : Value) : Prop := (x.isAgg = true → ∃ cs, v = .agg cs) ∧ (x.isAgg = false → v.cells = #[v]) ∧ x.atoms.length = v.cells.size

def Stored (w : World) (b a : Nat) (vs : List Value) : Prop := ∀ j v, vs[j]? = some v → w.cell? ⟨b, a + j, none⟩ = some v

inductive RepA (w : World) (O : Nat → Prop) : (Nat → Option Nat) → V → Value → Prop
 | any (ρ : Nat → Option Nat) (v : Value) : RepA w O ρ .any v
 | raw (ρ : Nat → Option Nat) (v : Value) : RepA w O ρ (.raw v) v
 | emp (ρ : Nat → Option Nat) (A : Option Addr) : RepA w O ρ .emp (.slice A 0 0)
 | ptr (ρ : Nat → Option Nat) (k e i off b : Nat) (h : ρ k = some b) : RepA w O ρ (.ptr k e i off) (.pointer (some ⟨b, i * e + off, none⟩))
 | sl (ρ : Nat → Option Nat) (k e o n b c : Nat) (arr : Array Value) (t : TypeId) (fr : Nat × Nat) (h : ρ k = some b) (hb : w.heap[b]? = some (.cells arr t fr)) (hn : n ≤ c) (hc : (o + c) * e ≤ arr.size) : RepA w O ρ (.sl k e o n) (.slice (some ⟨b, o * e, none⟩) n c)
 | nil (ρ : Nat → Option Nat) (A : Option Addr) (c : Nat) : RepA w O ρ (.lst []) (.slice A 0 c)
 | lst (ρ : Nat → Option Nat) (l : List V) (b a c : Nat) (vs : List Value) (h0 : l ≠ []) (hc : l.length ≤ c) (hb : b < w.heap.size) (hO : ¬ O b) (hu : ∃ e, ∀ x ∈ l, V.wid x = e) (hs : Stored w b a vs)
  (hl : vs.length = (V.atomsL l).length) (hr : ∀ (j : Nat) (x : V) (v : Value), (V.atomsL l)[j]? = some x → vs[j]? = some v → RepA w O (fun _ => none) x v) : RepA w O ρ (.lst l) (.slice (some ⟨b, a, none⟩) l.length c)
 | pel (ρ : Nat → Option Nat) (x : V) (b a : Nat) (vs : List Value) (hb : b < w.heap.size) (hO : ¬ O b) (hs : Stored w b a vs)
  (hl : vs.length = x.atoms.length) (hr : ∀ (j : Nat) (y : V) (v : Value), x.atoms[j]? = some y → vs[j]? = some v → RepA w O (fun _ => none) y v) : RepA w O ρ (.pel x) (.pointer (some ⟨b, a, none⟩))
 | clo (ρ : Nat → Option Nat) (fn : Fn) (first caps : List V) (vf vc : Array Value) (h1 : first.length = vf.size) (h2 : caps.length = vc.size)
  (s1 : ∀ (j : Nat) (x : V) (v : Value), first[j]? = some x → vf[j]? = some v → ShapeOk x v) (s2 : ∀ (j : Nat) (x : V) (v : Value), caps[j]? = some x → vc[j]? = some v → ShapeOk x v)
  (r1 : ∀ (j : Nat) (x : V) (v : Value), first[j]? = some x → vf[j]? = some v → ∀ (i : Nat) (y : V) (u : Value), x.atoms[i]? = some y → v.cells[i]? = some u → RepA w O ρ y u)
  (r2 : ∀ (j : Nat) (x : V) (v : Value), caps[j]? = some x → vc[j]? = some v → ∀ (i : Nat) (y : V) (u : Value), x.atoms[i]? = some y → v.cells[i]? = some u → RepA w O ρ y u) :
  RepA w O ρ (.clo fn first caps) (.func fn vf vc)

def RepW (w : World) (O : Nat → Prop) (ρ : Nat → Option Nat) (x : V) (v : Value) : Prop :=
 x = .any ∨ (ShapeOk x v ∧ ∀ (i : Nat) (y : V) (u : Value), x.atoms[i]? = some y → v.cells[i]? = some u → RepA w O ρ y u)
def RepV (w : World) (O : Nat → Prop) (ρ : Nat → Option Nat) : V → Value → Prop
 | .tup l, v => ∃ vs : Array Value, v = .tuple vs ∧ l.length = vs.size ∧ ∀ (j : Nat) (y : V) (u : Value), l[j]? = some y → vs[j]? = some u → RepW w O ρ y u
 | x, v => RepW w O ρ x v

def KeptB (w w' : World) (b : Nat) : Prop := ∀ (arr : Array Value) (t : TypeId) (fr : Nat × Nat), w.heap[b]? = some (.cells arr t fr) → w'.heap[b]? = w.heap[b]?
theorem KeptB.of {w w' : World} {b : Nat} (h : w'.heap[b]? = w.heap[b]?) : KeptB w w' b := fun _ _ _ _ => h
theorem KeptB.trans {w w' w'' : World} {b : Nat} (h : KeptB w w' b) (k : KeptB w' w'' b) : KeptB w w'' b := fun arr t fr e =>
 (k arr t fr ((h arr t fr e).trans e)).trans (h arr t fr e)
structure Ext (w : World) (O : Nat → Prop) (ρ : Nat → Option Nat) (w' : World) (O' : Nat → Prop) (ρ' : Nat → Option Nat) : Prop where
 map : ∀ k b, ρ k = some b → ρ' k = some b
 kept : ∀ b, b < w.heap.size → ¬ O b → ¬ O' b ∧ KeptB w w' b
 size : w.heap.size ≤ w'.heap.size
 row : ∀ (b : Nat) (arr : Array Value) (t : TypeId) (fr : Nat × Nat), w.heap[b]? = some (.cells arr t fr) → ∃ (arr' : Array Value) (t' : TypeId) (fr' : Nat × Nat), w'.heap[b]? = some (.cells arr' t' fr') ∧ arr'.size = arr.size

theorem Ext.refl (w : World) (O : Nat → Prop) (ρ : Nat → Option Nat) : Ext w O ρ w O ρ :=
 ⟨fun _ _ h => h, fun _ _ h => ⟨h, .of rfl⟩, Nat.le_refl _, fun _ _ _ _ h => ⟨_, _, _, h, rfl⟩⟩
theorem Ext.trans {w O ρ w' O' ρ' w'' O'' ρ''} (h : Ext w O ρ w' O' ρ') (k : Ext w' O' ρ' w'' O'' ρ'') : Ext w O ρ w'' O'' ρ'' := by
 refine ⟨fun a b e => k.map _ _ (h.map _ _ e), fun b hb hO => ?_, Nat.le_trans h.size k.size, fun b arr t fr e => ?_⟩
 ·obtain ⟨h1, h2⟩ := h.kept b hb hO
  obtain ⟨k1, k2⟩ := k.kept b (Nat.lt_of_lt_of_le hb h.size) h1
  exact ⟨k1, h2.trans k2⟩
 ·obtain ⟨a1, t1, f1, e1, s1⟩ := h.row b arr t fr e
  obtain ⟨a2, t2, f2, e2, s2⟩ := k.row b a1 t1 f1 e1
  exact ⟨a2, t2, f2, e2, s2.trans s1⟩
theorem Ext.nones {w O ρ w' O' ρ'} (h : Ext w O ρ w' O' ρ') : Ext w O (fun _ => none) w' O' (fun _ => none) :=
 ⟨fun _ _ e => by simp at e, h.kept, h.size, h.row⟩
theorem Ext.into {w O w' O'} (h : Ext w O (fun _ => none) w' O' (fun _ => none)) (ρ) : Ext w O (fun _ => none) w' O' ρ :=
 ⟨fun _ _ e => by simp at e, h.kept, h.size, h.row⟩
theorem Stored.keep {w w' : World} {b a : Nat} {vs : List Value} (h : Stored w b a vs) (e : KeptB w w' b) : Stored w' b a vs := fun j v hj => by
 have h1 := h j v hj
 rw [← h1]
 cases hb : w.heap[b]? with
 | none => simp [World.cell?, hb] at h1
 | some o =>
   cases o with
   | cells arr t fr => unfold World.cell?; simp only; rw [e arr t fr hb]
   | _ => simp [World.cell?, hb] at h1
theorem RepA.mono {w O ρ x v} (h : RepA w O ρ x v) : ∀ {w' O' ρ'}, Ext w O ρ w' O' ρ' → RepA w' O' ρ' x v := by
 induction h with
 | any ρ v => intros; exact .any _ _
 | raw ρ v => intros; exact .raw _ _
 | emp ρ A => intros; exact .emp _ _
 | ptr ρ k e i off b h => intro w' O' ρ' hx; exact .ptr _ _ _ _ _ _ (hx.map _ _ h)
 | sl ρ k e o n b c arr t fr h hb hn hc =>
   intro w' O' ρ' hx
   obtain ⟨arr', t', fr', hb', hs⟩ := hx.row _ _ _ _ hb
   exact .sl _ _ _ _ _ _ _ arr' t' fr' (hx.map _ _ h) hb' hn (by omega)
 | nil ρ A c => intros; exact .nil _ _ _
 | lst ρ l b a c vs h0 hc hb hO hu hs hl hr ih =>
   intro w' O' ρ' hx
   obtain ⟨h1, h2⟩ := hx.kept b hb hO
   exact .lst _ _ _ _ _ vs h0 hc (Nat.lt_of_lt_of_le hb hx.size) h1 hu (hs.keep h2) hl fun j x v hj hv => ih j x v hj hv hx.nones
 | pel ρ x b a vs hb hO hs hl hr ih =>
   intro w' O' ρ' hx
   obtain ⟨h1, h2⟩ := hx.kept b hb hO
   exact .pel _ _ _ _ vs (Nat.lt_of_lt_of_le hb hx.size) h1 (hs.keep h2) hl fun j x v hj hv => ih j x v hj hv hx.nones
 | clo ρ fn first caps vf vc h1 h2 s1 s2 r1 r2 i1 i2 =>
   intro w' O' ρ' hx
   exact .clo _ _ _ _ _ _ h1 h2 s1 s2 (fun j x v hj hv i y u hy hu => i1 j x v hj hv i y u hy hu hx) (fun j x v hj hv i y u hy hu => i2 j x v hj hv i y u hy hu hx)
theorem RepW.mono {w O ρ x v w' O' ρ'} (h : RepW w O ρ x v) (hx : Ext w O ρ w' O' ρ') : RepW w' O' ρ' x v := by
 rcases h with h | ⟨h1, h2⟩
 ·exact .inl h
 ·exact .inr ⟨h1, fun i y u hy hu => (h2 i y u hy hu).mono hx⟩
theorem RepV.of_W {w O ρ x v} (h : RepW w O ρ x v) (ht : ∀ l, x ≠ .tup l) : RepV w O ρ x v := by
 cases x <;> first | exact h | exact absurd rfl (ht _)
theorem RepV.mono {w O ρ x v w' O' ρ'} (h : RepV w O ρ x v) (hx : Ext w O ρ w' O' ρ') : RepV w' O' ρ' x v := by
 cases x
 case tup l => obtain ⟨vs, e, hl, hr⟩ := h; exact ⟨vs, e, hl, fun j y u hy hu => (hr j y u hy hu).mono hx⟩
 all_goals exact RepW.mono h hx

theorem cells_single {v : Value} (h : ∀ cs, v ≠ .agg cs) : v.cells = #[v] := by
 cases v <;> first | rfl | exact absurd rfl (h _)
theorem RepW.atom {w O ρ x v} (h : RepW w O ρ x v) (ha : x.isAgg = false) : RepA w O ρ x v := by
 rcases h with rfl | ⟨⟨_, h1, h2⟩, h3⟩
 ·exact .any _ _
 ·have e := V.atoms_single ha
  refine h3 0 x v (by rw [e]; rfl) ?_
  rw [h1 ha]; rfl
theorem RepW.of_atom {w O ρ x v} (h : RepA w O ρ x v) (ha : x.isAgg = false) (hv : v.cells = #[v]) : RepW w O ρ x v := by
 have e := V.atoms_single ha
 refine .inr ⟨⟨fun h' => by rw [ha] at h'; simp at h', fun _ => hv, by rw [e, hv]; rfl⟩, fun i y u hy hu => ?_⟩
 rw [e] at hy
 rw [hv] at hu
 cases i with
 | zero => simp at hy hu; subst hy hu; exact h
 | succ i => simp at hy
theorem RepW.raw {w O ρ v} (hv : v.cells = #[v]) : RepW w O ρ (.raw v) v := RepW.of_atom (.raw _ _) rfl hv
theorem RepW.raw_inv {w O ρ u v} (h : RepW w O ρ (.raw u) v) : v = u := by
 have := h.atom rfl
 cases this; rfl
theorem RepW.rawOf {w O ρ u v} (h : RepA w O ρ (.raw u) v) : v = u := by cases h; rfl
theorem RepW.agg_iff {w O ρ x v} (ha : x.isAgg = true) : RepW w O ρ x v ↔ ∃ cs : Array Value, v = .agg cs ∧ x.atoms.length = cs.size ∧ ∀ (i : Nat) (y : V) (u : Value), x.atoms[i]? = some y → cs[i]? = some u → RepA w O ρ y u := by
 constructor
 ·rintro (rfl | ⟨⟨h1, _, h2⟩, h3⟩)
  ·simp [V.isAgg] at ha
  ·obtain ⟨cs, rfl⟩ := h1 ha
   exact ⟨cs, rfl, h2, h3⟩
 ·rintro ⟨cs, rfl, h2, h3⟩
  exact .inr ⟨⟨fun _ => ⟨_, rfl⟩, fun h => by rw [ha] at h; simp at h, h2⟩, h3⟩
theorem RepW.congr {w O ρ x y v} (h : RepW w O ρ x v) (hx : x.isAgg = true) (hy : y.isAgg = true) (e : x.atoms = y.atoms) : RepW w O ρ y v := by
 rw [RepW.agg_iff hx] at h
 rw [RepW.agg_iff hy, ← e]
 exact h
theorem Ext.less {w O O' ρ} (h : ∀ b, O' b → O b) : Ext w O ρ w O' ρ :=
 ⟨fun _ _ e => e, fun b _ hO => ⟨fun h' => hO (h b h'), .of rfl⟩, Nat.le_refl _, fun _ _ _ _ h => ⟨_, _, _, h, rfl⟩⟩
end Go.Proofs.YtfbogelmgdojgaaGreat


/- Abstract heaps and states; what a step of the program may do to a world. No program in sight. -/
namespace Go.Proofs.YtfbogelmgdojgaaGreat
set_option linter.unusedSimpArgs false
set_option linter.unusedVariables false
open Go.RowKit

structure Blk where
 t : TypeId
 e : Nat
 l : List V
abbrev Hp := Nat → Option Blk
def Hp.up (H : Hp) (k : Nat) (x : Option Blk) : Hp := fun j => if j = k then x else H j
def Hp.puts (H : Hp) : List (Nat × Option Blk) → Hp
 | [] => H
 | p :: ws => Hp.puts (H.up p.1 p.2) ws

def own (B : Nat → Prop) (ρ : Nat → Option Nat) (H : Hp) : Nat → Prop := fun b => B b ∨ ∃ k x, H k = some x ∧ ρ k = some b

structure HRep (w : World) (O : Nat → Prop) (ρ : Nat → Option Nat) (H : Hp) : Prop where
 row : ∀ k x, H k = some x → ∃ (b : Nat) (arr : Array Value), ρ k = some b ∧ w.heap[b]? = some (.cells arr x.t (0, 0)) ∧ (∀ y ∈ x.l, y.wid = x.e) ∧ (V.atomsL x.l).length ≤ arr.size ∧
  ∀ (j : Nat) (y : V) (u : Value), (V.atomsL x.l)[j]? = some y → arr[j]? = some u → RepA w O ρ y u
 inj : ∀ k k' x x' b, H k = some x → H k' = some x' → ρ k = some b → ρ k' = some b → k = k'

structure Step (H : Hp) (w : World) (ρ : Nat → Option Nat) (H' : Hp) (w' : World) (ρ' : Nat → Option Nat) : Prop where
 map : ∀ k b, ρ k = some b → ρ' k = some b
 same : ∀ b, b < w.heap.size → (∀ k x, H k = some x → ρ k ≠ some b) → w'.heap[b]? = w.heap[b]?
 mine : ∀ k x b, H' k = some x → ρ' k = some b → (∃ k0 x0, H k0 = some x0 ∧ ρ k0 = some b) ∨ w.heap.size ≤ b
 size : w.heap.size ≤ w'.heap.size
 row : ∀ (b : Nat) (arr : Array Value) (t : TypeId) (fr : Nat × Nat), w.heap[b]? = some (.cells arr t fr) → ∃ (arr' : Array Value) (t' : TypeId) (fr' : Nat × Nat), w'.heap[b]? = some (.cells arr' t' fr') ∧ arr'.size = arr.size
 os : w'.os = w.os
 tape : w'.tape = w.tape
 output : w'.output = w.output

theorem Step.refl (H : Hp) (w : World) (ρ : Nat → Option Nat) : Step H w ρ H w ρ :=
 ⟨fun _ _ h => h, fun _ _ _ => rfl, fun k x b h e => .inl ⟨k, x, h, e⟩, Nat.le_refl _, fun _ _ _ _ h => ⟨_, _, _, h, rfl⟩, rfl, rfl, rfl⟩
theorem Step.trans {H w ρ H' w' ρ' H'' w'' ρ''} (h : Step H w ρ H' w' ρ') (k : Step H' w' ρ' H'' w'' ρ'') : Step H w ρ H'' w'' ρ'' := by
 refine ⟨fun a b e => k.map _ _ (h.map _ _ e), fun b hb hn => ?_, fun a x b e1 e2 => ?_, Nat.le_trans h.size k.size, fun b arr t fr e => ?_, k.os.trans h.os, k.tape.trans h.tape, k.output.trans h.output⟩
 ·have h1 := h.same b hb hn
  refine (k.same b (Nat.lt_of_lt_of_le hb h.size) fun a x e1 e2 => ?_).trans h1
  rcases h.mine a x b e1 e2 with ⟨k0, x0, e3, e4⟩ | hge
  ·exact hn k0 x0 e3 e4
  ·omega
 ·rcases k.mine a x b e1 e2 with ⟨k0, x0, e3, e4⟩ | hge
  ·exact h.mine k0 x0 b e3 e4
  ·exact .inr (Nat.le_trans h.size hge)
 ·obtain ⟨a1, t1, f1, e1, s1⟩ := h.row b arr t fr e
  obtain ⟨a2, t2, f2, e2, s2⟩ := k.row b a1 t1 f1 e1
  exact ⟨a2, t2, f2, e2, s2.trans s1⟩
theorem Step.ext {H w ρ H' w' ρ'} (h : Step H w ρ H' w' ρ') (B : Nat → Prop) : Ext w (own B ρ H) ρ w' (own B ρ' H') ρ' := by
 refine ⟨h.map, fun b hb hO => ⟨?_, .of (h.same b hb fun k x e1 e2 => hO (.inr ⟨k, x, e1, e2⟩))⟩, h.size, h.row⟩
 rintro (hB | ⟨k, x, e1, e2⟩)
 ·exact hO (.inl hB)
 ·rcases h.mine k x b e1 e2 with ⟨k0, x0, e3, e4⟩ | hge
  ·exact hO (.inr ⟨k0, x0, e3, e4⟩)
  ·omega
theorem Step.drewN (H : Hp) (w : World) (ρ : Nat → Option Nat) (n : Nat) : Step H w ρ H { w with drawn := n } ρ :=
 ⟨fun _ _ h => h, fun _ _ _ => rfl, fun k x b h e => .inl ⟨k, x, h, e⟩, Nat.le_refl _, fun _ _ _ _ h => ⟨_, _, _, h, rfl⟩, rfl, rfl, rfl⟩
theorem HRep.mono {w O ρ H w' O' ρ'} (h : HRep w O ρ H) (hx : Ext w O ρ w' O' ρ') (hs : ∀ k x b, H k = some x → ρ k = some b → w'.heap[b]? = w.heap[b]?) (hi : ∀ k x b, H k = some x → ρ' k = some b → ρ k = some b) : HRep w' O' ρ' H := by
 refine ⟨fun k x e => ?_, fun k k' x x' b e1 e2 e3 e4 => h.inj k k' x x' b e1 e2 (hi _ _ _ e1 e3) (hi _ _ _ e2 e4)⟩
 obtain ⟨b, arr, h1, h2, h3, h4, h5⟩ := h.row k x e
 exact ⟨b, arr, hx.map _ _ h1, (hs k x b e h1).trans h2, h3, h4, fun j y u hy hu => (h5 j y u hy hu).mono hx⟩

structure St where
 s : Nat → V
 H : Hp
 n : Nat
 N : Nat
 m : Nat := 0
 q : Bool := false
def upS (s : Nat → V) (t : Nat) (v : V) : Nat → V := fun j => if j = t then v else s j
def cst : Value → V
 | .agg cs => .agg (cs.toList.map .raw)
 | v => .raw v
def St.ev (σ : St) : Operand → V
 | .tmp t => σ.s t
 | .const v => cst v
 | .global g => .raw (.pointer (some ⟨g, 0, none⟩))
 | .func f => .clo (.func f) [] []

def Marks (W w : World) (ds : List Deferred) : Prop :=
 ∃ l : List Nat, ds = l.map (fun D => { target := .collected D, args := #[] }) ∧ l.Nodup ∧ ∀ D ∈ l, W.heap.size ≤ D ∧ w.heap[D]? = some (Obj.deferred (some []))
theorem Marks.nil (W w : World) : Marks W w [] := ⟨[], rfl, List.nodup_nil, fun _ h => by cases h⟩
theorem Marks.keep {W w w' : World} {ds : List Deferred} (h : Marks W w ds) (hk : ∀ D : Nat, w.heap[D]? = some (Obj.deferred (some [])) → w'.heap[D]? = w.heap[D]?) : Marks W w' ds := by
 obtain ⟨l, h1, h2, h3⟩ := h
 exact ⟨l, h1, h2, fun D hD => ⟨(h3 D hD).1, (hk D (h3 D hD).2).trans (h3 D hD).2⟩⟩
theorem Marks.step {W w w' : World} {ds : List Deferred} {O : Nat → Prop} {ρ ρ' : Nat → Option Nat} {H H' : Hp} (h : Marks W w ds) (hH : HRep w O ρ H) (hs : Step H w ρ H' w' ρ') : Marks W w' ds :=
 Marks.keep h fun D hD => hs.same D (Array.getElem?_eq_some_iff.1 hD).1 fun k x e1 e2 => by
  obtain ⟨b, arr, h1, h2, _⟩ := hH.row k x e1
  rw [e2] at h1; injection h1 with h1; subst h1
  rw [hD] at h2; cases h2
structure Sim (B : Nat → Prop) (A : Nat → Option Nat) (W : World) (σ : St) (a : Act) (w : World) (ρ : Nat → Option Nat) : Prop where
 defers : σ.q = false → a.defers = []
 size : a.tmps.size = σ.N
 slots : ∀ t, RepV w (own B ρ σ.H) ρ (σ.s t) (a.tmps.getD t undef)
 heap : HRep w (own B ρ σ.H) ρ σ.H
 fresh : ∀ k, σ.n ≤ k → ρ k = none
 mine : ∀ k x b, σ.H k = some x → ρ k = some b → (∃ j, A j = some b) ∨ W.heap.size ≤ b
 os : w.os = W.os
 tape : w.tape = W.tape
 output : w.output = W.output
 grow : W.heap.size ≤ w.heap.size
 same : ∀ b, b < W.heap.size → (∀ j, A j ≠ some b) → w.heap[b]? = W.heap[b]?
 row : ∀ (b : Nat) (arr : Array Value) (t : TypeId) (fr : Nat × Nat), W.heap[b]? = some (.cells arr t fr) → ∃ (arr' : Array Value) (t' : TypeId) (fr' : Nat × Nat), w.heap[b]? = some (.cells arr' t' fr') ∧ arr'.size = arr.size
 pins : ∀ k b, A (2 * k) = some b → k < σ.m ∧ ρ k = some b
 marks : Marks W w a.defers

theorem Sim.below {B W σ a w ρ} (h : Sim B (fun _ => none) W σ a w ρ) : Below W.heap.size W w :=
 ⟨h.os, h.tape, h.output, h.grow, fun b hb => h.same b hb fun _ e => by cases e⟩
theorem Sim.live {B A W σ a w ρ} (h : Sim B A W σ a w ρ) {k x} (e : σ.H k = some x) : ∃ b, ρ k = some b ∧ b < w.heap.size := by
 obtain ⟨b, arr, h1, h2, _⟩ := h.heap.row k x e
 exact ⟨b, h1, (Array.getElem?_eq_some_iff.1 h2).1⟩
theorem cst_rep (w O ρ) (v : Value) : RepV w O ρ (cst v) v := by
 cases v with
 | agg cs =>
   have e : ∀ l : List Value, V.atomsL (l.map .raw) = l.map .raw := by
    intro l
    induction l with
    | nil => rfl
    | cons x l ih => simp [V.atomsL, V.atoms, ih]
   refine (RepW.agg_iff (by rfl)).2 ⟨cs, rfl, ?_, ?_⟩
   ·show (V.atomsL _).length = _
    rw [e]; simp
   ·intro i y u hy hu
    have hy' : (V.atomsL (cs.toList.map .raw))[i]? = some y := hy
    rw [e] at hy'
    simp [hu] at hy'
    subst hy'
    exact .raw _ _
 | _ => exact RepW.raw rfl
theorem Sim.ev {B A W σ a w ρ} (h : Sim B A W σ a w ρ) (x : Operand) : RepV w (own B ρ σ.H) ρ (σ.ev x) (a.eval x) := by
 cases x with
 | tmp t => exact h.slots t
 | const v => exact cst_rep _ _ _ v
 | global g => exact RepW.raw rfl
 | func f =>
   refine RepW.of_atom ?_ rfl rfl
   exact .clo _ _ _ _ _ _ rfl rfl (by simp) (by simp) (by simp) (by simp)

def St.put (σ : St) (dst : Option Tmp) (v : V) (ws : List (Nat × Option Blk)) : St :=
 { s := match dst with | some d => upS σ.s d v | none => σ.s, H := σ.H.puts ws, n := σ.n + 1, N := σ.N, m := σ.m, q := σ.q }
theorem Sim.putG {B A W σ a w ρ} (h : Sim B A W σ a w ρ) {n' : Nat} {dst : Option Tmp} (hd : ∀ d, dst = some d → d < σ.N) {v : Value} {x : V} {ws w' ρ'}
 (hs : Step σ.H w ρ (σ.H.puts ws) w' ρ') (hH : HRep w' (own B ρ' (σ.H.puts ws)) ρ' (σ.H.puts ws)) (hf : ∀ k, n' ≤ k → ρ' k = none)
 (hx : RepV w' (own B ρ' (σ.H.puts ws)) ρ' x v) : Sim B A W { σ.put dst x ws with n := n' } (a.put dst v) w' ρ' := by
 have hext := hs.ext B
 refine ⟨?_, ?_, fun t => ?_, hH, hf, fun k y b e1 e2 => ?_, hs.os.trans h.os, hs.tape.trans h.tape, hs.output.trans h.output, Nat.le_trans h.grow hs.size, fun b hb hA => ?_, fun b arr t fr e => ?_, fun k b e => ⟨(h.pins k b e).1, hs.map _ _ (h.pins k b e).2⟩, ?_⟩
 ·cases dst <;> exact h.defers
 ·cases dst <;> simp [Act.put, St.put, h.size]
 ·cases dst with
  | none => exact (h.slots t).mono hext
  | some d =>
    have hlt : d < a.tmps.size := by rw [h.size]; exact hd d rfl
    by_cases e : t = d
    ·subst e
     simp only [St.put, upS, if_true, Act.put]
     rw [Array.getD_eq_getD_getElem?, Array.getElem?_setIfInBounds_self_of_lt hlt]
     exact hx
    ·simp only [St.put, upS, if_neg e, Act.put]
     rw [Array.getD_eq_getD_getElem?, Array.getElem?_setIfInBounds_ne (fun e' => e e'.symm), ← Array.getD_eq_getD_getElem?]
     exact (h.slots t).mono hext
 ·rcases hs.mine k y b e1 e2 with ⟨k0, x0, e3, e4⟩ | hge
  ·exact h.mine k0 x0 b e3 e4
  ·exact .inr (Nat.le_trans h.grow hge)
 ·refine (hs.same b (Nat.lt_of_lt_of_le hb h.grow) fun k y e1 e2 => ?_).trans (h.same b hb hA)
  rcases h.mine k y b e1 e2 with h1 | h1
  ·obtain ⟨j, h1⟩ := h1
   exact hA j h1
  ·omega
 ·obtain ⟨a1, t1, f1, e1, s1⟩ := h.row b arr t fr e
  obtain ⟨a2, t2, f2, e2, s2⟩ := hs.row b a1 t1 f1 e1
  exact ⟨a2, t2, f2, e2, s2.trans s1⟩
 ·cases dst <;> exact Marks.step h.marks h.heap hs

theorem Sim.put {B A W σ a w ρ} (h : Sim B A W σ a w ρ) {dst : Option Tmp} (hd : ∀ d, dst = some d → d < σ.N) {v : Value} {x : V} {ws w' ρ'}
 (hs : Step σ.H w ρ (σ.H.puts ws) w' ρ') (hH : HRep w' (own B ρ' (σ.H.puts ws)) ρ' (σ.H.puts ws)) (hf : ∀ k, k ≠ σ.n → ρ k = none → ρ' k = none)
 (hx : RepV w' (own B ρ' (σ.H.puts ws)) ρ' x v) : Sim B A W (σ.put dst x ws) (a.put dst v) w' ρ' :=
 h.putG (n' := σ.n + 1) hd hs hH (fun k hk => hf k (by omega) (h.fresh k (by omega))) hx

def PCall (P : Program) (f : FuncId) (args : List V) (r : V) : Prop :=
 ∀ (B : Nat → Prop) (w : World) (vs : List Value), vs.length = args.length → (∀ (j : Nat) (x : V) (v : Value), args[j]? = some x → vs[j]? = some v → RepW w B (fun _ => none) x v) → (∀ b, B b → b < w.heap.size) →
  Calls P f vs.toArray w fun e w' => ∃ v, e = .returned v ∧ RepV w' B (fun _ => none) r v ∧ Below w.heap.size w w'
end Go.Proofs.YtfbogelmgdojgaaGreat

