/- Texts PM12 G1 K4 K5 G2 G3 in one. -/
import Derived.Test.YtfbogelmgdojgaaGreatR22
import Derived.Test.YtfbogelmgdojgaaGreatR21
import Derived.Test.YtfbogelmgdojgaaGreatR19
import Derived.Test.YtfbogelmgdojgaaGreatR16
import Derived.ChangeArms
import Derived.Test.YtfbogelmgdojgaaGreatR12
/- Polynomials over the rational numbers: division step by step. No program in sight. -/
namespace Go.Proofs.YtfbogelmgdojgaaGreat
set_option linter.unusedSimpArgs false
set_option linter.unusedVariables false

def shl (i : Nat) (l : List Rat) : List Rat := List.replicate i 0 ++ l
theorem cf_shl (i : Nat) (l : List Rat) (n : Nat) : cf (shl i l) n = if i ≤ n then cf l (n - i) else 0 := by
 unfold shl cf
 rw [List.getD_eq_getElem?_getD, List.getD_eq_getElem?_getD]
 by_cases h : i ≤ n
 ·rw [if_pos h, List.getElem?_append_right (by simpa using h), List.length_replicate]
 ·rw [if_neg h, List.getElem?_append_left (by simp; omega), List.getElem?_replicate, if_pos (by omega)]; rfl
theorem shl_zero (l : List Rat) : shl 0 l = l := rfl
theorem cf_mon (c : Rat) (k n : Nat) : cf (mon c k) n = if n = k then c else 0 := by
 by_cases h : n = k
 ·rw [if_pos h, h, mon_top]
 ·rw [if_neg h, mon_low c k n h]
theorem cf_mulL_mon (c : Rat) (b : List Rat) : ∀ (k n : Nat), cf (mulL (mon c k) b) n = if k ≤ n then c * cf b (n - k) else 0
 | 0, n => by
   show cf (mulL [c] b) n = _
   have h := mulL_snoc [] c b n
   rw [List.nil_append, List.length_nil] at h
   rw [h]
   show 0 + _ = _
   simp only [Nat.zero_le, if_true, Nat.sub_zero]; grind
 | k + 1, n => by
   have e : mon c (k + 1) = 0 :: mon c k := rfl
   rw [e]
   simp only [mulL, cf_addL, cf_scL]
   cases n with
   | zero => rw [cf_zero, if_neg (by omega)]; grind
   | succ n =>
     rw [cf_succ, cf_mulL_mon c b k n]
     by_cases h : k ≤ n
     ·rw [if_pos h, if_pos (by omega), show n + 1 - (k + 1) = n - k from by omega]; grind
     ·rw [if_neg h, if_neg (by omega)]; grind
theorem pdiv_step {a b r r' ql : List Rat} {i : Nat} {c : Rat} (h : ∀ x, ev (shl (i + 1) ql) x * ev b x + ev r x = ev a x) (hr : ∀ n, cf r' n = cf r n - (if i ≤ n then c * cf b (n - i) else 0)) (x : Rat) :
 ev (shl i (c :: ql)) x * ev b x + ev r' x = ev a x := by
 have e1 : ev (shl i (c :: ql)) x = ev (shl (i + 1) ql) x + ev (mon c i) x := by
  rw [← ev_addL]
  refine ev_of_cf (fun n => ?_) x
  rw [cf_addL, cf_shl, cf_shl, cf_mon]
  by_cases h1 : n = i
  ·subst h1
   rw [if_pos (Nat.le_refl _), Nat.sub_self, cf_zero, if_neg (by omega), if_pos rfl]; grind
  ·by_cases h2 : i ≤ n
   ·rw [if_pos h2, if_pos (by omega), if_neg h1, cf_cons_pos (by omega), show n - i - 1 = n - (i + 1) from by omega]; grind
   ·rw [if_neg h2, if_neg (by omega), if_neg h1]; grind
 have e2 : ev r' x = ev r x - ev (mon c i) x * ev b x := by
  have : ev r' x = ev (addL r (scL (-1) (mulL (mon c i) b))) x := ev_of_cf (fun n => by rw [hr, cf_addL, cf_scL, cf_mulL_mon]; grind) x
  rw [this, ev_addL, ev_scL, ev_mulL]; grind
 have := h x
 rw [e1, e2]; grind
theorem pdiv_top {b r r' : List Rat} {i : Nat} (hb : Can b) (h0 : b ≠ []) (ht : ∀ n, i + b.length ≤ n → cf r n = 0) (hr : ∀ n, cf r' n = cf r n - (if i ≤ n then cf r (i + b.length - 1) / lead b * cf b (n - i) else 0)) (n : Nat) (hn : i + b.length - 1 ≤ n) : cf r' n = 0 := by
 have hb' := List.length_pos_iff.2 h0
 have hl := lead_ne hb h0
 rw [hr, if_pos (by omega)]
 by_cases h : n = i + b.length - 1
 ·subst h
  rw [show i + b.length - 1 - i = b.length - 1 from by omega]
  show cf r (i + b.length - 1) - cf r (i + b.length - 1) / lead b * lead b = 0
  grind
 ·rw [ht n (by omega), cf_ge (l := b) (by omega)]; grind
theorem pdiv_end {a b r q : List Rat} (ha : Can a) (hb : Can b) (h0 : b ≠ []) (h : ∀ x, ev q x * ev b x + ev r x = ev a x) (ht : ∀ n, b.length - 1 ≤ n → cf r n = 0) : pDiv a b = tr q ∧ pMod a b = tr r := by
 have hb' := List.length_pos_iff.2 h0
 refine dm_eq ha hb (tr_can _) (tr_can _) ?_ fun x => by rw [ev_tr, ev_tr, h]
 refine Nat.lt_of_not_le fun hl => ?_
 have h1 : tr r ≠ [] := fun e => by rw [e, List.length_nil] at hl; omega
 have h2 := tr_can r h1
 rw [cf_tr, ht _ (by omega)] at h2
 exact h2 rfl
end Go.Proofs.YtfbogelmgdojgaaGreat


/- Rows of rational numbers in the abstract run. -/
namespace Go.Proofs.YtfbogelmgdojgaaGreat
set_option linter.unusedSimpArgs false
set_option linter.unusedVariables false
open Go.RowKit

def V.rats (l : List Rat) : List V := l.map .Q
@[go_sem] theorem rats_len (l : List Rat) : (V.rats l).length = l.length := by simp [V.rats]
theorem rats_get {l : List Rat} {i : Nat} (h : i < l.length) : (V.rats l)[i]? = some (.Q (cf l i)) := by
 simp [V.rats, cf_lt h, List.getElem?_eq_getElem h]
@[go_sem ↓, go_sem] theorem ev_rats_get {l : List Rat} {i : Nat} {k : V → Prop} : optC (V.rats l)[i]? k = (i < l.length ∧ k (.Q (cf l i))) := by
  by_cases h : i < l.length
  ·rw [rats_get h]; simp [optC, h]
  ·have : (V.rats l)[i]? = none := by rw [List.getElem?_eq_none]; rw [rats_len]; omega
   rw [this]; simp [optC, h]
@[go_sem] theorem rats_take (l : List Rat) (n : Nat) : (V.rats l).take n = V.rats (l.take n) := by simp [V.rats]
@[go_sem] theorem rats_drop (l : List Rat) (n : Nat) : (V.rats l).drop n = V.rats (l.drop n) := by simp [V.rats]
@[go_sem] theorem rats_append (l m : List Rat) : V.rats l ++ V.rats m = V.rats (l ++ m) := by simp [V.rats]
@[go_sem] theorem rats_snoc (l : List Rat) (q : Rat) : V.rats l ++ [V.Q q] = V.rats (l ++ [q]) := by simp [V.rats]
@[go_sem] theorem rats_wid (l : List Rat) : allWid (V.rats l) 4 = True := by
  simp only [eq_iff_iff, iff_true]
  intro y hy
  obtain ⟨x, _, rfl⟩ := List.mem_map.1 hy
  rfl
@[go_sem] theorem rats_good (l : List Rat) : allGood (V.rats l) = True := by
  simp only [eq_iff_iff, iff_true]
  intro y hy
  obtain ⟨x, _, rfl⟩ := List.mem_map.1 hy
  rfl
@[go_sem] theorem rats_pure (l : List Rat) : allPure (V.rats l) = True := by
  simp only [eq_iff_iff, iff_true]
  intro y hy
  obtain ⟨x, _, rfl⟩ := List.mem_map.1 hy
  rfl
@[go_sem] theorem frzOk_rats (l : List Rat) : frzOk (V.rats l) = True := eq_true (frzOk_map (fun a => ⟨rfl, by simp, by simp⟩) l)
@[go_sem] theorem rats_set (l : List Rat) (i : Nat) (q : Rat) : (V.rats l).set i (.Q q) = V.rats (l.set i q) := by simp [V.rats, List.map_set]
@[go_sem] theorem rats_rep (n : Nat) (q : Rat) : List.replicate n (V.Q q) = V.rats (List.replicate n q) := by simp [V.rats]
theorem rats_nil : ([] : List V) = V.rats [] := rfl
def unrat : List V → Option (List Rat)
 | [] => some []
 | .Q q :: l => (unrat l).map (q :: ·)
 | _ => none
theorem unrat_ok : ∀ (l : List V) (m : List Rat), unrat l = some m → l = V.rats m
 | [], m, h => by injection h with h; subst h; rfl
 | .Q q :: l, m, h => by
   unfold unrat at h
   rcases hm : unrat l with _ | m' <;> rw [hm] at h
   ·cases h
   ·injection h with h
    subst h
    rw [unrat_ok l m' hm]
    rfl
@[go_sem ↓, go_sem] theorem unrat_rats (l : List Rat) : unrat (V.rats l) = some l := by
  induction l with
  | nil => rfl
  | cons x l ih =>
    show (unrat (V.rats l)).map (x :: ·) = _
    rw [ih]; rfl
@[go_sem ↓, go_sem] theorem unrat_nil : unrat [] = some [] := rfl
@[go_sem ↓, go_sem] theorem unrat_cons (q : Rat) (l : List V) : unrat (.Q q :: l) = (unrat l).map (q :: ·) := rfl
def pR : Pat (List Rat) where
 p
  | .lst l => (unrat l).map fun m => (True, m)
  | .raw (.slice none 0 0) => some (True, [])
  | .emp => some (True, [])
  | _ => none
 val l := .lst (V.rats l)
 ok x c a h hc := by
  split at h
  ·rename_i l
   rcases hm : unrat l with _ | m <;> rw [hm] at h
   ·cases h
   ·injection h with h; injection h with h1 h2; subst h2
    rw [unrat_ok l m hm]; exact .refl _
  ·injection h with h; injection h with h1 h2; subst h2; exact .inr (.inr ⟨rfl, rfl, rfl, rfl⟩)
  ·injection h with h; injection h with h1 h2; subst h2; exact .inr (.inr ⟨rfl, rfl, rfl⟩)
  ·cases h
@[go_sem ↓, go_sem] theorem ev_pR {l : List V} : pR.p (.lst l) = (unrat l).map fun m => (True, m) := rfl
@[go_sem ↓, go_sem] theorem ev_pR_nil : pR.p (.raw (.slice none 0 0)) = some (True, []) := rfl
@[go_sem ↓, go_sem] theorem ev_pR_emp : pR.p .emp = some (True, []) := rfl
@[go_sem ↓, go_sem] theorem ev_pR_mk {l : List Rat} : pR.val l = .lst (V.rats l) := rfl
@[go_sem ↓ high, go_sem high] theorem args_same {H : Hp} {xs : List V} {k : List V → List Nat → Prop} (h : frzOk xs) : argsP H xs k = k xs [] := frzs_same h
def PB (l : List Rat) (k : Nat) : Prop := ∀ i, qs (cf l i) ≤ k
theorem PB.mono {l : List Rat} {j k : Nat} (h : PB l j) (e : j ≤ k) : PB l k := fun i => Nat.le_trans (h i) e
theorem qs_0 : qs 0 ≤ 1 := Nat.max_le.2 ⟨(dl_le (k := 1)).2 (by decide), (dl_le (k := 1)).2 (by decide)⟩
theorem qs_1 : qs 1 ≤ 1 := Nat.max_le.2 ⟨(dl_le (k := 1)).2 (by decide), (dl_le (k := 1)).2 (by decide)⟩
theorem PB_nil {k : Nat} (h : 1 ≤ k) : PB [] k := fun i => Nat.le_trans qs_0 h
theorem PB_cons {q : Rat} {l : List Rat} {k : Nat} (h : qs q ≤ k) (g : PB l k) : PB (q :: l) k := fun i => by
 cases i with
 | zero => exact h
 | succ i => exact g i
theorem PB.pos {l : List Rat} {k : Nat} (h : PB l k) : 1 ≤ k := Nat.le_trans (qs_pos _) (h 0)
theorem cf_set {l : List Rat} {i j : Nat} {q : Rat} : cf (l.set i q) j = if i = j ∧ i < l.length then q else cf l j := by
 unfold cf
 rw [List.getD_eq_getElem?_getD, List.getD_eq_getElem?_getD, List.getElem?_set]
 by_cases h : i = j
 ·subst h
  by_cases h2 : i < l.length
  ·simp [h2]
  ·simp [h2]
 ·simp [h]
theorem cf_take {l : List Rat} {n i : Nat} : cf (l.take n) i = if i < n then cf l i else 0 := by
 unfold cf
 rw [List.getD_eq_getElem?_getD, List.getD_eq_getElem?_getD, List.getElem?_take]
 split <;> rfl
theorem cf_map_range {f : Nat → Rat} {n i : Nat} : cf ((List.range n).map f) i = if i < n then f i else 0 := by
 unfold cf
 rw [List.getD_eq_getElem?_getD, List.getElem?_map]
 by_cases h : i < n
 ·rw [List.getElem?_range h, if_pos h]; rfl
 ·rw [List.getElem?_eq_none (by simpa using h), if_neg h]; rfl
end Go.Proofs.YtfbogelmgdojgaaGreat


/- What an argument stands for, by its type. No program in sight. -/
namespace Go.Proofs.YtfbogelmgdojgaaGreat
set_option linter.unusedSimpArgs false
set_option linter.unusedVariables false
open Go.ChangeShapes Go.WideShapes Go.ChangeAt Go.RowKit Go.Joins

def fitL (F : TypeId → V → Prop) : List TypeId → List V → Prop
 | [], [] => True
 | t :: ts, x :: xs => F t x ∧ fitL F ts xs
 | _, _ => False
def Fits (P : Program) : Nat → TypeId → V → Prop
 | 0, _, _ => False
 | n + 1, t, x => match P.underlying t with
   | some .bool => ∃ b, x = .raw (.bool b)
   | some (.int k) => ∃ z, (Lit.int k z).wf = true ∧ x = .raw (.int k z)
   | some .string => ∃ s, x = .raw (.string s)
   | some (.slice e) => ∃ l, x = .lst l ∧ l.length ≤ 9223372036854775807 ∧ ∀ y ∈ l, Fits P n e y
   | some (.struct fs) => ∃ l, x = .agg l ∧ fitL (Fits P n) (fs.toList.map (·.type)) l
   | some (.array m e) => ∃ l, x = .agg l ∧ fitL (Fits P n) (List.replicate m e) l
   | _ => False
def offs (P : Program) (ok : TypeId → Bool) : Nat → List Field → Option Nat
 | o, [] => some o
 | o, f :: fs => if f.offset = o ∧ ok f.type = true then offs P ok (o + P.cellsOf f.type) fs else none
def laidT (P : Program) : Nat → TypeId → Bool
 | 0, _ => false
 | n + 1, t => match P.underlying t with
   | some .bool => true
   | some (.int _) => true
   | some .string => true
   | some (.slice e) => decide (0 < P.cellsOf e) && laidT P n e
   | some (.struct fs) => decide (offs P (laidT P n) 0 fs.toList = some (P.cellsOf t))
   | some (.array m e) => decide (P.cellsOf t = m * P.cellsOf e) && laidT P n e
   | _ => false
section
variable {H : Type} {enc : TypeId × Value → H} {P : Program} {w : World} {base : Nat} {sp : Nat → Bool} {held : Bool}
def ReadsC (w : World) (L : List V) (cs : List Value) (o : Nat) : Prop := ∀ (i : Nat) (y : V) (u : Value), L[i]? = some y → cs[o + i]? = some u → RepA w Nb Nr y u
theorem cells_length {a : Addr} {n : Nat} {cs : List Value} (h : w.cells? base a n = some cs) : cs.length = n ∧ ∀ i, i < n → w.cell? (a.add i) = cs[i]? := by
 unfold World.cells? at h
 split at h
 ·refine ⟨by simpa using mapM_some_length h, fun i hi => mapM_some_get h i i ?_⟩
  simp [hi]
 ·cases h
theorem readsC_append {L M : List V} {cs : List Value} {o : Nat} (h : ReadsC w L cs o) (g : ReadsC w M cs (o + L.length)) : ReadsC w (L ++ M) cs o := by
 intro i y u hy hu
 by_cases hi : i < L.length
 ·rw [List.getElem?_append_left hi] at hy
  exact h i y u hy hu
 ·rw [List.getElem?_append_right (by omega)] at hy
  exact g _ y u hy (by rw [show o + L.length + (i - L.length) = o + i from by omega]; exact hu)
theorem readsC_sub {L : List V} {cs : List Value} {o m : Nat} (h : ReadsC w L ((cs.drop o).take m) 0) (hl : L.length = ((cs.drop o).take m).length) : ReadsC w L cs o := by
 intro i y u hy hu
 have hi : i < L.length := (List.getElem?_eq_some_iff.1 hy).1
 refine h i y u hy ?_
 rw [hl, List.length_take] at hi
 rw [Nat.zero_add, List.getElem?_take, if_pos (by omega), List.getElem?_drop]
 exact hu
theorem fit_fields {n : Nat} {cs : List Value} {ok : TypeId → Bool} (N : Nat)
 (ih' : ∀ (t : TypeId) (cs : List Value) (x : DataW H × List MemPlace), ok t = true → DataW.trod enc P w base sp held n t cs = some x → ∃ X, Fits P N t X ∧ X.atoms.length = cs.length ∧ ReadsC w X.atoms cs 0) :
 ∀ (fs : List Field) (o T : Nat), offs P ok o fs = some T → T ≤ cs.length → (∀ f ∈ fs, ∃ y, DataW.trod enc P w base sp held n f.type ((cs.drop f.offset).take (P.cellsOf f.type)) = some y) →
  o ≤ T ∧ ∃ l, fitL (Fits P N) (fs.map (·.type)) l ∧ (V.atomsL l).length = T - o ∧ ReadsC w (V.atomsL l) cs o
 | [], o, T, h, hT, _ => by
   simp only [offs, Option.some.injEq] at h
   exact ⟨by omega, [], trivial, by simp [V.atomsL]; omega, fun i y u hy _ => by simp [V.atomsL] at hy⟩
 | f :: fs, o, T, h, hT, hf => by
   simp only [offs] at h
   split at h
   ·rename_i hok
    obtain ⟨h1, h2⟩ := hok
    obtain ⟨g1, l, g2, g3, g4⟩ := fit_fields N ih' fs _ T h hT fun g hg => hf g (by simp [hg])
    obtain ⟨y, hy⟩ := hf f (by simp)
    rw [h1] at hy
    obtain ⟨X, k1, k2, k3⟩ := ih' _ _ _ h2 hy
    have hl : ((cs.drop o).take (P.cellsOf f.type)).length = P.cellsOf f.type := by
     rw [List.length_take, List.length_drop]; omega
    refine ⟨by omega, X :: l, ⟨k1, g2⟩, ?_, ?_⟩
    ·simp only [V.atomsL, List.length_append, g3, k2, hl]; omega
    ·refine readsC_append (readsC_sub k3 k2) ?_
     rw [k2, hl]
     exact g4
   ·cases h
theorem fit_arr {n : Nat} {cs : List Value} {e : TypeId} (N : Nat)
 (ih : ∀ (cs : List Value) (x : DataW H × List MemPlace), DataW.trod enc P w base sp held n e cs = some x → ∃ X, Fits P N e X ∧ X.atoms.length = cs.length ∧ ReadsC w X.atoms cs 0) :
 ∀ (m k : Nat), (k + m) * P.cellsOf e ≤ cs.length → (∀ i, i < m → ∃ y, DataW.trod enc P w base sp held n e ((cs.drop ((k + i) * P.cellsOf e)).take (P.cellsOf e)) = some y) →
  ∃ l, fitL (Fits P N) (List.replicate m e) l ∧ (V.atomsL l).length = m * P.cellsOf e ∧ ReadsC w (V.atomsL l) cs (k * P.cellsOf e)
 | 0, k, _, _ => ⟨[], trivial, by simp [V.atomsL], fun i y u hy _ => by simp [V.atomsL] at hy⟩
 | m + 1, k, hl, hf => by
   obtain ⟨l, g2, g3, g4⟩ := fit_arr N ih m (k + 1) (by rw [show k + 1 + m = k + (m + 1) from by omega]; exact hl) fun i hi => by
    have := hf (i + 1) (by omega)
    rwa [show k + (i + 1) = k + 1 + i from by omega] at this
   obtain ⟨y, hy⟩ := hf 0 (by omega)
   rw [Nat.add_zero] at hy
   obtain ⟨X, k1, k2, k3⟩ := ih _ _ hy
   have hc : (k + 1) * P.cellsOf e ≤ (k + (m + 1)) * P.cellsOf e := Nat.mul_le_mul_right _ (by omega)
   have hl1 : ((cs.drop (k * P.cellsOf e)).take (P.cellsOf e)).length = P.cellsOf e := by
    rw [List.length_take, List.length_drop]
    rw [Nat.add_mul, Nat.one_mul] at hc
    omega
   refine ⟨X :: l, ⟨k1, g2⟩, ?_, ?_⟩
   ·simp only [V.atomsL, List.length_append, g3, k2, hl1, Nat.add_mul]; omega
   ·refine readsC_append (readsC_sub k3 k2) ?_
    rw [k2, hl1]
    rw [Nat.add_mul, Nat.one_mul] at g4
    exact g4
theorem list_of {Q : Nat → V → Prop} : ∀ (n : Nat), (∀ i, i < n → ∃ X, Q i X) → ∃ l : List V, l.length = n ∧ ∀ i X, l[i]? = some X → Q i X
 | 0, _ => ⟨[], rfl, fun i X h => by simp at h⟩
 | n + 1, h => by
   obtain ⟨l, h1, h2⟩ := list_of n fun i hi => h i (by omega)
   obtain ⟨X, hX⟩ := h n (by omega)
   refine ⟨l ++ [X], by simp [h1], fun i Y hY => ?_⟩
   by_cases hi : i < l.length
   ·rw [List.getElem?_append_left hi] at hY
    exact h2 i Y hY
   ·rw [List.getElem?_append_right (by omega)] at hY
    have : i - l.length = 0 := by
     have := (List.getElem?_eq_some_iff.1 hY).1
     simp at this; omega
    rw [this] at hY
    simp at hY
    subst hY
    rw [show i = n from by omega]
    exact hX
theorem fit_ok : ∀ (n : Nat) (N : Nat) (t : TypeId) (cs : List Value) (x : DataW H × List MemPlace), laidT P N t = true → DataW.trod enc P w base sp held n t cs = some x → ∃ X, Fits P N t X ∧ X.atoms.length = cs.length ∧ ReadsC w X.atoms cs 0 := by
 intro n
 induction n with
 | zero => intro N t cs x _ h; simp [DataW.trod] at h
 | succ n ih =>
   intro N t cs x hN h
   cases N with
   | zero => simp [laidT] at hN
   | succ N =>
     have raw1 : ∀ v, ReadsC w (V.raw v).atoms [v] 0 := fun v i y u hy hu => by
      cases i with
      | zero => simp [V.atoms] at hy hu; subst hy hu; exact .raw _ _
      | succ i => simp [V.atoms] at hy
     unfold laidT at hN
     unfold Fits
     cases hu : P.underlying t with
     | none => rw [hu] at hN; simp at hN
     | some d =>
       rw [hu] at hN
       cases d with
       | bool =>
         obtain ⟨b, rfl, _⟩ := DataW.trod_bool hu h
         exact ⟨.raw (.bool b), ⟨b, rfl⟩, rfl, raw1 _⟩
       | int k =>
         obtain ⟨z, rfl, _, hw⟩ := DataW.trod_int hu h
         exact ⟨.raw (.int k z), ⟨z, hw, rfl⟩, rfl, raw1 _⟩
       | string =>
         obtain ⟨s, rfl, _, _⟩ := DataW.trod_string hu h
         exact ⟨.raw (.string s), ⟨s, rfl⟩, rfl, raw1 _⟩
       | struct fs =>
         obtain ⟨xs, m, hm, _, hl, hxl, hf⟩ := DataW.trod_struct hu h
         obtain rfl : n = m := by omega
         simp only [decide_eq_true_eq] at hN
         obtain ⟨_, l, g2, g3, g4⟩ := fit_fields (cs := cs) (ok := laidT P N) N (fun t cs x ht hx => ih N t cs x ht hx) fs.toList 0 _ hN (by omega) fun f hf' => by
          obtain ⟨i, hi, e⟩ := Array.mem_iff_getElem.1 (Array.mem_toList_iff.1 hf')
          have := hf i f (by rw [Array.getElem?_eq_getElem hi, e])
          have hx : i < xs.length := by omega
          rw [List.getElem?_eq_getElem hx] at this
          exact ⟨_, this⟩
         exact ⟨.agg l, ⟨l, rfl, g2⟩, by show (V.atomsL l).length = _; omega, g4⟩
       | array m e =>
         obtain ⟨xs, k, hm, _, hl, hxl, hf⟩ := DataW.trod_array hu h
         obtain rfl : n = k := by omega
         simp only [Bool.and_eq_true, decide_eq_true_eq] at hN
         obtain ⟨l, g2, g3, g4⟩ := fit_arr (cs := cs) N (fun cs x hx => ih N e cs x hN.2 hx) m 0 (by rw [Nat.zero_add, hl, hN.1]; exact Nat.le_refl _) fun i hi => by
          have := hf i hi
          have hx : i < xs.length := by omega
          rw [List.getElem?_eq_getElem hx] at this
          rw [Nat.zero_add]
          exact ⟨_, this⟩
         rw [Nat.zero_mul] at g4
         exact ⟨.agg l, ⟨l, rfl, g2⟩, by show (V.atomsL l).length = _; omega, g4⟩
       | slice e =>
         simp only [Bool.and_eq_true, decide_eq_true_eq] at hN
         rcases DataW.trod_slice hu h with ⟨rfl, _⟩ | ⟨a, len, cap, elems, rest, m, hm, rfl, _, _, hlc, hmx, hel, hf, _⟩
         ·refine ⟨.lst [], ⟨[], rfl, by simp, fun y hy => by simp at hy⟩, rfl, fun i y u hy hu => ?_⟩
          cases i with
          | zero => simp [V.atoms] at hy hu; subst hy hu; exact .nil _ _ _
          | succ i => simp [V.atoms] at hy
         ·obtain rfl : n = m := by omega
          have hmax : maxLen = 9223372036854775807 := by decide
          obtain ⟨l, hl1, hl2⟩ := list_of (Q := fun i X => Fits P N e X ∧ X.atoms.length = P.cellsOf e ∧ ∀ j, j < P.cellsOf e → ∃ u, w.cell? ((a.add (i * P.cellsOf e)).add j) = some u ∧ ∀ y, X.atoms[j]? = some y → RepA w Nb Nr y u) len fun i hi => by
           have h1 := hf i hi
           rw [List.getElem?_eq_getElem (by omega)] at h1
           rcases hc : w.cells? base (a.add (i * P.cellsOf e)) (P.cellsOf e) with _ | cs'
           ·rw [hc] at h1; cases h1
           ·rw [hc] at h1
            obtain ⟨c1, c2⟩ := cells_length hc
            obtain ⟨X, k1, k2, k3⟩ := ih N e cs' _ hN.2 h1
            refine ⟨X, k1, by omega, fun j hj => ⟨cs'[j]'(by omega), ?_, fun y hy => ?_⟩⟩
            ·rw [c2 j hj, List.getElem?_eq_getElem (by omega)]
            ·refine k3 j y _ hy ?_
             rw [Nat.zero_add, List.getElem?_eq_getElem (by omega)]
          refine ⟨.lst l, ⟨l, rfl, by omega, fun y hy => ?_⟩, rfl, fun i y u hy hu => ?_⟩
          ·obtain ⟨i, hi⟩ := List.getElem?_of_mem hy
           exact (hl2 i y hi).1
          cases i with
          | succ i => simp [V.atoms] at hy
          | zero =>
          simp [V.atoms] at hy hu
          subst hy hu
          have hw : ∀ y ∈ l, y.wid = P.cellsOf e := fun y hy => by
           obtain ⟨i, hi⟩ := List.getElem?_of_mem hy
           exact (hl2 i y hi).2.1
          by_cases h0 : l = []
          ·subst h0
           have : len = 0 := by simpa using hl1.symm
           subst this
           exact .nil _ _ _
          ·have hpos : 0 < l.length := List.length_pos_iff.2 h0
           obtain ⟨b, off, spot⟩ := a
           have hspot : spot = none := by
            obtain ⟨_, _, h3⟩ := hl2 0 _ (List.getElem?_eq_getElem hpos)
            obtain ⟨u0, q, _⟩ := h3 0 hN.1
            simpa [Addr.add] using World.cell?_spot q
           subst hspot
           have hadd : ∀ o j, (⟨b, o, none⟩ : Addr).add j = ⟨b, o + j, none⟩ := fun o j => add_plain b o j
           have cellAt : ∀ j, j < l.length * P.cellsOf e → ∃ u X, l[j / P.cellsOf e]? = some X ∧ w.cell? ⟨b, off + j, none⟩ = some u ∧ ∀ y, X.atoms[j % P.cellsOf e]? = some y → RepA w Nb Nr y u := fun j hj => by
            have hd : j / P.cellsOf e < l.length := by rw [Nat.div_lt_iff_lt_mul hN.1]; exact hj
            have hi : l[j / P.cellsOf e]? = some l[j / P.cellsOf e] := List.getElem?_eq_getElem hd
            obtain ⟨_, _, h3⟩ := hl2 _ _ hi
            obtain ⟨u, u1, u2⟩ := h3 (j % P.cellsOf e) (Nat.mod_lt _ hN.1)
            have hdm : j / P.cellsOf e * P.cellsOf e + j % P.cellsOf e = j := by rw [Nat.mul_comm]; exact Nat.div_add_mod j _
            rw [hadd, hadd, Nat.add_assoc, hdm] at u1
            exact ⟨u, _, hi, u1, u2⟩
           have hp2 : 0 < l.length * P.cellsOf e := Nat.mul_pos hpos hN.1
           obtain ⟨u0, X0, _, q1, _⟩ := cellAt 0 hp2
           have hat := V.atomsL_length hw
           have := RepA.lst (w := w) (O := Nb) Nr l b off cap ((List.range (l.length * P.cellsOf e)).map fun j => (w.cell? ⟨b, off + j, none⟩).getD undef) h0 (by omega) (cell_block q1) (fun h => h) ⟨P.cellsOf e, hw⟩
            (fun j v hj => by
             rw [List.getElem?_map] at hj
             rcases hjr : (List.range (l.length * P.cellsOf e))[j]? with _ | j'
             ·rw [hjr] at hj; cases hj
             ·rw [hjr] at hj
              obtain ⟨hj1, hj2⟩ := List.getElem?_eq_some_iff.1 hjr
              simp at hj1 hj2
              subst hj2
              obtain ⟨u, X, _, q2, _⟩ := cellAt j hj1
              simp [q2] at hj
              rw [q2, hj])
            (by rw [List.length_map, List.length_range, hat]) (fun j y v hy hv => by
             have hj1 : j < l.length * P.cellsOf e := by rw [← hat]; exact (List.getElem?_eq_some_iff.1 hy).1
             obtain ⟨u, X, q0, q2, q3⟩ := cellAt j hj1
             have hm := Nat.mod_lt j hN.1
             have g := V.atomsL_get hw q0 hm
             have hdm : j / P.cellsOf e * P.cellsOf e + j % P.cellsOf e = j := by rw [Nat.mul_comm]; exact Nat.div_add_mod j _
             rw [hdm, hy] at g
             have e2 : v = u := by
              rw [List.getElem?_map, List.getElem?_range hj1] at hv
              simp [q2] at hv
              exact hv.symm
             subst e2
             exact q3 y g.symm)
           rw [hl1] at this
           exact this
       | _ => simp at hN
theorem agg_of {t : TypeId} {N : Nat} {X : V} (h : Fits P N t X) : X.isAgg = true → ∃ d, P.underlying t = some d ∧ ((∃ fs, d = .struct fs) ∨ ∃ m e, d = .array m e) := by
 cases N with
 | zero => exact h.elim
 | succ N =>
   unfold Fits at h
   intro ha
   split at h
   all_goals first | exact h.elim | (obtain ⟨l, rfl, _⟩ := h; first | exact ⟨_, by assumption, .inl ⟨_, rfl⟩⟩ | exact ⟨_, by assumption, .inr ⟨_, _, rfl⟩⟩ | simp [V.isAgg] at ha) | (obtain ⟨l, rfl⟩ := h; simp [V.isAgg] at ha) | (obtain ⟨l, _, rfl⟩ := h; simp [V.isAgg] at ha)
theorem rep_fits {r : Reach} {b0 : Nat} {t : TypeId} {v : Value} {d : DataW H} {ps : List MemPlace} (N : Nat) (hN : laidT P N t = true) (hv : Value.okWide P w r b0 t v) (h : DataW.Trod enc P w base sp held t v d ps) : ∃ X, Fits P N t X ∧ RepW w Nb Nr X v := by
 obtain ⟨fuel, hf⟩ := h
 obtain ⟨X, h1, h2, h3⟩ := fit_ok fuel N t _ _ hN hf
 refine ⟨X, h1, .inr ⟨⟨fun ha => ?_, fun ha => ?_, by simpa using h2⟩, fun i y u hy hu => h3 i y u hy (by simpa using hu)⟩⟩
 ·obtain ⟨d, hd, hd2⟩ := agg_of h1 ha
  unfold Value.okWide at hv
  rw [hd] at hv
  rcases hd2 with ⟨fs, rfl⟩ | ⟨m, e, rfl⟩
  ·obtain ⟨cs, rfl, _⟩ := hv; exact ⟨cs, rfl⟩
  ·obtain ⟨cs, rfl, _⟩ := hv; exact ⟨cs, rfl⟩
 ·cases N with
  | zero => exact h1.elim
  | succ N =>
    unfold Fits at h1
    split at h1
    all_goals rename_i hu
    ·obtain ⟨b, rfl⟩ := okWide_bool hu hv; rfl
    ·obtain ⟨b, rfl⟩ := okWide_int hu hv; rfl
    ·obtain ⟨b, rfl⟩ := okWide_string hu hv; rfl
    ·obtain ⟨_, _, _, rfl⟩ := okWide_slice hu hv; rfl
    ·obtain ⟨l, rfl, _⟩ := h1; simp [V.isAgg] at ha
    ·obtain ⟨l, rfl, _⟩ := h1; simp [V.isAgg] at ha
    ·exact h1.elim
end
end Go.Proofs.YtfbogelmgdojgaaGreat


/- What an argument stands for: the kinds of types. No program in sight. -/
namespace Go.Proofs.YtfbogelmgdojgaaGreat
set_option linter.unusedSimpArgs false
set_option linter.unusedVariables false
open Go.ChangeShapes Go.WideShapes Go.ChangeAt Go.RowKit Go.Joins

section
variable {P : Program} {n : Nat} {t : TypeId} {X : V}
theorem fits_int {k : IntKind} (hu : P.underlying t = some (.int k)) (h : Fits P (n + 1) t X) : ∃ z, (Lit.int k z).wf = true ∧ X = .raw (.int k z) := by
 unfold Fits at h; rw [hu] at h; exact h
theorem fits_sl {e : TypeId} (hu : P.underlying t = some (.slice e)) (h : Fits P (n + 1) t X) : ∃ l, X = .lst l ∧ l.length ≤ 9223372036854775807 ∧ ∀ y ∈ l, Fits P n e y := by
 unfold Fits at h; rw [hu] at h; exact h
theorem fits_struct {fs : Array Field} (hu : P.underlying t = some (.struct fs)) (h : Fits P (n + 1) t X) : ∃ l, X = .agg l ∧ fitL (Fits P n) (fs.toList.map (·.type)) l := by
 unfold Fits at h; rw [hu] at h; exact h
theorem fits_arr {m : Nat} {e : TypeId} (hu : P.underlying t = some (.array m e)) (h : Fits P (n + 1) t X) : ∃ l, X = .agg l ∧ fitL (Fits P n) (List.replicate m e) l := by
 unfold Fits at h; rw [hu] at h; exact h
theorem fitL_nil {F : TypeId → V → Prop} {l : List V} (h : fitL F [] l) : l = [] := by
 cases l with
 | nil => rfl
 | cons _ _ => exact h.elim
theorem fitL_cons {F : TypeId → V → Prop} {t : TypeId} {ts : List TypeId} {l : List V} (h : fitL F (t :: ts) l) : ∃ x m, l = x :: m ∧ F t x ∧ fitL F ts m := by
 cases l with
 | nil => exact h.elim
 | cons x m => exact ⟨x, m, rfl, h.1, h.2⟩
theorem list_nums {k : IntKind} : ∀ (l : List V), (∀ y ∈ l, ∃ z, (Lit.int k z).wf = true ∧ y = .raw (.int k z)) → ∃ zs : List Int, l = zs.map (fun z => V.raw (.int k z)) ∧ ∀ z ∈ zs, (Lit.int k z).wf = true
 | [], _ => ⟨[], rfl, fun z hz => by simp at hz⟩
 | y :: l, h => by
   obtain ⟨z, hz, rfl⟩ := h y (by simp)
   obtain ⟨zs, rfl, hzs⟩ := list_nums l fun y hy => h y (by simp [hy])
   exact ⟨z :: zs, rfl, fun x hx => by
    rcases List.mem_cons.1 hx with rfl | hx
    ·exact hz
    ·exact hzs x hx⟩
theorem fits_ints {k : IntKind} {e : TypeId} (hu : P.underlying t = some (.slice e)) (he : P.underlying e = some (.int k)) (h : Fits P (n + 2) t X) : ∃ zs : List Int, X = .lst (zs.map (fun z => V.raw (.int k z))) ∧ zs.length ≤ 9223372036854775807 ∧ ∀ z ∈ zs, (Lit.int k z).wf = true := by
 obtain ⟨l, rfl, hl, hy⟩ := fits_sl hu h
 obtain ⟨zs, rfl, hzs⟩ := list_nums l fun y hy' => fits_int he (hy y hy')
 exact ⟨zs, rfl, by simpa using hl, hzs⟩
theorem wf_i8 {z : Int} (h : (Lit.int .i8 z).wf = true) : -128 ≤ z ∧ z ≤ 127 := by
 simpa [Lit.wf, IntKind.min, IntKind.max, IntKind.signed, IntKind.bits] using h
end
end Go.Proofs.YtfbogelmgdojgaaGreat


/- Contracts: package poly, its helpers. -/
namespace Go.Proofs.YtfbogelmgdojgaaGreat
set_option linter.unusedSimpArgs false
set_option linter.unusedVariables false
open Go.RowKit

theorem sgn_numQ (b : Rat) : (sgI b.num == 0) = decide (b = 0) := by
 by_cases h : b = 0
 ·rw [decide_eq_true h, h]; rfl
 ·rw [decide_eq_false h]; exact beqF fun e => h (Rat.num_eq_zero.1 (sgI_zero.1 e))
theorem pred_nat (n : Nat) : ((n + 1 : Nat) : Int) - 1 = (n : Nat) := by omega
theorem trim_V (l : List Rat) (h : l.length ≤ 1000000000) : PCall Tryz.prog 69 [.lst (V.rats l)] (.lst (V.rats (tr l))) := by
 refine PCall.of_vc (tabs mixed (tbl_cons qSign_C tbl_nil)) Tryz.func69 rfl Tryz.ntmps69 Tryz.results69 (by simp) ?_
 simp only [go_sem]
 refine AWp.loops (X := { n : Nat // n ≤ l.length ∧ ∀ i, n ≤ i → cf l i = 0 }) (fun n => mkSt [(0, .lst (V.rats l)), (2, .raw (.slice none 0 0)), (3, .raw (.int .i64 (n.1 : Nat)))] [] 0 23) (fun n => n.1) ⟨l.length, Nat.le_refl _, fun i h => cf_ge h⟩ (Wk.of [] (by decide) ?_) ?_
 ·simp only [go_sem]
 ·rintro ⟨n, hn, hz⟩
  refine vc_at (tabs mixed (tbl_cons qSign_C tbl_nil)) ?_
  rcases n with _ | n
  ·simp only [go_sem]
   refine ⟨by omega, ?_⟩
   rw [tr_at (Nat.zero_le _) hz fun e => absurd rfl e]
   exact .refl _
  ·have e1 := pred_nat n
   have e2 : 0 < ((n + 1 : Nat) : Int) := by omega
   by_cases hc : cf l n = 0
   ·have c1 : (sgI (cf l n).num == 0) = true := by rw [sgn_numQ]; exact decide_eq_true hc
    simp only [go_sem, e1, e2, c1]
    refine ⟨by omega, by omega, by omega, by omega, ⟨n, by omega, fun i hi => ?_⟩, Wk.of [] (by decide) ?_, by simp only; omega⟩
    ·rcases Nat.eq_or_lt_of_le hi with h | h
     ·rw [← h]; exact hc
     ·exact hz i h
    ·simp only [go_sem]
   ·have c1 : (sgI (cf l n).num == 0) = false := by rw [sgn_numQ]; exact decide_eq_false hc
    have d1 : decide (((n + 1 : Nat) : Int) = 0) = false := decide_eq_false (by omega)
    simp only [go_sem, e1, e2, c1, d1]
    refine ⟨by omega, by omega, by omega, by omega, ?_⟩
    rw [tr_at (l := l) (n := n + 1) (by omega) hz fun _ => hc]
    exact .refl _
def kTrim : Con := con1 pR fun l => (l.length ≤ 1000000000, .lst (V.rats (tr l)))
attribute [go_sem ↓, go_sem] kTrim
theorem trim_C : Ctr Tryz.prog 69 kTrim := Ctr.c1 (by kernel_rfl) fun l h => trim_V l h
end Go.Proofs.YtfbogelmgdojgaaGreat


/- Contracts: package poly, lists that a function computes. -/
namespace Go.Proofs.YtfbogelmgdojgaaGreat
set_option linter.unusedSimpArgs false
set_option linter.unusedVariables false
open Go.RowKit

def kFn (caps : List V) (N : Nat) (F : Nat → Rat) : Con
 | .raw (.int .i64 i) :: cs => some ((cs = caps ∧ 0 ≤ i ∧ i < N), .Q (F i.toNat))
 | _ => none
attribute [go_sem ↓, go_sem] kFn.eq_1
def z0 : V := .agg [.raw (.bool false), .raw (.slice none 0 0), .raw (.bool false), .raw (.slice none 0 0)]
theorem z0_wid (n : Nat) : allWid (List.replicate n z0) 4 := fun y hy => by rw [List.eq_of_mem_replicate hy]; rfl
theorem z0_pure (n : Nat) : allPure (List.replicate n z0) := fun y hy => by rw [List.eq_of_mem_replicate hy]; rfl
theorem range_snoc (F : Nat → Rat) (i : Nat) : (List.range i).map F ++ [F i] = (List.range (i + 1)).map F := by rw [List.range_succ, List.map_append]; rfl
set_option maxRecDepth 2000 in
theorem each_V (g : FuncId) (caps : List V) (n : Int) (N : Nat) (hn : n.toNat = N) (F : Nat → Rat) (hc : frzOk caps) (hb : (caps.all fun x => x.atoms.all pureB) = true) (hg : ¬ g = 69) (hg' : ¬ 69 = g) (hC : Ctr Tryz.prog g (kFn caps N F)) (hN : N ≤ 1000000) :
 PCall Tryz.prog 113 [.raw (.int .i64 n), .clo (.func g) [] caps] (.lst (V.rats (tr ((List.range N).map F)))) := by
 refine PCall.of_vc (tabs mixed (tbl_cons trim_C (tbl_cons hC tbl_nil))) Tryz.func113 rfl Tryz.ntmps113 Tryz.results113 (by simp) ?_
 have m1 : (if n < 0 then (0 : Int) else n) = (N : Nat) := by split <;> omega
 have hr : ∀ θ, RenCs θ caps caps := fun θ => renCs_pure hb
 have mx : maxLen = 9223372036854775807 := by decide
 simp only [go_sem, m1, Int.toNat_natCast]
 refine ⟨by omega, ?_⟩
 refine AWp.loops (X := { p : Nat × List V // (p.1 ≤ N ∧ p.1 ≤ p.2.length) ∧ p.2.take p.1 = V.rats ((List.range p.1).map F) ∧ allPure p.2 ∧ allWid p.2 4 })
  (fun p => mkSt [(0, .raw (.int .i64 n)), (1, .clo (.func g) [] caps), (4, .raw (.slice none 0 0)), (5, .sl 0 4 0 p.1.1), (10, .raw (.int .i64 n)), (11, .raw (.int .i64 (p.1.1 : Nat)))] [(0, true, ⟨45, 4, p.1.2⟩)] 1 23)
  (fun p => N - p.1.1) ⟨(0, List.replicate N z0), ⟨Nat.zero_le _, Nat.zero_le _⟩, rfl, z0_pure N, z0_wid N⟩ (Wk.of [3] (by decide) ?_) ?_
 ·simp only [go_sem]
  exact ⟨hr _, rfl, z0_pure N⟩
 ·rintro ⟨⟨i, L⟩, ⟨hi, hl⟩, hL, hp, hw⟩
  simp only at hi hl hL hp hw
  refine vc_at (tabs mixed (tbl_cons trim_C (tbl_cons hC tbl_nil))) ?_
  by_cases hiN : i < N
  ·have c1 : (i : Int) < n := by omega
   have e1 : (i : Int) + 1 = ((i + 1 : Nat) : Int) := by omega
   simp only [go_sem, c1, e1, hL, hc, hg, hg', range_snoc]
   refine ⟨by omega, hl, by omega, by omega, ⟨(i + 1, V.rats ((List.range (i + 1)).map F)), ⟨hiN, by simp [V.rats]⟩, ?_, ?_, ?_⟩, Wk.of [9] (by decide) ?_, by simp only; omega⟩
   ·exact List.take_of_length_le (by simp [V.rats])
   ·exact of_eq_true (rats_pure _)
   ·exact of_eq_true (rats_wid _)
   ·simp only [go_sem]
    exact hr _
  ·have c1 : ¬ (i : Int) < n := by omega
   obtain rfl : i = N := by omega
   simp only [go_sem, c1, hL, hg, hg', hl]
   rw [List.length_map, List.length_range]
   omega
theorem Ctr.fn {P : Program} {g : FuncId} {caps : List V} {N : Nat} {F : Nat → Rat} (hc : callable P g = true) (h : ∀ i, i < N → PCall P g (.raw (.int .i64 (i : Nat)) :: caps) (.Q (F i))) : Ctr P g (kFn caps N F) := ⟨hc, fun args p r e hp => by
 unfold kFn at e
 split at e
 ·rename_i i cs
  injection e with e; injection e with e1 e2; subst e1 e2
  obtain ⟨rfl, h0, h1⟩ := hp
  have := h i.toNat (by omega)
  rw [Int.toNat_of_nonneg h0] at this
  exact this
 ·cases e⟩
def kEach (g : FuncId) (caps : List V) (N : Nat) (R : List Rat) : Con
 | [.raw (.int .i64 n), .clo (.func f) [] cs] => some (n.toNat = N ∧ f = g ∧ cs = caps, .lst (V.rats R))
 | _ => none
attribute [go_sem ↓, go_sem] kEach.eq_1
theorem each_C (g : FuncId) (caps : List V) (N : Nat) (F : Nat → Rat) (hc : frzOk caps) (hb : (caps.all fun x => x.atoms.all pureB) = true) (hg : ¬ g = 69) (hg' : ¬ 69 = g) (hC : Ctr Tryz.prog g (kFn caps N F)) (hN : N ≤ 1000000) :
 Ctr Tryz.prog 113 (kEach g caps N (tr ((List.range N).map F))) := ⟨by kernel_rfl, fun args p r e hp => by
 unfold kEach at e
 split at e
 ·injection e with e; injection e with e1 e2; subst e1 e2
  obtain ⟨h0, rfl, rfl⟩ := hp
  exact each_V _ _ _ N h0 F hc hb hg hg' hC hN
 ·cases e⟩
def kAt : Con := con2 pR (pN .i64) fun p i => (0 ≤ i, .Q (cf p i.toNat))
attribute [go_sem ↓, go_sem] kAt
theorem at_C : Ctr Tryz.prog 134 kAt := Ctr.c2 (by kernel_rfl) fun p i h => by
 have h : 0 ≤ i := h
 obtain ⟨n, rfl⟩ : ∃ n : Nat, i = n := ⟨i.toNat, by omega⟩
 show PCall _ _ _ (.Q (cf p n))
 refine PCall.of_vc (tabs mixed (tbl_cons whole_C tbl_nil)) Tryz.func134 rfl Tryz.ntmps134 Tryz.results134 (by simp) ?_
 by_cases hn : n < p.length
 ·have c1 : (n : Int) < p.length := by omega
  simp only [go_sem, c1]
  exact ⟨h, hn⟩
 ·have c1 : ¬ (n : Int) < p.length := by omega
  simp only [go_sem, c1, cf_ge (Nat.le_of_not_lt hn)]
  exact out_QQ rfl
theorem subFn_C (a b : List Rat) (N : Nat) (j k : Nat) (ha : PB a j) (hb : PB b k) (hj : j ≤ 5000000000000) (hk : k ≤ 5000000000000) : Ctr Tryz.prog 133 (kFn [.pel (.lst (V.rats a)), .pel (.lst (V.rats b))] N fun i => cf a i - cf b i) := Ctr.fn (by kernel_rfl) fun i hi => by
 refine PCall.of_vc (tabs mixed (tbl_cons at_C (tbl_cons qSub_C tbl_nil))) Tryz.func133 rfl Tryz.ntmps133 Tryz.results133 (by simp) ?_
 have h1 := ha i
 have h2 := hb i
 simp only [go_sem]
 exact ⟨by omega, by omega, by omega, by rfl⟩
theorem scFn_C (a : List Rat) (c : Rat) (N : Nat) (j k : Nat) (ha : PB a j) (hc : qs c ≤ k) (hj : j ≤ 5000000000000) (hk : k ≤ 5000000000000) (hN : N ≤ a.length) : Ctr Tryz.prog 121 (kFn [.pel (.lst (V.rats a)), .pel (.Q c)] N fun i => cf a i * c) := Ctr.fn (by kernel_rfl) fun i hi => by
 refine PCall.of_vc (tabs mixed (tbl_cons qMul_C tbl_nil)) Tryz.func121 rfl Tryz.ntmps121 Tryz.results121 (by simp) ?_
 have h1 := ha i
 simp only [go_sem]
 exact ⟨by omega, by omega, by omega, by rfl⟩
theorem diffFn_C (a : List Rat) (N : Nat) (j : Nat) (ha : PB a j) (hj : j ≤ 5000000000000) (hN : N + 1 ≤ a.length) (hl : a.length ≤ 1000000) : Ctr Tryz.prog 114 (kFn [.pel (.lst (V.rats a))] N fun i => cf a (i + 1) * (((i + 1 : Nat) : Int) : Rat)) := Ctr.fn (by kernel_rfl) fun i hi => by
 refine PCall.of_vc (tabs mixed (tbl_cons qMul_C (tbl_cons whole_C tbl_nil))) Tryz.func114 rfl Tryz.ntmps114 Tryz.results114 (by simp) ?_
 have h1 := ha (i + 1)
 have e1 : (i : Int) + 1 = ((i + 1 : Nat) : Int) := by omega
 have h2 : qs ((((i + 1 : Nat) : Int)) : Rat) ≤ 3 := qsZ (dl_i64 (by omega))
 simp only [go_sem, e1]
 exact ⟨by omega, by omega, by omega, by omega, by omega, by omega, by rfl⟩
theorem frzOk_2 (x y : V) : frzOk [.pel x, .pel y] := fun z hz => by
 rcases List.mem_cons.1 hz with rfl | hz
 ·exact ⟨rfl, by simp, by simp⟩
 ·simp at hz; subst hz; exact ⟨rfl, by simp, by simp⟩
theorem add_list (a b : List Rat) : tr ((List.range (max a.length b.length)).map fun i => cf a i + cf b i) = pAdd a b := tr_of_cf fun i => by
 rw [cf_map_range, cf_addL]
 split
 ·rfl
 ·rw [cf_ge (l := a) (by omega), cf_ge (l := b) (by omega)]; grind
def kPAdd : Con := con2 pR pR fun a b => ((a.length ≤ 1000000 ∧ b.length ≤ 1000000) ∧ PB a 5000000000000 ∧ PB b 5000000000000, .lst (V.rats (pAdd a b)))
attribute [go_sem ↓, go_sem] kPAdd
theorem sub_list (a b : List Rat) : tr ((List.range (max a.length b.length)).map fun i => cf a i - cf b i) = pSub a b := tr_of_cf fun i => by
 rw [cf_map_range, cf_addL, cf_scL]
 split
 ·grind
 ·rw [cf_ge (l := a) (by omega), cf_ge (l := b) (by omega)]; grind
def kPSub : Con := con2 pR pR fun a b => ((a.length ≤ 1000000 ∧ b.length ≤ 1000000) ∧ PB a 5000000000000 ∧ PB b 5000000000000, .lst (V.rats (pSub a b)))
attribute [go_sem ↓, go_sem] kPSub
theorem pSub_C : Ctr Tryz.prog 107 kPSub := Ctr.c2 (by kernel_rfl) fun a b h => by
 obtain ⟨⟨h1, h2⟩, h3, h4⟩ := h
 show PCall _ _ _ (.lst (V.rats (pSub a b)))
 rw [← sub_list]
 refine PCall.of_vc (tabs mixed (tbl_cons (each_C 133 _ (max a.length b.length) _ (frzOk_2 _ _) rfl (by decide) (by decide) (subFn_C a b (max a.length b.length) _ _ h3 h4 (Nat.le_refl _) (Nat.le_refl _)) (by omega)) tbl_nil)) Tryz.func107 rfl Tryz.ntmps107 Tryz.results107 (by simp) ?_
 simp only [go_sem]
 split <;> omega
theorem sc_list (a : List Rat) (c : Rat) : tr ((List.range a.length).map fun i => cf a i * c) = pSc c a := tr_of_cf fun i => by
 rw [cf_map_range, cf_scL]
 split
 ·grind
 ·rw [cf_ge (l := a) (by omega)]; grind
def kPSc : Con := con2 pR pQ fun a c => (a.length ≤ 1000000 ∧ PB a 5000000000000 ∧ qs c ≤ 5000000000000, .lst (V.rats (pSc c a)))
attribute [go_sem ↓, go_sem] kPSc
theorem pSc_C : Ctr Tryz.prog 92 kPSc := Ctr.c2 (by kernel_rfl) fun a c h => by
 obtain ⟨h1, h2, h3⟩ := h
 show PCall _ _ _ (.lst (V.rats (pSc c a)))
 rw [← sc_list]
 refine PCall.of_vc (tabs mixed (tbl_cons (each_C 121 _ a.length _ (frzOk_2 _ _) rfl (by decide) (by decide) (scFn_C a c a.length _ _ h2 h3 (Nat.le_refl _) (Nat.le_refl _) (Nat.le_refl _)) (by omega)) tbl_nil)) Tryz.func92 rfl Tryz.ntmps92 Tryz.results92 (by simp) ?_
 simp only [go_sem]
theorem diff_list (a : List Rat) : tr ((List.range (a.length - 1)).map fun i => cf a (i + 1) * (((i + 1 : Nat) : Int) : Rat)) = pDiff a := tr_of_cf fun i => by
 have e : ((((i + 1 : Nat) : Int)) : Rat) = ((i + 1 : Nat) : Rat) := rfl
 rw [cf_map_range, cf_dL, e]
 split
 ·grind
 ·rw [cf_ge (l := a) (by omega)]; grind
def kPDiff : Con := con1 pR fun a => (a.length ≤ 1000000 ∧ PB a 5000000000000, .lst (V.rats (pDiff a)))
attribute [go_sem ↓, go_sem] kPDiff
theorem frzOk_1 (x : V) : frzOk [.pel x] := fun z hz => by simp at hz; subst hz; exact ⟨rfl, by simp, by simp⟩
theorem diffFn0_C (a : List Rat) : Ctr Tryz.prog 114 (kFn [.pel (.lst (V.rats a))] 0 fun i => cf a (i + 1) * (((i + 1 : Nat) : Int) : Rat)) := Ctr.fn (by kernel_rfl) fun i hi => by omega
theorem pDiff_C : Ctr Tryz.prog 74 kPDiff := Ctr.c1 (by kernel_rfl) fun a h => by
 obtain ⟨h1, h2⟩ := h
 show PCall _ _ _ (.lst (V.rats (pDiff a)))
 rw [← diff_list]
 have hC : Ctr Tryz.prog 114 (kFn [.pel (.lst (V.rats a))] (a.length - 1) fun i => cf a (i + 1) * (((i + 1 : Nat) : Int) : Rat)) := by
  rcases Nat.eq_zero_or_pos (a.length - 1) with h0 | h0
  ·rw [h0]; exact diffFn0_C a
  ·exact diffFn_C a _ _ h2 (Nat.le_refl _) (by omega) h1
 refine PCall.of_vc (tabs mixed (tbl_cons (each_C 114 _ (a.length - 1) _ (frzOk_1 _) rfl (by decide) (by decide) hC (by omega)) tbl_nil)) Tryz.func74 rfl Tryz.ntmps74 Tryz.results74 (by simp) ?_
 simp only [go_sem]
 exact ⟨by omega, by omega⟩
end Go.Proofs.YtfbogelmgdojgaaGreat

