/- Texts A17 A18 in one. -/
import Derived.Test.YtfbogelmgdojgaaGreatR07
/- A statement whose order is open: every order gives what the text's order gives. No program in sight. -/
namespace Go.Proofs.YtfbogelmgdojgaaGreat
set_option linter.unusedSimpArgs false
set_option linter.unusedVariables false
open Go.RowKit

abbrev Foot := List Nat × List Nat
def vcTr (P : Program) (Γ : Tab) (Δ : Gab) (ops : Array Oper) : List Oper → St → List Foot → (St → List Foot → Prop) → Prop
 | [], σ, tr, K => K σ tr.reverse
 | o :: os, σ, tr, K => dstOk o σ.N ∧ vcOp P Γ Δ ops o σ fun v ws rs => vcTr P Γ Δ ops os (σ.put o.dst v ws) ((rs, ws.map (·.1)) :: tr) K

def ancM (o : Oper) (acc : List Nat) : Nat := o.after.toList.foldl (fun s e => if Region.binds .any e = true then s ||| 2 ^ e.on ||| (acc[e.on]?).getD 0 else s) 0
def ancs : List Oper → List Nat → List Nat
 | [], acc => acc
 | o :: os, acc => ancs os (acc ++ [ancM o acc])
def meets (x y : List Nat) : Bool := x.any fun a => y.contains a
def noConf (f g : Foot) : Bool := !meets f.2 (g.1 ++ g.2) && !meets g.2 f.1
def chkSlots (ops : Array Oper) (A : List Nat) (os : List Oper) (j : Nat) (o : Oper) : Bool :=
 (o.looksAt ops).all fun t => os.zipIdx.all fun p => p.1.dst != some t || ((A[j]?).getD 0).testBit p.2 || ((A[p.2]?).getD 0).testBit j
def chkPair (A : List Nat) (i j : Nat) (f g : Foot) : Bool := i == j || ((A[j]?).getD 0).testBit i || ((A[i]?).getD 0).testBit j || noConf f g
def chkDst (os : List Oper) (j : Nat) (o : Oper) : Bool := o.dst == none || os.zipIdx.all fun p => p.2 == j || p.1.dst != o.dst
def chk (ops : Array Oper) (tr : List Foot) : Bool :=
 let os := ops.toList
 let A := ancs os []
 (A.zipIdx.all fun p => decide (p.1 < 2 ^ p.2)) && (os.zipIdx.all fun p => chkDst os p.2 p.1) && (os.zipIdx.all fun p => chkSlots ops A os p.2 p.1) &&
  (tr.zipIdx.all fun p => (p.1.1 == [] && p.1.2 == []) || tr.zipIdx.all fun q => chkPair A p.2 q.2 p.1 q.1)
def vcDraw (P : Program) (Γ : Tab) (Δ : Gab) (ops : Array Oper) (σ : St) (K : St → Prop) : Prop :=
 vcTr P Γ Δ ops ops.toList σ [] fun σ' tr => chk ops tr = true ∧ K σ'

def runB {X : Type} (E : Nat → Bool) (it : Nat → Option X) (d : X) : Nat → X
 | 0 => d
 | m + 1 => if E m = true then (it m).getD (runB E it d m) else runB E it d m
section
variable {X : Type} {it : Nat → Option X} {d : X}
theorem runB_congr {E E' : Nat → Bool} : ∀ m, (∀ i, i < m → it i ≠ none → E i = E' i) → runB E it d m = runB E' it d m
 | 0, _ => rfl
 | m + 1, h => by
   have ih := runB_congr m fun i hi => h i (by omega)
   simp only [runB, ih]
   cases hm : it m with
   | none => simp
   | some x => rw [h m (by omega) (by rw [hm]; simp)]
theorem runB_prefix {j : Nat} : ∀ m, j ≤ m → runB (fun i => decide (i < j)) it d m = runB (fun _ => true) it d j
 | 0, h => by
   obtain rfl : j = 0 := by omega
   rfl
 | m + 1, h => by
   by_cases hj : j ≤ m
   ·have ih := runB_prefix m hj
    simp only [runB, ih]
    rw [if_neg (by simp; omega)]
   ·obtain rfl : j = m + 1 := by omega
    refine runB_congr (m + 1) fun i hi _ => ?_
    simp; omega
theorem runB_upd {E : Nat → Bool} {j : Nat} : ∀ m, j < m → E j = false → (∀ i, i < m → j < i → it i ≠ none → E i = false) → runB (fun i => E i || i == j) it d m = (it j).getD (runB E it d m)
 | 0, h, _, _ => by omega
 | m + 1, h, hE, hi => by
   by_cases hj : j = m
   ·subst hj
    have h1 : runB (fun i => E i || i == j) it d j = runB E it d j := runB_congr j fun i hi' _ => by
     have : (i == j) = false := by simp; omega
     simp [this]
    simp only [runB, h1, hE, BEq.rfl, Bool.or_true, if_true, Bool.false_eq_true, if_false]
   ·have ih := runB_upd m (by omega) hE fun i h1 h2 h3 => hi i (by omega) h2 h3
    have hm : (m == j) = false := by simp; omega
    simp only [runB, hm, Bool.or_false, ih]
    cases hc : it m with
    | none => simp
    | some x =>
      have := hi m (by omega) (by omega) (by rw [hc]; simp)
      simp [this]
end
theorem runB_none {X : Type} {it : Nat → Option X} {d : X} {E : Nat → Bool} {j : Nat} (h : it j = none) : ∀ m, runB (fun i => E i || i == j) it d m = runB E it d m
 | 0 => rfl
 | m + 1 => by
   simp only [runB, runB_none h m]
   by_cases hj : m = j
   ·subst hj
    simp [h]
   ·have : (m == j) = false := by simpa using hj
    simp [this]
theorem runB_add {X : Type} {it : Nat → Option X} {d : X} {E : Nat → Bool} {j : Nat} (m : Nat) (hj : j < m) (hE : E j = false) (hi : it j ≠ none → ∀ i, i < m → j < i → it i ≠ none → E i = false) : runB (fun i => E i || i == j) it d m = (it j).getD (runB E it d m) := by
 by_cases h : it j = none
 ·rw [runB_none h, h]; rfl
 ·exact runB_upd m hj hE (hi h)
def look : List (Nat × Option Blk) → Nat → Option (Option Blk)
 | [], _ => none
 | p :: ws, b => match look ws b with
   | some x => some x
   | none => if b = p.1 then some p.2 else none
theorem puts_look : ∀ (ws : List (Nat × Option Blk)) (H : Hp) (b : Nat), H.puts ws b = (look ws b).getD (H b)
 | [], _, _ => rfl
 | p :: ws, H, b => by
   simp only [Hp.puts, look]
   rw [puts_look ws]
   cases look ws b with
   | some x => rfl
   | none =>
     simp only [Option.getD_none, Hp.up]
     split <;> rfl
theorem look_key : ∀ (ws : List (Nat × Option Blk)) (b : Nat), look ws b ≠ none → b ∈ ws.map (·.1)
 | [], _, h => absurd rfl h
 | p :: ws, b, h => by
   simp only [look] at h
   cases hl : look ws b with
   | some x => exact List.mem_cons_of_mem _ (look_key ws b (by rw [hl]; simp))
   | none =>
     rw [hl] at h
     simp only at h
     split at h
     ·rename_i e; subst e; simp
     ·exact absurd rfl h

abbrev Tr := V × List (Nat × Option Blk) × List Nat
def Local (P : Program) (Γ : Tab) (Δ : Gab) (ops : Array Oper) (o : Oper) (σ : St) (T : Tr) : Prop :=
 ∀ σ' : St, σ'.n = σ.n → σ'.N = σ.N → (∀ t ∈ o.looksAt ops, σ'.s t = σ.s t) → (∀ b ∈ T.2.2, σ'.H b = σ.H b) → vcOp P Γ Δ ops o σ' (fun z ws rs => z = T.1 ∧ ws = T.2.1 ∧ rs = T.2.2)
def stN : St → List Oper → List Tr → Nat → St
 | σ, _, _, 0 => σ
 | σ, o :: os, T :: tr, j + 1 => stN (σ.put o.dst T.1 T.2.1) os tr j
 | σ, _, _, _ + 1 => σ
theorem vcTr_trace {P : Program} {Γ : Tab} {Δ : Gab} (hl : GabLoc Δ) {ops : Array Oper} : ∀ (os : List Oper) (σ : St) (acc : List Foot) (K : St → List Foot → Prop), vcTr P Γ Δ ops os σ acc K →
 ∃ tr : List Tr, tr.length = os.length ∧ (∀ j o T, os[j]? = some o → tr[j]? = some T → dstOk o σ.N ∧ Local P Γ Δ ops o (stN σ os tr j) T) ∧ K (stN σ os tr os.length) (acc.reverse ++ tr.map fun T => (T.2.2, T.2.1.map (·.1)))
 | [], σ, acc, K, h => ⟨[], rfl, fun j o T h1 _ => by simp at h1, by simpa [stN, vcTr] using h⟩
 | o :: os, σ, acc, K, h => by
   obtain ⟨hd, h⟩ := h
   obtain ⟨z, ws, rs, h1, h2⟩ := vcOp_local hl h
   obtain ⟨tr, h3, h4, h5⟩ := vcTr_trace hl os _ _ K h1
   refine ⟨(z, ws, rs) :: tr, by simp [h3], fun j o' T e1 e2 => ?_, ?_⟩
   ·cases j with
    | zero =>
      simp at e1 e2
      subst e1 e2
      exact ⟨hd, h2⟩
    | succ j => exact h4 j o' T (by simpa using e1) (by simpa using e2)
   ·simp only [List.length_cons, stN]
    simpa using h5
theorem stN_succ : ∀ (os : List Oper) (tr : List Tr) (σ : St) (j : Nat) (o : Oper) (T : Tr), os[j]? = some o → tr[j]? = some T → stN σ os tr (j + 1) = (stN σ os tr j).put o.dst T.1 T.2.1
 | [], _, _, _, _, _, h, _ => by simp at h
 | _ :: _, [], _, _, _, _, _, h => by simp at h
 | o' :: os, T' :: tr, σ, 0, o, T, h1, h2 => by
   simp at h1 h2
   subst h1 h2
   cases os <;> cases tr <;> rfl
 | o' :: os, T' :: tr, σ, j + 1, o, T, h1, h2 => by
   show stN (σ.put o'.dst T'.1 T'.2.1) os tr (j + 1) = _
   rw [stN_succ os tr _ j o T (by simpa using h1) (by simpa using h2)]
   rfl
def itS (os : List Oper) (tr : List Tr) (t : Nat) (j : Nat) : Option V :=
 match os[j]?, tr[j]? with
 | some o, some T => if o.dst = some t then some T.1 else none
 | _, _ => none
def itH (tr : List Tr) (b : Nat) (j : Nat) : Option (Option Blk) := (tr[j]?).bind fun T => look T.2.1 b
theorem stN_run {os : List Oper} {tr : List Tr} (hlen : tr.length = os.length) (σ : St) : ∀ j, j ≤ os.length → (∀ t, (stN σ os tr j).s t = runB (fun _ => true) (itS os tr t) (σ.s t) j) ∧ (∀ b, (stN σ os tr j).H b = runB (fun _ => true) (itH tr b) (σ.H b) j) ∧ (stN σ os tr j).n = σ.n + j ∧ (stN σ os tr j).N = σ.N ∧ (stN σ os tr j).m = σ.m ∧ (stN σ os tr j).q = σ.q
 | 0, _ => by
   have : stN σ os tr 0 = σ := by cases os <;> cases tr <;> rfl
   rw [this]
   exact ⟨fun _ => rfl, fun _ => rfl, rfl, rfl, rfl, rfl⟩
 | j + 1, hj => by
   obtain ⟨h1, h2, h3, h4, h5, h6⟩ := stN_run hlen σ j (by omega)
   have ho : os[j]? = some os[j] := List.getElem?_eq_getElem (by omega)
   have hT : tr[j]? = some tr[j] := List.getElem?_eq_getElem (by omega)
   rw [stN_succ os tr σ j _ _ ho hT]
   refine ⟨fun t => ?_, fun b => ?_, by simp only [St.put, h3]; omega, by simp only [St.put, h4], by simp only [St.put, h5], by simp only [St.put, h6]⟩
   ·have hit : itS os tr t j = if os[j].dst = some t then some tr[j].1 else none := by simp only [itS, ho, hT]
    simp only [runB, if_true, ← h1 t, hit]
    cases hd : os[j].dst with
    | none => simp [St.put]
    | some d =>
      by_cases e : d = t
      ·subst e; simp [St.put, upS]
      ·have : ¬ t = d := fun h => e h.symm
       simp [St.put, upS, e, this]
   ·have hit : itH tr b j = look tr[j].2.1 b := by simp only [itH, hT, Option.bind_some]
    simp only [runB, if_true, ← h2 b, hit]
    exact puts_look _ _ _

theorem fold_bits (acc : List Nat) : ∀ (l : List Edge) (s i : Nat), (l.foldl (fun s e => if Region.binds .any e = true then s ||| 2 ^ e.on ||| (acc[e.on]?).getD 0 else s) s).testBit i = true ↔
 s.testBit i = true ∨ ∃ e ∈ l, Region.binds .any e = true ∧ (i = e.on ∨ ((acc[e.on]?).getD 0).testBit i = true)
 | [], s, i => by simp
 | e :: l, s, i => by
   simp only [List.foldl_cons]
   rw [fold_bits acc l]
   by_cases hb : Region.binds .any e = true
   ·rw [if_pos hb]
    simp only [Nat.testBit_or, Nat.testBit_two_pow, Bool.or_eq_true, decide_eq_true_eq]
    constructor
    ·rintro (((h | h) | h) | ⟨e', h1, h2, h3⟩)
     ·exact .inl h
     ·exact .inr ⟨e, by simp, hb, .inl h.symm⟩
     ·exact .inr ⟨e, by simp, hb, .inr h⟩
     ·exact .inr ⟨e', by simp [h1], h2, h3⟩
    ·rintro (h | ⟨e', h1, h2, h3⟩)
     ·exact .inl (.inl (.inl h))
     ·rcases List.mem_cons.1 h1 with rfl | h1
      ·rcases h3 with h3 | h3
       ·exact .inl (.inl (.inr h3.symm))
       ·exact .inl (.inr h3)
      ·exact .inr ⟨e', h1, h2, h3⟩
   ·rw [if_neg hb]
    constructor
    ·rintro (h | ⟨e', h1, h2, h3⟩)
     ·exact .inl h
     ·exact .inr ⟨e', by simp [h1], h2, h3⟩
    ·rintro (h | ⟨e', h1, h2, h3⟩)
     ·exact .inl h
     ·rcases List.mem_cons.1 h1 with rfl | h1
      ·exact absurd h2 hb
      ·exact .inr ⟨e', h1, h2, h3⟩
theorem ancs_keep : ∀ (os : List Oper) (acc : List Nat) (j : Nat), j < acc.length → (ancs os acc)[j]? = acc[j]?
 | [], _, _, _ => rfl
 | o :: os, acc, j, h => by
   simp only [ancs]
   rw [ancs_keep os _ j (by simp; omega), List.getElem?_append_left h]
theorem ancs_get : ∀ (os : List Oper) (acc : List Nat) (j : Nat) (o : Oper), os[j]? = some o → ∃ acc' : List Nat, acc'.length = acc.length + j ∧ (ancs os acc)[acc.length + j]? = some (ancM o acc') ∧ ∀ i, i < acc'.length → acc'[i]? = (ancs os acc)[i]?
 | [], _, _, _, h => by simp at h
 | o' :: os, acc, 0, o, h => by
   simp at h
   subst h
   refine ⟨acc, rfl, ?_, fun i hi => ?_⟩
   ·simp only [ancs]
    rw [ancs_keep os _ _ (by simp)]
    simp
   ·simp only [ancs]
    rw [ancs_keep os _ _ (by simp; omega), List.getElem?_append_left hi]
 | o' :: os, acc, j + 1, o, h => by
   obtain ⟨acc', h1, h2, h3⟩ := ancs_get os (acc ++ [ancM o' acc]) j o (by simpa using h)
   simp only [List.length_append, List.length_singleton] at h1 h2
   refine ⟨acc', by omega, ?_, h3⟩
   simp only [ancs]
   rw [show acc.length + (j + 1) = acc.length + 1 + j from by omega]
   exact h2
def ancB (os : List Oper) (j i : Nat) : Bool := (((ancs os [])[j]?).getD 0).testBit i
theorem ancB_iff {os : List Oper} {j : Nat} {o : Oper} (h : os[j]? = some o) (i : Nat) : ancB os j i = true ↔ ∃ e ∈ o.after.toList, Region.binds .any e = true ∧ (i = e.on ∨ (e.on < j ∧ ancB os e.on i = true)) := by
 obtain ⟨acc', h1, h2, h3⟩ := ancs_get os [] j o h
 simp only [List.length_nil, Nat.zero_add] at h1 h2
 unfold ancB
 rw [h2, Option.getD_some]
 unfold ancM
 rw [fold_bits]
 simp only [Nat.zero_testBit, Bool.false_eq_true, false_or]
 constructor
 ·rintro ⟨e, q1, q2, q3⟩
  refine ⟨e, q1, q2, ?_⟩
  rcases q3 with q3 | q3
  ·exact .inl q3
  ·by_cases hlt : e.on < acc'.length
   ·rw [h3 _ hlt] at q3
    exact .inr ⟨by omega, q3⟩
   ·rw [List.getElem?_eq_none (by omega)] at q3
    simp at q3
 ·rintro ⟨e, q1, q2, q3⟩
  refine ⟨e, q1, q2, ?_⟩
  rcases q3 with q3 | ⟨q3, q4⟩
  ·exact .inl q3
  ·rw [← h3 _ (by omega)] at q4
   exact .inr q4
theorem anc_closed {os : List Oper} {E : Nat → Bool} (hE : ∀ j o, os[j]? = some o → E j = true → ∀ e ∈ o.after.toList, Region.binds .any e = true → E e.on = true) :
 ∀ (m j : Nat) (o : Oper), j ≤ m → os[j]? = some o → (∀ e ∈ o.after.toList, Region.binds .any e = true → E e.on = true) → ∀ i, ancB os j i = true → E i = true
 | m, j, o, hj, ho, hp, i, hi => by
   obtain ⟨e, h1, h2, h3⟩ := (ancB_iff ho i).1 hi
   have he := hp e h1 h2
   rcases h3 with rfl | ⟨h3, h4⟩
   ·exact he
   ·cases m with
    | zero => omega
    | succ m =>
      cases ho' : os[e.on]? with
      | none =>
        have hlen : (os.length) ≤ e.on := List.getElem?_eq_none_iff.1 ho'
        have hjl : j < os.length := (List.getElem?_eq_some_iff.1 ho).1
        omega
      | some o' => exact anc_closed hE m e.on o' (by omega) ho' (hE _ _ ho' he) i h4
end Go.Proofs.YtfbogelmgdojgaaGreat


/- A statement whose order is open: the proof. No program in sight. -/
namespace Go.Proofs.YtfbogelmgdojgaaGreat
set_option linter.unusedSimpArgs false
set_option linter.unusedVariables false
open Go.RowKit

def falses : List Bool → Nat
 | [] => 0
 | b :: l => (if b = true then 0 else 1) + falses l
theorem falses_set : ∀ (l : List Bool) (i : Nat) (h : i < l.length), l[i] = false → falses (l.set i true) + 1 = falses l
 | [], i, h, _ => by simp at h
 | x :: l, 0, h, e => by simp at e; subst e; simp [falses]; omega
 | x :: l, i + 1, h, e => by
   have := falses_set l i (by simpa using h) (by simpa using e)
   simp only [List.set_cons_succ, falses]; omega
theorem falses_rep (n : Nat) : falses (Array.replicate n false).toList = n := by
 rw [Array.toList_replicate]
 induction n with
 | zero => rfl
 | succ n ih => rw [List.replicate_succ, falses, ih]; simp; omega

structure Chk (ops : Array Oper) (os : List Oper) (fs : List Foot) : Prop where
 low : ∀ j i, j < os.length → ancB os j i = true → i < j
 dst : ∀ (i j : Nat) (o o' : Oper) (d : Nat), os[i]? = some o → os[j]? = some o' → o.dst = some d → o'.dst = some d → i = j
 slots : ∀ (j : Nat) (o : Oper) (t i : Nat) (o' : Oper), os[j]? = some o → t ∈ o.looksAt ops → os[i]? = some o' → o'.dst = some t → ancB os j i = true ∨ ancB os i j = true
 rows : ∀ (i j : Nat) (f g : Foot), fs[i]? = some f → fs[j]? = some g → i ≠ j → ancB os j i = true ∨ ancB os i j = true ∨ noConf f g = true
theorem zip_mem {α : Type} {l : List α} {i : Nat} {x : α} (h : l[i]? = some x) : (x, i) ∈ l.zipIdx := by
 rw [List.mem_zipIdx_iff_getElem?]; exact h
theorem chk_ok {ops : Array Oper} {fs : List Foot} (h : chk ops fs = true) : Chk ops ops.toList fs := by
 unfold chk at h
 simp only [Bool.and_eq_true, List.all_eq_true] at h
 obtain ⟨⟨⟨h1, h2⟩, h3⟩, h4⟩ := h
 refine ⟨fun j i hj hi => ?_, fun i j o o' d e1 e2 e3 e4 => ?_, fun j o t i o' e1 e2 e3 e4 => ?_, fun i j f g e1 e2 hij => ?_⟩
 ·unfold ancB at hi
  cases ha : (ancs ops.toList [])[j]? with
  | none => rw [ha] at hi; simp at hi
  | some a =>
    rw [ha, Option.getD_some] at hi
    have h5 := h1 (a, j) (zip_mem ha)
    simp only [decide_eq_true_eq] at h5
    rcases Nat.lt_or_ge i j with h6 | h6
    ·exact h6
    ·rw [Nat.testBit_lt_two_pow (Nat.lt_of_lt_of_le h5 (Nat.pow_le_pow_right (by decide) h6))] at hi
     cases hi
 ·have h5 := h2 (o', j) (zip_mem e2)
  unfold chkDst at h5
  simp only [e4, Bool.or_eq_true, List.all_eq_true] at h5
  rcases h5 with h5 | h5
  ·simp at h5
  ·have h6 := h5 (o, i) (zip_mem e1)
   rw [e3] at h6
   simp at h6
   exact h6
 ·have h5 := h3 (o, j) (zip_mem e1)
  unfold chkSlots at h5
  rw [List.all_eq_true] at h5
  have h6 := h5 t e2
  rw [List.all_eq_true] at h6
  have h7 := h6 (o', i) (zip_mem e3)
  rw [e4] at h7
  simp at h7
  exact h7
 ·have h5 := h4 (f, i) (zip_mem e1)
  simp only [Bool.or_eq_true, Bool.and_eq_true, beq_iff_eq] at h5
  rcases h5 with ⟨h5, h6⟩ | h5
  ·refine .inr (.inr ?_)
   unfold noConf
   rw [h5, h6]
   have : ∀ l : List Nat, meets l [] = false := fun l => by simp [meets]
   rw [this]
   simp [meets]
  ·rw [List.all_eq_true] at h5
   have h6 := h5 (g, j) (zip_mem e2)
   unfold chkPair at h6
   simp only [Bool.or_eq_true, beq_iff_eq] at h6
   rcases h6 with ((h6 | h6) | h6) | h6
   ·exact absurd h6 hij
   ·exact .inl h6
   ·exact .inr (.inl h6)
   ·exact .inr (.inr h6)
theorem meets_false {x y : List Nat} (h : meets x y = false) {a : Nat} (hx : a ∈ x) (hy : a ∈ y) : False := by
 unfold meets at h
 rw [List.any_eq_false] at h
 exact h a hx (by simpa using hy)

def stE (σ : St) (os : List Oper) (tr : List Tr) (E : Nat → Bool) : St :=
 { s := fun t => runB E (itS os tr t) (σ.s t) os.length, H := fun b => runB E (itH tr b) (σ.H b) os.length, n := σ.n + os.length, N := σ.N, m := σ.m, q := σ.q }

section
variable {P : Program} {Γ : Tab} {Δ : Gab} {B : Nat → Prop} {A : Nat → Option Nat} {W : World} {ops : Array Oper} {Q : Exit → Act → World → Prop}
structure InvD (B : Nat → Prop) (A : Nat → Option Nat) (W : World) (σ : St) (os : List Oper) (tr : List Tr) (listed : Array Bool) (a : Act) (w : World) (ρ : Nat → Option Nat) : Prop where
 sim : Sim B A W (stE σ os tr fun i => listed.getD i false) a w ρ
 free : ∀ i, i < os.length → listed.getD i false = false → ρ (σ.n + i) = none
 closed : ∀ j o, os[j]? = some o → listed.getD j false = true → ∀ e ∈ o.after.toList, Region.binds .any e = true → listed.getD e.on false = true
 size : listed.size = os.length
theorem getD_set {listed : Array Bool} {i : Nat} (hi : i < listed.size) (k : Nat) : (listed.setIfInBounds i true).getD k false = (listed.getD k false || k == i) := by
 by_cases e : k = i
 ·subst e
  simp [hi]
 ·have e' : ¬ i = k := fun h => e h.symm
  simp only [Array.getD_eq_getD_getElem?]
  rw [Array.getElem?_setIfInBounds_ne e']
  have : (k == i) = false := by simpa using e
  simp [this]
theorem invD_step (hΓ : TabOk P Γ) (hΔ : GabOk P Δ) (st : Stat B A W) {r : Option Nat} {σ : St} {tr : List Tr} (hlen : tr.length = ops.toList.length) (hloc : ∀ j o T, ops.toList[j]? = some o → tr[j]? = some T → dstOk o σ.N ∧ Local P Γ Δ ops o (stN σ ops.toList tr j) T)
 (hc : Chk ops ops.toList (tr.map fun T => (T.2.2, T.2.1.map (·.1)))) {listed : Array Bool} {a : Act} {w : World} {ρ : Nat → Option Nat} (hI : InvD B A W σ ops.toList tr listed a w ρ) {i : Nat} (hi : i ∈ Region.ready .any ops listed) :
 wpOpIn (rd r) 0 P ops Q i (fun a' w' => ∃ ρ', InvD B A W σ ops.toList tr (listed.setIfInBounds i true) a' w' ρ') a w := by
 obtain ⟨h0, o, ho, haft⟩ := mem_ready.1 hi
 have hot : ops.toList[i]? = some o := by simpa using ho
 have hil : i < ops.toList.length := (List.getElem?_eq_some_iff.1 hot).1
 have hT : tr[i]? = some tr[i] := List.getElem?_eq_getElem (by omega)
 obtain ⟨hd, hL⟩ := hloc i o tr[i] hot hT
 have hisz : i < listed.size := by rw [hI.size]; exact hil
 have hEi : listed.getD i false = false := by
  have : listed.getD i true = false := h0
  simp [hisz] at this ⊢
  exact this
 have hpre : ∀ e ∈ o.after.toList, Region.binds .any e = true → listed.getD e.on false = true := fun e he hb => haft e (by simpa using he) hb
 have hanc : ∀ k, ancB ops.toList i k = true → listed.getD k false = true := anc_closed (E := fun k => listed.getD k false) hI.closed i i o (Nat.le_refl _) hot hpre
 have hnanc : ∀ k o', ops.toList[k]? = some o' → listed.getD k false = true → ancB ops.toList k i = false := fun k o' hk hE => by
  cases h : ancB ops.toList k i with
  | false => rfl
  | true =>
    have := anc_closed (E := fun k => listed.getD k false) hI.closed k k o' (Nat.le_refl _) hk (hI.closed k o' hk hE) i h
    rw [hEi] at this; cases this
 obtain ⟨r1, r2, r3, r4, r5, r6⟩ := stN_run hlen σ i (by omega)
 have hfoot : ∀ (k : Nat) (T : Tr), tr[k]? = some T → (tr.map fun T => (T.2.2, T.2.1.map (·.1)))[k]? = some (T.2.2, T.2.1.map (·.1)) := fun k T hk => by simp [hk]
 have hopk : ∀ k, k < ops.toList.length → ∃ o' T, ops.toList[k]? = some o' ∧ tr[k]? = some T := fun k hk => ⟨_, _, List.getElem?_eq_getElem hk, List.getElem?_eq_getElem (by omega)⟩
 have hv : vcOp P Γ Δ ops o { stE σ ops.toList tr (fun k => listed.getD k false) with n := σ.n + i } (fun z ws rs => z = tr[i].1 ∧ ws = tr[i].2.1 ∧ rs = tr[i].2.2) := by
  refine hL _ (by simp only [r3]) (by simp only [stE, r4]) (fun t ht => ?_) (fun b hb => ?_)
  ·simp only [stE]
   rw [r1 t, ← runB_prefix ops.toList.length (by omega)]
   refine runB_congr _ fun k hk hne => ?_
   obtain ⟨o', T, e1, e2⟩ := hopk k hk
   have hdk : o'.dst = some t := by
    unfold itS at hne
    rw [e1, e2] at hne
    simp only at hne
    split at hne
    ·assumption
    ·exact absurd rfl hne
   rcases hc.slots i o t k o' hot ht e1 hdk with h1 | h1
   ·rw [hanc k h1]
    have := hc.low i k hil h1
    simp [this]
   ·have h2 := hc.low k i hk h1
    cases hE : listed.getD k false with
    | true => rw [hnanc k o' e1 hE] at h1; cases h1
    | false => simp; omega
  ·simp only [stE]
   rw [r2 b, ← runB_prefix ops.toList.length (by omega)]
   refine runB_congr _ fun k hk hne => ?_
   obtain ⟨o', T, e1, e2⟩ := hopk k hk
   have hkb : b ∈ T.2.1.map (·.1) := by
    unfold itH at hne
    rw [e2] at hne
    exact look_key _ _ hne
   by_cases hki : k = i
   ·subst hki
    rw [hEi]
    simp
   ·rcases hc.rows k i _ _ (hfoot k T e2) (hfoot i _ hT) hki with h1 | h1 | h1
    ·rw [hanc k h1]
     have := hc.low i k hil h1
     simp [this]
    ·have h2 := hc.low k i hk h1
     cases hE : listed.getD k false with
     | true => rw [hnanc k o' e1 hE] at h1; cases h1
     | false => simp; omega
    ·unfold noConf at h1
     simp only [Bool.and_eq_true, Bool.not_eq_true'] at h1
     exact (meets_false h1.1 hkb (List.mem_append_left _ hb)).elim
 obtain ⟨z, ws, rs, ⟨rfl, rfl, rfl⟩, hok⟩ := vcOp_run (Q := Q) (r := r) (σ := stE σ ops.toList tr fun k => listed.getD k false) hΓ hΔ st hI.sim (hI.free i hil hEi) hv
 have hnext := hok (fun a' w' => ∃ ρ', InvD B A W σ ops.toList tr (listed.setIfInBounds i true) a' w' ρ') fun v w' ρ' g1 g2 g3 g4 => by
  have hfr : ∀ k, σ.n + ops.toList.length ≤ k → ρ' k = none := fun k hk => g3 k (by omega) (hI.sim.fresh k hk)
  have hs2 := hI.sim.putG (n' := σ.n + ops.toList.length) (dst := o.dst) (v := v) (x := tr[i].1) (dstOk_lt hd) g1 g2 hfr g4
  have hst : ({ (stE σ ops.toList tr fun k => listed.getD k false).put o.dst tr[i].1 tr[i].2.1 with n := σ.n + ops.toList.length } : St) = stE σ ops.toList tr fun k => (listed.setIfInBounds i true).getD k false := by
   have hEE : (fun k => (listed.setIfInBounds i true).getD k false) = fun k => (listed.getD k false || k == i) := by funext k; exact getD_set hisz k
   rw [hEE]
   unfold stE
   simp only [St.put, St.mk.injEq, and_true]
   refine ⟨funext fun t => ?_, funext fun b => ?_⟩
   ·rw [runB_add (E := fun k => listed.getD k false) _ hil hEi]
    ·have hit : itS ops.toList tr t i = if o.dst = some t then some tr[i].1 else none := by simp only [itS, hot, hT]
     rw [hit]
     cases hdd : o.dst with
     | none => simp
     | some d =>
       by_cases e : d = t
       ·subst e; simp [upS]
       ·have : ¬ t = d := fun h => e h.symm
        simp [upS, e, this]
    ·intro hni k hk hik hne
     obtain ⟨o', T, e1, e2⟩ := hopk k hk
     have hdk : o'.dst = some t := by
      unfold itS at hne
      rw [e1, e2] at hne
      simp only at hne
      split at hne
      ·assumption
      ·exact absurd rfl hne
     have hdi : o.dst = some t := by
      unfold itS at hni
      rw [hot, hT] at hni
      simp only at hni
      split at hni
      ·assumption
      ·exact absurd rfl hni
     have := hc.dst i k o o' t hot e1 hdi hdk
     omega
   ·rw [runB_add (E := fun k => listed.getD k false) _ hil hEi]
    ·have hit : itH tr b i = look tr[i].2.1 b := by simp only [itH, hT, Option.bind_some]
     rw [hit, puts_look]
    ·intro hni k hk hik hne
     obtain ⟨o', T, e1, e2⟩ := hopk k hk
     have hkb : b ∈ T.2.1.map (·.1) := by
      unfold itH at hne
      rw [e2] at hne
      exact look_key _ _ hne
     have hib : b ∈ tr[i].2.1.map (·.1) := by
      unfold itH at hni
      rw [hT] at hni
      exact look_key _ _ hni
     rcases hc.rows k i _ _ (hfoot k T e2) (hfoot i _ hT) (by omega) with h1 | h1 | h1
     ·have := hc.low i k hil h1
      omega
     ·cases hE : listed.getD k false with
      | true => rw [hnanc k o' e1 hE] at h1; cases h1
      | false => rfl
     ·unfold noConf at h1
      simp only [Bool.and_eq_true, Bool.not_eq_true'] at h1
      exact (meets_false h1.1 hkb (List.mem_append_right _ hib)).elim
  rw [hst] at hs2
  refine ⟨ρ', hs2, fun k hk hE => ?_, fun j o' hj hE e he hb => ?_, by simp [hI.size]⟩
  ·rw [getD_set hisz] at hE
   simp only [Bool.or_eq_false_iff, beq_eq_false_iff_ne] at hE
   exact g3 _ (by omega) (hI.free k hk hE.1)
  ·rw [getD_set hisz] at hE ⊢
   simp only [Bool.or_eq_true, beq_iff_eq] at hE
   rcases hE with hE | rfl
   ·rw [hI.closed j o' hj hE e he hb]; rfl
   ·rw [hot] at hj
    injection hj with hj
    subst hj
    rw [hpre e he hb]; rfl
 unfold wpOpIn
 rw [ho]
 exact hnext
theorem falses_pos : ∀ (l : List Bool) (i : Nat) (h : i < l.length), l[i] = false → 0 < falses l := fun l i h e => by
 have := falses_set l i h e; omega
theorem Sim.drew {σ a w ρ} (h : Sim B A W σ a w ρ) (n : Nat) : Sim B A W σ a { w with drawn := n } ρ := by
 have hx := (Step.drewN σ.H w ρ n).ext B
 exact ⟨h.defers, h.size, fun t => (h.slots t).mono hx, h.heap.mono hx (fun _ _ _ _ _ => rfl) (fun _ _ _ _ e => e), h.fresh, h.mine, h.os, h.tape, h.output, h.grow, h.same, h.row, h.pins, h.marks.keep (fun _ _ => rfl)⟩
theorem runB_false {X : Type} {it : Nat → Option X} {d : X} : ∀ m, runB (fun _ => false) it d m = d
 | 0 => rfl
 | m + 1 => by simp [runB, runB_false m]
theorem wpAny_inv (hΓ : TabOk P Γ) (hΔ : GabOk P Δ) (st : Stat B A W) {r : Option Nat} {σ : St} {tr : List Tr} (hlen : tr.length = ops.toList.length) (hloc : ∀ j o T, ops.toList[j]? = some o → tr[j]? = some T → dstOk o σ.N ∧ Local P Γ Δ ops o (stN σ ops.toList tr j) T)
 (hc : Chk ops ops.toList (tr.map fun T => (T.2.2, T.2.1.map (·.1)))) (hQ : ∀ a w ρ, Sim B A W (stN σ ops.toList tr ops.toList.length) a w ρ → Q .normal a w) :
 ∀ (fuel : Nat) (listed : Array Bool) (a : Act) (w : World) (ρ : Nat → Option Nat), InvD B A W σ ops.toList tr listed a w ρ → falses listed.toList ≤ fuel → wpAnyIn (rd r) 0 P .any ops Q fuel listed a w := by
 have done : ∀ (listed : Array Bool) (a : Act) (w : World) (ρ : Nat → Option Nat), InvD B A W σ ops.toList tr listed a w ρ → Region.ready .any ops listed = [] → Q .normal a w := by
  intro listed a w ρ hI hr
  have hall : ∀ m i, i ≤ m → i < ops.toList.length → listed.getD i false = true := by
   intro m
   induction m with
   | zero =>
     intro i hi hil
     cases hE : listed.getD i false with
     | true => rfl
     | false =>
       obtain rfl : i = 0 := by omega
       have ho := List.getElem?_eq_getElem hil
       have hmem : 0 ∈ Region.ready .any ops listed := by
        refine mem_ready.2 ⟨?_, ops.toList[0], by simp, fun e he hb => ?_⟩
        ·have hsz : 0 < listed.size := by rw [hI.size]; exact hil
         simp [hsz] at hE ⊢
         exact hE
        ·have h1 : ancB ops.toList 0 e.on = true := (ancB_iff ho _).2 ⟨e, by simpa using he, hb, .inl rfl⟩
         have := hc.low 0 e.on hil h1
         omega
       rw [hr] at hmem
       cases hmem
   | succ m ih =>
     intro i hi hil
     cases hE : listed.getD i false with
     | true => rfl
     | false =>
       have ho := List.getElem?_eq_getElem hil
       have hmem : i ∈ Region.ready .any ops listed := by
        refine mem_ready.2 ⟨?_, ops.toList[i], by simp, fun e he hb => ?_⟩
        ·have hsz : i < listed.size := by rw [hI.size]; exact hil
         simp [hsz] at hE ⊢
         exact hE
        ·have h1 : ancB ops.toList i e.on = true := (ancB_iff ho _).2 ⟨e, by simpa using he, hb, .inl rfl⟩
         have h2 := hc.low i e.on hil h1
         exact ih e.on (by omega) (by omega)
       rw [hr] at hmem
       cases hmem
  refine hQ a w ρ ?_
  have hs := hI.sim
  have e : stE σ ops.toList tr (fun i => listed.getD i false) = stN σ ops.toList tr ops.toList.length := by
   obtain ⟨r1, r2, r3, r4, r5, r6⟩ := stN_run hlen σ _ (Nat.le_refl _)
   have : stN σ ops.toList tr ops.toList.length = { s := (stN σ ops.toList tr ops.toList.length).s, H := (stN σ ops.toList tr ops.toList.length).H, n := σ.n + ops.toList.length, N := σ.N, m := σ.m, q := σ.q } := by
    rw [← r3, ← r4, ← r5, ← r6]
   rw [this]
   unfold stE
   simp only [St.mk.injEq, and_true]
   refine ⟨funext fun t => ?_, funext fun b => ?_⟩
   ·rw [r1 t]
    exact runB_congr _ fun i hi _ => hall i i (Nat.le_refl _) hi
   ·rw [r2 b]
    exact runB_congr _ fun i hi _ => hall i i (Nat.le_refl _) hi
  rw [e] at hs
  exact hs
 intro fuel
 induction fuel with
 | zero =>
   intro listed a w ρ hI hf
   have hr : Region.ready .any ops listed = [] := by
    rw [List.eq_nil_iff_forall_not_mem]
    intro i hi
    obtain ⟨h0, o, ho, _⟩ := mem_ready.1 hi
    have hil : i < listed.size := by rw [hI.size]; simpa using (Array.getElem?_eq_some_iff.1 ho).1
    simp [hil] at h0
    have := falses_pos listed.toList i (by simpa using hil) (by simpa using h0)
    omega
   exact ⟨hr, done listed a w ρ hI hr⟩
 | succ fuel ih =>
   intro listed a w ρ hI hf
   refine ⟨fun hr => done listed a w ρ hI hr, fun i hi => ?_⟩
   refine wpOpIn_mono (fun a' w' hI' => ?_) (invD_step hΓ hΔ st hlen hloc hc hI hi)
   obtain ⟨ρ', hI'⟩ := hI'
   refine ih _ a' w' ρ' hI' ?_
   obtain ⟨h0, o, ho, _⟩ := mem_ready.1 hi
   have hil : i < listed.size := by rw [hI.size]; simpa using (Array.getElem?_eq_some_iff.1 ho).1
   simp [hil] at h0
   have := falses_set listed.toList i (by simpa using hil) (by simpa using h0)
   rw [Array.toList_setIfInBounds]
   omega
theorem vcDraw_ok (hm : P.follows .mixedOrders = true) (hΓ : TabOk P Γ) (hΔ : GabOk P Δ) (hl : GabLoc Δ) (st : Stat B A W) {r : Option Nat} {K : St → Prop} (hK : ∀ σ a w ρ, K σ → Sim B A W σ a w ρ → Q .normal a w) {id : Nat} {σ : St} {a : Act} {w : World} {ρ : Nat → Option Nat} (hs : Sim B A W σ a w ρ)
 (h : vcDraw P Γ Δ ops σ K) : (Code.region id ops true).wpIn (rd r) 0 P Q a w := by
 obtain ⟨tr, h1, h2, h3, h4⟩ := vcTr_trace hl ops.toList σ [] _ h
 refine wpIn_region_any hm ?_
 refine wpAny_inv hΓ hΔ st h1 h2 (chk_ok (by simpa using h3)) (fun a w ρ hs' => hK _ a w ρ h4 hs') ops.size _ a _ ρ ⟨?_, fun i _ _ => hs.fresh _ (by omega), fun j o _ hE => ?_, by simp⟩ (by rw [falses_rep]; exact Nat.le_refl _)
 ·have e : stE σ ops.toList tr (fun i => (Array.replicate ops.size false).getD i false) = { σ with n := σ.n + ops.toList.length } := by
   have hE : (fun i => (Array.replicate ops.size false).getD i false) = fun _ => false := by
    funext i
    by_cases hi : i < ops.size <;> simp [hi]
   rw [hE]
   unfold stE
   simp only [runB_false]
  rw [e]
  have hd := hs.drew (w.drawn + 1)
  exact ⟨hd.defers, hd.size, hd.slots, hd.heap, fun k hk => hd.fresh k (by simp only at hk; omega), hd.mine, hd.os, hd.tape, hd.output, hd.grow, hd.same, hd.row, hd.pins, hd.marks⟩
 ·exfalso
  by_cases hj : j < ops.size <;> simp [hj] at hE
end
end Go.Proofs.YtfbogelmgdojgaaGreat

