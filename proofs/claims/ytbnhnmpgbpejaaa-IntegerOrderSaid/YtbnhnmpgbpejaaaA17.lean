/- A statement whose order is open: every order gives what the text's order gives. No program in sight. -/
import Derived.Test.YtbnhnmpgbpejaaaA16
namespace Go.Proofs.Ytbnhnmpgbpejaaa
set_option linter.unusedSimpArgs false
set_option linter.unusedVariables false
open Go.RowKit

abbrev Foot := List Nat × List Nat
def vcTr (P : Program) (Γ : Tab) (Δ : Gab) (ops : Array Oper) : List Oper → St → List Foot → (St → List Foot → Prop) → Prop
  | [], σ, tr, K => K σ tr.reverse
  | o :: os, σ, tr, K => dstOk o σ.N ∧ vcOp P Γ Δ ops o σ fun v ws rs => vcTr P Γ Δ ops os (σ.put o.dst v ws) ((rs, ws.map (·.1)) :: tr) K

/-- What must have come before, as bits. -/
def ancM (o : Oper) (acc : List Nat) : Nat := o.after.toList.foldl (fun s e => if Region.binds .any e = true then s ||| 2 ^ e.on ||| (acc[e.on]?).getD 0 else s) 0
def ancs : List Oper → List Nat → List Nat
  | [], acc => acc
  | o :: os, acc => ancs os (acc ++ [ancM o acc])
def meets (x y : List Nat) : Bool := x.any fun a => y.contains a
def noConf (f g : Foot) : Bool := !meets f.2 (g.1 ++ g.2) && !meets g.2 f.1
def chkSlots (ops : Array Oper) (A : List Nat) (os : List Oper) (j : Nat) (o : Oper) : Bool :=
  (o.looksAt ops).all fun t => os.zipIdx.all fun p => p.1.dst != some t || ((A[j]?).getD 0).testBit p.2
def chkPair (A : List Nat) (i j : Nat) (f g : Foot) : Bool := i == j || ((A[j]?).getD 0).testBit i || ((A[i]?).getD 0).testBit j || noConf f g
def chkDst (os : List Oper) (j : Nat) (o : Oper) : Bool := o.dst == none || os.zipIdx.all fun p => p.2 == j || p.1.dst != o.dst
def chk (ops : Array Oper) (tr : List Foot) : Bool :=
  let os := ops.toList
  let A := ancs os []
  (A.zipIdx.all fun p => decide (p.1 < 2 ^ p.2)) && (os.zipIdx.all fun p => chkDst os p.2 p.1) && (os.zipIdx.all fun p => chkSlots ops A os p.2 p.1) &&
    (tr.zipIdx.all fun p => (p.1.1 == [] && p.1.2 == []) || tr.zipIdx.all fun q => chkPair A p.2 q.2 p.1 q.1)
def vcDraw (P : Program) (Γ : Tab) (Δ : Gab) (ops : Array Oper) (σ : St) (K : St → Prop) : Prop :=
  vcTr P Γ Δ ops ops.toList σ [] fun σ' tr => chk ops tr = true ∧ K σ'

/-- What has been done, in the order of the text. -/
def runB {X : Type} (E : Nat → Bool) (it : Nat → Option X) (d : X) : Nat → X
  | 0 => d
  | m + 1 => if E m = true then (it m).getD (runB E it d m) else runB E it d m
section
variable {X : Type} {it : Nat → Option X} {d : X}
theorem runB_congr {E E' : Nat → Bool} : ∀ m, (∀ i, i < m → it i ≠ none → E i = E' i) → runB E it d m = runB E' it d m
  | 0, _ => rfl
  | m + 1, h => by
    have ih := runB_congr m fun i hi => h i (by omega)
    simp only [runB, ih]
    cases hm : it m with
    | none => simp
    | some x => rw [h m (by omega) (by rw [hm]; simp)]
theorem runB_prefix {j : Nat} : ∀ m, j ≤ m → runB (fun i => decide (i < j)) it d m = runB (fun _ => true) it d j
  | 0, h => by
    obtain rfl : j = 0 := by omega
    rfl
  | m + 1, h => by
    by_cases hj : j ≤ m
    · have ih := runB_prefix m hj
      simp only [runB, ih]
      rw [if_neg (by simp; omega)]
    · obtain rfl : j = m + 1 := by omega
      refine runB_congr (m + 1) fun i hi _ => ?_
      simp; omega
theorem runB_upd {E : Nat → Bool} {j : Nat} : ∀ m, j < m → E j = false → (∀ i, i < m → j < i → it i ≠ none → E i = false) → runB (fun i => E i || i == j) it d m = (it j).getD (runB E it d m)
  | 0, h, _, _ => by omega
  | m + 1, h, hE, hi => by
    by_cases hj : j = m
    · subst hj
      have h1 : runB (fun i => E i || i == j) it d j = runB E it d j := runB_congr j fun i hi' _ => by
        have : (i == j) = false := by simp; omega
        simp [this]
      simp only [runB, h1, hE, BEq.rfl, Bool.or_true, if_true, Bool.false_eq_true, if_false]
    · have ih := runB_upd m (by omega) hE fun i h1 h2 h3 => hi i (by omega) h2 h3
      have hm : (m == j) = false := by simp; omega
      simp only [runB, hm, Bool.or_false, ih]
      cases hc : it m with
      | none => simp
      | some x =>
        have := hi m (by omega) (by omega) (by rw [hc]; simp)
        simp [this]
end
theorem runB_none {X : Type} {it : Nat → Option X} {d : X} {E : Nat → Bool} {j : Nat} (h : it j = none) : ∀ m, runB (fun i => E i || i == j) it d m = runB E it d m
  | 0 => rfl
  | m + 1 => by
    simp only [runB, runB_none h m]
    by_cases hj : m = j
    · subst hj
      simp [h]
    · have : (m == j) = false := by simpa using hj
      simp [this]
theorem runB_add {X : Type} {it : Nat → Option X} {d : X} {E : Nat → Bool} {j : Nat} (m : Nat) (hj : j < m) (hE : E j = false) (hi : it j ≠ none → ∀ i, i < m → j < i → it i ≠ none → E i = false) : runB (fun i => E i || i == j) it d m = (it j).getD (runB E it d m) := by
  by_cases h : it j = none
  · rw [runB_none h, h]; rfl
  · exact runB_upd m hj hE (hi h)
def look : List (Nat × Option Blk) → Nat → Option (Option Blk)
  | [], _ => none
  | p :: ws, b => match look ws b with
    | some x => some x
    | none => if b = p.1 then some p.2 else none
theorem puts_look : ∀ (ws : List (Nat × Option Blk)) (H : Hp) (b : Nat), H.puts ws b = (look ws b).getD (H b)
  | [], _, _ => rfl
  | p :: ws, H, b => by
    simp only [Hp.puts, look]
    rw [puts_look ws]
    cases look ws b with
    | some x => rfl
    | none =>
      simp only [Option.getD_none, Hp.up]
      split <;> rfl
theorem look_key : ∀ (ws : List (Nat × Option Blk)) (b : Nat), look ws b ≠ none → b ∈ ws.map (·.1)
  | [], _, h => absurd rfl h
  | p :: ws, b, h => by
    simp only [look] at h
    cases hl : look ws b with
    | some x => exact List.mem_cons_of_mem _ (look_key ws b (by rw [hl]; simp))
    | none =>
      rw [hl] at h
      simp only at h
      split at h
      · rename_i e; subst e; simp
      · exact absurd rfl h

abbrev Tr := V × List (Nat × Option Blk) × List Nat
/-- An operation does this in every state like that one. -/
def Local (P : Program) (Γ : Tab) (Δ : Gab) (ops : Array Oper) (o : Oper) (σ : St) (T : Tr) : Prop :=
  ∀ σ' : St, σ'.n = σ.n → σ'.N = σ.N → (∀ t ∈ o.looksAt ops, σ'.s t = σ.s t) → (∀ b ∈ T.2.2, σ'.H b = σ.H b) → vcOp P Γ Δ ops o σ' (fun z ws rs => z = T.1 ∧ ws = T.2.1 ∧ rs = T.2.2)
def stN : St → List Oper → List Tr → Nat → St
  | σ, _, _, 0 => σ
  | σ, o :: os, T :: tr, j + 1 => stN (σ.put o.dst T.1 T.2.1) os tr j
  | σ, _, _, _ + 1 => σ
theorem vcTr_trace {P : Program} {Γ : Tab} {Δ : Gab} (hl : GabLoc Δ) {ops : Array Oper} : ∀ (os : List Oper) (σ : St) (acc : List Foot) (K : St → List Foot → Prop), vcTr P Γ Δ ops os σ acc K →
    ∃ tr : List Tr, tr.length = os.length ∧ (∀ j o T, os[j]? = some o → tr[j]? = some T → dstOk o σ.N ∧ Local P Γ Δ ops o (stN σ os tr j) T) ∧ K (stN σ os tr os.length) (acc.reverse ++ tr.map fun T => (T.2.2, T.2.1.map (·.1)))
  | [], σ, acc, K, h => ⟨[], rfl, fun j o T h1 _ => by simp at h1, by simpa [stN, vcTr] using h⟩
  | o :: os, σ, acc, K, h => by
    obtain ⟨hd, h⟩ := h
    obtain ⟨z, ws, rs, h1, h2⟩ := vcOp_local hl h
    obtain ⟨tr, h3, h4, h5⟩ := vcTr_trace hl os _ _ K h1
    refine ⟨(z, ws, rs) :: tr, by simp [h3], fun j o' T e1 e2 => ?_, ?_⟩
    · cases j with
      | zero =>
        simp at e1 e2
        subst e1 e2
        exact ⟨hd, h2⟩
      | succ j => exact h4 j o' T (by simpa using e1) (by simpa using e2)
    · simp only [List.length_cons, stN]
      simpa using h5
theorem stN_succ : ∀ (os : List Oper) (tr : List Tr) (σ : St) (j : Nat) (o : Oper) (T : Tr), os[j]? = some o → tr[j]? = some T → stN σ os tr (j + 1) = (stN σ os tr j).put o.dst T.1 T.2.1
  | [], _, _, _, _, _, h, _ => by simp at h
  | _ :: _, [], _, _, _, _, _, h => by simp at h
  | o' :: os, T' :: tr, σ, 0, o, T, h1, h2 => by
    simp at h1 h2
    subst h1 h2
    cases os <;> cases tr <;> rfl
  | o' :: os, T' :: tr, σ, j + 1, o, T, h1, h2 => by
    show stN (σ.put o'.dst T'.1 T'.2.1) os tr (j + 1) = _
    rw [stN_succ os tr _ j o T (by simpa using h1) (by simpa using h2)]
    rfl
def itS (os : List Oper) (tr : List Tr) (t : Nat) (j : Nat) : Option V :=
  match os[j]?, tr[j]? with
  | some o, some T => if o.dst = some t then some T.1 else none
  | _, _ => none
def itH (tr : List Tr) (b : Nat) (j : Nat) : Option (Option Blk) := (tr[j]?).bind fun T => look T.2.1 b
theorem stN_run {os : List Oper} {tr : List Tr} (hlen : tr.length = os.length) (σ : St) : ∀ j, j ≤ os.length → (∀ t, (stN σ os tr j).s t = runB (fun _ => true) (itS os tr t) (σ.s t) j) ∧ (∀ b, (stN σ os tr j).H b = runB (fun _ => true) (itH tr b) (σ.H b) j) ∧ (stN σ os tr j).n = σ.n + j ∧ (stN σ os tr j).N = σ.N
  | 0, _ => by
    have : stN σ os tr 0 = σ := by cases os <;> cases tr <;> rfl
    rw [this]
    exact ⟨fun _ => rfl, fun _ => rfl, rfl, rfl⟩
  | j + 1, hj => by
    obtain ⟨h1, h2, h3, h4⟩ := stN_run hlen σ j (by omega)
    have ho : os[j]? = some os[j] := List.getElem?_eq_getElem (by omega)
    have hT : tr[j]? = some tr[j] := List.getElem?_eq_getElem (by omega)
    rw [stN_succ os tr σ j _ _ ho hT]
    refine ⟨fun t => ?_, fun b => ?_, by simp only [St.put, h3]; omega, by simp only [St.put, h4]⟩
    · have hit : itS os tr t j = if os[j].dst = some t then some tr[j].1 else none := by simp only [itS, ho, hT]
      simp only [runB, if_true, ← h1 t, hit]
      cases hd : os[j].dst with
      | none => simp [St.put]
      | some d =>
        by_cases e : d = t
        · subst e; simp [St.put, upS]
        · have : ¬ t = d := fun h => e h.symm
          simp [St.put, upS, e, this]
    · have hit : itH tr b j = look tr[j].2.1 b := by simp only [itH, hT, Option.bind_some]
      simp only [runB, if_true, ← h2 b, hit]
      exact puts_look _ _ _

/-- The bits. -/
theorem fold_bits (acc : List Nat) : ∀ (l : List Edge) (s i : Nat), (l.foldl (fun s e => if Region.binds .any e = true then s ||| 2 ^ e.on ||| (acc[e.on]?).getD 0 else s) s).testBit i = true ↔
    s.testBit i = true ∨ ∃ e ∈ l, Region.binds .any e = true ∧ (i = e.on ∨ ((acc[e.on]?).getD 0).testBit i = true)
  | [], s, i => by simp
  | e :: l, s, i => by
    simp only [List.foldl_cons]
    rw [fold_bits acc l]
    by_cases hb : Region.binds .any e = true
    · rw [if_pos hb]
      simp only [Nat.testBit_or, Nat.testBit_two_pow, Bool.or_eq_true, decide_eq_true_eq]
      constructor
      · rintro (((h | h) | h) | ⟨e', h1, h2, h3⟩)
        · exact .inl h
        · exact .inr ⟨e, by simp, hb, .inl h.symm⟩
        · exact .inr ⟨e, by simp, hb, .inr h⟩
        · exact .inr ⟨e', by simp [h1], h2, h3⟩
      · rintro (h | ⟨e', h1, h2, h3⟩)
        · exact .inl (.inl (.inl h))
        · rcases List.mem_cons.1 h1 with rfl | h1
          · rcases h3 with h3 | h3
            · exact .inl (.inl (.inr h3.symm))
            · exact .inl (.inr h3)
          · exact .inr ⟨e', h1, h2, h3⟩
    · rw [if_neg hb]
      constructor
      · rintro (h | ⟨e', h1, h2, h3⟩)
        · exact .inl h
        · exact .inr ⟨e', by simp [h1], h2, h3⟩
      · rintro (h | ⟨e', h1, h2, h3⟩)
        · exact .inl h
        · rcases List.mem_cons.1 h1 with rfl | h1
          · exact absurd h2 hb
          · exact .inr ⟨e', h1, h2, h3⟩
theorem ancs_keep : ∀ (os : List Oper) (acc : List Nat) (j : Nat), j < acc.length → (ancs os acc)[j]? = acc[j]?
  | [], _, _, _ => rfl
  | o :: os, acc, j, h => by
    simp only [ancs]
    rw [ancs_keep os _ j (by simp; omega), List.getElem?_append_left h]
theorem ancs_get : ∀ (os : List Oper) (acc : List Nat) (j : Nat) (o : Oper), os[j]? = some o → ∃ acc' : List Nat, acc'.length = acc.length + j ∧ (ancs os acc)[acc.length + j]? = some (ancM o acc') ∧ ∀ i, i < acc'.length → acc'[i]? = (ancs os acc)[i]?
  | [], _, _, _, h => by simp at h
  | o' :: os, acc, 0, o, h => by
    simp at h
    subst h
    refine ⟨acc, rfl, ?_, fun i hi => ?_⟩
    · simp only [ancs]
      rw [ancs_keep os _ _ (by simp)]
      simp
    · simp only [ancs]
      rw [ancs_keep os _ _ (by simp; omega), List.getElem?_append_left hi]
  | o' :: os, acc, j + 1, o, h => by
    obtain ⟨acc', h1, h2, h3⟩ := ancs_get os (acc ++ [ancM o' acc]) j o (by simpa using h)
    simp only [List.length_append, List.length_singleton] at h1 h2
    refine ⟨acc', by omega, ?_, h3⟩
    simp only [ancs]
    rw [show acc.length + (j + 1) = acc.length + 1 + j from by omega]
    exact h2
def ancB (os : List Oper) (j i : Nat) : Bool := (((ancs os [])[j]?).getD 0).testBit i
theorem ancB_iff {os : List Oper} {j : Nat} {o : Oper} (h : os[j]? = some o) (i : Nat) : ancB os j i = true ↔ ∃ e ∈ o.after.toList, Region.binds .any e = true ∧ (i = e.on ∨ (e.on < j ∧ ancB os e.on i = true)) := by
  obtain ⟨acc', h1, h2, h3⟩ := ancs_get os [] j o h
  simp only [List.length_nil, Nat.zero_add] at h1 h2
  unfold ancB
  rw [h2, Option.getD_some]
  unfold ancM
  rw [fold_bits]
  simp only [Nat.zero_testBit, Bool.false_eq_true, false_or]
  constructor
  · rintro ⟨e, q1, q2, q3⟩
    refine ⟨e, q1, q2, ?_⟩
    rcases q3 with q3 | q3
    · exact .inl q3
    · by_cases hlt : e.on < acc'.length
      · rw [h3 _ hlt] at q3
        exact .inr ⟨by omega, q3⟩
      · rw [List.getElem?_eq_none (by omega)] at q3
        simp at q3
  · rintro ⟨e, q1, q2, q3⟩
    refine ⟨e, q1, q2, ?_⟩
    rcases q3 with q3 | ⟨q3, q4⟩
    · exact .inl q3
    · rw [← h3 _ (by omega)] at q4
      exact .inr q4
/-- In a set that holds what each of its members wants before it, lies all that must have come before. -/
theorem anc_closed {os : List Oper} {E : Nat → Bool} (hE : ∀ j o, os[j]? = some o → E j = true → ∀ e ∈ o.after.toList, Region.binds .any e = true → E e.on = true) :
    ∀ (m j : Nat) (o : Oper), j ≤ m → os[j]? = some o → (∀ e ∈ o.after.toList, Region.binds .any e = true → E e.on = true) → ∀ i, ancB os j i = true → E i = true
  | m, j, o, hj, ho, hp, i, hi => by
    obtain ⟨e, h1, h2, h3⟩ := (ancB_iff ho i).1 hi
    have he := hp e h1 h2
    rcases h3 with rfl | ⟨h3, h4⟩
    · exact he
    · cases m with
      | zero => omega
      | succ m =>
        cases ho' : os[e.on]? with
        | none =>
          have hlen : (os.length) ≤ e.on := List.getElem?_eq_none_iff.1 ho'
          have hjl : j < os.length := (List.getElem?_eq_some_iff.1 ho).1
          omega
        | some o' => exact anc_closed hE m e.on o' (by omega) ho' (hE _ _ ho' he) i h4
end Go.Proofs.Ytbnhnmpgbpejaaa
