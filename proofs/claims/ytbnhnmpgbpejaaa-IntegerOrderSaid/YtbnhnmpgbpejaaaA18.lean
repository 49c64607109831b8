/- A statement whose order is open: the proof. No program in sight. -/
import Derived.Test.YtbnhnmpgbpejaaaA17
namespace Go.Proofs.Ytbnhnmpgbpejaaa
set_option linter.unusedSimpArgs false
set_option linter.unusedVariables false
open Go.RowKit

def falses : List Bool → Nat
  | [] => 0
  | b :: l => (if b = true then 0 else 1) + falses l
theorem falses_set : ∀ (l : List Bool) (i : Nat) (h : i < l.length), l[i] = false → falses (l.set i true) + 1 = falses l
  | [], i, h, _ => by simp at h
  | x :: l, 0, h, e => by simp at e; subst e; simp [falses]; omega
  | x :: l, i + 1, h, e => by
    have := falses_set l i (by simpa using h) (by simpa using e)
    simp only [List.set_cons_succ, falses]; omega
theorem falses_rep (n : Nat) : falses (Array.replicate n false).toList = n := by
  rw [Array.toList_replicate]
  induction n with
  | zero => rfl
  | succ n ih => rw [List.replicate_succ, falses, ih]; simp; omega

/-- What the check says. -/
structure Chk (ops : Array Oper) (os : List Oper) (fs : List Foot) : Prop where
  low : ∀ j i, j < os.length → ancB os j i = true → i < j
  dst : ∀ (i j : Nat) (o o' : Oper) (d : Nat), os[i]? = some o → os[j]? = some o' → o.dst = some d → o'.dst = some d → i = j
  slots : ∀ (j : Nat) (o : Oper) (t i : Nat) (o' : Oper), os[j]? = some o → t ∈ o.looksAt ops → os[i]? = some o' → o'.dst = some t → ancB os j i = true
  rows : ∀ (i j : Nat) (f g : Foot), fs[i]? = some f → fs[j]? = some g → i ≠ j → ancB os j i = true ∨ ancB os i j = true ∨ noConf f g = true
theorem zip_mem {α : Type} {l : List α} {i : Nat} {x : α} (h : l[i]? = some x) : (x, i) ∈ l.zipIdx := by
  rw [List.mem_zipIdx_iff_getElem?]; exact h
theorem chk_ok {ops : Array Oper} {fs : List Foot} (h : chk ops fs = true) : Chk ops ops.toList fs := by
  unfold chk at h
  simp only [Bool.and_eq_true, List.all_eq_true] at h
  obtain ⟨⟨⟨h1, h2⟩, h3⟩, h4⟩ := h
  refine ⟨fun j i hj hi => ?_, fun i j o o' d e1 e2 e3 e4 => ?_, fun j o t i o' e1 e2 e3 e4 => ?_, fun i j f g e1 e2 hij => ?_⟩
  · unfold ancB at hi
    cases ha : (ancs ops.toList [])[j]? with
    | none => rw [ha] at hi; simp at hi
    | some a =>
      rw [ha, Option.getD_some] at hi
      have h5 := h1 (a, j) (zip_mem ha)
      simp only [decide_eq_true_eq] at h5
      rcases Nat.lt_or_ge i j with h6 | h6
      · exact h6
      · rw [Nat.testBit_lt_two_pow (Nat.lt_of_lt_of_le h5 (Nat.pow_le_pow_right (by decide) h6))] at hi
        cases hi
  · have h5 := h2 (o', j) (zip_mem e2)
    unfold chkDst at h5
    simp only [e4, Bool.or_eq_true, List.all_eq_true] at h5
    rcases h5 with h5 | h5
    · simp at h5
    · have h6 := h5 (o, i) (zip_mem e1)
      rw [e3] at h6
      simp at h6
      exact h6
  · have h5 := h3 (o, j) (zip_mem e1)
    unfold chkSlots at h5
    rw [List.all_eq_true] at h5
    have h6 := h5 t e2
    rw [List.all_eq_true] at h6
    have h7 := h6 (o', i) (zip_mem e3)
    rw [e4] at h7
    simp at h7
    exact h7
  · have h5 := h4 (f, i) (zip_mem e1)
    simp only [Bool.or_eq_true, Bool.and_eq_true, beq_iff_eq] at h5
    rcases h5 with ⟨h5, h6⟩ | h5
    · refine .inr (.inr ?_)
      unfold noConf
      rw [h5, h6]
      have : ∀ l : List Nat, meets l [] = false := fun l => by simp [meets]
      rw [this]
      simp [meets]
    · rw [List.all_eq_true] at h5
      have h6 := h5 (g, j) (zip_mem e2)
      unfold chkPair at h6
      simp only [Bool.or_eq_true, beq_iff_eq] at h6
      rcases h6 with ((h6 | h6) | h6) | h6
      · exact absurd h6 hij
      · exact .inl h6
      · exact .inr (.inl h6)
      · exact .inr (.inr h6)
theorem meets_false {x y : List Nat} (h : meets x y = false) {a : Nat} (hx : a ∈ x) (hy : a ∈ y) : False := by
  unfold meets at h
  rw [List.any_eq_false] at h
  exact h a hx (by simpa using hy)

/-- The state in which just these operations have been done. -/
def stE (σ : St) (os : List Oper) (tr : List Tr) (E : Nat → Bool) : St :=
  { s := fun t => runB E (itS os tr t) (σ.s t) os.length, H := fun b => runB E (itH tr b) (σ.H b) os.length, n := σ.n + os.length, N := σ.N }

section
variable {P : Program} {Γ : Tab} {Δ : Gab} {B A : Nat → Prop} {W : World} {ops : Array Oper} {Q : Exit → Act → World → Prop}
/-- What is done so far. -/
structure InvD (B A : Nat → Prop) (W : World) (σ : St) (os : List Oper) (tr : List Tr) (listed : Array Bool) (a : Act) (w : World) (ρ : Nat → Option Nat) : Prop where
  sim : Sim B A W (stE σ os tr fun i => listed.getD i false) a w ρ
  free : ∀ i, i < os.length → listed.getD i false = false → ρ (σ.n + i) = none
  closed : ∀ j o, os[j]? = some o → listed.getD j false = true → ∀ e ∈ o.after.toList, Region.binds .any e = true → listed.getD e.on false = true
  size : listed.size = os.length
theorem getD_set {listed : Array Bool} {i : Nat} (hi : i < listed.size) (k : Nat) : (listed.setIfInBounds i true).getD k false = (listed.getD k false || k == i) := by
  by_cases e : k = i
  · subst e
    simp [hi]
  · have e' : ¬ i = k := fun h => e h.symm
    simp only [Array.getD_eq_getD_getElem?]
    rw [Array.getElem?_setIfInBounds_ne e']
    have : (k == i) = false := by simpa using e
    simp [this]
theorem invD_step (hΓ : TabOk P Γ) (hΔ : GabOk P Δ) (st : Stat B A W) {σ : St} {tr : List Tr} (hlen : tr.length = ops.toList.length) (hloc : ∀ j o T, ops.toList[j]? = some o → tr[j]? = some T → dstOk o σ.N ∧ Local P Γ Δ ops o (stN σ ops.toList tr j) T)
    (hc : Chk ops ops.toList (tr.map fun T => (T.2.2, T.2.1.map (·.1)))) {listed : Array Bool} {a : Act} {w : World} {ρ : Nat → Option Nat} (hI : InvD B A W σ ops.toList tr listed a w ρ) {i : Nat} (hi : i ∈ Region.ready .any ops listed) :
    wpOp P ops Q i (fun a' w' => ∃ ρ', InvD B A W σ ops.toList tr (listed.setIfInBounds i true) a' w' ρ') a w := by
  obtain ⟨h0, o, ho, haft⟩ := mem_ready.1 hi
  have hot : ops.toList[i]? = some o := by simpa using ho
  have hil : i < ops.toList.length := (List.getElem?_eq_some_iff.1 hot).1
  have hT : tr[i]? = some tr[i] := List.getElem?_eq_getElem (by omega)
  obtain ⟨hd, hL⟩ := hloc i o tr[i] hot hT
  have hisz : i < listed.size := by rw [hI.size]; exact hil
  have hEi : listed.getD i false = false := by
    have : listed.getD i true = false := h0
    simp [hisz] at this ⊢
    exact this
  have hpre : ∀ e ∈ o.after.toList, Region.binds .any e = true → listed.getD e.on false = true := fun e he hb => haft e (by simpa using he) hb
  have hanc : ∀ k, ancB ops.toList i k = true → listed.getD k false = true := anc_closed (E := fun k => listed.getD k false) hI.closed i i o (Nat.le_refl _) hot hpre
  have hnanc : ∀ k o', ops.toList[k]? = some o' → listed.getD k false = true → ancB ops.toList k i = false := fun k o' hk hE => by
    cases h : ancB ops.toList k i with
    | false => rfl
    | true =>
      have := anc_closed (E := fun k => listed.getD k false) hI.closed k k o' (Nat.le_refl _) hk (hI.closed k o' hk hE) i h
      rw [hEi] at this; cases this
  obtain ⟨r1, r2, r3, r4⟩ := stN_run hlen σ i (by omega)
  have hfoot : ∀ (k : Nat) (T : Tr), tr[k]? = some T → (tr.map fun T => (T.2.2, T.2.1.map (·.1)))[k]? = some (T.2.2, T.2.1.map (·.1)) := fun k T hk => by simp [hk]
  have hopk : ∀ k, k < ops.toList.length → ∃ o' T, ops.toList[k]? = some o' ∧ tr[k]? = some T := fun k hk => ⟨_, _, List.getElem?_eq_getElem hk, List.getElem?_eq_getElem (by omega)⟩
  have hv : vcOp P Γ Δ ops o { stE σ ops.toList tr (fun k => listed.getD k false) with n := σ.n + i } (fun z ws rs => z = tr[i].1 ∧ ws = tr[i].2.1 ∧ rs = tr[i].2.2) := by
    refine hL _ (by simp only [r3]) (by simp only [stE, r4]) (fun t ht => ?_) (fun b hb => ?_)
    · simp only [stE]
      rw [r1 t, ← runB_prefix ops.toList.length (by omega)]
      refine runB_congr _ fun k hk hne => ?_
      obtain ⟨o', T, e1, e2⟩ := hopk k hk
      have hdk : o'.dst = some t := by
        unfold itS at hne
        rw [e1, e2] at hne
        simp only at hne
        split at hne
        · assumption
        · exact absurd rfl hne
      have h1 := hc.slots i o t k o' hot ht e1 hdk
      rw [hanc k h1]
      have := hc.low i k hil h1
      simp [this]
    · simp only [stE]
      rw [r2 b, ← runB_prefix ops.toList.length (by omega)]
      refine runB_congr _ fun k hk hne => ?_
      obtain ⟨o', T, e1, e2⟩ := hopk k hk
      have hkb : b ∈ T.2.1.map (·.1) := by
        unfold itH at hne
        rw [e2] at hne
        exact look_key _ _ hne
      by_cases hki : k = i
      · subst hki
        rw [hEi]
        simp
      · rcases hc.rows k i _ _ (hfoot k T e2) (hfoot i _ hT) hki with h1 | h1 | h1
        · rw [hanc k h1]
          have := hc.low i k hil h1
          simp [this]
        · have h2 := hc.low k i hk h1
          cases hE : listed.getD k false with
          | true => rw [hnanc k o' e1 hE] at h1; cases h1
          | false => simp; omega
        · unfold noConf at h1
          simp only [Bool.and_eq_true, Bool.not_eq_true'] at h1
          exact (meets_false h1.1 hkb (List.mem_append_left _ hb)).elim
  obtain ⟨z, ws, rs, ⟨rfl, rfl, rfl⟩, hok⟩ := vcOp_run (Q := Q) (σ := stE σ ops.toList tr fun k => listed.getD k false) hΓ hΔ st hI.sim (hI.free i hil hEi) hv
  have hnext := hok (fun a' w' => ∃ ρ', InvD B A W σ ops.toList tr (listed.setIfInBounds i true) a' w' ρ') fun v w' ρ' g1 g2 g3 g4 => by
    have hfr : ∀ k, σ.n + ops.toList.length ≤ k → ρ' k = none := fun k hk => g3 k (by omega) (hI.sim.fresh k hk)
    have hs2 := hI.sim.putG (n' := σ.n + ops.toList.length) (dst := o.dst) (v := v) (x := tr[i].1) (dstOk_lt hd) g1 g2 hfr g4
    have hst : ({ (stE σ ops.toList tr fun k => listed.getD k false).put o.dst tr[i].1 tr[i].2.1 with n := σ.n + ops.toList.length } : St) = stE σ ops.toList tr fun k => (listed.setIfInBounds i true).getD k false := by
      have hEE : (fun k => (listed.setIfInBounds i true).getD k false) = fun k => (listed.getD k false || k == i) := by funext k; exact getD_set hisz k
      rw [hEE]
      unfold stE
      simp only [St.put, St.mk.injEq, and_true]
      refine ⟨funext fun t => ?_, funext fun b => ?_⟩
      · rw [runB_add (E := fun k => listed.getD k false) _ hil hEi]
        · have hit : itS ops.toList tr t i = if o.dst = some t then some tr[i].1 else none := by simp only [itS, hot, hT]
          rw [hit]
          cases hdd : o.dst with
          | none => simp
          | some d =>
            by_cases e : d = t
            · subst e; simp [upS]
            · have : ¬ t = d := fun h => e h.symm
              simp [upS, e, this]
        · intro hni k hk hik hne
          obtain ⟨o', T, e1, e2⟩ := hopk k hk
          have hdk : o'.dst = some t := by
            unfold itS at hne
            rw [e1, e2] at hne
            simp only at hne
            split at hne
            · assumption
            · exact absurd rfl hne
          have hdi : o.dst = some t := by
            unfold itS at hni
            rw [hot, hT] at hni
            simp only at hni
            split at hni
            · assumption
            · exact absurd rfl hni
          have := hc.dst i k o o' t hot e1 hdi hdk
          omega
      · rw [runB_add (E := fun k => listed.getD k false) _ hil hEi]
        · have hit : itH tr b i = look tr[i].2.1 b := by simp only [itH, hT, Option.bind_some]
          rw [hit, puts_look]
        · intro hni k hk hik hne
          obtain ⟨o', T, e1, e2⟩ := hopk k hk
          have hkb : b ∈ T.2.1.map (·.1) := by
            unfold itH at hne
            rw [e2] at hne
            exact look_key _ _ hne
          have hib : b ∈ tr[i].2.1.map (·.1) := by
            unfold itH at hni
            rw [hT] at hni
            exact look_key _ _ hni
          rcases hc.rows k i _ _ (hfoot k T e2) (hfoot i _ hT) (by omega) with h1 | h1 | h1
          · have := hc.low i k hil h1
            omega
          · cases hE : listed.getD k false with
            | true => rw [hnanc k o' e1 hE] at h1; cases h1
            | false => rfl
          · unfold noConf at h1
            simp only [Bool.and_eq_true, Bool.not_eq_true'] at h1
            exact (meets_false h1.1 hkb (List.mem_append_right _ hib)).elim
    rw [hst] at hs2
    refine ⟨ρ', hs2, fun k hk hE => ?_, fun j o' hj hE e he hb => ?_, by simp [hI.size]⟩
    · rw [getD_set hisz] at hE
      simp only [Bool.or_eq_false_iff, beq_eq_false_iff_ne] at hE
      exact g3 _ (by omega) (hI.free k hk hE.1)
    · rw [getD_set hisz] at hE ⊢
      simp only [Bool.or_eq_true, beq_iff_eq] at hE
      rcases hE with hE | rfl
      · rw [hI.closed j o' hj hE e he hb]; rfl
      · rw [hot] at hj
        injection hj with hj
        subst hj
        rw [hpre e he hb]; rfl
  unfold wpOp
  rw [ho]
  exact hnext
theorem falses_pos : ∀ (l : List Bool) (i : Nat) (h : i < l.length), l[i] = false → 0 < falses l := fun l i h e => by
  have := falses_set l i h e; omega
theorem Sim.drew {σ a w ρ} (h : Sim B A W σ a w ρ) (n : Nat) : Sim B A W σ a { w with drawn := n } ρ := by
  have hx := (Step.drewN σ.H w ρ n).ext B
  exact ⟨h.defers, h.size, fun t => (h.slots t).mono hx, h.heap.mono hx (fun _ _ _ _ _ => rfl) (fun _ _ _ _ e => e), h.fresh, h.mine, h.os, h.tape, h.output, h.grow, h.same, h.row⟩
theorem runB_false {X : Type} {it : Nat → Option X} {d : X} : ∀ m, runB (fun _ => false) it d m = d
  | 0 => rfl
  | m + 1 => by simp [runB, runB_false m]
theorem wpAny_inv (hΓ : TabOk P Γ) (hΔ : GabOk P Δ) (st : Stat B A W) {σ : St} {tr : List Tr} (hlen : tr.length = ops.toList.length) (hloc : ∀ j o T, ops.toList[j]? = some o → tr[j]? = some T → dstOk o σ.N ∧ Local P Γ Δ ops o (stN σ ops.toList tr j) T)
    (hc : Chk ops ops.toList (tr.map fun T => (T.2.2, T.2.1.map (·.1)))) (hQ : ∀ a w ρ, Sim B A W (stN σ ops.toList tr ops.toList.length) a w ρ → Q .normal a w) :
    ∀ (fuel : Nat) (listed : Array Bool) (a : Act) (w : World) (ρ : Nat → Option Nat), InvD B A W σ ops.toList tr listed a w ρ → falses listed.toList ≤ fuel → wpAny P .any ops Q fuel listed a w := by
  have done : ∀ (listed : Array Bool) (a : Act) (w : World) (ρ : Nat → Option Nat), InvD B A W σ ops.toList tr listed a w ρ → Region.ready .any ops listed = [] → Q .normal a w := by
    intro listed a w ρ hI hr
    have hall : ∀ m i, i ≤ m → i < ops.toList.length → listed.getD i false = true := by
      intro m
      induction m with
      | zero =>
        intro i hi hil
        cases hE : listed.getD i false with
        | true => rfl
        | false =>
          obtain rfl : i = 0 := by omega
          have ho := List.getElem?_eq_getElem hil
          have hmem : 0 ∈ Region.ready .any ops listed := by
            refine mem_ready.2 ⟨?_, ops.toList[0], by simp, fun e he hb => ?_⟩
            · have hsz : 0 < listed.size := by rw [hI.size]; exact hil
              simp [hsz] at hE ⊢
              exact hE
            · have h1 : ancB ops.toList 0 e.on = true := (ancB_iff ho _).2 ⟨e, by simpa using he, hb, .inl rfl⟩
              have := hc.low 0 e.on hil h1
              omega
          rw [hr] at hmem
          cases hmem
      | succ m ih =>
        intro i hi hil
        cases hE : listed.getD i false with
        | true => rfl
        | false =>
          have ho := List.getElem?_eq_getElem hil
          have hmem : i ∈ Region.ready .any ops listed := by
            refine mem_ready.2 ⟨?_, ops.toList[i], by simp, fun e he hb => ?_⟩
            · have hsz : i < listed.size := by rw [hI.size]; exact hil
              simp [hsz] at hE ⊢
              exact hE
            · have h1 : ancB ops.toList i e.on = true := (ancB_iff ho _).2 ⟨e, by simpa using he, hb, .inl rfl⟩
              have h2 := hc.low i e.on hil h1
              exact ih e.on (by omega) (by omega)
          rw [hr] at hmem
          cases hmem
    refine hQ a w ρ ?_
    have hs := hI.sim
    have e : stE σ ops.toList tr (fun i => listed.getD i false) = stN σ ops.toList tr ops.toList.length := by
      obtain ⟨r1, r2, r3, r4⟩ := stN_run hlen σ _ (Nat.le_refl _)
      have : stN σ ops.toList tr ops.toList.length = { s := (stN σ ops.toList tr ops.toList.length).s, H := (stN σ ops.toList tr ops.toList.length).H, n := σ.n + ops.toList.length, N := σ.N } := by
        rw [← r3, ← r4]
      rw [this]
      unfold stE
      simp only [St.mk.injEq, and_true]
      refine ⟨funext fun t => ?_, funext fun b => ?_⟩
      · rw [r1 t]
        exact runB_congr _ fun i hi _ => hall i i (Nat.le_refl _) hi
      · rw [r2 b]
        exact runB_congr _ fun i hi _ => hall i i (Nat.le_refl _) hi
    rw [e] at hs
    exact hs
  intro fuel
  induction fuel with
  | zero =>
    intro listed a w ρ hI hf
    have hr : Region.ready .any ops listed = [] := by
      rw [List.eq_nil_iff_forall_not_mem]
      intro i hi
      obtain ⟨h0, o, ho, _⟩ := mem_ready.1 hi
      have hil : i < listed.size := by rw [hI.size]; simpa using (Array.getElem?_eq_some_iff.1 ho).1
      simp [hil] at h0
      have := falses_pos listed.toList i (by simpa using hil) (by simpa using h0)
      omega
    exact ⟨hr, done listed a w ρ hI hr⟩
  | succ fuel ih =>
    intro listed a w ρ hI hf
    refine ⟨fun hr => done listed a w ρ hI hr, fun i hi => ?_⟩
    refine wpOp_mono (fun a' w' hI' => ?_) (invD_step hΓ hΔ st hlen hloc hc hI hi)
    obtain ⟨ρ', hI'⟩ := hI'
    refine ih _ a' w' ρ' hI' ?_
    obtain ⟨h0, o, ho, _⟩ := mem_ready.1 hi
    have hil : i < listed.size := by rw [hI.size]; simpa using (Array.getElem?_eq_some_iff.1 ho).1
    simp [hil] at h0
    have := falses_set listed.toList i (by simpa using hil) (by simpa using h0)
    rw [Array.toList_setIfInBounds]
    omega
/-- A statement whose order is open. -/
theorem vcDraw_ok (hm : P.follows .mixedOrders = true) (hΓ : TabOk P Γ) (hΔ : GabOk P Δ) (hl : GabLoc Δ) (st : Stat B A W) {K : St → Prop} (hK : ∀ σ a w ρ, K σ → Sim B A W σ a w ρ → Q .normal a w) {id : Nat} {σ : St} {a : Act} {w : World} {ρ : Nat → Option Nat} (hs : Sim B A W σ a w ρ)
    (h : vcDraw P Γ Δ ops σ K) : (Code.region id ops true).wp P Q a w := by
  obtain ⟨tr, h1, h2, h3, h4⟩ := vcTr_trace hl ops.toList σ [] _ h
  refine wp_region_any hm ?_
  refine wpAny_inv hΓ hΔ st h1 h2 (chk_ok (by simpa using h3)) (fun a w ρ hs' => hK _ a w ρ h4 hs') ops.size _ a _ ρ ⟨?_, fun i _ _ => hs.fresh _ (by omega), fun j o _ hE => ?_, by simp⟩ (by rw [falses_rep]; exact Nat.le_refl _)
  · have e : stE σ ops.toList tr (fun i => (Array.replicate ops.size false).getD i false) = { σ with n := σ.n + ops.toList.length } := by
      have hE : (fun i => (Array.replicate ops.size false).getD i false) = fun _ => false := by
        funext i
        by_cases hi : i < ops.size <;> simp [hi]
      rw [hE]
      unfold stE
      simp only [runB_false]
    rw [e]
    have hd := hs.drew (w.drawn + 1)
    exact ⟨hd.defers, hd.size, hd.slots, hd.heap, fun k hk => hd.fresh k (by simp only at hk; omega), hd.mine, hd.os, hd.tape, hd.output, hd.grow, hd.same, hd.row⟩
  · exfalso
    by_cases hj : j < ops.size <;> simp [hj] at hE
end
end Go.Proofs.Ytbnhnmpgbpejaaa
