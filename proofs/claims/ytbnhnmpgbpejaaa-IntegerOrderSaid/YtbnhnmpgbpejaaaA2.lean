/- Abstract heaps and states; what a step of the program may do to a world. No program in sight. -/
import Derived.Test.YtbnhnmpgbpejaaaA1
namespace Go.Proofs.Ytbnhnmpgbpejaaa
set_option linter.unusedSimpArgs false
set_option linter.unusedVariables false
open Go.RowKit

/-- A row that the call owns: the type of its elements, the cells that each takes, and its first elements. -/
structure Blk where
  t : TypeId
  e : Nat
  l : List V
abbrev Hp := Nat → Option Blk
def Hp.up (H : Hp) (k : Nat) (x : Option Blk) : Hp := fun j => if j = k then x else H j
def Hp.puts (H : Hp) : List (Nat × Option Blk) → Hp
  | [] => H
  | p :: ws => Hp.puts (H.up p.1 p.2) ws

/-- The blocks that the call owns, and foreign ones that it must leave alone. -/
def own (B : Nat → Prop) (ρ : Nat → Option Nat) (H : Hp) : Nat → Prop := fun b => B b ∨ ∃ k x, H k = some x ∧ ρ k = some b

structure HRep (w : World) (O : Nat → Prop) (ρ : Nat → Option Nat) (H : Hp) : Prop where
  row : ∀ k x, H k = some x → ∃ (b : Nat) (arr : Array Value), ρ k = some b ∧ w.heap[b]? = some (.cells arr x.t (0, 0)) ∧ (∀ y ∈ x.l, y.wid = x.e) ∧ (V.atomsL x.l).length ≤ arr.size ∧
    ∀ (j : Nat) (y : V) (u : Value), (V.atomsL x.l)[j]? = some y → arr[j]? = some u → RepA w O ρ y u
  inj : ∀ k k' x x' b, H k = some x → H k' = some x' → ρ k = some b → ρ k' = some b → k = k'

/-- A step: names stay; what is not owned stays; what is owned behind it was owned before it, or is new. -/
structure Step (H : Hp) (w : World) (ρ : Nat → Option Nat) (H' : Hp) (w' : World) (ρ' : Nat → Option Nat) : Prop where
  map : ∀ k b, ρ k = some b → ρ' k = some b
  same : ∀ b, b < w.heap.size → (∀ k x, H k = some x → ρ k ≠ some b) → w'.heap[b]? = w.heap[b]?
  mine : ∀ k x b, H' k = some x → ρ' k = some b → (∃ k0 x0, H k0 = some x0 ∧ ρ k0 = some b) ∨ w.heap.size ≤ b
  size : w.heap.size ≤ w'.heap.size
  row : ∀ (b : Nat) (arr : Array Value) (t : TypeId) (fr : Nat × Nat), w.heap[b]? = some (.cells arr t fr) → ∃ (arr' : Array Value) (t' : TypeId) (fr' : Nat × Nat), w'.heap[b]? = some (.cells arr' t' fr') ∧ arr'.size = arr.size
  os : w'.os = w.os
  tape : w'.tape = w.tape
  output : w'.output = w.output

theorem Step.refl (H : Hp) (w : World) (ρ : Nat → Option Nat) : Step H w ρ H w ρ :=
  ⟨fun _ _ h => h, fun _ _ _ => rfl, fun k x b h e => .inl ⟨k, x, h, e⟩, Nat.le_refl _, fun _ _ _ _ h => ⟨_, _, _, h, rfl⟩, rfl, rfl, rfl⟩
theorem Step.trans {H w ρ H' w' ρ' H'' w'' ρ''} (h : Step H w ρ H' w' ρ') (k : Step H' w' ρ' H'' w'' ρ'') : Step H w ρ H'' w'' ρ'' := by
  refine ⟨fun a b e => k.map _ _ (h.map _ _ e), fun b hb hn => ?_, fun a x b e1 e2 => ?_, Nat.le_trans h.size k.size, fun b arr t fr e => ?_, k.os.trans h.os, k.tape.trans h.tape, k.output.trans h.output⟩
  · have h1 := h.same b hb hn
    refine (k.same b (Nat.lt_of_lt_of_le hb h.size) fun a x e1 e2 => ?_).trans h1
    rcases h.mine a x b e1 e2 with ⟨k0, x0, e3, e4⟩ | hge
    · exact hn k0 x0 e3 e4
    · omega
  · rcases k.mine a x b e1 e2 with ⟨k0, x0, e3, e4⟩ | hge
    · exact h.mine k0 x0 b e3 e4
    · exact .inr (Nat.le_trans h.size hge)
  · obtain ⟨a1, t1, f1, e1, s1⟩ := h.row b arr t fr e
    obtain ⟨a2, t2, f2, e2, s2⟩ := k.row b a1 t1 f1 e1
    exact ⟨a2, t2, f2, e2, s2.trans s1⟩
theorem Step.ext {H w ρ H' w' ρ'} (h : Step H w ρ H' w' ρ') (B : Nat → Prop) : Ext w (own B ρ H) ρ w' (own B ρ' H') ρ' := by
  refine ⟨h.map, fun b hb hO => ⟨?_, h.same b hb fun k x e1 e2 => hO (.inr ⟨k, x, e1, e2⟩)⟩, h.size, h.row⟩
  rintro (hB | ⟨k, x, e1, e2⟩)
  · exact hO (.inl hB)
  · rcases h.mine k x b e1 e2 with ⟨k0, x0, e3, e4⟩ | hge
    · exact hO (.inr ⟨k0, x0, e3, e4⟩)
    · omega
/-- A draw. -/
theorem Step.drewN (H : Hp) (w : World) (ρ : Nat → Option Nat) (n : Nat) : Step H w ρ H { w with drawn := n } ρ :=
  ⟨fun _ _ h => h, fun _ _ _ => rfl, fun k x b h e => .inl ⟨k, x, h, e⟩, Nat.le_refl _, fun _ _ _ _ h => ⟨_, _, _, h, rfl⟩, rfl, rfl, rfl⟩
theorem HRep.mono {w O ρ H w' O' ρ'} (h : HRep w O ρ H) (hx : Ext w O ρ w' O' ρ') (hs : ∀ k x b, H k = some x → ρ k = some b → w'.heap[b]? = w.heap[b]?) (hi : ∀ k x b, H k = some x → ρ' k = some b → ρ k = some b) : HRep w' O' ρ' H := by
  refine ⟨fun k x e => ?_, fun k k' x x' b e1 e2 e3 e4 => h.inj k k' x x' b e1 e2 (hi _ _ _ e1 e3) (hi _ _ _ e2 e4)⟩
  obtain ⟨b, arr, h1, h2, h3, h4, h5⟩ := h.row k x e
  exact ⟨b, arr, hx.map _ _ h1, (hs k x b e h1).trans h2, h3, h4, fun j y u hy hu => (h5 j y u hy hu).mono hx⟩

/-- A state of an abstract run: slots, heap, the next name, the number of slots. -/
structure St where
  s : Nat → V
  H : Hp
  n : Nat
  N : Nat
def upS (s : Nat → V) (t : Nat) (v : V) : Nat → V := fun j => if j = t then v else s j
def cst : Value → V
  | .agg cs => .agg (cs.toList.map .raw)
  | v => .raw v
def St.ev (σ : St) : Operand → V
  | .tmp t => σ.s t
  | .const v => cst v
  | .global g => .raw (.pointer (some ⟨g, 0, none⟩))
  | .func f => .clo (.func f) [] []

structure Sim (B A : Nat → Prop) (W : World) (σ : St) (a : Act) (w : World) (ρ : Nat → Option Nat) : Prop where
  defers : a.defers = []
  size : a.tmps.size = σ.N
  slots : ∀ t, RepV w (own B ρ σ.H) ρ (σ.s t) (a.tmps.getD t undef)
  heap : HRep w (own B ρ σ.H) ρ σ.H
  fresh : ∀ k, σ.n ≤ k → ρ k = none
  mine : ∀ k x b, σ.H k = some x → ρ k = some b → A b ∨ W.heap.size ≤ b
  os : w.os = W.os
  tape : w.tape = W.tape
  output : w.output = W.output
  grow : W.heap.size ≤ w.heap.size
  same : ∀ b, b < W.heap.size → ¬ A b → w.heap[b]? = W.heap[b]?
  row : ∀ (b : Nat) (arr : Array Value) (t : TypeId) (fr : Nat × Nat), W.heap[b]? = some (.cells arr t fr) → ∃ (arr' : Array Value) (t' : TypeId) (fr' : Nat × Nat), w.heap[b]? = some (.cells arr' t' fr') ∧ arr'.size = arr.size

theorem Sim.below {B W σ a w ρ} (h : Sim B (fun _ => False) W σ a w ρ) : Below W.heap.size W w :=
  ⟨h.os, h.tape, h.output, h.grow, fun b hb => h.same b hb id⟩
theorem Sim.live {B A W σ a w ρ} (h : Sim B A W σ a w ρ) {k x} (e : σ.H k = some x) : ∃ b, ρ k = some b ∧ b < w.heap.size := by
  obtain ⟨b, arr, h1, h2, _⟩ := h.heap.row k x e
  exact ⟨b, h1, (Array.getElem?_eq_some_iff.1 h2).1⟩
theorem Sim.named {B A W σ a w ρ} (h : Sim B A W σ a w ρ) {k x} (e : σ.H k = some x) : k < σ.n := by
  obtain ⟨b, h1, _⟩ := h.live e
  rcases Nat.lt_or_ge k σ.n with hl | hg
  · exact hl
  · rw [h.fresh k hg] at h1; cases h1
theorem cst_rep (w O ρ) (v : Value) : RepV w O ρ (cst v) v := by
  cases v with
  | agg cs =>
    have e : ∀ l : List Value, V.atomsL (l.map .raw) = l.map .raw := by
      intro l
      induction l with
      | nil => rfl
      | cons x l ih => simp [V.atomsL, V.atoms, ih]
    refine (RepW.agg_iff (by rfl)).2 ⟨cs, rfl, ?_, ?_⟩
    · show (V.atomsL _).length = _
      rw [e]; simp
    · intro i y u hy hu
      have hy' : (V.atomsL (cs.toList.map .raw))[i]? = some y := hy
      rw [e] at hy'
      simp [hu] at hy'
      subst hy'
      exact .raw _ _
  | _ => exact RepW.raw rfl
theorem Sim.ev {B A W σ a w ρ} (h : Sim B A W σ a w ρ) (x : Operand) : RepV w (own B ρ σ.H) ρ (σ.ev x) (a.eval x) := by
  cases x with
  | tmp t => exact h.slots t
  | const v => exact cst_rep _ _ _ v
  | global g => exact RepW.raw rfl
  | func f =>
    refine RepW.of_atom ?_ rfl rfl
    exact .clo _ _ _ _ _ _ rfl rfl (by simp) (by simp) (by simp) (by simp)

/-- A slot is written, and a step is taken. -/
def St.put (σ : St) (dst : Option Tmp) (v : V) (ws : List (Nat × Option Blk)) : St :=
  { s := match dst with | some d => upS σ.s d v | none => σ.s, H := σ.H.puts ws, n := σ.n + 1, N := σ.N }
theorem Sim.putG {B A W σ a w ρ} (h : Sim B A W σ a w ρ) {n' : Nat} {dst : Option Tmp} (hd : ∀ d, dst = some d → d < σ.N) {v : Value} {x : V} {ws w' ρ'}
    (hs : Step σ.H w ρ (σ.H.puts ws) w' ρ') (hH : HRep w' (own B ρ' (σ.H.puts ws)) ρ' (σ.H.puts ws)) (hf : ∀ k, n' ≤ k → ρ' k = none)
    (hx : RepV w' (own B ρ' (σ.H.puts ws)) ρ' x v) : Sim B A W { σ.put dst x ws with n := n' } (a.put dst v) w' ρ' := by
  have hext := hs.ext B
  refine ⟨?_, ?_, fun t => ?_, hH, hf, fun k y b e1 e2 => ?_, hs.os.trans h.os, hs.tape.trans h.tape, hs.output.trans h.output, Nat.le_trans h.grow hs.size, fun b hb hA => ?_, fun b arr t fr e => ?_⟩
  · cases dst <;> exact h.defers
  · cases dst <;> simp [Act.put, St.put, h.size]
  · cases dst with
    | none => exact (h.slots t).mono hext
    | some d =>
      have hlt : d < a.tmps.size := by rw [h.size]; exact hd d rfl
      by_cases e : t = d
      · subst e
        simp only [St.put, upS, if_true, Act.put]
        rw [Array.getD_eq_getD_getElem?, Array.getElem?_setIfInBounds_self_of_lt hlt]
        exact hx
      · simp only [St.put, upS, if_neg e, Act.put]
        rw [Array.getD_eq_getD_getElem?, Array.getElem?_setIfInBounds_ne (fun e' => e e'.symm), ← Array.getD_eq_getD_getElem?]
        exact (h.slots t).mono hext
  · rcases hs.mine k y b e1 e2 with ⟨k0, x0, e3, e4⟩ | hge
    · exact h.mine k0 x0 b e3 e4
    · exact .inr (Nat.le_trans h.grow hge)
  · refine (hs.same b (Nat.lt_of_lt_of_le hb h.grow) fun k y e1 e2 => ?_).trans (h.same b hb hA)
    rcases h.mine k y b e1 e2 with h1 | h1
    · exact hA h1
    · omega
  · obtain ⟨a1, t1, f1, e1, s1⟩ := h.row b arr t fr e
    obtain ⟨a2, t2, f2, e2, s2⟩ := hs.row b a1 t1 f1 e1
    exact ⟨a2, t2, f2, e2, s2.trans s1⟩

theorem Sim.put {B A W σ a w ρ} (h : Sim B A W σ a w ρ) {dst : Option Tmp} (hd : ∀ d, dst = some d → d < σ.N) {v : Value} {x : V} {ws w' ρ'}
    (hs : Step σ.H w ρ (σ.H.puts ws) w' ρ') (hH : HRep w' (own B ρ' (σ.H.puts ws)) ρ' (σ.H.puts ws)) (hf : ∀ k, k ≠ σ.n → ρ k = none → ρ' k = none)
    (hx : RepV w' (own B ρ' (σ.H.puts ws)) ρ' x v) : Sim B A W (σ.put dst x ws) (a.put dst v) w' ρ' :=
  h.putG (n' := σ.n + 1) hd hs hH (fun k hk => hf k (by omega) (h.fresh k (by omega))) hx

/-- A contract of a function that owns nothing of its caller's: for every reading of the arguments it returns the result, and leaves alone all that was there. -/
def PCall (P : Program) (f : FuncId) (args : List V) (r : V) : Prop :=
  ∀ (B : Nat → Prop) (w : World) (vs : List Value), vs.length = args.length → (∀ (j : Nat) (x : V) (v : Value), args[j]? = some x → vs[j]? = some v → RepW w B (fun _ => none) x v) → (∀ b, B b → b < w.heap.size) →
    Calls P f vs.toArray w fun e w' => ∃ v, e = .returned v ∧ RepV w' B (fun _ => none) r v ∧ Below w.heap.size w w'
end Go.Proofs.Ytbnhnmpgbpejaaa
