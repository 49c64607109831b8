/- Texts A27 A28 A29 A30 A31 in one. -/
import Derived.Test.YtfbogelmgdojgaaGreatP07
import Derived.RangeFuncSeq
import Derived.Test.YtfbogelmgdojgaaGreatP08
import Derived.Test.YtfbogelmgdojgaaGreatP43
/- Loops over functions: the iterator's side. No program in sight. -/
namespace Go.Proofs.YtfbogelmgdojgaaGreat
set_option linter.unusedSimpArgs false
set_option linter.unusedVariables false
open Go.RowKit

/-- What one party may do while the other waits. -/
structure Moves (w : World) (O : Nat → Prop) (w' : World) (O' : Nat → Prop) : Prop where
  same : ∀ b, b < w.heap.size → ¬ O b → w'.heap[b]? = w.heap[b]?
  new : ∀ b, O' b → O b ∨ w.heap.size ≤ b
  size : w.heap.size ≤ w'.heap.size
  row : ∀ (b : Nat) (arr : Array Value) (t : TypeId) (fr : Nat × Nat), w.heap[b]? = some (.cells arr t fr) → ∃ (arr' : Array Value) (t' : TypeId) (fr' : Nat × Nat), w'.heap[b]? = some (.cells arr' t' fr') ∧ arr'.size = arr.size
  os : w'.os = w.os
  tape : w'.tape = w.tape
  output : w'.output = w.output
def IsCells (w : World) (b : Nat) : Prop := ∃ (arr : Array Value) (t : TypeId) (fr : Nat × Nat), w.heap[b]? = some (.cells arr t fr)
theorem IsCells.lt {w : World} {b : Nat} (h : IsCells w b) : b < w.heap.size := by
  obtain ⟨_, _, _, h⟩ := h
  exact (Array.getElem?_eq_some_iff.1 h).1
/-- The blocks that are owned under a name. -/
def tof (H : Hp) (ρ : Nat → Option Nat) : Nat → Prop := fun b => ∃ k x, H k = some x ∧ ρ k = some b
theorem tof_cells {w : World} {O : Nat → Prop} {ρ : Nat → Option Nat} {H : Hp} (h : HRep w O ρ H) {b : Nat} (hb : tof H ρ b) : IsCells w b := by
  obtain ⟨k, x, h1, h2⟩ := hb
  obtain ⟨b', arr, q1, q2, _⟩ := h.row k x h1
  rw [h2] at q1; injection q1 with q1; subst q1
  exact ⟨arr, x.t, _, q2⟩
/-- A base: the names below m are pinned, what is owned may be written. -/
def aR (m : Nat) (H : Hp) (ρ : Nat → Option Nat) : Nat → Option Nat := fun j => if (H (j / 2)).isSome = true ∧ (j % 2 = 1 ∨ j / 2 < m) then ρ (j / 2) else none
theorem aR_tof {m : Nat} {H : Hp} {ρ : Nat → Option Nat} {j b : Nat} (h : aR m H ρ j = some b) : tof H ρ b := by
  unfold aR at h
  split at h
  · rename_i hh
    rcases hx : H (j / 2) with _ | x
    · rw [hx] at hh; simp at hh
    · exact ⟨_, x, hx, h⟩
  · cases h
theorem tof_aR {m : Nat} {H : Hp} {ρ : Nat → Option Nat} {b : Nat} (h : tof H ρ b) : ∃ j, aR m H ρ j = some b := by
  obtain ⟨k, x, h1, h2⟩ := h
  refine ⟨2 * k + 1, ?_⟩
  unfold aR
  have e : (2 * k + 1) / 2 = k := by omega
  rw [e, h1]
  simp [h2]
theorem aR_pin {m : Nat} {H : Hp} {ρ : Nat → Option Nat} {k b : Nat} (h : aR m H ρ (2 * k) = some b) : k < m ∧ ρ k = some b := by
  unfold aR at h
  have e : 2 * k / 2 = k := by omega
  rw [e] at h
  split at h
  · rename_i hh
    rcases hh.2 with h1 | h1
    · omega
    · exact ⟨h1, h⟩
  · cases h
theorem Sim.rebase {B : Nat → Prop} {A : Nat → Option Nat} {W : World} {σ : St} {a : Act} {w : World} {ρ : Nat → Option Nat} (h : Sim B A W σ a w ρ) (hq : σ.q = false) {m : Nat} (hm : m ≤ σ.m) : Sim B (aR m σ.H ρ) w σ a w ρ :=
  ⟨h.defers, h.size, h.slots, h.heap, h.fresh, fun k x b h1 h2 => .inl (tof_aR ⟨k, x, h1, h2⟩), rfl, rfl, rfl, Nat.le_refl _, fun _ _ _ => rfl, fun _ _ _ _ e => ⟨_, _, _, e, rfl⟩, fun k b e => ⟨Nat.lt_of_lt_of_le (aR_pin e).1 hm, (aR_pin e).2⟩, by rw [h.defers hq]; exact Marks.nil _ _⟩
/-- What a run from such a base has done. -/
theorem Sim.moves {B : Nat → Prop} {H0 : Hp} {ρ0 : Nat → Option Nat} {m : Nat} {W : World} {σ : St} {a : Act} {w : World} {ρ : Nat → Option Nat} (h : Sim B (aR m H0 ρ0) W σ a w ρ) : Moves W (tof H0 ρ0) w (tof σ.H ρ) :=
  ⟨fun b hb hn => h.same b hb fun j e => hn (aR_tof e), fun b hb => by
    obtain ⟨k, x, h1, h2⟩ := hb
    rcases h.mine k x b h1 h2 with ⟨j, hj⟩ | hj
    · exact .inl (aR_tof hj)
    · exact .inr hj, h.grow, h.row, h.os, h.tape, h.output⟩

/-- What the iterator may rely on. -/
structure JOk (P : Program) (l N : Nat) (xs : Nat → Option (List V)) (J : Option Nat → (Nat → Prop) → (Nat → Prop) → World → Prop) : Prop where
  move : ∀ i C T W1 T' W2, J i C T W1 → Moves W1 T W2 T' → (∀ b, T' b → IsCells W2 b) → J i C T' W2
  bound : ∀ i C T W1, J (some i) C T W1 → i ≤ N
  old : ∀ i C T W1, J i C T W1 → (∀ b, C b → b < W1.heap.size) ∧ ∀ b, T b → ¬ C b
  yield : ∀ (i : Nat) (C T : Nat → Prop) (W1 : World) (ys : List V) (us : List Value), J (some i) C T W1 → xs i = some ys → us.length = ys.length → (∀ (j : Nat) (y : V) (v : Value), ys[j]? = some y → us[j]? = some v → RepW W1 (fun b => C b ∨ T b) (fun _ => none) y v) →
    YieldAt (rd none) 0 P l us.toArray W1 fun e W' => ∃ (C' : Nat → Prop) (b : Bool), e = .returned (.bool b) ∧ J (if b then some (i + 1) else none) C' T W' ∧ Moves W1 C W' C'
/-- The contract of a function that is ranged over: it yields these values, one after the other. -/
def SeqC (P : Program) (g : FuncId) (caps : List V) (L : Nat) (xs : Nat → Option (List V)) : Prop :=
  ∀ (C : Nat → Prop) (w : World) (vs : List Value), vs.length = caps.length → (∀ (j : Nat) (x : V) (v : Value), caps[j]? = some x → vs[j]? = some v → RepW w C (fun _ => none) x v) → (∀ b, C b → b < w.heap.size) →
  ∀ (l N : Nat) (J : Option Nat → (Nat → Prop) → (Nat → Prop) → World → Prop), N ≤ L → JOk P l N xs J → J (some 0) C (fun _ => False) w →
    CallsIn (rd none) 0 P g (#[.func (.yield l) #[] #[]] ++ vs.toArray) w fun e w' => (∃ v, e = .returned v) ∧ ∃ C' T', J none C' T' w' ∨ ∃ i, xs i = none ∧ J (some i) C' T' w'

/-- The iterator's state between two steps. -/
def ItS (J : Option Nat → (Nat → Prop) → (Nat → Prop) → World → Prop) (i : Option Nat) (σ : St) (a : Act) (w : World) : Prop :=
  ∃ C ρ, Sim C (aR 0 σ.H ρ) w σ a w ρ ∧ J i C (tof σ.H ρ) w ∧ σ.q = false
def AIt (P : Program) (J : Option Nat → (Nat → Prop) → (Nat → Prop) → World → Prop) (c : Code) (Q : Exit → Option Nat → St → Prop) (i : Option Nat) (σ : St) : Prop :=
  ∀ a w, ItS J i σ a w → c.wpIn (rd none) 0 P (fun e a' w' => ∃ i' σ', Q e i' σ' ∧ ItS J i' σ' a' w') a w
section
variable {P : Program} {Γ : Tab} {Δ : Gab} {l N : Nat} {xs : Nat → Option (List V)} {J : Option Nat → (Nat → Prop) → (Nat → Prop) → World → Prop}
theorem stat_it (hJ : JOk P l N xs J) {i : Option Nat} {C : Nat → Prop} {H : Hp} {ρ : Nat → Option Nat} {w : World} (h : J i C (tof H ρ) w) : Stat C (aR 0 H ρ) w :=
  ⟨(hJ.old _ _ _ _ h).1, fun _ _ e => (hJ.old _ _ _ _ h).2 _ (aR_tof e)⟩
theorem ItS.step (hJ : JOk P l N xs J) {i : Option Nat} {C : Nat → Prop} {H : Hp} {ρ : Nat → Option Nat} {w : World} (h : J i C (tof H ρ) w) {σ' : St} {a' : Act} {w' : World} {ρ' : Nat → Option Nat} (hs : Sim C (aR 0 H ρ) w σ' a' w' ρ') (hq : σ'.q = false) : ItS J i σ' a' w' :=
  ⟨C, ρ', hs.rebase hq (Nat.zero_le _), hJ.move _ _ _ _ _ _ h hs.moves fun _ hb => tof_cells hs.heap hb, hq⟩
theorem AIt.of (hJ : JOk P l N xs J) {c : Code} {Q : Exit → Option Nat → St → Prop} {i : Option Nat} {σ : St} (h : AWp P c (fun e σ' => σ'.q = false ∧ Q e i σ') σ) : AIt P J c Q i σ := by
  rintro a w ⟨C, ρ, hs, hj, hq⟩
  refine wpIn_mono (h C _ w (stat_it hJ hj) a w ρ hs (r := none)) ?_
  rintro e a' w' ⟨σ', ρ', ⟨h1, h2⟩, hs'⟩
  exact ⟨i, σ', h2, ItS.step hJ hj hs' h1⟩
theorem ItS.weaken (hJ : JOk P l N xs J) {i : Option Nat} {σ σ' : St} {a : Act} {w : World} (h : ItS J i σ a w) (hw : Wk σ σ') (hq : σ'.q = false) : ItS J i σ' a w := by
  obtain ⟨C, ρ, hs, hj, _⟩ := h
  obtain ⟨ρ', hs'⟩ := hw _ _ _ _ _ _ hs
  exact ItS.step hJ hj hs' hq
theorem AIt.weaken (hJ : JOk P l N xs J) {c : Code} {Q : Exit → Option Nat → St → Prop} {i : Option Nat} {σ σ' : St} (h : AIt P J c Q i σ') (hw : Wk σ σ') (hq : σ'.q = false) : AIt P J c Q i σ :=
  fun a w hs => h a w (hs.weaken hJ hw hq)
theorem AIt.mono {c : Code} {Q Q' : Exit → Option Nat → St → Prop} {i : Option Nat} {σ : St} (h : AIt P J c Q i σ) (hq : ∀ e i σ, Q e i σ → Q' e i σ) : AIt P J c Q' i σ := fun a w hs =>
  wpIn_mono (h a w hs) fun _ _ _ ⟨i', σ', h1, h2⟩ => ⟨i', σ', hq _ _ _ h1, h2⟩
def thenI (Nx : Option Nat → St → Prop) (Q : Exit → Option Nat → St → Prop) : Exit → Option Nat → St → Prop
  | .normal, i, σ => Nx i σ
  | e, i, σ => Q e i σ
theorem AIt.seq {x y : Code} {Q : Exit → Option Nat → St → Prop} {i : Option Nat} {σ : St} (h : AIt P J x (thenI (fun i σ => AIt P J y Q i σ) Q) i σ) : AIt P J (.seq x y) Q i σ := by
  intro a w hs
  refine wpIn_seq (wpIn_mono (h a w hs) ?_)
  rintro e a' w' ⟨i', σ', h1, h2⟩
  cases e with
  | normal => exact h1 a' w' h2
  | exit id => exact ⟨i', σ', h1, h2⟩
  | goto l => exact ⟨i', σ', h1, h2⟩
  | ret => exact ⟨i', σ', h1, h2⟩
  | panic c => exact ⟨i', σ', h1, h2⟩
  | outgrown => exact ⟨i', σ', h1, h2⟩
theorem AIt.cond {c : Operand} {x y : Code} {Q : Exit → Option Nat → St → Prop} {i : Option Nat} {σ : St} {t : Bool} (hc : σ.ev c = .raw (.bool t)) (h : (t = true → AIt P J x Q i σ) ∧ (t = false → AIt P J y Q i σ)) : AIt P J (.cond c x y) Q i σ := by
  intro a w hs
  have hs0 := hs
  obtain ⟨C, ρ, hs1, _⟩ := hs0
  have hv := hs1.ev c
  rw [hc] at hv
  have hv := RepW.raw_inv hv
  refine wpIn_cond hv ?_
  cases t with
  | true => exact h.1 rfl a w hs
  | false => exact h.2 rfl a w hs
def blkI (id : Nat) (Q : Exit → Option Nat → St → Prop) : Exit → Option Nat → St → Prop
  | .exit id', i, σ => if id' = id then Q .normal i σ else Q (.exit id') i σ
  | e, i, σ => Q e i σ
theorem AIt.block {id : Nat} {c : Code} {Q : Exit → Option Nat → St → Prop} {i : Option Nat} {σ : St} (h : AIt P J c (blkI id Q) i σ) : AIt P J (.block id c) Q i σ := by
  intro a w hs
  refine wpIn_block (wpIn_mono (h a w hs) ?_)
  rintro e a' w' ⟨i', σ', h1, h2⟩
  cases e with
  | exit id' =>
    simp only [blkI] at h1
    simp only [Exit.inBlock]
    split
    · rename_i e; rw [if_pos e] at h1; exact ⟨i', σ', h1, h2⟩
    · rename_i e; rw [if_neg e] at h1; exact ⟨i', σ', h1, h2⟩
  | normal => exact ⟨i', σ', h1, h2⟩
  | goto l => exact ⟨i', σ', h1, h2⟩
  | ret => exact ⟨i', σ', h1, h2⟩
  | panic c => exact ⟨i', σ', h1, h2⟩
  | outgrown => exact ⟨i', σ', h1, h2⟩
theorem AIt.loops (hJ : JOk P l N xs J) {X : Type} (I : X → St) (ix : X → Nat) (μ : X → Nat) (hI : ∀ x, (I x).q = false) {c : Code} {Q : Exit → Option Nat → St → Prop} {i : Option Nat} {σ : St} (x0 : X) (hi : i = some (ix x0)) (hw : Wk σ (I x0))
    (hr : ∀ x, ix x ≤ N → AIt P J c (thenI (fun i σ => ∃ x', i = some (ix x') ∧ Wk σ (I x') ∧ μ x' < μ x) Q) (some (ix x)) (I x)) : AIt P J (.loop c) Q i σ := by
  intro a w hs b k cs hro hfn hrm
  have key : ∀ n x a w, μ x = n → ItS J (some (ix x)) (I x) a w →
      ∃ e a' w', (∃ i' σ', Q e i' σ' ∧ ItS J i' σ' a' w') ∧ ArrivesIn (Machine.fenced P (rd none)) P (lone (b.atR a (.code c :: .inLoop c :: k)) cs w) b k cs e a' w' := by
    intro n
    induction n using Nat.strongRecOn with
    | _ n ih =>
      intro x a w hn hx
      have hle : ix x ≤ N := by obtain ⟨C, ρ, _, hj, _⟩ := hx; exact hJ.bound _ _ _ _ hj
      obtain ⟨e, a₁, w₁, ⟨i', σ', hq, hs'⟩, harr⟩ := hr x hle a w hx b (.inLoop c :: k) cs hro hfn hrm
      cases e with
      | normal =>
        obtain ⟨x', rfl, hwk, hlt⟩ := hq
        obtain ⟨e₂, a₂, w₂, hq₂, harr₂⟩ := ih (μ x') (hn ▸ hlt) x' a₁ w₁ rfl (hs'.weaken hJ hwk (hI x'))
        exact ⟨e₂, a₂, w₂, hq₂, .of_steps (StepsIn.trans harr (.one (fenced_calm hfn hrm rfl) stepR_inLoop)) harr₂⟩
      | exit id => exact ⟨_, a₁, w₁, ⟨i', σ', hq, hs'⟩, .pass (x := .inLoop c) rfl (fun _ _ => .inl (by simp)) harr⟩
      | goto l => exact ⟨_, a₁, w₁, ⟨i', σ', hq, hs'⟩, .pass (x := .inLoop c) rfl (fun _ _ => .inl (by simp)) harr⟩
      | ret => exact ⟨_, a₁, w₁, ⟨i', σ', hq, hs'⟩, .pass (x := .inLoop c) rfl (fun _ _ => .inl (by simp)) harr⟩
      | panic ch => exact ⟨_, a₁, w₁, ⟨i', σ', hq, hs'⟩, .pass (x := .inLoop c) rfl (fun _ _ => .inl (by simp)) harr⟩
      | outgrown => exact ⟨_, a₁, w₁, ⟨i', σ', hq, hs'⟩, .pass (x := .inLoop c) rfl (fun _ _ => .inl (by simp)) harr⟩
  subst hi
  obtain ⟨e, a', w', hq, harr⟩ := key _ x0 a w rfl (hs.weaken hJ hw (hI x0))
  exact ⟨e, a', w', hq, .of_steps (.one (fenced_calm hfn hrm rfl) stepR_loop) harr⟩
/-- Some operations of a statement, in the text's order; the rest stands behind. -/
theorem vcOps_pre (hΓ : TabOk P Γ) (hΔ : GabOk P Δ) {B : Nat → Prop} {A : Nat → Option Nat} {W : World} (st : Stat B A W) {r : Option Nat} {ops : Array Oper} {Q : Exit → Act → World → Prop} {K : St → Prop} (rest : List Nat) (hK : ∀ σ a w ρ, K σ → Sim B A W σ a w ρ → wpOpsIn (rd r) 0 P ops Q rest a w) : ∀ (os : List Oper) (i : Nat) (σ : St) (a : Act) (w : World) (ρ : Nat → Option Nat), (ops.toList.drop i).take os.length = os → Sim B A W σ a w ρ → vcOps P Γ Δ ops os σ K →
    wpOpsIn (rd r) 0 P ops Q (List.range' i os.length ++ rest) a w
  | [], i, σ, a, w, ρ, _, hs, h => hK σ a w ρ h hs
  | o :: os, i, σ, a, w, ρ, hi, hs, h => by
    have hoi : ops[i]? = some o := by
      have h1 : ((ops.toList.drop i).take (os.length + 1))[0]? = some o := by
        rw [show os.length + 1 = (o :: os).length from rfl, hi]; rfl
      rw [List.getElem?_take, if_pos (by omega), List.getElem?_drop] at h1
      simpa using h1
    have hos : (ops.toList.drop (i + 1)).take os.length = os := by
      rw [← List.tail_drop]
      rcases hdr : ops.toList.drop i with _ | ⟨x, l'⟩
      · rw [hdr] at hi; simp at hi
      · rw [hdr] at hi
        simp only [List.length_cons, List.take_succ_cons, List.cons.injEq] at hi
        exact hi.2
    obtain ⟨hd, h⟩ := h
    obtain ⟨z, ws, rs, hk, hok⟩ := vcOp_ok (Q := Q) (P := P) (ops := ops) (r := r) hΓ hΔ st hs h hd
    simp only [List.length_cons, List.range'_succ, List.cons_append, wpOpsIn, hoi]
    exact hok (wpOpsIn (rd r) 0 P ops Q (List.range' (i + 1) os.length ++ rest)) fun v w' ρ' hs' => vcOps_pre hΓ hΔ st rest hK os (i + 1) _ _ w' ρ' hos hs' hk
/-- While the other party moves. -/
theorem Sim.other {C C' : Nat → Prop} {σ : St} {a : Act} {w w' : World} {ρ : Nat → Option Nat} (h : Sim C (aR 0 σ.H ρ) w σ a w ρ) (hq : σ.q = false) (mv : Moves w C w' C') (hT : ∀ b, tof σ.H ρ b → ¬ C b) : Sim C' (aR 0 σ.H ρ) w' σ a w' ρ := by
  have hx : Ext w (own C ρ σ.H) ρ w' (own C' ρ σ.H) ρ := ⟨fun _ _ e => e, fun b hb hO => by
    refine ⟨?_, .of (mv.same b hb fun hc => hO (.inl hc))⟩
    rintro (h1 | h1)
    · rcases mv.new b h1 with h2 | h2
      · exact hO (.inl h2)
      · omega
    · exact hO (.inr h1), mv.size, mv.row⟩
  refine ⟨h.defers, h.size, fun t => (h.slots t).mono hx, h.heap.mono hx (fun k x b e1 e2 => ?_) (fun _ _ _ _ e => e), h.fresh, fun k x b h1 h2 => .inl (tof_aR ⟨k, x, h1, h2⟩), rfl, rfl, rfl, Nat.le_refl _, fun _ _ _ => rfl, fun _ _ _ _ e => ⟨_, _, _, e, rfl⟩, fun k b e => ?_, by rw [h.defers hq]; exact Marks.nil _ _⟩
  · have ht : tof σ.H ρ b := ⟨k, x, e1, e2⟩
    exact mv.same b (tof_cells h.heap ht).lt (hT b ht)
  · exact h.pins k b e
theorem run_yieldCall {a : Act} {o : Oper} {w : World} {f : Operand} {args : Array Operand} {tys : Array TypeId} (hop : o.op = .call { callee := .value f, args := args, argTypes := tys }) (hf : a.eval f = .func (.yield l) #[] #[]) {fn : FuncId} {tmps : Array Value} {x y : Code}
    (h : (Instr.yield l (args.map a.eval)).run P w = .ok (.round l fn tmps x y) w) : (execOp a.eval o).run P w = .ok (.round l fn tmps x y) w := by
  simp only [execOp, hop, resolve, hf, Deferred.ofValue, Sem.run_bind, Sem.run_pure, Result.andThen_ok, invoke]
  simpa using h
/-- A statement that yields. -/
theorem AIt.yieldR (T : Tabs P Γ Δ) (hJ : JOk P l N xs J) {id : Nat} {ops : Array Oper} (pre post : List Oper) (o : Oper) (hops : ops.toList = pre ++ o :: post) (hg : o.guard = none) {f : Operand} {args : Array Operand} {tys : Array TypeId} (hop : o.op = .call { callee := .value f, args := args, argTypes := tys })
    {Q : Exit → Option Nat → St → Prop} {n : Nat} {σ : St}
    (h : vcOps P Γ Δ ops pre σ fun σ1 => (σ1.q = false ∧ dstOk o σ1.N) ∧ σ1.ev f = .raw (.func (.yield l) #[] #[]) ∧ (xs n = some (args.toList.map σ1.ev) ∧ (args.toList.map σ1.ev).all V.pure = true ∧ (args.toList.map σ1.ev).all V.noTup = true) ∧
      vcOps P Γ Δ ops post (σ1.put o.dst (.raw (.bool true)) []) (fun σ2 => σ2.q = false ∧ Q .normal (some (n + 1)) σ2) ∧ vcOps P Γ Δ ops post (σ1.put o.dst (.raw (.bool false)) []) (fun σ2 => σ2.q = false ∧ Q .normal none σ2)) :
    AIt P J (.region id ops false) Q (some n) σ := by
  rintro a w ⟨C, ρ, hs, hj, hq⟩
  refine wpIn_region ?_
  have hlen : ops.size = pre.length + (post.length + 1) := by
    have := congrArg List.length hops
    simpa using this
  have hrange : List.range ops.size = List.range' 0 pre.length ++ (pre.length :: List.range' (pre.length + 1) post.length) := by
    rw [List.range_eq_range', hlen, ← List.range'_append_1 (s := 0) (m := pre.length) (n := post.length + 1), Nat.zero_add, List.range'_succ]
  rw [hrange]
  refine vcOps_pre T.tab T.gab (stat_it hJ hj) (r := none) _ ?_ pre 0 σ a w ρ (by rw [hops]; simp) hs h
  rintro σ1 a1 w1 ρ1 ⟨⟨hq1, hd⟩, hf, ⟨hx, hp, ht⟩, h1, h2⟩ hs1
  have ho : ops[pre.length]? = some o := by
    have : ops.toList[pre.length]? = some o := by rw [hops]; simp
    simpa using this
  simp only [wpOpsIn, ho]
  rw [if_pos (by simp [Region.wanted, hg])]
  have hj1 : J (some n) C (tof σ1.H ρ1) w1 := hJ.move _ _ _ _ _ _ hj hs1.moves fun _ hb => tof_cells hs1.heap hb
  have hfv := hs1.ev f
  rw [hf] at hfv
  have hfv := RepW.raw_inv hfv
  obtain ⟨fn, tmps, x, y, hy, hR⟩ := hJ.yield n C _ w1 (args.toList.map σ1.ev) (args.toList.map a1.eval) hj1 hx (by simp) fun j z v hz hv => by
    simp only [List.getElem?_map] at hz hv
    rcases hxj : args.toList[j]? with _ | q
    · rw [hxj] at hz; simp at hz
    · rw [hxj] at hz hv
      simp at hz hv
      subst hz hv
      have hmem : σ1.ev q ∈ args.toList.map σ1.ev := List.mem_map_of_mem (List.mem_of_getElem? hxj)
      have h3 := hs1.ev q
      have h4 : RepW w1 (own C ρ1 σ1.H) ρ1 (σ1.ev q) (a1.eval q) := by
        have := List.all_eq_true.1 ht _ hmem
        generalize σ1.ev q = z at *
        cases z <;> first | exact h3 | (simp [V.noTup] at this)
      exact h4.pure (List.all_eq_true.1 hp _ hmem)
  refine ⟨fun _ _ => trivial, ?_⟩
  rw [Oper.semAt_eq _ _ _ (fun c e => by rw [hop] at e; cases e)]
  have harr : (args.toList.map a1.eval).toArray = args.map a1.eval := by apply Array.ext'; simp
  rw [harr] at hy
  rw [run_yieldCall hop hfv hy]
  refine ⟨fun e => (by cases e), RoundIn.mono hR ?_⟩
  rintro e w2 ⟨C', b, rfl, hj2, mv⟩
  have hs2 := (hs1.rebase hq1 (Nat.zero_le _)).other hq1 mv (hJ.old _ _ _ _ hj1).2
  have hs3 := hs2.put (dst := o.dst) (dstOk_lt hd) (v := .bool b) (x := .raw (.bool b)) (ws := []) (Step.refl _ _ _) hs2.heap (fun _ _ e => e) (RepW.raw rfl)
  have hst := stat_it (H := σ1.H) (ρ := ρ1) hJ hj2
  have fin : ∀ (i' : Option Nat), J i' C' (tof σ1.H ρ1) w2 → vcOps P Γ Δ ops post (σ1.put o.dst (.raw (.bool b)) []) (fun σ2 => σ2.q = false ∧ Q .normal i' σ2) →
      wpOpsIn (rd none) 0 P ops (fun e a' w' => ∃ i' σ', Q e i' σ' ∧ ItS J i' σ' a' w') (List.range' (pre.length + 1) post.length) (a1.put o.dst (.bool b)) w2 := fun i' hj3 h3 => by
    have := vcOps_pre T.tab T.gab hst (r := none) (ops := ops) (Q := fun e a' w' => ∃ i' σ', Q e i' σ' ∧ ItS J i' σ' a' w') (K := fun σ2 => σ2.q = false ∧ Q .normal i' σ2) [] (fun σ2 a2 w3 ρ2 hk hs4 => ⟨i', σ2, hk.2, ItS.step hJ hj3 hs4 hk.1⟩) post (pre.length + 1) _ _ w2 ρ1 (by rw [hops]; simp) hs3 h3
    simpa using this
  cases b with
  | true => exact fin _ hj2 h1
  | false => exact fin _ hj2 h2
/-- Beyond the bound nothing is to be shown. -/
theorem AIt.beyond (hJ : JOk P l N xs J) {c : Code} {Q : Exit → Option Nat → St → Prop} {n : Nat} {σ : St} (h : N < n) : AIt P J c Q (some n) σ := by
  rintro a w ⟨C, ρ, _, hj, _⟩
  have := hJ.bound _ _ _ _ hj
  omega
def retI (xs : Nat → Option (List V)) : Exit → Option Nat → St → Prop
  | .normal, i, _ => ∀ n, i = some n → xs n = none
  | .ret, i, _ => ∀ n, i = some n → xs n = none
  | _, _, _ => False
/-- The contract of a function that is ranged over, out of the run of its body. -/
theorem SeqC.of_it {g : FuncId} {fn : Func} {c : Code} {caps : List V} (hf : P.funcs[g]? = some fn) (hb : fn.body = some c) {N0 : Nat} (hn : fn.ntmps = N0) (hres : fn.results = #[]) (hN : caps.length + 1 ≤ N0) {L : Nat}
    (h : ∀ l N J, N ≤ L → JOk P l N xs J → AIt P J c (retI xs) (some 0) (st0 (.raw (.func (.yield l) #[] #[]) :: caps) N0)) : SeqC P g caps L xs := by
  subst hn
  intro C w vs hl hr hC l N J hN1 hJ h0
  refine callsIn_of_wp hf hb trivial ?_ rfl
  have hs := sim0 (B := C) (w := w) (vs := .func (.yield l) #[] #[] :: vs) (args := .raw (.func (.yield l) #[] #[]) :: caps) (N := fn.ntmps) (by simp [hl]) (fun j x v hj hv => by
    cases j with
    | zero => simp at hj hv; subst hj hv; exact RepW.raw rfl
    | succ j => exact hr j x v (by simpa using hj) (by simpa using hv)) (by simpa using hN)
  have hT : tof (st0 (.raw (.func (.yield l) #[] #[]) :: caps) fn.ntmps).H (fun _ => none) = fun _ => False := by
    funext b
    simp [tof, st0]
  have key := h l N J hN1 hJ _ w ⟨C, _, hs.rebase rfl (Nat.zero_le _), by rw [hT]; exact h0, rfl⟩
  have harr : (Value.func (.yield l) #[] #[] :: vs).toArray = #[Value.func (.yield l) #[] #[]] ++ vs.toArray := by apply Array.ext'; simp
  rw [harr] at key
  refine wpIn_mono key ?_
  rintro e a' w' ⟨i', σ', hq, C', ρ', hs', hj', hq'⟩
  have fin : (∀ n, i' = some n → xs n = none) → a'.defers = [] ∧ ∃ v, (results fn a'.tmps).run P w' = .ok v w' ∧ (∃ u, Ending.returned v = .returned u) ∧ ∃ C' T', J none C' T' w' ∨ ∃ i, xs i = none ∧ J (some i) C' T' w' := fun hq => by
    refine ⟨hs'.defers hq', .tuple #[], by simp [results, hres, Sem.run_bind, Sem.run_pure], ⟨.tuple #[], rfl⟩, C', tof σ'.H ρ', ?_⟩
    cases i' with
    | none => exact .inl hj'
    | some n => exact .inr ⟨n, hq n rfl, hj'⟩
  cases e with
  | normal => exact fin hq
  | ret => exact fin hq
  | exit id => exact hq.elim
  | goto l => exact hq.elim
  | panic c => exact hq.elim
  | outgrown => exact hq.elim
end
end Go.Proofs.YtfbogelmgdojgaaGreat

/- Loops over functions: the loop's side. No program in sight. -/
namespace Go.Proofs.YtfbogelmgdojgaaGreat
set_option linter.unusedSimpArgs false
set_option linter.unusedVariables false
open Go.RowKit

section
variable {P : Program} {B : Nat → Prop} {A : Nat → Option Nat} {W : World} {σ : St} {a : Act} {w : World} {ρ : Nat → Option Nat}
/-- A world in which the same is read. -/
theorem Sim.to (h : Sim B A W σ a w ρ) {B' : Nat → Prop} {w' : World} (hx : Ext w (own B ρ σ.H) ρ w' (own B' ρ σ.H) ρ) (hrow : ∀ b, tof σ.H ρ b → w'.heap[b]? = w.heap[b]?) (h1 : w'.os = w.os) (h2 : w'.tape = w.tape) (h3 : w'.output = w.output)
    (hsame : ∀ b, b < W.heap.size → (∀ j, A j ≠ some b) → w'.heap[b]? = w.heap[b]?) (hmk : Marks W w' a.defers) : Sim B' A W σ a w' ρ :=
  ⟨h.defers, h.size, fun t => (h.slots t).mono hx, h.heap.mono hx (fun k x b e1 e2 => hrow b ⟨k, x, e1, e2⟩) (fun _ _ _ _ e => e), h.fresh, h.mine, h1.trans h.os, h2.trans h.tape, h3.trans h.output, Nat.le_trans h.grow hx.size, fun b hb hA => (hsame b hb hA).trans (h.same b hb hA), fun b arr t fr e => by
    obtain ⟨a1, t1, f1, e1, s1⟩ := h.row b arr t fr e
    obtain ⟨a2, t2, f2, e2, s2⟩ := hx.row b a1 t1 f1 e1
    exact ⟨a2, t2, f2, e2, s2.trans s1⟩, h.pins, hmk⟩
theorem Sim.at (h : Sim B A W σ a w ρ) (hq : σ.q = false) {m : Nat} (hm : m ≤ σ.m) {w' : World} (hx : Ext w (own B ρ σ.H) ρ w' (own B ρ σ.H) ρ) (hrow : ∀ b, tof σ.H ρ b → w'.heap[b]? = w.heap[b]?) : Sim B (aR m σ.H ρ) w' σ a w' ρ :=
  ⟨h.defers, h.size, fun t => (h.slots t).mono hx, h.heap.mono hx (fun k x b e1 e2 => hrow b ⟨k, x, e1, e2⟩) (fun _ _ _ _ e => e), h.fresh, fun k x b h1 h2 => .inl (tof_aR ⟨k, x, h1, h2⟩), rfl, rfl, rfl, Nat.le_refl _, fun _ _ _ => rfl, fun _ _ _ _ e => ⟨_, _, _, e, rfl⟩, fun k b e => ⟨Nat.lt_of_lt_of_le (aR_pin e).1 hm, (aR_pin e).2⟩, by rw [h.defers hq]; exact Marks.nil _ _⟩
theorem tof_loop {O : Nat → Prop} {H : Hp} (h : HRep w O ρ H) {l : Nat} {x : Loop} (hl : w.heap[l]? = some (.loop x)) : ¬ tof H ρ l := fun ht => by
  obtain ⟨_, _, _, e⟩ := tof_cells h ht
  rw [hl] at e; cases e
theorem ext_put {O : Nat → Prop} {l : Nat} {x y : Loop} (hl : w.heap[l]? = some (.loop x)) (ρ0 : Nat → Option Nat) : Ext w O ρ0 (w.putObj l (.loop y)) O ρ0 := by
  have cel : ∀ (b : Nat) (arr : Array Value) (t : TypeId) (fr : Nat × Nat), w.heap[b]? = some (.cells arr t fr) → (w.putObj l (.loop y)).heap[b]? = w.heap[b]? := fun b arr t fr e => World.putObj_heap_other fun hb => by rw [hb, hl] at e; cases e
  exact ⟨fun _ _ e => e, fun b _ hO => ⟨hO, cel b⟩, by simp, fun b arr t fr e => ⟨arr, t, fr, (cel b arr t fr e).trans e, rfl⟩⟩
theorem tof_old (h : Sim B A W σ a w ρ) {b : Nat} (hb : tof σ.H ρ b) : (∃ j, A j = some b) ∨ W.heap.size ≤ b := by
  obtain ⟨k, x, e1, e2⟩ := hb
  exact h.mine k x b e1 e2
theorem tof_far (h : Sim B A W σ a w ρ) (st : Stat B A W) {b : Nat} (hb : tof σ.H ρ b) : ¬ B b := by
  obtain ⟨k, x, e1, e2⟩ := hb
  exact h.hfar st k x b e1 e2
end
def putP (s : Nat → V) : List Nat → List V → Nat → V
  | p :: ps, y :: ys => putP (upS s p y) ps ys
  | _, _ => s
attribute [go_sem] putP.eq_1 putP.eq_2
@[go_sem] theorem putP_nil (s : Nat → V) (l : List V) : putP s [] l = s := by cases l <;> rfl
theorem putP_size : ∀ (ps : List Nat) (us : List Value) (tm : Array Value), ((ps.zip us).foldl (fun t (q : Nat × Value) => t.setIfInBounds q.1 q.2) tm).size = tm.size
  | [], us, tm => by simp
  | p :: ps, [], tm => by simp
  | p :: ps, u :: us, tm => by simp only [List.zip_cons_cons, List.foldl_cons]; rw [putP_size ps us]; simp
theorem putP_rep {w : World} {O : Nat → Prop} {ρ : Nat → Option Nat} : ∀ (ps : List Nat) (ys : List V) (us : List Value) (s : Nat → V) (tm : Array Value), ps.length = ys.length → us.length = ys.length → (∀ p ∈ ps, p < tm.size) → (∀ t, RepV w O ρ (s t) (tm.getD t undef)) →
    (∀ (j : Nat) (y : V) (v : Value), ys[j]? = some y → us[j]? = some v → RepV w O ρ y v) → ∀ t, RepV w O ρ (putP s ps ys t) (((ps.zip us).foldl (fun t (q : Nat × Value) => t.setIfInBounds q.1 q.2) tm).getD t undef)
  | [], [], us, s, tm, _, _, _, hs, _, t => by simpa [putP] using hs t
  | [], _ :: _, us, s, tm, h, _, _, _, _, t => by simp at h
  | _ :: _, [], us, s, tm, h, _, _, _, _, t => by simp at h
  | p :: ps, y :: ys, [], s, tm, _, h, _, _, _, t => by simp at h
  | p :: ps, y :: ys, u :: us, s, tm, h1, h2, h3, hs, hr, t => by
    simp only [List.zip_cons_cons, List.foldl_cons, putP]
    refine putP_rep ps ys us _ _ (by simpa using h1) (by simpa using h2) (fun q hq => by simpa using h3 q (by simp [hq])) (fun t => ?_) (fun j z v hz hv => hr (j + 1) z v (by simpa using hz) (by simpa using hv)) t
    have hlt : p < tm.size := h3 p (by simp)
    by_cases e : t = p
    · subst e
      simp only [upS, if_true]
      rw [Array.getD_eq_getD_getElem?, Array.getElem?_setIfInBounds_self_of_lt hlt]
      exact hr 0 y u rfl rfl
    · simp only [upS, if_neg e]
      rw [Array.getD_eq_getD_getElem?, Array.getElem?_setIfInBounds_ne (fun e' => e e'.symm), ← Array.getD_eq_getD_getElem?]
      exact hs t
/-- All names below m are in use. -/
def liveTo (H : Hp) : Nat → Prop
  | 0 => True
  | k + 1 => (H k).isSome = true ∧ liveTo H k
theorem liveTo.get {H : Hp} : ∀ {m k : Nat}, liveTo H m → k < m → (H k).isSome = true
  | m + 1, k, h, hk => by
    by_cases e : k = m
    · subst e; exact h.1
    · exact liveTo.get h.2 (by omega)
theorem aR_live {m : Nat} {H : Hp} {ρ : Nat → Option Nat} {k b : Nat} (hk : k < m) (hH : (H k).isSome = true) (h : ρ k = some b) : aR m H ρ (2 * k) = some b := by
  unfold aR
  have e : 2 * k / 2 = k := by omega
  rw [e]
  simp [hk, hH, h]
/-- The loop's party while the iterator runs: the state's heap; the slots as they were when the loop was entered. -/
def JL (B : Nat → Prop) (A : Nat → Option Nat) (W : World) (L : Nat) (a : Act) (ρ0 : Nat → Option Nat) (l : Nat) (rc : Loop) (τ : St) (C T : Nat → Prop) (w : World) : Prop :=
  ∃ ρ, Sim (fun b => B b ∨ T b) A W τ a w ρ ∧ (C = fun b => B b ∨ tof τ.H ρ b ∨ b = l) ∧ (∀ k b, ρ0 k = some b → ρ k = some b) ∧ (∀ t, RepV w (own (fun b => B b ∨ T b) ρ τ.H) ρ0 (τ.s t) (a.tmps.getD t undef)) ∧
    w.heap[l]? = some (.loop rc) ∧ (∀ b, T b → L ≤ b ∧ IsCells w b) ∧ (∀ b, T b → ¬ (B b ∨ tof τ.H ρ b ∨ b = l)) ∧ L ≤ w.heap.size
section
variable {P : Program} {B : Nat → Prop} {A : Nat → Option Nat} {W : World} {L l : Nat} {a : Act} {ρ0 : Nat → Option Nat} {rc : Loop} {τ : St} {C T T' : Nat → Prop} {w w' : World}
theorem JL.move (st : Stat B A W) (hWL : W.heap.size ≤ L) (hlL : l < L) (h : JL B A W L a ρ0 l rc τ C T w) (mv : Moves w T w' T') (hc : ∀ b, T' b → IsCells w' b) : JL B A W L a ρ0 l rc τ C T' w' := by
  obtain ⟨ρ, hs, hC, hρ, hsl, hl, hT, hd, hL⟩ := h
  have hx : ∀ ρ1, Ext w (own (fun b => B b ∨ T b) ρ τ.H) ρ1 w' (own (fun b => B b ∨ T' b) ρ τ.H) ρ1 := fun ρ1 => ⟨fun _ _ e => e, fun b hb hO => by
    refine ⟨?_, .of (mv.same b hb fun h1 => hO (.inl (.inr h1)))⟩
    rintro ((h1 | h1) | h1)
    · exact hO (.inl (.inl h1))
    · rcases mv.new b h1 with h2 | h2
      · exact hO (.inl (.inr h2))
      · omega
    · exact hO (.inr h1), mv.size, mv.row⟩
  have hrow : ∀ b, tof τ.H ρ b → w'.heap[b]? = w.heap[b]? := fun b hb => mv.same b (tof_cells hs.heap hb).lt fun h1 => hd b h1 (.inr (.inl hb))
  refine ⟨ρ, hs.to (hx ρ) hrow mv.os mv.tape mv.output (fun b hb _ => mv.same b (Nat.lt_of_lt_of_le hb hs.grow) fun h1 => by have := (hT b h1).1; omega) (hs.marks.keep fun D hD => mv.same D (Array.getElem?_eq_some_iff.1 hD).1 fun h1 => by
    obtain ⟨_, _, _, _, e⟩ := hT D h1
    rw [hD] at e; cases e), hC, hρ, fun t => (hsl t).mono (hx ρ0), ?_, fun b hb => ?_, fun b hb => ?_, Nat.le_trans hL mv.size⟩
  · refine (mv.same l (Array.getElem?_eq_some_iff.1 hl).1 fun h1 => ?_).trans hl
    obtain ⟨_, _, _, _, e⟩ := hT l h1
    rw [hl] at e; cases e
  · refine ⟨?_, hc b hb⟩
    rcases mv.new b hb with h2 | h2
    · exact (hT b h2).1
    · omega
  · rcases mv.new b hb with h2 | h2
    · exact hd b h2
    · rintro (h3 | h3 | h3)
      · have := st.old b h3; omega
      · have := (tof_cells hs.heap h3).lt; omega
      · omega
/-- How the body of a round may end. -/
def rndE (s0 : Nat → V) (M m : Nat) (H' : Hp) (n' : Nat) (Stop : Nat → Hp → Nat → Prop) (G : Prop) : Exit → St → Prop
  | .normal, σ => G ∧ Wk σ { s := fun _ => .any, H := H', n := n', N := M, m := m }
  | .exit id, σ => ∃ H'' n'', Stop id H'' n'' ∧ Wk σ { s := fun _ => .any, H := H'', n := n'', N := M, m := m }
  | _, _ => False
theorem JL.round (st : Stat B A W) (hWL : W.heap.size ≤ L) (hlW : W.heap.size ≤ l) (hlL : l < L) {s0 : Nat → V} {M m n n' : Nat} {H H' : Hp} {fn : FuncId} {ps : Array Tmp} {assign body : Code} {D : Nat} {Stop : Nat → Hp → Nat → Prop} {G : Prop}
    (h : JL B A W L a ρ0 l { state := .ready, pending := none, fn, tmps := a.tmps, params := ps, assign, body, defers := D } { s := s0, H := H, n := n, N := M, q := true } C T w)
    (h0 : ∀ k, m ≤ k → ρ0 k = none) (hlive : liveTo H m) {ys : List V} {us : List Value} (hps : ps.size = ys.length) (hus : us.length = ys.length) (hpM : ∀ p ∈ ps.toList, p < M)
    (hr : ∀ (j : Nat) (y : V) (v : Value), ys[j]? = some y → us[j]? = some v → RepW w (fun b => C b ∨ T b) (fun _ => none) y v)
    (hb : AWp P assign (thenE (fun σ1 => (σ1.q = false ∧ σ1.m = m) ∧ liveTo σ1.H m ∧ AWp P body (rndE s0 M m H' n' Stop G) σ1) (fun _ _ => False)) { s := putP s0 ps.toList ys, H := H, n := n, N := M, m := m }) :
    YieldAt (rd none) 0 P l us.toArray w fun e W' => ∃ (C' : Nat → Prop) (b : Bool), e = .returned (.bool b) ∧ Moves w C W' C' ∧
      (if b then G ∧ JL B A W L a ρ0 l { state := .ready, pending := none, fn, tmps := a.tmps, params := ps, assign, body, defers := D } { s := s0, H := H', n := n', N := M, q := true } C' T W'
       else ∃ id H'' n'', Stop id H'' n'' ∧ JL B A W L a ρ0 l { state := .done, pending := some (.exit id), fn, tmps := a.tmps, params := ps, assign, body, defers := D } { s := s0, H := H'', n := n'', N := M, q := true } C' T W') := by
  obtain ⟨ρ, hs, hC, hρ, hsl, hl, hT, hd, hL⟩ := h
  subst hC
  have hH := hs.heap
  have hB : ∀ b, (B b ∨ T b) → b < w.heap.size := by
    rintro b (h1 | h1)
    · exact Nat.lt_of_lt_of_le (st.old b h1) hs.grow
    · exact (hT b h1).2.lt
  have farT : ∀ b, tof H ρ b → ¬ (B b ∨ T b) := by
    rintro b hb (h1 | h1)
    · rcases tof_old hs hb with ⟨j, hj⟩ | hj
      · exact st.apart j b hj h1
      · have := st.old b h1; omega
    · exact hd b h1 (.inr (.inl hb))
  have st' : Stat (fun b => B b ∨ T b) (aR m H ρ) w := ⟨hB, fun k b e => farT b (aR_tof e)⟩
  have hfold : ∀ us : List Value, (ps.zip us.toArray).foldl (fun tmps (x : Nat × Value) => tmps.setIfInBounds x.1 x.2) a.tmps = (ps.toList.zip us).foldl (fun t (q : Nat × Value) => t.setIfInBounds q.1 q.2) a.tmps := fun us => by
    rw [← Array.foldl_toList, Array.toList_zip]
  have hs0 : Sim (fun b => B b ∨ T b) (aR m H ρ) w { s := putP s0 ps.toList ys, H := H, n := n, N := M, m := m } { tmps := (ps.toList.zip us).foldl (fun t (q : Nat × Value) => t.setIfInBounds q.1 q.2) a.tmps, defers := [] } w ρ := by
    refine ⟨fun _ => rfl, by rw [show ({ tmps := (ps.toList.zip us).foldl (fun t (q : Nat × Value) => t.setIfInBounds q.1 q.2) a.tmps, defers := [] } : Act).tmps = _ from rfl, putP_size]; exact hs.size, ?_, hH, hs.fresh, fun k x b e1 e2 => .inl (tof_aR ⟨k, x, e1, e2⟩), rfl, rfl, rfl, Nat.le_refl _, fun _ _ _ => rfl, fun _ _ _ _ e => ⟨_, _, _, e, rfl⟩, fun k b e => aR_pin e, Marks.nil _ _⟩
    refine putP_rep ps.toList ys us s0 a.tmps (by simpa using hps) hus (fun p hp => by rw [hs.size]; exact hpM p hp) hs.slots fun j y v hy hv => ?_
    have h1 := hr j y v hy hv
    refine RepV.of_W (h1.mono ((Ext.less (O' := own (fun b => B b ∨ T b) ρ H) ?_).into ρ)) h1.notTup
    rintro b ((h2 | h2) | h2)
    · exact .inl (.inl h2)
    · exact .inr h2
    · exact .inl (.inr (.inl h2))
  have hll : l < w.heap.size := (Array.getElem?_eq_some_iff.1 hl).1
  have rdA : RdOk (aR m H ρ) w (some l) := ⟨fun l' e => by cases e; exact ⟨fun k e => tof_loop hH hl (aR_tof e), _, hl⟩⟩
  have hy := run_yield (P := P) (args := us.toArray) hl (by simp [hps, hus])
  simp only at hy
  refine ⟨fn, _, assign, body, hy, roundIn_of_wpIn (F := rd none) trivial ?_⟩
  have e0 := hfold us
  rw [show (ps.zip us.toArray).foldl (fun tmps (x : Nat × Value) => match x with | (t, a) => tmps.setIfInBounds t a) a.tmps = _ from e0]
  refine wpIn_mono (hb _ _ w st' _ w ρ hs0 (r := some l)) ?_
  rintro e a1 w1 ⟨σ1, ρ1, hE, hs1⟩
  cases e with
  | exit id => exact hE.elim
  | goto l => exact hE.elim
  | ret => exact hE.elim
  | panic c => exact hE.elim
  | outgrown => exact hE.elim
  | normal =>
  obtain ⟨⟨hq1, hm1⟩, hlive1, hbody⟩ := hE
  have hl1 : w1.heap[l]? = some (.loop { state := .ready, pending := none, fn, tmps := a.tmps, params := ps, assign, body, defers := D }) := (hs1.same l hll fun j e => tof_loop hH hl (aR_tof e)).trans hl
  refine ⟨_, run_beginRound hl1 rfl, ?_⟩
  have hx2 := ext_put (O := own (fun b => B b ∨ T b) ρ1 σ1.H) (y := { state := .busy, pending := none, fn, tmps := a.tmps, params := ps, assign, body, defers := D }) hl1 ρ1
  generalize hw2 : w1.putObj l (.loop { state := .busy, pending := none, fn, tmps := a.tmps, params := ps, assign, body, defers := D }) = w2 at hx2
  have o2 : ∀ b, b ≠ l → w2.heap[b]? = w1.heap[b]? := fun b hb => by rw [← hw2]; exact World.putObj_heap_other hb
  have z2 : w2.heap.size = w1.heap.size := by rw [← hw2]; simp
  have n1 : ¬ tof σ1.H ρ1 l := tof_loop hs1.heap hl1
  have hl2 : w2.heap[l]? = some (.loop { state := .busy, pending := none, fn, tmps := a.tmps, params := ps, assign, body, defers := D }) := by rw [← hw2]; exact World.putObj_heap_same (Array.getElem?_eq_some_iff.1 hl1).1
  have hs2 := hs1.at hq1 (m := m) (by omega) hx2 (fun b hb => o2 b fun e => n1 (e ▸ hb))
  have st2 : Stat (fun b => B b ∨ T b) (aR m σ1.H ρ1) w2 := ⟨fun b h1 => by have := hB b h1; have := hs1.grow; omega, fun k b e => tof_far hs1 st' (aR_tof e)⟩
  have rd2 : RdOk (aR m σ1.H ρ1) w2 (some l) := ⟨fun l' e => by cases e; exact ⟨fun k e => n1 (aR_tof e), _, hl2⟩⟩
  refine wpIn_mono (hbody _ _ w2 st2 a1 w2 ρ1 hs2 (r := some l)) ?_
  rintro e a3 w3 ⟨σ3, ρ3, hE, hs3⟩
  have hl3 : w3.heap[l]? = some (.loop { state := .busy, pending := none, fn, tmps := a.tmps, params := ps, assign, body, defers := D }) := (hs3.same l (by have := hs1.grow; omega) fun j e => n1 (aR_tof e)).trans hl2
  have old1 : ∀ b, tof σ1.H ρ1 b → tof H ρ b ∨ w.heap.size ≤ b := fun b hb => by
    rcases tof_old hs1 hb with ⟨j, hj⟩ | hj
    · exact .inl (aR_tof hj)
    · exact .inr hj
  have fin : ∀ (rc' : Loop) (H4 : Hp) (n4 : Nat), Wk σ3 { s := fun _ => .any, H := H4, n := n4, N := M, m := m } → ∃ C', Moves w (fun b => B b ∨ tof H ρ b ∨ b = l) (w3.putObj l (.loop rc')) C' ∧ JL B A W L a ρ0 l rc' { s := s0, H := H4, n := n4, N := M, q := true } C' T (w3.putObj l (.loop rc')) := by
    intro rc' H4 n4 hwk
    obtain ⟨ρ4, hs4⟩ := hwk _ _ _ _ _ _ hs3
    have hx4 := ext_put (O := own (fun b => B b ∨ T b) ρ4 H4) (y := rc') hl3 ρ4
    generalize hw4 : w3.putObj l (.loop rc') = w4 at hx4
    have o4 : ∀ b, b ≠ l → w4.heap[b]? = w3.heap[b]? := fun b hb => by rw [← hw4]; exact World.putObj_heap_other hb
    have z4 : w4.heap.size = w3.heap.size := by rw [← hw4]; simp
    have hl4 : w4.heap[l]? = some (.loop rc') := by rw [← hw4]; exact World.putObj_heap_same (Array.getElem?_eq_some_iff.1 hl3).1
    have g1 := hs1.grow
    have g4 := hs4.grow
    have key : ∀ b, b < w.heap.size → ¬ tof H ρ b → b ≠ l → w4.heap[b]? = w.heap[b]? := fun b hb hn hbl => by
      rw [o4 b hbl, hs4.same b (by omega) (fun j e => ?_), o2 b hbl, hs1.same b hb (fun j e => hn (aR_tof e))]
      rcases old1 b (aR_tof e) with h1 | h1
      · exact hn h1
      · omega
    have new4 : ∀ b, tof H4 ρ4 b → tof H ρ b ∨ w.heap.size ≤ b := fun b hb => by
      rcases tof_old hs4 hb with ⟨j, hj⟩ | hj
      · exact old1 b (aR_tof hj)
      · exact .inr (by omega)
    have row4 : ∀ (b : Nat) (arr : Array Value) (t : TypeId) (fr : Nat × Nat), w.heap[b]? = some (.cells arr t fr) → ∃ (arr' : Array Value) (t' : TypeId) (fr' : Nat × Nat), w4.heap[b]? = some (.cells arr' t' fr') ∧ arr'.size = arr.size := fun b arr t fr e => by
      have hbl : b ≠ l := fun e' => by rw [e', hl] at e; cases e
      obtain ⟨x1, t1, f1, e1, q1⟩ := hs1.row b arr t fr e
      rw [← o2 b hbl] at e1
      obtain ⟨x2, t2, f2, e2, q2⟩ := hs4.row b x1 t1 f1 e1
      exact ⟨x2, t2, f2, (o4 b hbl).trans e2, q2.trans q1⟩
    have pin4 : ∀ k b, ρ0 k = some b → ρ4 k = some b := fun k b e => by
      have hk : k < m := by
        rcases Nat.lt_or_ge k m with h1 | h1
        · exact h1
        · rw [h0 k h1] at e; cases e
      have e1 := (hs1.pins k b (aR_live hk (hlive.get hk) (hρ k b e))).2
      exact (hs4.pins k b (aR_live hk (hlive1.get hk) e1)).2
    have hos : w4.os = w.os := by rw [← hw4]; exact hs4.os.trans ((show w2.os = w1.os by rw [← hw2]; rfl).trans hs1.os)
    have htp : w4.tape = w.tape := by rw [← hw4]; exact hs4.tape.trans ((show w2.tape = w1.tape by rw [← hw2]; rfl).trans hs1.tape)
    have hout : w4.output = w.output := by rw [← hw4]; exact hs4.output.trans ((show w2.output = w1.output by rw [← hw2]; rfl).trans hs1.output)
    have hxx : ∀ ρ5, (∀ k b, ρ0 k = some b → ρ5 k = some b) → Ext w (own (fun b => B b ∨ T b) ρ H) ρ0 w4 (own (fun b => B b ∨ T b) ρ4 H4) ρ5 := fun ρ5 hm5 => ⟨hm5, fun b hb hO => by
      refine ⟨?_, fun arr t fr e => key b hb (fun h1 => hO (.inr h1)) fun e' => by rw [e', hl] at e; cases e⟩
      rintro (h1 | h1)
      · exact hO (.inl h1)
      · rcases new4 b h1 with h2 | h2
        · exact hO (.inr h2)
        · omega, by omega, row4⟩
    have cellT : ∀ b, T b → IsCells w4 b := fun b hb => by
      obtain ⟨arr, t, fr, e⟩ := (hT b hb).2
      exact ⟨arr, t, fr, (key b (hT b hb).2.lt (fun h1 => hd b hb (.inr (.inl h1))) fun h1 => hd b hb (.inr (.inr h1))).trans e⟩
    refine ⟨fun b => B b ∨ tof H4 ρ4 b ∨ b = l, ⟨fun b hb hn => key b hb (fun h1 => hn (.inr (.inl h1))) fun h1 => hn (.inr (.inr h1)), ?_, by omega, row4, hos, htp, hout⟩, ρ4, ⟨fun e => (by cases e), hs.size, fun t => (hsl t).mono (hxx ρ4 pin4), ?_, hs4.fresh, fun k x b e1 e2 => ?_, hos.trans hs.os, htp.trans hs.tape, hout.trans hs.output, by have := hs.grow; omega, fun b hb hA => ?_, fun b arr t fr e => ?_, fun k b e => ?_, ?_⟩, rfl, pin4, fun t => (hsl t).mono (hxx ρ0 fun _ _ e => e), hl4, fun b hb => ⟨(hT b hb).1, cellT b hb⟩, ?_, by omega⟩
    · rintro b (h1 | h1 | h1)
      · exact .inl (.inl h1)
      · rcases new4 b h1 with h2 | h2
        · exact .inl (.inr (.inl h2))
        · exact .inr h2
      · exact .inl (.inr (.inr h1))
    · exact hs4.heap.mono hx4 (fun k x b e1 e2 => o4 b fun e => tof_loop hs4.heap hl3 ⟨k, x, e1, e ▸ e2⟩) (fun _ _ _ _ e => e)
    · rcases new4 b ⟨k, x, e1, e2⟩ with h2 | h2
      · exact tof_old hs h2
      · exact .inr (Nat.le_trans hs.grow h2)
    · refine (key b (Nat.lt_of_lt_of_le hb hs.grow) (fun h1 => ?_) (by omega)).trans (hs.same b hb hA)
      rcases tof_old hs h1 with ⟨j, hj⟩ | hj
      · exact hA j hj
      · omega
    · obtain ⟨x1, t1, f1, e1, q1⟩ := hs.row b arr t fr e
      obtain ⟨x2, t2, f2, e2, q2⟩ := row4 b x1 t1 f1 e1
      exact ⟨x2, t2, f2, e2, q2.trans q1⟩
    · exact absurd (hs.pins k b e).1 (Nat.not_lt_zero k)
    · refine hs.marks.keep fun D' hD => key D' (Array.getElem?_eq_some_iff.1 hD).1 (fun h1 => ?_) fun e => ?_
      · obtain ⟨_, _, _, e⟩ := tof_cells hH h1
        rw [hD] at e; cases e
      · rw [e, hl] at hD; cases hD
    · rintro b hb (h1 | h1 | h1)
      · exact hd b hb (.inl h1)
      · rcases new4 b h1 with h2 | h2
        · exact hd b hb (.inr (.inl h2))
        · have := (hT b hb).2.lt; omega
      · exact hd b hb (.inr (.inr h1))
  cases e with
  | normal =>
    obtain ⟨C', h1, h2⟩ := fin { state := .ready, pending := none, fn, tmps := a.tmps, params := ps, assign, body, defers := D } H' n' hE.2
    exact ⟨_, _, run_endRound none hl3, C', true, rfl, h1, hE.1, h2⟩
  | exit id =>
    obtain ⟨H'', n'', hst, hwk⟩ := hE
    obtain ⟨C', h1, h2⟩ := fin { state := .done, pending := some (.exit id), fn, tmps := a.tmps, params := ps, assign, body, defers := D } H'' n'' hwk
    exact ⟨_, _, run_endRound (some (.exit id)) hl3, C', false, rfl, h1, id, H'', n'', hst, h2⟩
  | goto l => exact hE.elim
  | ret => exact hE.elim
  | panic c => exact hE.elim
  | outgrown => exact hE.elim
end
end Go.Proofs.YtfbogelmgdojgaaGreat

/- Loops over functions: the statement. No program in sight. -/
namespace Go.Proofs.YtfbogelmgdojgaaGreat
set_option linter.unusedSimpArgs false
set_option linter.unusedVariables false
open Go.RowKit

theorem enter_ok {P : Program} {w : World} {r : Option Nat} (hr : ∀ l, r = some l → ∃ x, w.heap[l]? = some (.loop x)) (fn : FuncId) (tmps : Array Value) (ps : Array Tmp) (assign body : Code) :
    ∃ (l D : Nat) (mark : List Deferred) (w1 : World), (Instr.enterLoop fn tmps ps assign body r).run P w = .ok (l, mark) w1 ∧ w1.heap[l]? = some (.loop { state := .ready, pending := none, fn, tmps, params := ps, assign, body, defers := D }) ∧ w.heap.size ≤ l ∧
      (∀ b, b < w.heap.size → w1.heap[b]? = w.heap[b]?) ∧ w.heap.size ≤ w1.heap.size ∧ w1.os = w.os ∧ w1.tape = w.tape ∧ w1.output = w.output ∧ (mark = [] ∨ ∃ D', mark = [{ target := .collected D', args := #[] }] ∧ w.heap.size ≤ D' ∧ w1.heap[D']? = some (.deferred (some []))) := by
  cases r with
  | none =>
    have e1 : ((w.alloc (.deferred (some []))).alloc (.loop { state := .ready, pending := none, fn, tmps, params := ps, assign, body, defers := w.heap.size })).heap[w.heap.size + 1]? = some (.loop { state := .ready, pending := none, fn, tmps, params := ps, assign, body, defers := w.heap.size }) := by
      have := World.alloc_heap_new (w.alloc (.deferred (some []))) (.loop { state := .ready, pending := none, fn, tmps, params := ps, assign, body, defers := w.heap.size })
      rwa [World.size_alloc] at this
    have e2 : ∀ o : Obj, ((w.alloc (.deferred (some []))).alloc o).heap[w.heap.size]? = some (.deferred (some [])) := fun o =>
      (Below.heap_alloc _ _ _ (by simp)).trans (World.alloc_heap_new w _)
    refine ⟨w.heap.size + 1, w.heap.size, _, _, run_enterLoop_outer _ _ _ _ _, e1, by omega, fun b hb => ?_, by simp; omega, rfl, rfl, rfl, .inr ⟨_, rfl, Nat.le_refl _, e2 _⟩⟩
    exact (Below.heap_alloc _ _ _ (by simp; omega)).trans (Below.heap_alloc _ _ _ hb)
  | some l₀ =>
    obtain ⟨x, hx⟩ := hr l₀ rfl
    refine ⟨w.heap.size, x.defers, [], w.alloc (.loop { state := .ready, pending := none, fn, tmps, params := ps, assign, body, defers := x.defers }), ?_, World.alloc_heap_new w _, Nat.le_refl _, fun b hb => Below.heap_alloc _ _ _ hb, by simp, rfl, rfl, rfl, .inl rfl⟩
    unfold Instr.enterLoop
    simp only [Sem.run_bind, run_getLoop hx, run_newObj_alloc, Result.andThen, Sem.run_pure]
theorem AWp.rounds {P : Program} {g : FuncId} {caps : List V} {xs : Nat → Option (List V)} {L : Nat} (hseq : SeqC P g caps L xs) (hc : callable P g = true) (N : Nat) (hN1 : N ≤ L) {fo : Operand} {ps : Array Tmp} {assign body : Code} {Q : Exit → St → Prop} {σ : St} {s0 : Nat → V} {M m : Nat}
    (Hs : Nat → Hp) (ns : Nat → Nat) (Stop : Nat → Hp → Nat → Prop) (hn0 : ns 0 = m) (hw : Wk σ { s := s0, H := Hs 0, n := m, N := M }) (hf : ({ s := s0, H := Hs 0, n := m, N := M } : St).ev fo = .clo (.func g) [] caps) (hcp : caps.all V.pure = true)
    (hlive : ∀ i, liveTo (Hs i) m)
    (hr : ∀ i ys, xs i = some ys → i ≤ N → (ps.size = ys.length ∧ ∀ p ∈ ps.toList, p < M) ∧
      AWp P assign (thenE (fun σ1 => (σ1.q = false ∧ σ1.m = m) ∧ liveTo σ1.H m ∧ AWp P body (rndE s0 M m (Hs (i + 1)) (ns (i + 1)) Stop (i + 1 ≤ N)) σ1) (fun _ _ => False)) { s := putP s0 ps.toList ys, H := Hs i, n := ns i, N := M, m := m })
    (hstop : ∀ id H n, Stop id H n → Q (.exit id) { s := s0, H := H, n := n, N := M, q := true })
    (hd : ∀ i, i ≤ N → xs i = none → Q .normal { s := s0, H := Hs i, n := ns i, N := M, q := true }) : AWp P (.rangeFunc fo ps assign body) Q σ := by
  intro B A W st a w ρ hs r hrd
  obtain ⟨ρ0, hs0⟩ := hw B A W a w ρ hs
  refine wpIn_rangeFunc ?_
  intro fn _
  have hrr : ∀ l, r = some l → ∃ x, w.heap[l]? = some (.loop x) := fun l e => by
    obtain ⟨h1, x, h2⟩ := hrd.lies l e
    exact ⟨x, (hs0.same l (Array.getElem?_eq_some_iff.1 h2).1 h1).trans h2⟩
  obtain ⟨l, D, mark, w1, he, hl, hlw, hsame, hsz, hos, htp, hout, hmk⟩ := enter_ok (P := P) hrr fn a.tmps ps assign body
  have had : a.defers = [] := hs0.defers rfl
  have hv := RepW.atom (show RepW w (own B ρ0 (Hs 0)) ρ0 (.clo (.func g) [] caps) (a.eval fo) by have := hs0.ev fo; rw [hf] at this; exact this) rfl
  generalize hfv : a.eval fo = fv at hv
  cases hv with
  | clo _ _ _ _ vf vc h1 h2 s1 s2 r1 r2 =>
  have hvf : vf = #[] := by
    have : vf.size = 0 := by rw [← h1]; rfl
    exact Array.eq_empty_of_size_eq_zero this
  subst hvf
  have hH0 := hs0.heap
  have nl : ¬ tof (Hs 0) ρ0 l := fun ht => by have := (tof_cells hH0 ht).lt; omega
  have hcel : ∀ (b : Nat) (arr : Array Value) (t : TypeId) (fr : Nat × Nat), w.heap[b]? = some (.cells arr t fr) → w1.heap[b]? = w.heap[b]? := fun b arr t fr e => hsame b (Array.getElem?_eq_some_iff.1 e).1
  have hgrow : ∀ (O O' : Nat → Prop) (ρ1 : Nat → Option Nat), (∀ b, b < w.heap.size → O' b → O b) → Ext w O ρ1 w1 O' ρ1 := fun O O' ρ1 ho => ⟨fun _ _ e => e, fun b hb hO => ⟨fun h => hO (ho b hb h), .of (hsame b hb)⟩, hsz, fun b arr t fr e => ⟨arr, t, fr, (hcel b arr t fr e).trans e, rfl⟩⟩
  have hmk1 : Marks W w1 (mark ++ a.defers) := by
    rw [had, List.append_nil]
    rcases hmk with rfl | ⟨D', rfl, q1, q2⟩
    · exact Marks.nil _ _
    · exact ⟨[D'], rfl, by simp, fun D hD => by simp at hD; subst hD; exact ⟨Nat.le_trans hs0.grow q1, q2⟩⟩
  have hll : l < w1.heap.size := (Array.getElem?_eq_some_iff.1 hl).1
  have hlW : W.heap.size ≤ l := Nat.le_trans hs0.grow hlw
  have hWL : W.heap.size ≤ w1.heap.size := Nat.le_trans hs0.grow hsz
  obtain ⟨J, hJd⟩ : ∃ J : Option Nat → (Nat → Prop) → (Nat → Prop) → World → Prop, J = fun i C T w' => match i with
    | some i => i ≤ N ∧ JL B A W w1.heap.size { a with defers := mark ++ a.defers } ρ0 l { state := .ready, pending := none, fn, tmps := a.tmps, params := ps, assign, body, defers := D } { s := s0, H := Hs i, n := ns i, N := M, q := true } C T w'
    | none => ∃ id H n, Stop id H n ∧ JL B A W w1.heap.size { a with defers := mark ++ a.defers } ρ0 l { state := .done, pending := some (.exit id), fn, tmps := a.tmps, params := ps, assign, body, defers := D } { s := s0, H := H, n := n, N := M, q := true } C T w' := ⟨_, rfl⟩
  have hx0 : ∀ ρ1, Ext w (own B ρ0 (Hs 0)) ρ1 w1 (own (fun b => B b ∨ (fun _ => False) b) ρ0 (Hs 0)) ρ1 := fun ρ1 => hgrow _ _ _ fun b _ h => by
    rcases h with (h | h) | h
    · exact .inl h
    · exact h.elim
    · exact .inr h
  have hJ0 : J (some 0) (fun b => B b ∨ tof (Hs 0) ρ0 b ∨ b = l) (fun _ => False) w1 := by
    rw [hJd]
    refine ⟨Nat.zero_le _, ρ0, ?_, rfl, fun _ _ e => e, fun t => (hs0.slots t).mono (hx0 ρ0), hl, fun _ h => h.elim, fun _ h => h.elim, Nat.le_refl _⟩
    refine ⟨fun e => (by cases e), hs0.size, fun t => (hs0.slots t).mono (hx0 ρ0), hH0.mono (hx0 ρ0) (fun k x b e1 e2 => hsame b (tof_cells hH0 ⟨k, x, e1, e2⟩).lt) (fun _ _ _ _ e => e), by rw [hn0]; exact hs0.fresh, hs0.mine, hos.trans hs0.os, htp.trans hs0.tape, hout.trans hs0.output, hWL, fun b hb hA => (hsame b (Nat.lt_of_lt_of_le hb hs0.grow)).trans (hs0.same b hb hA), fun b arr t fr e => ?_, hs0.pins, hmk1⟩
    obtain ⟨x1, t1, f1, e1, q1⟩ := hs0.row b arr t fr e
    exact ⟨x1, t1, f1, (hcel b x1 t1 f1 e1).trans e1, q1⟩
  have hJ : JOk P l N xs J := by
    subst hJd
    refine ⟨fun i C T w1' T' w2 h mv hc' => ?_, fun i C T w1' h => h.1, fun i C T w1' h => ?_, fun i C T w1' ys us h hx hu hrep => ?_⟩
    · cases i with
      | some i => exact ⟨h.1, h.2.move st hWL hll mv hc'⟩
      | none => obtain ⟨id, H, n, q1, q2⟩ := h; exact ⟨id, H, n, q1, q2.move st hWL hll mv hc'⟩
    · have gen : ∀ rc τ, JL B A W w1.heap.size { a with defers := mark ++ a.defers } ρ0 l rc τ C T w1' → (∀ b, C b → b < w1'.heap.size) ∧ ∀ b, T b → ¬ C b := by
        rintro rc τ ⟨ρ, q1, rfl, _, _, q2, q3, q4, q5⟩
        refine ⟨fun b hb => ?_, fun b hb => q4 b hb⟩
        rcases hb with hb | hb | rfl
        · exact Nat.lt_of_lt_of_le (st.old b hb) q1.grow
        · exact (tof_cells q1.heap hb).lt
        · exact (Array.getElem?_eq_some_iff.1 q2).1
      cases i with
      | some i => exact gen _ _ h.2
      | none => obtain ⟨id, H, n, q1, q2⟩ := h; exact gen _ _ q2
    · obtain ⟨⟨g2, g3⟩, g4⟩ := hr i ys hx h.1
      obtain ⟨fn', tm, x, y, y1, y2⟩ := JL.round (P := P) (Stop := Stop) st hWL hlW hll h.2 (fun k hk => hs0.fresh k hk) (hlive i) g2 hu g3 hrep g4
      refine ⟨fn', tm, x, y, y1, y2.mono ?_⟩
      rintro e w' ⟨C', b, rfl, mv, hb⟩
      refine ⟨C', b, rfl, ?_, mv⟩
      cases b with
      | true => exact hb
      | false => exact hb
  refine ⟨l, mark, w1, { target := .fn (.func g) vc, args := #[.func (.yield l) #[] #[]] }, w1, g, #[.func (.yield l) #[] #[]] ++ vc, w1, he, ?_, fun _ _ => trivial, ?_, fun e => (by cases e), ?_⟩
  · simp only [resolve, hfv]
    simp [go_sem]
  · simp [invoke, go_sem, run_callFunc hc]
  · have hcall := hseq (fun b => B b ∨ tof (Hs 0) ρ0 b ∨ b = l) w1 vc.toList (by simp [h2]) (fun j x v hj hv => by
      have hW : RepW w (own B ρ0 (Hs 0)) ρ0 x v := .inr ⟨s2 j x v hj (by simpa using hv), r2 j x v hj (by simpa using hv)⟩
      refine (hW.pure (List.all_eq_true.1 hcp x (List.mem_of_getElem? hj))).mono (hgrow _ _ _ fun b hb h => ?_)
      rcases h with h | h | h
      · exact .inl h
      · exact .inr h
      · omega) (hJ.old _ _ _ _ hJ0).1 l N J hN1 hJ hJ0
    rw [show vc.toList.toArray = vc from by simp] at hcall
    have hcall' : CallsIn (rd r) 0 P g (#[.func (.yield l) #[] #[]] ++ vc) w1 fun e w' => (∃ v, e = .returned v) ∧ ∃ C' T', J none C' T' w' ∨ ∃ i, xs i = none ∧ J (some i) C' T' w' := hcall
    refine hcall'.mono ?_
    rintro e w2 ⟨⟨v, rfl⟩, C', T', h⟩
    have fin : ∀ (rc : Loop) (τ : St), JL B A W w1.heap.size { a with defers := mark ++ a.defers } ρ0 l rc τ C' T' w2 → rc.state ≠ .busy → ∃ w4 ρ4, (Instr.endLoop l).run P w2 = .ok rc.pending w4 ∧ Sim B A W τ { a with defers := mark ++ a.defers } w4 ρ4 := by
      rintro rc τ ⟨ρ2, q1, _, _, _, q2, _⟩ hb
      refine ⟨_, ρ2, run_endLoop q2 hb, q1.to ((ext_put q2 ρ2).trans (Ext.less fun b hb => ?_)) (fun b hb => World.putObj_heap_other fun e => tof_loop q1.heap q2 (e ▸ hb)) rfl rfl rfl (fun b hb _ => World.putObj_heap_other (by omega)) (q1.marks.keep fun D' hD => World.putObj_heap_other fun e => ?_)⟩
      · rcases hb with h | h
        · exact .inl (.inl h)
        · exact .inr h
      · rw [e, q2] at hD; cases hD
    subst hJd
    rcases h with ⟨id, H, n, q1, q2⟩ | ⟨i, q1, q2⟩
    · obtain ⟨w4, ρ4, q3, q4⟩ := fin _ _ q2 (by simp)
      exact ⟨_, w4, q3, wpIn_exit ⟨_, ρ4, hstop id H n q1, q4⟩⟩
    · obtain ⟨w4, ρ4, q3, q4⟩ := fin _ _ q2.2 (by simp)
      exact ⟨_, w4, q3, _, ρ4, hd i q2.1 q1, q4⟩
end Go.Proofs.YtfbogelmgdojgaaGreat

/- Loops over functions: evaluation rules. No program in sight. -/
namespace Go.Proofs.YtfbogelmgdojgaaGreat
set_option linter.unusedSimpArgs false
set_option linter.unusedVariables false
open Go.RowKit

@[go_sem ↓, go_sem] theorem ev_thenI_n {Nx : Option Nat → St → Prop} {Q : Exit → Option Nat → St → Prop} {i : Option Nat} {σ : St} : thenI Nx Q .normal i σ = Nx i σ := rfl
@[go_sem ↓, go_sem] theorem ev_thenI_e {Nx : Option Nat → St → Prop} {Q : Exit → Option Nat → St → Prop} {i : Option Nat} {σ : St} {id : Nat} : thenI Nx Q (.exit id) i σ = Q (.exit id) i σ := rfl
@[go_sem ↓, go_sem] theorem ev_thenI_r {Nx : Option Nat → St → Prop} {Q : Exit → Option Nat → St → Prop} {i : Option Nat} {σ : St} : thenI Nx Q .ret i σ = Q .ret i σ := rfl
@[go_sem ↓, go_sem] theorem ev_blkI_n {id : Nat} {Q : Exit → Option Nat → St → Prop} {i : Option Nat} {σ : St} : blkI id Q .normal i σ = Q .normal i σ := rfl
@[go_sem ↓, go_sem] theorem ev_blkI_e {id id' : Nat} {Q : Exit → Option Nat → St → Prop} {i : Option Nat} {σ : St} : blkI id Q (.exit id') i σ = if id' = id then Q .normal i σ else Q (.exit id') i σ := rfl
@[go_sem ↓, go_sem] theorem ev_blkI_r {id : Nat} {Q : Exit → Option Nat → St → Prop} {i : Option Nat} {σ : St} : blkI id Q .ret i σ = Q .ret i σ := rfl
@[go_sem ↓, go_sem] theorem ev_rndE_n {s0 : Nat → V} {M m : Nat} {H' : Hp} {n' : Nat} {Stop : Nat → Hp → Nat → Prop} {G : Prop} {σ : St} : rndE s0 M m H' n' Stop G .normal σ = (G ∧ Wk σ { s := fun _ => .any, H := H', n := n', N := M, m := m }) := rfl
@[go_sem ↓, go_sem] theorem ev_rndE_e {s0 : Nat → V} {M m : Nat} {H' : Hp} {n' : Nat} {Stop : Nat → Hp → Nat → Prop} {G : Prop} {σ : St} {id : Nat} : rndE s0 M m H' n' Stop G (.exit id) σ = ∃ H'' n'', Stop id H'' n'' ∧ Wk σ { s := fun _ => .any, H := H'', n := n'', N := M, m := m } := rfl
attribute [go_sem] liveTo.eq_1 liveTo.eq_2
end Go.Proofs.YtfbogelmgdojgaaGreat

/- A long statement, piece by piece. No program in sight. -/
namespace Go.Proofs.YtfbogelmgdojgaaGreat
set_option linter.unusedSimpArgs false
set_option linter.unusedVariables false
open Go.RowKit

/-- What is to be shown of the operations from i on. -/
def RegI (P : Program) (ops : Array Oper) (i : Nat) (Q : Exit → St → Prop) (σ : St) : Prop :=
  ∀ (B : Nat → Prop) (A : Nat → Option Nat) (W : World), Stat B A W → ∀ (a : Act) (w : World) (ρ : Nat → Option Nat), Sim B A W σ a w ρ → ∀ {r : Option Nat} [RdOk A W r], wpOpsIn (rd r) 0 P ops (fun e a' w' => ∃ σ' ρ', Q e σ' ∧ Sim B A W σ' a' w' ρ') (List.range' i (ops.toList.drop i).length) a w
section
variable {P : Program} {Γ : Tab} {Δ : Gab} {ops : Array Oper} {Q : Exit → St → Prop} {σ : St}
theorem RegI.fin (T : Tabs P Γ Δ) (i : Nat) {os : List Oper} (hos : ops.toList.drop i = os) (h : vcOps P Γ Δ ops os σ (Q .normal)) : RegI P ops i Q σ := by
  intro B A W st a w ρ hs r _
  have := vcOps_ok (P := P) (r := r) (ops := ops) (Q := fun e a' w' => ∃ σ' ρ', Q e σ' ∧ Sim B A W σ' a' w' ρ') T.tab T.gab st (fun σ' a' w' ρ' h1 h2 => ⟨σ', ρ', h1, h2⟩) os i σ a w ρ hos hs h
  rw [hos]
  exact this
theorem RegI.cut (T : Tabs P Γ Δ) (i j : Nat) {os : List Oper} (hos : (ops.toList.drop i).take (j - i) = os) (hl : os.length = j - i) (hij : i ≤ j) (h : vcOps P Γ Δ ops os σ fun σ1 => ∃ τ, Wk σ1 τ ∧ RegI P ops j Q τ) : RegI P ops i Q σ := by
  intro B A W st a w ρ hs r hr
  have hlen : (ops.toList.drop i).length = (j - i) + (ops.toList.drop j).length := by
    have h1 := congrArg List.length hos
    rw [hl, List.length_take] at h1
    rw [List.length_drop, List.length_drop]
    rw [List.length_drop] at h1
    omega
  rw [hlen, ← List.range'_append_1, show i + (j - i) = j from by omega]
  have h2 := vcOps_pre T.tab T.gab st (r := r) (ops := ops) (Q := fun e a' w' => ∃ σ' ρ', Q e σ' ∧ Sim B A W σ' a' w' ρ') (K := fun σ1 => ∃ τ, Wk σ1 τ ∧ RegI P ops j Q τ) (List.range' j (ops.toList.drop j).length) (fun σ1 a1 w1 ρ1 hk hs1 => by
    obtain ⟨τ, h1, h2⟩ := hk
    obtain ⟨ρ2, hs2⟩ := h1 B A W a1 w1 ρ1 hs1
    exact h2 B A W st a1 w1 ρ2 hs2) os i σ a w ρ (by rw [hl]; exact hos) hs h
  rw [hl] at h2
  exact h2
theorem AWp.regs {id : Nat} (h : RegI P ops 0 Q σ) : AWp P (.region id ops false) Q σ := by
  intro B A W st a w ρ hs r _
  refine wpIn_region ?_
  have h2 := h B A W st a w ρ hs (r := r)
  rw [List.range_eq_range']
  simpa using h2
end
theorem PCall.of_awp {P : Program} {f : FuncId} {fn : Func} {c : Code} {args : List V} {r : V} (hf : P.funcs[f]? = some fn) (hb : fn.body = some c) {N : Nat} (hn : fn.ntmps = N) {rs : Array ResultVar} (hrs : fn.results = rs) (hN : args.length ≤ N)
    (h : AWp P c (retE P rs.toList r) (st0 args N)) : PCall P f args r := by
  subst hn hrs
  intro B w vs hl hr hB
  refine callsIn_wide.1 (callsIn_of_wp_marks (F := Fence.wide) (n := 0) hf hb trivial ?_)
  have st : Stat B (fun _ => none) w := ⟨hB, fun _ _ h => by cases h⟩
  have hown : ∀ b, own B (fun _ => none) (fun _ => none) b → B b := fun b hb => by
    rcases hb with hb | ⟨k, x, h1, _⟩
    · exact hb
    · cases h1
  have hx : Ext w B (fun _ => none) w (own B (fun _ => none) (fun _ => none)) (fun _ => none) := Ext.less hown
  have hs : Sim B (fun _ => none) w (st0 args fn.ntmps) { tmps := vs.toArray ++ Array.replicate (fn.ntmps - vs.toArray.size) undef, defers := [] } w (fun _ => none) := sim0 hl hr hN
  refine wpIn_mono (h B (fun _ => none) w st _ w _ hs (r := none)) fun e a' w' hq => ?_
  obtain ⟨σ', ρ', hq, hs'⟩ := hq
  have fin : (aResL P σ' fn.results.toList fun xs => argsP σ'.H xs fun ys _ => Outs ys r) → LeavesInM Fence.wide 0 P fn a'.tmps (fun e w' => ∃ v', e = .returned v' ∧ RepV w' B (fun _ => none) r v' ∧ Below w.heap.size w w') a'.defers .returning w' := fun hq => leaves_of _ _ hs' fun w' hs' => by
    obtain ⟨xs, us, h1, h2, h3, h4⟩ := res_ok (P := P) hs' _ _ hq
    obtain ⟨ys, rs, h5, h6, h7⟩ := argsP_ok hs'.heap (hs'.hfar st) xs us _ h3 h4 h1
    refine ⟨_, results_run h2, _, rfl, ?_, hs'.below⟩
    refine (Outs.rep h5 (by omega) (h7 rs fun _ h => h)).mono (Ext.less fun b hb => .inl hb)
  cases e with
  | normal => exact fin hq
  | ret => exact fin hq
  | exit id => exact hq.elim
  | goto l => exact hq.elim
  | panic c => exact hq.elim
  | outgrown => exact hq.elim
theorem AWp.seq {P : Program} {x y : Code} {Q : Exit → St → Prop} {σ : St} (h : AWp P x (thenE (fun σ => AWp P y Q σ) Q) σ) : AWp P (.seq x y) Q σ := by
  intro B A W st a w ρ hs r _
  refine wpIn_seq (wpIn_mono (h B A W st a w ρ hs (r := r)) ?_)
  rintro e a' w' ⟨σ', ρ', h1, h2⟩
  cases e with
  | normal => exact h1 B A W st a' w' ρ' h2
  | exit id => exact ⟨σ', ρ', h1, h2⟩
  | goto l => exact ⟨σ', ρ', h1, h2⟩
  | ret => exact ⟨σ', ρ', h1, h2⟩
  | panic c => exact ⟨σ', ρ', h1, h2⟩
  | outgrown => exact ⟨σ', ρ', h1, h2⟩
/-- What stands behind is shown from a state written out. -/
theorem AWp.from {P : Program} {c : Code} {Q : Exit → St → Prop} {σ σ' : St} (hw : Wk σ σ') (h : AWp P c Q σ') : AWp P c Q σ := h.weaken hw
end Go.Proofs.YtfbogelmgdojgaaGreat
