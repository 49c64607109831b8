/- Texts A13 in one. -/
import Derived.Test.YtfbogelmgdojgaaGreatR05
/- The abstract operation, all kinds joined, and calls by contract. No program in sight. -/
namespace Go.Proofs.YtfbogelmgdojgaaGreat
set_option linter.unusedSimpArgs false
set_option linter.unusedVariables false
open Go.RowKit

def pureB : V → Bool
 | .ptr .. | .sl .. | .clo .. | .tup _ => false
 | _ => true
def pureA : V → Bool
 | .ptr .. | .sl .. | .tup _ => false
 | .clo _ a b => a.all (fun x => x.atoms.all pureB) && b.all (fun x => x.atoms.all pureB)
 | _ => true
def V.pure (x : V) : Bool := x.atoms.all pureA
def allPure (l : List V) : Prop := ∀ y ∈ l, y.pure = true
def scalarA : V → Bool
 | .raw _ => true
 | _ => false
def V.scalar : V → Bool
 | .tup l => l.all scalarA
 | x => scalarA x
def frzs (F : V → (V → List Nat → Prop) → Prop) : List V → (List V → List Nat → Prop) → Prop
 | [], k => k [] []
 | x :: xs, k => F x fun y r => frzs F xs fun ys rs => k (y :: ys) (r ++ rs)
def frzE (F : V → (V → List Nat → Prop) → Prop) (x : V) (k : V → List Nat → Prop) : Prop :=
 if x.isAgg = true then (if x.pure = true then k x [] else x.good = true ∧ frzs F x.atoms fun ys rs => k (.agg ys) rs) else F x k
def argN (H : Hp) : Nat → V → (V → List Nat → Prop) → Prop
 | 0, x, k => x.pure = true ∧ k x []
 | n + 1, x, k => match x with
   | .sl b e o m => (match aElems H (.sl b e o m) with
     | some (L, rs) => frzs (frzE (argN H n)) L fun L' ids => k (.lst L') (rs ++ ids)
     | none => False)
   | .raw (.slice none 0 0) => k (.lst []) []
   | .emp => k (.lst []) []
   | .ptr b e i off => (match H b with
     | some y => (y.e = e ∧ off = 0) ∧ (match y.l[i]? with
       | some z => frzE (argN H n) z fun z' ids => k (.pel z') (b :: ids)
       | none => False)
     | none => False)
   | .clo f first caps => if (V.clo f first caps).pure = true then k (.clo f first caps) [] else ((first.all fun x => x.atoms.all pureB) = true ∧ (caps.all fun x => !x.isAgg) = true) ∧ frzs (argN H n) caps fun ys ids => (ys.all fun x => x.atoms.all pureB) = true ∧ k (.clo f first ys) ids
   | x => x.pure = true ∧ k x []
def argA (H : Hp) (x : V) (k : V → List Nat → Prop) : Prop := argN H 3 x k
def argsA (H : Hp) (xs : List V) (k : List V → List Nat → Prop) : Prop := frzs (argN H 3) xs k
def arg1 (H : Hp) (x : V) (k : V → List Nat → Prop) : Prop := frzE (argN H 3) x k
def argsP (H : Hp) (xs : List V) (k : List V → List Nat → Prop) : Prop := frzs (frzE (argN H 3)) xs k
def callable (P : Program) (f : FuncId) : Bool :=
 match P.funcs[f]? with
 | some fn => !(fn.name == "runtime.NumGoroutine") && fn.body.isSome
 | none => false
abbrev Tab := FuncId → List V → Option (Prop × V)
def TabOk (P : Program) (Γ : Tab) : Prop := ∀ f args p r, Γ f args = some (p, r) → callable P f = true ∧ (p → PCall P f args r)
def GCall (P : Program) (f : FuncId) (args : List V) (H : Hp) (n : Nat) (r : V) (ws : List (Nat × Option Blk)) : Prop :=
 ∀ (B : Nat → Prop) (w : World) (ρ : Nat → Option Nat) (vs : List Value), HRep w (own B ρ H) ρ H → ρ n = none → (∀ b, B b → b < w.heap.size) → (∀ k x b, H k = some x → ρ k = some b → ¬ B b) →
  vs.length = args.length → (∀ (j : Nat) (x : V) (v : Value), args[j]? = some x → vs[j]? = some v → RepW w (own B ρ H) ρ x v) →
  Calls P f vs.toArray w fun e w' => ∃ v ρ', e = .returned v ∧ Step H w ρ (H.puts ws) w' ρ' ∧ HRep w' (own B ρ' (H.puts ws)) ρ' (H.puts ws) ∧ (∀ k, k ≠ n → ρ k = none → ρ' k = none) ∧ RepV w' (own B ρ' (H.puts ws)) ρ' r v
abbrev Gab := FuncId → List V → Hp → Nat → Option (Prop × V × List (Nat × Option Blk) × List Nat)
def GabOk (P : Program) (Δ : Gab) : Prop := ∀ f args H n p r ws rs, Δ f args H n = some (p, r, ws, rs) → callable P f = true ∧ (p → GCall P f args H n r ws)
def V.noTup : V → Bool
 | .tup _ => false
 | _ => true
def aCallF (Γ : Tab) (Δ : Gab) (f : FuncId) (args : List V) (H : Hp) (n : Nat) (k : Kt) : Prop :=
 match Δ f args H n with
 | some (p, r, ws, rs) => args.all V.noTup = true ∧ p ∧ k r ws rs
 | none => argsP H args fun ys ids => match Γ f ys with
   | some (p, r) => p ∧ k r (if r.scalar = true then [] else ids.map fun j => (j, none)) ids
   | none => False
def aBuiltin (P : Program) (b : Builtin) (ts : List TypeId) (args : List V) (H : Hp) (n : Nat) (k : Kt) : Prop :=
 match b, ts, args with
 | .len, [t], [x] => aLen P t x fun z => k z [] []
 | .min, [_, _], [x, y] => aMin x y fun z => k z [] []
 | .max, [_, _], [x, y] => aMax x y fun z => k z [] []
 | .append, [t, t'], [x, y] => aAppend P t t' H n x y k
 | .copy, [t, _], [x, y] => aCopy P t H x y k
 | _, _, _ => False
def aCall (P : Program) (Γ : Tab) (Δ : Gab) (c : Call) (e : Operand → V) (H : Hp) (n : Nat) (k : Kt) : Prop :=
 match c.callee with
 | .builtin b => aBuiltin P b c.argTypes.toList (c.args.toList.map e) H n k
 | .value f => (match e f with
   | .clo (.func g) first caps => aCallF Γ Δ g (first ++ c.args.toList.map e ++ caps) H n k
   | _ => False)
 | _ => False
def aop (P : Program) (Γ : Tab) (Δ : Gab) (o : Op) (e : Operand → V) (H : Hp) (n : Nat) (k : Kt) : Prop :=
 match o with
 | .move x => k (e x) [] []
 | .assign x => k (e x) [] []
 | .pick c x y => aPick (e c) (e x) (e y) fun z => k z [] []
 | .alloc t => aAlloc P t n k
 | .box t x => aBox t (e x) n k
 | .build t ps => aBuild P t e ps.toList fun z => k z [] []
 | .buildSlice t len ps => aBuildSlice P t len e ps.toList n k
 | .load t p => aLoad P H t (e p) k
 | .store t p x => aStore P H t (e p) (e x) k
 | .nilCheck x => aNil (e x) fun z => k z [] []
 | .binOp op t x y _ => aBin P op t (e x) (e y) fun z => k z [] []
 | .unOp op _ x => aUn op (e x) fun z => k z [] []
 | .convert s t x => (∃ d, P.underlying s = some d) ∧ aConvK P s t H (e x) k
 | .makeFunc fn first caps => ((first.toList.map e).all V.plain && (caps.toList.map e).all V.plain) = true ∧ k (.clo fn (first.toList.map e) (caps.toList.map e)) [] []
 | .makeSlice t l c => aMake P t (e l) (e c) n k
 | .slice t x lo hi mx => aSlice P t (e x) (lo.map e) (hi.map e) (mx.map e) fun z => k z [] []
 | .fieldAddr t x f => aFieldAddr P t (e x) f fun z => k z [] []
 | .field t x f => aField P t (e x) f fun z => k z [] []
 | .indexAddr t x i => aIndexAddr P t (e x) (e i) fun z => k z [] []
 | .index t x i => aIndex P t (e x) (e i) fun z => k z [] []
 | .extract t i => aExtract (e t) i fun z => k z [] []
 | .call c => aCall P Γ Δ c e H n k
 | _ => False

section
variable {P : Program} {B : Nat → Prop} {H : Hp} {w : World} {ρ : Nat → Option Nat} {n : Nat} {a : Act} {o : Oper}
theorem RepA.pureB {O x v} (h : RepA w O ρ x v) (hp : pureB x = true) : RepA w O (fun _ => none) x v := by
 cases h with
 | any => exact .any _ _
 | raw => exact .raw _ _
 | emp => exact .emp _ _
 | ptr => simp [Go.Proofs.YtfbogelmgdojgaaGreat.pureB] at hp
 | sl => simp [Go.Proofs.YtfbogelmgdojgaaGreat.pureB] at hp
 | nil => exact .nil _ _ _
 | lst _ l b a c vs h0 hc hb hO hu hs hl hr => exact .lst _ _ _ _ _ vs h0 hc hb hO hu hs hl hr
 | pel _ x b a vs hb hO hs hl hr => exact .pel _ _ _ _ vs hb hO hs hl hr
 | clo => simp [Go.Proofs.YtfbogelmgdojgaaGreat.pureB] at hp
theorem RepA.pureA {O x v} (h : RepA w O ρ x v) (hp : pureA x = true) : RepA w O (fun _ => none) x v := by
 cases h with
 | any => exact .any _ _
 | raw => exact .raw _ _
 | emp => exact .emp _ _
 | ptr => simp [Go.Proofs.YtfbogelmgdojgaaGreat.pureA] at hp
 | sl => simp [Go.Proofs.YtfbogelmgdojgaaGreat.pureA] at hp
 | nil => exact .nil _ _ _
 | lst _ l b a c vs h0 hc hb hO hu hs hl hr => exact .lst _ _ _ _ _ vs h0 hc hb hO hu hs hl hr
 | pel _ x b a vs hb hO hs hl hr => exact .pel _ _ _ _ vs hb hO hs hl hr
 | clo _ fn first caps vf vc h1 h2 s1 s2 r1 r2 =>
   simp only [Go.Proofs.YtfbogelmgdojgaaGreat.pureA, Bool.and_eq_true, List.all_eq_true] at hp
   exact .clo _ _ _ _ _ _ h1 h2 s1 s2
    (fun j x v hj hv i y u hy hu => (r1 j x v hj hv i y u hy hu).pureB (hp.1 x (List.mem_of_getElem? hj) y (List.mem_of_getElem? hy)))
    (fun j x v hj hv i y u hy hu => (r2 j x v hj hv i y u hy hu).pureB (hp.2 x (List.mem_of_getElem? hj) y (List.mem_of_getElem? hy)))
theorem RepW.pure {O x v} (h : RepW w O ρ x v) (hp : x.pure = true) : RepW w O (fun _ => none) x v := by
 rcases h with h | ⟨h1, h2⟩
 ·exact .inl h
 ·refine .inr ⟨h1, fun i y u hy hu => (h2 i y u hy hu).pureA ?_⟩
  unfold V.pure at hp
  exact List.all_eq_true.1 hp y (List.mem_of_getElem? hy)
def Hp.drops (H : Hp) (ids : List Nat) : Hp := fun k => if k ∈ ids then none else H k
theorem Hp.puts_drops : ∀ (ids : List Nat) (H : Hp), H.puts (ids.map fun j => (j, none)) = H.drops ids
 | [], H => by funext k; simp [Hp.puts, Hp.drops]
 | i :: ids, H => by
   simp only [List.map_cons, Hp.puts]
   rw [Hp.puts_drops ids]
   funext k
   simp only [Hp.drops, Hp.up, List.mem_cons]
   by_cases h1 : k ∈ ids <;> by_cases h2 : k = i <;> simp [h1, h2]
theorem HRep.drops (hH : HRep w (own B ρ H) ρ H) (ids : List Nat) : HRep w (own B ρ (H.drops ids)) ρ (H.drops ids) ∧ Step H w ρ (H.drops ids) w ρ := by
 have live : ∀ i q, (H.drops ids) i = some q → H i = some q := fun i q hi => by
  unfold Hp.drops at hi
  split at hi
  ·cases hi
  ·exact hi
 have hx : Ext w (own B ρ H) ρ w (own B ρ (H.drops ids)) ρ := Ext.less fun b hb => by
  rcases hb with hb | ⟨i, q, h1, h2⟩
  ·exact .inl hb
  ·exact .inr ⟨i, q, live i q h1, h2⟩
 refine ⟨⟨fun i q hi => ?_, fun i i' q q' b h1 h2 h3 h4 => hH.inj i i' q q' b (live _ _ h1) (live _ _ h2) h3 h4⟩, ⟨fun _ _ h => h, fun _ _ _ => rfl, fun i q b h e => .inl ⟨i, q, live i q h, e⟩, Nat.le_refl _, fun _ _ _ _ h => ⟨_, _, _, h, rfl⟩, rfl, rfl, rfl⟩⟩
 obtain ⟨b, arr, g1, g2, g3, g4, g5⟩ := hH.row i q (live i q hi)
 exact ⟨b, arr, g1, g2, g3, g4, fun j y u hy hu => (g5 j y u hy hu).mono hx⟩
theorem drops_ext (H : Hp) (ids : List Nat) : Ext w (own B ρ H) ρ w (own B ρ (H.drops ids)) ρ := Ext.less fun b hb => by
 rcases hb with hb | ⟨i, q, h1, h2⟩
 ·exact .inl hb
 ·refine .inr ⟨i, q, ?_, h2⟩
  unfold Hp.drops at h1
  split at h1
  ·cases h1
  ·exact h1
theorem atomsL_all {p : V → Bool} {l : List V} (h : ∀ y ∈ l, y.atoms.all p = true) : ∀ z ∈ V.atomsL l, p z = true := by
 induction l with
 | nil => intro z hz; simp [V.atomsL] at hz
 | cons x l ih =>
   intro z hz
   simp only [V.atomsL, List.mem_append] at hz
   rcases hz with hz | hz
   ·exact List.all_eq_true.1 (h x (by simp)) z hz
   ·exact ih (fun y hy => h y (by simp [hy])) z hz
def Frz (B : Nat → Prop) (H : Hp) (w : World) (ρ : Nat → Option Nat) (F : V → (V → List Nat → Prop) → Prop) : Prop :=
 ∀ (x : V) (v : Value) (k : V → List Nat → Prop), x.isAgg = false → RepA w (own B ρ H) ρ x v → F x k → ∃ y rs, k y rs ∧ y.isAgg = false ∧ ∀ ids, (∀ i ∈ rs, i ∈ ids) → RepA w (own B ρ (H.drops ids)) (fun _ => none) y v
theorem frzs_ok {F : V → (V → List Nat → Prop) → Prop} (hF : Frz B H w ρ F) : ∀ (xs : List V) (vs : List Value) (k : List V → List Nat → Prop), vs.length = xs.length → (∀ x ∈ xs, x.isAgg = false) →
 (∀ (j : Nat) (x : V) (v : Value), xs[j]? = some x → vs[j]? = some v → RepA w (own B ρ H) ρ x v) → frzs F xs k →
 ∃ ys rs, k ys rs ∧ ys.length = xs.length ∧ (∀ y ∈ ys, y.isAgg = false) ∧ ∀ ids, (∀ i ∈ rs, i ∈ ids) → ∀ (j : Nat) (y : V) (v : Value), ys[j]? = some y → vs[j]? = some v → RepA w (own B ρ (H.drops ids)) (fun _ => none) y v
 | [], vs, k, hl, _, hr, h => ⟨[], [], h, rfl, by simp, fun _ _ j y v hy _ => by simp at hy⟩
 | x :: xs, vs, k, hl, hf, hr, h => by
   cases vs with
   | nil => simp at hl
   | cons v vs =>
     simp only [frzs] at h
     obtain ⟨y, r, h, hy0, hy⟩ := hF _ _ _ (hf x (by simp)) (hr 0 x v rfl rfl) h
     obtain ⟨ys, rs, h, hl', hf', hys⟩ := frzs_ok hF xs vs _ (by simpa using hl) (fun z hz => hf z (by simp [hz])) (fun j x v h1 h2 => hr (j + 1) x v (by simpa using h1) (by simpa using h2)) h
     refine ⟨y :: ys, r ++ rs, h, by simp [hl'], fun z hz => ?_, fun ids hids j z u hz hu => ?_⟩
     ·rcases List.mem_cons.1 hz with rfl | hz
      ·exact hy0
      ·exact hf' z hz
     ·cases j with
      | zero =>
        simp at hz hu
        subst hz hu
        exact hy ids fun i hi => hids i (by simp [hi])
      | succ j => exact hys ids (fun i hi => hids i (by simp [hi])) j z u (by simpa using hz) (by simpa using hu)
theorem frzE_ok {F : V → (V → List Nat → Prop) → Prop} (hF : Frz B H w ρ F) {x : V} {us : List Value} {k : V → List Nat → Prop} (hl : us.length = x.atoms.length) (hr : ∀ (j : Nat) (a : V) (u : Value), x.atoms[j]? = some a → us[j]? = some u → RepA w (own B ρ H) ρ a u) (h : frzE F x k) :
 ∃ y rs, k y rs ∧ y.wid = x.wid ∧ y.isAgg = x.isAgg ∧ ∀ ids, (∀ i ∈ rs, i ∈ ids) → ∀ (j : Nat) (a : V) (u : Value), y.atoms[j]? = some a → us[j]? = some u → RepA w (own B ρ (H.drops ids)) (fun _ => none) a u := by
 unfold frzE at h
 by_cases ha : x.isAgg = true
 ·rw [if_pos ha] at h
  by_cases hp : x.pure = true
  ·rw [if_pos hp] at h
   refine ⟨x, [], h, rfl, rfl, fun ids _ j a u hj hu => ((hr j a u hj hu).mono (drops_ext H ids)).pureA ?_⟩
   unfold V.pure at hp
   exact List.all_eq_true.1 hp a (List.mem_of_getElem? hj)
  ·rw [if_neg hp] at h
   obtain ⟨_, h⟩ := h
   obtain ⟨ys, rs, h1, h2, h3, h4⟩ := frzs_ok hF x.atoms us _ hl (V.atoms_flat x) hr h
   refine ⟨.agg ys, rs, h1, ?_, by rw [ha]; rfl, fun ids hids j a u hj hu => ?_⟩
   ·show (V.atomsL ys).length = _
    rw [V.atomsL_flat h3, h2]; rfl
   ·have hj' : (V.atomsL ys)[j]? = some a := hj
    rw [V.atomsL_flat h3] at hj'
    exact h4 ids hids j a u hj' hu
 ·rw [if_neg ha] at h
  have ha' : x.isAgg = false := by simpa using ha
  have hat := V.atoms_single ha'
  rw [hat] at hl hr
  match us, hl with
  | [v], _ =>
    obtain ⟨y, rs, h1, h2, h3⟩ := hF x v k ha' (hr 0 x v rfl rfl) h
    have hat' := V.atoms_single h2
    refine ⟨y, rs, h1, by unfold V.wid; rw [hat, hat']; rfl, by rw [h2, ha'], fun ids hids j a u hj hu => ?_⟩
    rw [hat'] at hj
    cases j with
    | zero => simp at hj hu; subst hj hu; exact h3 ids hids
    | succ j => simp at hj
theorem frzL_ok {F : V → (V → List Nat → Prop) → Prop} (hF : Frz B H w ρ F) : ∀ (L : List V) (us : List Value) (k : List V → List Nat → Prop), us.length = (V.atomsL L).length →
 (∀ (j : Nat) (a : V) (u : Value), (V.atomsL L)[j]? = some a → us[j]? = some u → RepA w (own B ρ H) ρ a u) → frzs (frzE F) L k →
 ∃ L' rs, k L' rs ∧ L'.length = L.length ∧ (∀ (i : Nat) (y x : V), L'[i]? = some y → L[i]? = some x → y.wid = x.wid ∧ y.isAgg = x.isAgg) ∧ (V.atomsL L').length = (V.atomsL L).length ∧
  ∀ ids, (∀ i ∈ rs, i ∈ ids) → ∀ (j : Nat) (a : V) (u : Value), (V.atomsL L')[j]? = some a → us[j]? = some u → RepA w (own B ρ (H.drops ids)) (fun _ => none) a u
 | [], us, k, _, _, h => ⟨[], [], h, rfl, fun i y x hy _ => by simp at hy, rfl, fun _ _ j a u hj _ => by simp [V.atomsL] at hj⟩
 | x :: L, us, k, hl, hr, h => by
   simp only [frzs] at h
   simp only [V.atomsL, List.length_append] at hl
   obtain ⟨y, r, h, hw, hg, hy⟩ := frzE_ok hF (us := us.take x.atoms.length) (by rw [List.length_take]; omega) (fun j a u hj hu => hr j a u (by
    have := (List.getElem?_eq_some_iff.1 hj).1
    simp only [V.atomsL]
    rw [List.getElem?_append_left this]; exact hj) (by
    have := (List.getElem?_eq_some_iff.1 hj).1
    rw [List.getElem?_take, if_pos this] at hu; exact hu)) h
   obtain ⟨L', rs, h, hl', hw', hlen, hL⟩ := frzL_ok hF L (us.drop x.atoms.length) _ (by rw [List.length_drop]; omega) (fun j a u hj hu => hr (x.atoms.length + j) a u (by
    simp only [V.atomsL]
    rw [List.getElem?_append_right (by omega), Nat.add_sub_cancel_left]; exact hj) (by rw [List.getElem?_drop] at hu; exact hu)) h
   have hyl : y.atoms.length = x.atoms.length := hw
   refine ⟨y :: L', r ++ rs, h, by simp [hl'], fun i z x' hz hx' => ?_, by simp only [V.atomsL, List.length_append, hlen, hyl], fun ids hids j a u hj hu => ?_⟩
   ·cases i with
    | zero => simp at hz hx'; subst hz hx'; exact ⟨hw, hg⟩
    | succ i => exact hw' i z x' (by simpa using hz) (by simpa using hx')
   ·simp only [V.atomsL] at hj
    by_cases hjl : j < y.atoms.length
    ·rw [List.getElem?_append_left hjl] at hj
     exact hy ids (fun i hi => hids i (by simp [hi])) j a u hj (by rw [List.getElem?_take, if_pos (by omega)]; exact hu)
    ·rw [List.getElem?_append_right (by omega)] at hj
     exact hL ids (fun i hi => hids i (by simp [hi])) (j - y.atoms.length) a u hj (by rw [List.getElem?_drop, ← hyl, show y.atoms.length + (j - y.atoms.length) = j from by omega]; exact hu)
theorem own_drop (hH : HRep w (own B ρ H) ρ H) (hfar : ∀ k x b, H k = some x → ρ k = some b → ¬ B b) {b : Nat} {q : Blk} {b' : Nat} (hb : H b = some q) (q1 : ρ b = some b') {ids : List Nat} (hi : b ∈ ids) : ¬ own B ρ (H.drops ids) b' := by
 rintro (hB | ⟨i, z, h1, h2⟩)
 ·exact hfar b q b' hb q1 hB
 ·unfold Hp.drops at h1
  split at h1
  ·cases h1
  ·rename_i hn
   have := hH.inj i b z q b' h1 hb h2 q1
   rw [this] at hn
   exact hn hi
theorem argN_ok (hH : HRep w (own B ρ H) ρ H) (hfar : ∀ k x b, H k = some x → ρ k = some b → ¬ B b) : ∀ n : Nat, Frz B H w ρ (argN H n) := by
 intro n
 induction n with
 | zero =>
   intro x v k ha hx h
   obtain ⟨hp, h⟩ := h
   refine ⟨x, [], h, ha, fun ids _ => (hx.mono (drops_ext H ids)).pureA ?_⟩
   unfold V.pure at hp
   rw [V.atoms_single ha] at hp
   simpa using hp
 | succ n ih =>
   intro x v k ha hx h
   unfold argN at h
   split at h
   ·rename_i b e o m
    split at h
    ·rename_i L rs hel
     have hel' := hel
     unfold aElems at hel'
     simp only at hel'
     cases hb : H b with
     | none => rw [hb] at hel'; simp at hel'
     | some q =>
       rw [hb] at hel'
       simp only at hel'
       split at hel'
       ·rename_i hfit
        obtain ⟨hqe, hfit⟩ := hfit
        simp only [Option.some.injEq, Prod.mk.injEq] at hel'
        obtain ⟨hL, hrs⟩ := hel'
        obtain ⟨b', arr', q1, q2, q3, q4, q5⟩ := hH.row _ _ hb
        have hLw : allWid L e := fun y hy => by
         rw [← hL] at hy
         rw [q3 y (List.mem_of_mem_drop (List.mem_of_mem_take hy)), hqe]
        have hxW : RepV w (own B ρ H) ρ (.sl b e o m) v := RepV.of_W (RepW.of_atom hx rfl (by cases hx; rfl)) (by intro l h; cases h)
        obtain ⟨A, c, news, rfl, hc, hcl, _, hst, _⟩ := elems_src (P := default) hH hxW hel hLw (fun k e' o m he => by cases he; rfl)
        obtain ⟨L', ids0, hk, hll, hww, hlen, hrep⟩ := frzL_ok ih L news _ hcl.len hcl.rep h
        refine ⟨_, _, hk, rfl, fun ids hids => ?_⟩
        rw [← hll] at hc ⊢
        by_cases hL0 : L' = []
        ·rw [hL0]; exact .nil _ _ _
        ·have hL1 : L ≠ [] := fun e => hL0 (List.eq_nil_of_length_eq_zero (by rw [hll, e]; rfl))
         obtain ⟨bb, off, rfl, hs⟩ := hst hL1
         have hbb : bb = b' := by
          cases hx with
          | sl _ _ _ _ _ _ _ _ _ _ g1 => rw [g1] at q1; injection q1
         subst hbb
         have hLw' : allWid L' e := fun y hy => by
          obtain ⟨i, hi⟩ := List.getElem?_of_mem hy
          have hil : i < L.length := by rw [← hll]; exact (List.getElem?_eq_some_iff.1 hi).1
          rw [(hww i y _ hi (List.getElem?_eq_getElem hil)).1]
          exact hLw _ (List.getElem_mem hil)
         exact .lst _ _ _ _ _ news hL0 hc (Array.getElem?_eq_some_iff.1 q2).1 (own_drop hH hfar hb q1 (hids b (by rw [← hrs]; simp))) ⟨e, hLw'⟩ hs (by rw [hlen]; exact hcl.len) fun j y u hy hu => hrep ids (fun i hi => hids i (by simp [hi])) j y u hy hu
       ·cases hel'
    ·exact h.elim
   ·have e := RepW.rawOf hx
    subst e
    exact ⟨_, _, h, rfl, fun _ _ => .nil _ _ _⟩
   ·cases hx with
    | emp => exact ⟨_, _, h, rfl, fun _ _ => .nil _ _ _⟩
   ·rename_i b e i off
    split at h
    ·rename_i q hb
     obtain ⟨⟨rfl, rfl⟩, h⟩ := h
     split at h
     ·rename_i z hz
      obtain ⟨b', arr', q1, q2, q3, q4, q5⟩ := hH.row _ _ hb
      have hzw : z.wid = q.e := q3 z (List.mem_of_getElem? hz)
      have hal := V.atomsL_length q3
      have hil : i < q.l.length := (List.getElem?_eq_some_iff.1 hz).1
      have hfit : i * q.e + q.e ≤ arr'.size := by
       have : (i + 1) * q.e ≤ q.l.length * q.e := Nat.mul_le_mul_right _ (by omega)
       rw [Nat.add_mul, Nat.one_mul] at this
       omega
      have hus : ((arr'.toList.drop (i * q.e)).take q.e).length = q.e := by rw [List.length_take, List.length_drop, Array.length_toList]; omega
      have hget : ∀ j, j < q.e → ((arr'.toList.drop (i * q.e)).take q.e)[j]? = arr'[i * q.e + j]? := fun j hj => by
       rw [List.getElem?_take, if_pos hj, List.getElem?_drop, Array.getElem?_toList]
      obtain ⟨z', ids0, hk, hw, _, hrep⟩ := frzE_ok ih (us := (arr'.toList.drop (i * q.e)).take q.e) (by rw [hus]; exact hzw.symm) (fun j a u hj hu => by
       have hj' : j < q.e := by rw [← hzw]; exact (List.getElem?_eq_some_iff.1 hj).1
       rw [hget j hj'] at hu
       exact q5 (i * q.e + j) a u (by rw [V.atomsL_get q3 hz hj']; exact hj) hu) h
      refine ⟨_, _, hk, rfl, fun ids hids => ?_⟩
      cases hx with
      | ptr _ _ _ _ _ b2 g1 =>
        rw [q1] at g1
        injection g1 with g1
        subst g1
        refine .pel _ _ _ _ ((arr'.toList.drop (i * q.e)).take q.e) (Array.getElem?_eq_some_iff.1 q2).1 (own_drop hH hfar hb q1 (hids b (by simp))) (fun j u hj => ?_) (by rw [hus, ← hzw]; exact hw.symm) fun j a u hj hu => hrep ids (fun i hi => hids i (by simp [hi])) j a u hj hu
        have hj' : j < q.e := by rw [← hus]; exact (List.getElem?_eq_some_iff.1 hj).1
        rw [hget j hj'] at hj
        unfold World.cell?
        simp only [q2, Nat.add_zero]
        simpa using hj
     ·exact h.elim
    ·exact h.elim
   ·rename_i f first caps
    split at h
    ·rename_i hp
     refine ⟨_, _, h, rfl, fun ids _ => (hx.mono (drops_ext H ids)).pureA ?_⟩
     unfold V.pure at hp
     simpa [V.atoms] using hp
    ·obtain ⟨⟨p1, p2⟩, h⟩ := h
     cases hx with
     | clo _ _ _ _ vf vc h1 h2 s1 s2 r1 r2 =>
       have hflat : ∀ x ∈ caps, x.isAgg = false := fun x hx => by simpa using List.all_eq_true.1 p2 x hx
       have single : ∀ (j : Nat) (x : V) (u : Value), caps[j]? = some x → vc[j]? = some u → u.cells = #[u] ∧ RepA w (own B ρ H) ρ x u := fun j x u hj hu => by
        have hxf := hflat x (List.mem_of_getElem? hj)
        have hc := (s2 j x u hj hu).2.1 hxf
        exact ⟨hc, r2 j x u hj hu 0 x u (by rw [V.atoms_single hxf]; rfl) (by rw [hc]; rfl)⟩
       obtain ⟨ys, rs, ⟨p3, hk⟩, hl, hf, hr⟩ := frzs_ok ih caps vc.toList _ (by simp [h2]) hflat (fun j x u hj hu => (single j x u hj (by simpa using hu)).2) h
       refine ⟨_, _, hk, rfl, fun ids hids => ?_⟩
       refine .clo _ _ _ _ _ _ h1 (by omega) s1 (fun j y u hj hu => ?_) (fun j y u hj hu i a c ha hc => ?_) (fun j y u hj hu i a c ha hc => ?_)
       ·have hyf := hf y (List.mem_of_getElem? hj)
        have hjl : j < caps.length := by rw [← hl]; exact (List.getElem?_eq_some_iff.1 hj).1
        have hcc := (single j _ u (List.getElem?_eq_getElem hjl) hu).1
        exact ⟨(fun h' => absurd (hyf.symm.trans h') (by decide)), fun _ => hcc, by rw [V.atoms_single hyf, hcc]; rfl⟩
       ·exact ((r1 j y u hj hu i a c ha hc).mono (drops_ext H ids)).pureB (List.all_eq_true.1 (List.all_eq_true.1 p1 y (List.mem_of_getElem? hj)) a (List.mem_of_getElem? ha))
       ·have hyf := hf y (List.mem_of_getElem? hj)
        have hjl : j < caps.length := by rw [← hl]; exact (List.getElem?_eq_some_iff.1 hj).1
        have hcc := (single j _ u (List.getElem?_eq_getElem hjl) hu).1
        have hry := hr ids hids j y u hj (by simpa using hu)
        rw [V.atoms_single hyf] at ha
        rw [hcc] at hc
        cases i with
        | zero => simp at ha hc; subst ha hc; exact hry
        | succ i => simp at ha
   ·obtain ⟨hp, h⟩ := h
    refine ⟨_, _, h, ha, fun ids _ => (hx.mono (drops_ext H ids)).pureA ?_⟩
    unfold V.pure at hp
    rw [V.atoms_single ha] at hp
    simpa using hp
theorem arg1_ok {x : V} {v : Value} {k} (hH : HRep w (own B ρ H) ρ H) (hfar : ∀ k x b, H k = some x → ρ k = some b → ¬ B b) (hx : RepV w (own B ρ H) ρ x v) (h : arg1 H x k) :
 ∃ y rs, k y rs ∧ ∀ ids, (∀ i ∈ rs, i ∈ ids) → RepW w (own B ρ (H.drops ids)) (fun _ => none) y v := by
 by_cases htup : ∃ l, x = .tup l
 ·obtain ⟨l, rfl⟩ := htup
  exfalso
  unfold arg1 frzE at h
  rw [if_neg (by simp [V.isAgg])] at h
  unfold argN at h
  simp [V.pure, V.atoms, Go.Proofs.YtfbogelmgdojgaaGreat.pureA] at h
 have hW : RepW w (own B ρ H) ρ x v := by cases x <;> first | exact hx | exact absurd ⟨_, rfl⟩ htup
 rcases hW with rfl | ⟨hsh, hr⟩
 ·unfold arg1 frzE at h
  rw [if_neg (by simp [V.isAgg])] at h
  unfold argN at h
  exact ⟨_, _, h.2, fun _ _ => .inl rfl⟩
 ·obtain ⟨y, rs, hk, hw, hg, hrep⟩ := frzE_ok (argN_ok hH hfar 3) (us := v.cells.toList) (by simpa using hsh.2.2.symm) (fun j a u hj hu => hr j a u hj (by simpa using hu)) h
  refine ⟨y, rs, hk, fun ids hids => .inr ⟨⟨fun h => hsh.1 (by rw [← hg]; exact h), fun h => hsh.2.1 (by rw [← hg]; exact h), ?_⟩, fun i a u ha hu => hrep ids hids i a u ha (by simpa using hu)⟩⟩
  exact hw.trans hsh.2.2
theorem argsP_ok (hH : HRep w (own B ρ H) ρ H) (hfar : ∀ k x b, H k = some x → ρ k = some b → ¬ B b) : ∀ (xs : List V) (vs : List Value) (k : List V → List Nat → Prop), vs.length = xs.length →
 (∀ (j : Nat) (x : V) (v : Value), xs[j]? = some x → vs[j]? = some v → RepV w (own B ρ H) ρ x v) → argsP H xs k →
 ∃ ys rs, k ys rs ∧ ys.length = xs.length ∧ ∀ ids, (∀ i ∈ rs, i ∈ ids) → ∀ (j : Nat) (y : V) (v : Value), ys[j]? = some y → vs[j]? = some v → RepW w (own B ρ (H.drops ids)) (fun _ => none) y v
 | [], vs, k, hl, hr, h => ⟨[], [], h, rfl, fun _ _ j y v hy _ => by simp at hy⟩
 | x :: xs, vs, k, hl, hr, h => by
   cases vs with
   | nil => simp at hl
   | cons v vs =>
     have h' : arg1 H x fun y r => argsP H xs fun ys rs => k (y :: ys) (r ++ rs) := h
     obtain ⟨y, r, h, hy⟩ := arg1_ok hH hfar (hr 0 x v rfl rfl) h'
     obtain ⟨ys, rs, h, hl', hys⟩ := argsP_ok hH hfar xs vs _ (by simpa using hl) (fun j x v h1 h2 => hr (j + 1) x v (by simpa using h1) (by simpa using h2)) h
     refine ⟨y :: ys, r ++ rs, h, by simp [hl'], fun ids hids j z u hz hu => ?_⟩
     cases j with
     | zero =>
       simp at hz hu
       subst hz hu
       exact hy ids fun i hi => hids i (by simp [hi])
     | succ j => exact hys ids (fun i hi => hids i (by simp [hi])) j z u (by simpa using hz) (by simpa using hu)
theorem scalarA_rep {O O' ρ'} {w'} {x : V} {v : Value} (h : RepW w O ρ x v) (hs : scalarA x = true) : RepW w' O' ρ' x v := by
 cases x <;> simp [scalarA] at hs
 rename_i u
 have := RepW.raw_inv h
 subst this
 rcases h with h | ⟨h1, h2⟩
 ·cases h
 ·exact RepW.raw (h1.2.1 rfl)
theorem scalar_rep {O O' ρ'} {w'} {x : V} {v : Value} (h : RepV w O ρ x v) (hs : x.scalar = true) : RepV w' O' ρ' x v := by
 cases x
 case tup l =>
  obtain ⟨vs, rfl, hl, hr⟩ := h
  simp only [V.scalar, List.all_eq_true] at hs
  exact ⟨vs, rfl, hl, fun j y u hy hu => scalarA_rep (hr j y u hy hu) (hs y (List.mem_of_getElem? hy))⟩
 all_goals exact scalarA_rep h hs
theorem run_callFunc {f : FuncId} {args : Array Value} (h : callable P f = true) : (callFunc f args).run P w = .ok (.enter f args) w := by
 unfold callable at h
 cases hf : P.funcs[f]? with
 | none => rw [hf] at h; cases h
 | some fn =>
   rw [hf] at h
   simp only [Bool.and_eq_true, Bool.not_eq_true', beq_eq_false_iff_ne, ne_eq] at h
   obtain ⟨h1, h2⟩ := h
   simp [callFunc, hf, h1]
   intro hn
   rw [hn] at h2
   cases h2
theorem aCallF_ok {Γ : Tab} {Δ : Gab} (hΓ : TabOk P Γ) (hΔ : GabOk P Δ) {f : FuncId} {args : List V} {vs : List Value} {k : Kt} (hH : HRep w (own B ρ H) ρ H) (hf : ρ n = none) (hB : ∀ b, B b → b < w.heap.size) (hfar : ∀ k x b, H k = some x → ρ k = some b → ¬ B b)
 (hl : vs.length = args.length) (hr : ∀ (j : Nat) (x : V) (v : Value), args[j]? = some x → vs[j]? = some v → RepV w (own B ρ H) ρ x v) (h : aCallF Γ Δ f args H n k)
 (he : callable P f = true → (execOp a.eval o).run P w = .ok (.enter f vs.toArray) w) : ∃ z ws rs, k z ws rs ∧ OpOk P B H w ρ n a o z ws := by
 unfold aCallF at h
 split at h
 ·rename_i p r ws rs hd
  obtain ⟨hpl, hp, h⟩ := h
  obtain ⟨hc, hg⟩ := hΔ f args H n p r ws rs hd
  refine ⟨_, _, _, h, ?_⟩
  intro next Q hn
  unfold Oper.wp
  rw [he hc]
  refine (hg hp B w ρ vs hH hf hB hfar hl fun j x v h1 h2 => ?_).mono ?_
  ·have h3 := hr j x v h1 h2
   have h4 := List.all_eq_true.1 hpl x (List.mem_of_getElem? h1)
   cases x <;> first | exact h3 | (simp [V.noTup] at h4)
  ·rintro e w' ⟨v, ρ', rfl, h1, h2, h3, h4⟩
   exact hn v w' ρ' h1 h2 h3 h4
 ·obtain ⟨ys, ids, h, hyl, hys⟩ := argsP_ok hH hfar args vs _ hl hr h
  split at h
  ·rename_i p r hg
   obtain ⟨hp, h⟩ := h
   obtain ⟨hc, hpc⟩ := hΓ f ys p r hg
   refine ⟨_, _, _, h, ?_⟩
   obtain ⟨hD, hst⟩ := hH.drops ids
   intro next Q hn
   unfold Oper.wp
   rw [he hc]
   refine (hpc hp (own B ρ (H.drops ids)) w vs (by rw [hl, hyl]) (hys ids fun _ h => h) ?_).mono ?_
   ·rintro b (hb | ⟨i, q, h1, h2⟩)
    ·exact hB b hb
    ·exact hD.lt h1 h2
   ·rintro e w' ⟨v, rfl, h1, h2⟩
    have step0 : ∀ H0 : Hp, (∀ i q, H0 i = some q → H i = some q) → Step H w ρ H0 w' ρ := fun H0 hs => by
     refine ⟨fun _ _ e => e, fun b hb _ => h2.block b hb, fun i q b e1 e2 => .inl ⟨i, q, hs i q e1, e2⟩, h2.size, fun b arr t fr e => ⟨arr, t, fr, ?_, rfl⟩, h2.os, h2.tape, h2.output⟩
     rw [h2.block b (Array.getElem?_eq_some_iff.1 e).1]; exact e
    by_cases hs : r.scalar = true
    ·rw [if_pos hs] at hn
     have hst' := step0 H fun _ _ h => h
     refine hn v w' ρ hst' ?_ (fun _ _ h => h) (scalar_rep h1 hs)
     exact hH.mono (hst'.ext B) (fun i q b e1 e2 => h2.block b (hH.lt e1 e2)) (fun _ _ _ _ e => e)
    ·rw [if_neg hs] at hn
     rw [Hp.puts_drops] at hn
     have hst' := step0 (H.drops ids) fun i q hi => by
      unfold Hp.drops at hi
      split at hi
      ·cases hi
      ·exact hi
     have hst2 : Step (H.drops ids) w ρ (H.drops ids) w' ρ := by
      refine ⟨fun _ _ e => e, fun b hb _ => h2.block b hb, fun i q b e1 e2 => .inl ⟨i, q, e1, e2⟩, h2.size, fun b arr t fr e => ⟨arr, t, fr, ?_, rfl⟩, h2.os, h2.tape, h2.output⟩
      rw [h2.block b (Array.getElem?_eq_some_iff.1 e).1]; exact e
     refine hn v w' ρ hst' ?_ (fun _ _ h => h) (h1.mono ((Ext.refl _ _ _).into ρ))
     exact hD.mono (hst2.ext B) (fun i q b e1 e2 => h2.block b (hD.lt e1 e2)) (fun _ _ _ _ e => e)
  ·exact h.elim
theorem aBuiltin_ok {b : Builtin} {ts : Array TypeId} {ty : TypeId} {cs : Array Bool} {args : List V} {vs : List Value} {k : Kt} (hH : HRep w (own B ρ H) ρ H) (hf : ρ n = none)
 (hl : vs.length = args.length) (hr : ∀ (j : Nat) (x : V) (v : Value), args[j]? = some x → vs[j]? = some v → RepV w (own B ρ H) ρ x v) (h : aBuiltin P b ts.toList args H n k)
 (he : ∀ r w1, (builtin b ts ty cs vs.toArray).run P w = .ok r w1 → (execOp a.eval o).run P w = .ok r w1) : ∃ z ws rs, k z ws rs ∧ OpOk P B H w ρ n a o z ws := by
 unfold aBuiltin at h
 split at h
 ·rename_i t x hts
  have hv : ∃ v, vs = [v] := by
   match vs, hl with
   | [v], _ => exact ⟨v, rfl⟩
  obtain ⟨v, rfl⟩ := hv
  obtain ⟨z, hz, r, h1, h2⟩ := aLen_ok (P := P) (ty := ty) (ts := ts) (hr 0 x v rfl rfl) (by rw [← Array.getElem?_toList, hts]; rfl) h
  exact ⟨z, _, _, hz, OpOk.value hH hf (he (.value r) w (by simp [builtin, h1])) h2⟩
 ·rename_i t t' x y hts
  have hv : ∃ v u, vs = [v, u] := by
   match vs, hl with
   | [v, u], _ => exact ⟨v, u, rfl⟩
  obtain ⟨v, u, rfl⟩ := hv
  obtain ⟨z, hz, r, h1, h2⟩ := aMin_ok (P := P) (w := w) (ty := ty) (ts := ts) (hr 0 x v rfl rfl) (hr 1 y u rfl rfl) h
  exact ⟨z, _, _, hz, OpOk.value hH hf (he (.value r) w (by simp [builtin, h1])) h2⟩
 ·rename_i t t' x y hts
  have hv : ∃ v u, vs = [v, u] := by
   match vs, hl with
   | [v, u], _ => exact ⟨v, u, rfl⟩
  obtain ⟨v, u, rfl⟩ := hv
  obtain ⟨z, hz, r, h1, h2⟩ := aMax_ok (P := P) (w := w) (ty := ty) (ts := ts) (hr 0 x v rfl rfl) (hr 1 y u rfl rfl) h
  exact ⟨z, _, _, hz, OpOk.value hH hf (he (.value r) w (by simp [builtin, h1])) h2⟩
 ·rename_i t t' x y hts
  have hv : ∃ v u, vs = [v, u] := by
   match vs, hl with
   | [v, u], _ => exact ⟨v, u, rfl⟩
  obtain ⟨v, u, rfl⟩ := hv
  have hts' : ts = #[t, t'] := by apply Array.ext'; rw [hts]
  subst hts'
  exact aAppend_ok (ty := ty) hH hf (hr 0 x v rfl rfl) (hr 1 y u rfl rfl) h fun r w1 hrun => he (.value r) w1 (by simp [builtin, hrun])
 ·rename_i t t' x y hts
  have hv : ∃ v u, vs = [v, u] := by
   match vs, hl with
   | [v, u], _ => exact ⟨v, u, rfl⟩
  obtain ⟨v, u, rfl⟩ := hv
  have hts' : ts = #[t, t'] := by apply Array.ext'; rw [hts]
  subst hts'
  exact aCopy_ok (t' := t') (ty := ty) hH hf (hr 0 x v rfl rfl) (hr 1 y u rfl rfl) h fun r w1 hrun => he (.value r) w1 (by simp [builtin, hrun])
 ·exact h.elim
theorem map_rep {e : Operand → V} {ev : Operand → Value} {O} (henv : ∀ x, RepV w O ρ (e x) (ev x)) (l : List Operand) : ∀ (j : Nat) (x : V) (v : Value), (l.map e)[j]? = some x → (l.map ev)[j]? = some v → RepV w O ρ x v := by
 intro j x v h1 h2
 rw [List.getElem?_map] at h1 h2
 cases hl : l[j]? with
 | none => rw [hl] at h1; cases h1
 | some p =>
   rw [hl] at h1 h2
   simp only [Option.map_some, Option.some.injEq] at h1 h2
   subst h1 h2
   exact henv p
theorem plain_W {O x v} (h : RepV w O ρ x v) (hp : x.plain = true) : RepW w O ρ x v ∧ ShapeOk x v ∧ ∀ (i : Nat) (y : V) (u : Value), x.atoms[i]? = some y → v.cells[i]? = some u → RepA w O ρ y u := by
 have hW : RepW w O ρ x v := by
  cases x <;> first | exact h | (simp [V.plain] at hp)
 rcases hW with rfl | ⟨h1, h2⟩
 ·simp [V.plain] at hp
 ·exact ⟨.inr ⟨h1, h2⟩, h1, h2⟩
theorem opt_rep {e : Operand → V} {ev : Operand → Value} {O} (henv : ∀ x, RepV w O ρ (e x) (ev x)) (x : Option Operand) : (x.map e = none ∧ x.map ev = none) ∨ ∃ y v, x.map e = some y ∧ x.map ev = some v ∧ RepV w O ρ y v := by
 cases x with
 | none => exact .inl ⟨rfl, rfl⟩
 | some p => exact .inr ⟨_, _, rfl, rfl, henv p⟩
theorem aop_ok {Γ : Tab} {Δ : Gab} (hΓ : TabOk P Γ) (hΔ : GabOk P Δ) {e : Operand → V} {k : Kt} (hH : HRep w (own B ρ H) ρ H) (hf : ρ n = none) (hB : ∀ b, B b → b < w.heap.size) (hfar : ∀ k x b, H k = some x → ρ k = some b → ¬ B b)
 (henv : ∀ x, RepV w (own B ρ H) ρ (e x) (a.eval x)) (h : aop P Γ Δ o.op e H n k) : ∃ z ws rs, k z ws rs ∧ OpOk P B H w ρ n a o z ws := by
 have value : ∀ {z v}, (execOp a.eval o).run P w = .ok (.value v) w → RepV w (own B ρ H) ρ z v → OpOk P B H w ρ n a o z [] := fun h1 h2 => OpOk.value hH hf h1 h2
 generalize hop : o.op = op at h
 unfold aop at h
 split at h
 ·exact ⟨_, _, _, h, value (by simp [execOp, hop]) (henv _)⟩
 ·exact ⟨_, _, _, h, value (by simp [execOp, hop]) (henv _)⟩
 ·rename_i c x y
  obtain ⟨z, hz, b, h1, h2⟩ := aPick_ok (henv c) (henv x) (henv y) h
  refine ⟨_, _, _, hz, value (v := if b = true then a.eval x else a.eval y) ?_ h2⟩
  simp [execOp, hop, h1, asBool]
 ·exact aAlloc_ok hH hf h fun v w1 hr => by simp [execOp, hop, hr]
 ·exact aBox_ok hH hf (henv _) h fun v w1 hr => by simp [execOp, hop, hr]
 ·rename_i t ps
  obtain ⟨z, hz, r, h1, h2⟩ := aBuild_ok (P := P) (w := w) henv h
  exact ⟨_, _, _, hz, value (by simp only [execOp, hop, Sem.run_bind, h1]; rfl) h2⟩
 ·exact aBuildSlice_ok hH hf henv h fun v w1 hr => by simp only [execOp, hop, Sem.run_bind, hr]; rfl
 ·rename_i t p
  obtain ⟨z, rs, hz, v, h1, h2⟩ := aLoad_ok (P := P) hH (henv p) h
  exact ⟨_, _, _, hz, value (by simp [execOp, hop, h1]) h2⟩
 ·rename_i t p x
  exact aStore_ok hH hf (henv p) (henv x) h fun w1 hr => by simp [execOp, hop, hr]
 ·rename_i x
  unfold aNil at h
  have hx := henv x
  split at h
  ·rename_i hh
   rw [hh] at hx h
   have hA := RepW.atom hx rfl
   generalize hav : a.eval x = u at hA hx
   refine ⟨_, _, _, h, value (v := u) ?_ hx⟩
   cases hA
   simp [execOp, hop, hav]
  ·rename_i hh
   rw [hh] at hx h
   have hA := RepW.atom hx rfl
   generalize hav : a.eval x = u at hA hx
   refine ⟨_, _, _, h, value (v := u) ?_ hx⟩
   cases hA
   simp [execOp, hop, hav]
  ·rename_i hh
   rw [hh] at hx h
   have hA := RepW.atom hx rfl
   generalize hav : a.eval x = u at hA hx
   refine ⟨_, _, _, h, value (v := u) ?_ hx⟩
   cases hA
   simp [execOp, hop, hav]
  ·exact h.elim
 ·rename_i op' t x y t'
  obtain ⟨z, hz, r, h1, h2⟩ := aBin_ok (P := P) (w := w) x y (henv x) (henv y) h
  refine ⟨_, _, _, hz, value ?_ h2⟩
  simp only [execOp, hop, Sem.run_bind, h1]
  rfl
 ·rename_i op' t x
  obtain ⟨z, hz, r, h1, h2⟩ := aUn_ok (P := P) (w := w) (henv x) h
  exact ⟨_, _, _, hz, value (by simp [execOp, hop, h1]) h2⟩
 ·rename_i s t x
  exact aConvK_ok hH hf hB (henv x) h.2 h.1 fun r w1 hr => by simp [execOp, hop, hr]
 ·rename_i fn first caps
  obtain ⟨hp, h⟩ := h
  simp only [Bool.and_eq_true, List.all_eq_true] at hp
  refine ⟨_, _, _, h, value (v := .func fn (first.map a.eval) (caps.map a.eval)) (by simp [execOp, hop, Instr.makeFunc]) (RepW.of_atom ?_ rfl rfl)⟩
  have get : ∀ (l : Array Operand), (∀ x ∈ l.toList.map e, x.plain = true) → ∀ (j : Nat) (x : V) (v : Value), (l.toList.map e)[j]? = some x → (l.map a.eval)[j]? = some v → ShapeOk x v ∧ ∀ (i : Nat) (y : V) (u : Value), x.atoms[i]? = some y → v.cells[i]? = some u → RepA w (own B ρ H) ρ y u := fun l hl j x v h1 h2 => by
   have h3 := map_rep henv l.toList j x v h1 (by rw [← Array.toList_map, Array.getElem?_toList]; exact h2)
   exact (plain_W h3 (hl x (List.mem_of_getElem? h1))).2
  exact .clo _ _ _ _ _ _ (by simp) (by simp) (fun j x v h1 h2 => (get first hp.1 j x v h1 h2).1) (fun j x v h1 h2 => (get caps hp.2 j x v h1 h2).1) (fun j x v h1 h2 => (get first hp.1 j x v h1 h2).2) (fun j x v h1 h2 => (get caps hp.2 j x v h1 h2).2)
 ·rename_i t l c
  exact aMake_ok hH hf (henv l) (henv c) h fun v w1 hr => by simp [execOp, hop, hr]
 ·rename_i t x lo hi mx
  obtain ⟨z, hz, r, h1, h2⟩ := aSlice_ok (P := P) (w := w) (henv x) (opt_rep henv lo) (opt_rep henv hi) (opt_rep henv mx) h
  exact ⟨_, _, _, hz, value (by simp [execOp, hop, h1]) h2⟩
 ·rename_i t x f
  obtain ⟨z, hz, r, h1, h2⟩ := aFieldAddr_ok (P := P) (w := w) (henv x) h
  exact ⟨_, _, _, hz, value (by simp [execOp, hop, h1]) h2⟩
 ·rename_i t x f
  obtain ⟨z, hz, r, h1, h2⟩ := aField_ok (P := P) (w := w) (henv x) h
  exact ⟨_, _, _, hz, value (by simp [execOp, hop, h1]) h2⟩
 ·rename_i t x i
  obtain ⟨z, hz, r, h1, h2⟩ := aIndexAddr_ok (P := P) (w := w) (henv x) (henv i) h
  exact ⟨_, _, _, hz, value (by simp [execOp, hop, h1]) h2⟩
 ·rename_i t x i
  obtain ⟨z, hz, r, h1, h2⟩ := aIndex_ok (P := P) (w := w) (henv x) (henv i) h
  exact ⟨_, _, _, hz, value (by simp [execOp, hop, h1]) h2⟩
 ·rename_i t i
  obtain ⟨z, hz, r, h1, h2⟩ := aExtract_ok (P := P) (w := w) (henv t) h
  exact ⟨_, _, _, hz, value (by simp [execOp, hop, h1]) h2⟩
 ·rename_i c
  unfold aCall at h
  split at h
  ·rename_i b hb
   exact aBuiltin_ok (ty := o.type) (cs := c.args.map fun | .const _ => true | _ => false) (vs := c.args.toList.map a.eval) hH hf (by simp) (map_rep henv c.args.toList) h fun r w1 hr => by
    have : (c.args.toList.map a.eval).toArray = c.args.map a.eval := by apply Array.ext'; simp
    rw [this] at hr
    simp only [execOp, hop, resolve, hb, Sem.run_bind, Sem.run_pure, Result.andThen_ok, invoke]
    exact hr
  ·rename_i f hcf
   split at h
   ·rename_i g first caps hef
    have hx := henv f
    rw [hef] at hx
    have hA := RepW.atom hx rfl
    generalize hfv : a.eval f = fv at hA
    cases hA with
    | clo _ _ _ _ vf vc h1 h2 s1 s2 r1 r2 =>
    refine aCallF_ok hΓ hΔ (vs := vf.toList ++ c.args.toList.map a.eval ++ vc.toList) hH hf hB hfar (by simp [h1, h2]) (fun j x v hj hv => ?_) h fun hcal => ?_
    ·have W : ∀ (l : List V) (vv : Array Value), (∀ (j : Nat) (x : V) (v : Value), l[j]? = some x → vv[j]? = some v → ShapeOk x v) → (∀ (j : Nat) (x : V) (v : Value), l[j]? = some x → vv[j]? = some v → ∀ (i : Nat) (y : V) (u : Value), x.atoms[i]? = some y → v.cells[i]? = some u → RepA w (own B ρ H) ρ y u) → ∀ (j : Nat) (x : V) (v : Value), l[j]? = some x → vv[j]? = some v → RepV w (own B ρ H) ρ x v := by
      intro l vv hs hr j x v q1 q2
      have hsx := hs j x v q1 q2
      have hW : RepW w (own B ρ H) ρ x v := .inr ⟨hsx, hr j x v q1 q2⟩
      refine RepV.of_W hW ?_
      rintro m rfl
      have h5 : 0 < v.cells.size := by have := hsx.2.2; simp [V.atoms] at this; omega
      have := hr j _ v q1 q2 0 _ _ rfl (Array.getElem?_eq_getElem h5)
      cases this
     have hf1 : first.length = vf.toList.length := by simp [h1]
     by_cases j1 : j < first.length
     ·rw [List.append_assoc, List.getElem?_append_left j1] at hj
      rw [List.append_assoc, List.getElem?_append_left (by omega)] at hv
      exact W first vf s1 r1 j x v hj (by simpa using hv)
     ·rw [List.append_assoc, List.getElem?_append_right (by omega)] at hj
      rw [List.append_assoc, List.getElem?_append_right (by omega), ← hf1] at hv
      by_cases j2 : j - first.length < c.args.toList.length
      ·rw [List.getElem?_append_left (by simpa using j2)] at hj hv
       exact map_rep henv c.args.toList _ x v hj hv
      ·rw [List.getElem?_append_right (by simpa using j2)] at hj hv
       simp only [List.length_map] at hj hv
       exact W caps vc s2 r2 _ x v hj (by simpa using hv)
    ·have : (vf.toList ++ c.args.toList.map a.eval ++ vc.toList).toArray = vf ++ c.args.map a.eval ++ vc := by apply Array.ext'; simp
     rw [this]
     simp only [execOp, hop, resolve, hcf, hfv, Deferred.ofValue, Sem.run_bind, Sem.run_pure, Result.andThen_ok, invoke]
     exact run_callFunc hcal
   ·exact h.elim
  ·exact h.elim
 ·exact h.elim
end
end Go.Proofs.YtfbogelmgdojgaaGreat

