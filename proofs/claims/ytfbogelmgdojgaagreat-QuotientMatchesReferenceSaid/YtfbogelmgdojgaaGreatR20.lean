/- Texts A28 A29 A30 A31 A32 in one. -/
import Derived.Test.YtfbogelmgdojgaaGreatR19
import Derived.Test.YtfbogelmgdojgaaGreatR12
/- Loops over functions: the loop's side. No program in sight. -/
namespace Go.Proofs.YtfbogelmgdojgaaGreat
set_option linter.unusedSimpArgs false
set_option linter.unusedVariables false
open Go.RowKit

section
variable {P : Program} {B : Nat → Prop} {A : Nat → Option Nat} {W : World} {σ : St} {a : Act} {w : World} {ρ : Nat → Option Nat}
theorem Sim.to (h : Sim B A W σ a w ρ) {B' : Nat → Prop} {w' : World} (hx : Ext w (own B ρ σ.H) ρ w' (own B' ρ σ.H) ρ) (hrow : ∀ b, tof σ.H ρ b → w'.heap[b]? = w.heap[b]?) (h1 : w'.os = w.os) (h2 : w'.tape = w.tape) (h3 : w'.output = w.output)
 (hsame : ∀ b, b < W.heap.size → (∀ j, A j ≠ some b) → w'.heap[b]? = w.heap[b]?) (hmk : Marks W w' a.defers) : Sim B' A W σ a w' ρ :=
 ⟨h.defers, h.size, fun t => (h.slots t).mono hx, h.heap.mono hx (fun k x b e1 e2 => hrow b ⟨k, x, e1, e2⟩) (fun _ _ _ _ e => e), h.fresh, h.mine, h1.trans h.os, h2.trans h.tape, h3.trans h.output, Nat.le_trans h.grow hx.size, fun b hb hA => (hsame b hb hA).trans (h.same b hb hA), fun b arr t fr e => by
  obtain ⟨a1, t1, f1, e1, s1⟩ := h.row b arr t fr e
  obtain ⟨a2, t2, f2, e2, s2⟩ := hx.row b a1 t1 f1 e1
  exact ⟨a2, t2, f2, e2, s2.trans s1⟩, h.pins, hmk⟩
theorem Sim.at (h : Sim B A W σ a w ρ) (hq : σ.q = false) {m : Nat} (hm : m ≤ σ.m) {w' : World} (hx : Ext w (own B ρ σ.H) ρ w' (own B ρ σ.H) ρ) (hrow : ∀ b, tof σ.H ρ b → w'.heap[b]? = w.heap[b]?) : Sim B (aR m σ.H ρ) w' σ a w' ρ :=
 ⟨h.defers, h.size, fun t => (h.slots t).mono hx, h.heap.mono hx (fun k x b e1 e2 => hrow b ⟨k, x, e1, e2⟩) (fun _ _ _ _ e => e), h.fresh, fun k x b h1 h2 => .inl (tof_aR ⟨k, x, h1, h2⟩), rfl, rfl, rfl, Nat.le_refl _, fun _ _ _ => rfl, fun _ _ _ _ e => ⟨_, _, _, e, rfl⟩, fun k b e => ⟨Nat.lt_of_lt_of_le (aR_pin e).1 hm, (aR_pin e).2⟩, by rw [h.defers hq]; exact Marks.nil _ _⟩
theorem tof_loop {O : Nat → Prop} {H : Hp} (h : HRep w O ρ H) {l : Nat} {x : Loop} (hl : w.heap[l]? = some (.loop x)) : ¬ tof H ρ l := fun ht => by
 obtain ⟨_, _, _, e⟩ := tof_cells h ht
 rw [hl] at e; cases e
theorem ext_put {O : Nat → Prop} {l : Nat} {x y : Loop} (hl : w.heap[l]? = some (.loop x)) (ρ0 : Nat → Option Nat) : Ext w O ρ0 (w.putObj l (.loop y)) O ρ0 := by
 have cel : ∀ (b : Nat) (arr : Array Value) (t : TypeId) (fr : Nat × Nat), w.heap[b]? = some (.cells arr t fr) → (w.putObj l (.loop y)).heap[b]? = w.heap[b]? := fun b arr t fr e => World.putObj_heap_other fun hb => by rw [hb, hl] at e; cases e
 exact ⟨fun _ _ e => e, fun b _ hO => ⟨hO, cel b⟩, by simp, fun b arr t fr e => ⟨arr, t, fr, (cel b arr t fr e).trans e, rfl⟩⟩
theorem tof_old (h : Sim B A W σ a w ρ) {b : Nat} (hb : tof σ.H ρ b) : (∃ j, A j = some b) ∨ W.heap.size ≤ b := by
 obtain ⟨k, x, e1, e2⟩ := hb
 exact h.mine k x b e1 e2
theorem tof_far (h : Sim B A W σ a w ρ) (st : Stat B A W) {b : Nat} (hb : tof σ.H ρ b) : ¬ B b := by
 obtain ⟨k, x, e1, e2⟩ := hb
 exact h.hfar st k x b e1 e2
end
def putP (s : Nat → V) : List Nat → List V → Nat → V
 | p :: ps, y :: ys => putP (upS s p y) ps ys
 | _, _ => s
attribute [go_sem] putP.eq_1 putP.eq_2
theorem putP_size : ∀ (ps : List Nat) (us : List Value) (tm : Array Value), ((ps.zip us).foldl (fun t (q : Nat × Value) => t.setIfInBounds q.1 q.2) tm).size = tm.size
 | [], us, tm => by simp
 | p :: ps, [], tm => by simp
 | p :: ps, u :: us, tm => by simp only [List.zip_cons_cons, List.foldl_cons]; rw [putP_size ps us]; simp
theorem putP_rep {w : World} {O : Nat → Prop} {ρ : Nat → Option Nat} : ∀ (ps : List Nat) (ys : List V) (us : List Value) (s : Nat → V) (tm : Array Value), ps.length = ys.length → us.length = ys.length → (∀ p ∈ ps, p < tm.size) → (∀ t, RepV w O ρ (s t) (tm.getD t undef)) →
 (∀ (j : Nat) (y : V) (v : Value), ys[j]? = some y → us[j]? = some v → RepV w O ρ y v) → ∀ t, RepV w O ρ (putP s ps ys t) (((ps.zip us).foldl (fun t (q : Nat × Value) => t.setIfInBounds q.1 q.2) tm).getD t undef)
 | [], [], us, s, tm, _, _, _, hs, _, t => by simpa [putP] using hs t
 | [], _ :: _, us, s, tm, h, _, _, _, _, t => by simp at h
 | _ :: _, [], us, s, tm, h, _, _, _, _, t => by simp at h
 | p :: ps, y :: ys, [], s, tm, _, h, _, _, _, t => by simp at h
 | p :: ps, y :: ys, u :: us, s, tm, h1, h2, h3, hs, hr, t => by
   simp only [List.zip_cons_cons, List.foldl_cons, putP]
   refine putP_rep ps ys us _ _ (by simpa using h1) (by simpa using h2) (fun q hq => by simpa using h3 q (by simp [hq])) (fun t => ?_) (fun j z v hz hv => hr (j + 1) z v (by simpa using hz) (by simpa using hv)) t
   have hlt : p < tm.size := h3 p (by simp)
   by_cases e : t = p
   ·subst e
    simp only [upS, if_true]
    rw [Array.getD_eq_getD_getElem?, Array.getElem?_setIfInBounds_self_of_lt hlt]
    exact hr 0 y u rfl rfl
   ·simp only [upS, if_neg e]
    rw [Array.getD_eq_getD_getElem?, Array.getElem?_setIfInBounds_ne (fun e' => e e'.symm), ← Array.getD_eq_getD_getElem?]
    exact hs t
def liveTo (H : Hp) : Nat → Prop
 | 0 => True
 | k + 1 => (H k).isSome = true ∧ liveTo H k
theorem liveTo.get {H : Hp} : ∀ {m k : Nat}, liveTo H m → k < m → (H k).isSome = true
 | m + 1, k, h, hk => by
   by_cases e : k = m
   ·subst e; exact h.1
   ·exact liveTo.get h.2 (by omega)
theorem aR_live {m : Nat} {H : Hp} {ρ : Nat → Option Nat} {k b : Nat} (hk : k < m) (hH : (H k).isSome = true) (h : ρ k = some b) : aR m H ρ (2 * k) = some b := by
 unfold aR
 have e : 2 * k / 2 = k := by omega
 rw [e]
 simp [hk, hH, h]
def JL (B : Nat → Prop) (A : Nat → Option Nat) (W : World) (L : Nat) (a : Act) (ρ0 : Nat → Option Nat) (l : Nat) (rc : Loop) (τ : St) (C T : Nat → Prop) (w : World) : Prop :=
 ∃ ρ, Sim (fun b => B b ∨ T b) A W τ a w ρ ∧ (C = fun b => B b ∨ tof τ.H ρ b ∨ b = l) ∧ (∀ k b, ρ0 k = some b → ρ k = some b) ∧ (∀ t, RepV w (own (fun b => B b ∨ T b) ρ τ.H) ρ0 (τ.s t) (a.tmps.getD t undef)) ∧
  w.heap[l]? = some (.loop rc) ∧ (∀ b, T b → L ≤ b ∧ IsCells w b) ∧ (∀ b, T b → ¬ (B b ∨ tof τ.H ρ b ∨ b = l)) ∧ L ≤ w.heap.size
section
variable {P : Program} {B : Nat → Prop} {A : Nat → Option Nat} {W : World} {L l : Nat} {a : Act} {ρ0 : Nat → Option Nat} {rc : Loop} {τ : St} {C T T' : Nat → Prop} {w w' : World}
theorem JL.move (st : Stat B A W) (hWL : W.heap.size ≤ L) (hlL : l < L) (h : JL B A W L a ρ0 l rc τ C T w) (mv : Moves w T w' T') (hc : ∀ b, T' b → IsCells w' b) : JL B A W L a ρ0 l rc τ C T' w' := by
 obtain ⟨ρ, hs, hC, hρ, hsl, hl, hT, hd, hL⟩ := h
 have hx : ∀ ρ1, Ext w (own (fun b => B b ∨ T b) ρ τ.H) ρ1 w' (own (fun b => B b ∨ T' b) ρ τ.H) ρ1 := fun ρ1 => ⟨fun _ _ e => e, fun b hb hO => by
  refine ⟨?_, .of (mv.same b hb fun h1 => hO (.inl (.inr h1)))⟩
  rintro ((h1 | h1) | h1)
  ·exact hO (.inl (.inl h1))
  ·rcases mv.new b h1 with h2 | h2
   ·exact hO (.inl (.inr h2))
   ·omega
  ·exact hO (.inr h1), mv.size, mv.row⟩
 have hrow : ∀ b, tof τ.H ρ b → w'.heap[b]? = w.heap[b]? := fun b hb => mv.same b (tof_cells hs.heap hb).lt fun h1 => hd b h1 (.inr (.inl hb))
 refine ⟨ρ, hs.to (hx ρ) hrow mv.os mv.tape mv.output (fun b hb _ => mv.same b (Nat.lt_of_lt_of_le hb hs.grow) fun h1 => by have := (hT b h1).1; omega) (hs.marks.keep fun D hD => mv.same D (Array.getElem?_eq_some_iff.1 hD).1 fun h1 => by
  obtain ⟨_, _, _, _, e⟩ := hT D h1
  rw [hD] at e; cases e), hC, hρ, fun t => (hsl t).mono (hx ρ0), ?_, fun b hb => ?_, fun b hb => ?_, Nat.le_trans hL mv.size⟩
 ·refine (mv.same l (Array.getElem?_eq_some_iff.1 hl).1 fun h1 => ?_).trans hl
  obtain ⟨_, _, _, _, e⟩ := hT l h1
  rw [hl] at e; cases e
 ·refine ⟨?_, hc b hb⟩
  rcases mv.new b hb with h2 | h2
  ·exact (hT b h2).1
  ·omega
 ·rcases mv.new b hb with h2 | h2
  ·exact hd b h2
  ·rintro (h3 | h3 | h3)
   ·have := st.old b h3; omega
   ·have := (tof_cells hs.heap h3).lt; omega
   ·omega
def rndE (s0 : Nat → V) (M m : Nat) (H' : Hp) (n' : Nat) (Stop : Nat → Hp → Nat → Prop) (G : Prop) : Exit → St → Prop
 | .normal, σ => G ∧ Wk σ { s := fun _ => .any, H := H', n := n', N := M, m := m }
 | .exit id, σ => ∃ H'' n'', Stop id H'' n'' ∧ Wk σ { s := fun _ => .any, H := H'', n := n'', N := M, m := m }
 | _, _ => False
theorem JL.round (st : Stat B A W) (hWL : W.heap.size ≤ L) (hlW : W.heap.size ≤ l) (hlL : l < L) {s0 : Nat → V} {M m n n' : Nat} {H H' : Hp} {fn : FuncId} {ps : Array Tmp} {assign body : Code} {D : Nat} {Stop : Nat → Hp → Nat → Prop} {G : Prop}
 (h : JL B A W L a ρ0 l { state := .ready, pending := none, fn, tmps := a.tmps, params := ps, assign, body, defers := D } { s := s0, H := H, n := n, N := M, q := true } C T w)
 (h0 : ∀ k, m ≤ k → ρ0 k = none) (hlive : liveTo H m) {ys : List V} {us : List Value} (hps : ps.size = ys.length) (hus : us.length = ys.length) (hpM : ∀ p ∈ ps.toList, p < M)
 (hr : ∀ (j : Nat) (y : V) (v : Value), ys[j]? = some y → us[j]? = some v → RepW w (fun b => C b ∨ T b) (fun _ => none) y v)
 (hb : AWp P assign (thenE (fun σ1 => (σ1.q = false ∧ σ1.m = m) ∧ liveTo σ1.H m ∧ AWp P body (rndE s0 M m H' n' Stop G) σ1) (fun _ _ => False)) { s := putP s0 ps.toList ys, H := H, n := n, N := M, m := m }) :
 YieldAt (rd none) 0 P l us.toArray w fun e W' => ∃ (C' : Nat → Prop) (b : Bool), e = .returned (.bool b) ∧ Moves w C W' C' ∧
  (if b then G ∧ JL B A W L a ρ0 l { state := .ready, pending := none, fn, tmps := a.tmps, params := ps, assign, body, defers := D } { s := s0, H := H', n := n', N := M, q := true } C' T W'
   else ∃ id H'' n'', Stop id H'' n'' ∧ JL B A W L a ρ0 l { state := .done, pending := some (.exit id), fn, tmps := a.tmps, params := ps, assign, body, defers := D } { s := s0, H := H'', n := n'', N := M, q := true } C' T W') := by
 obtain ⟨ρ, hs, hC, hρ, hsl, hl, hT, hd, hL⟩ := h
 subst hC
 have hH := hs.heap
 have hB : ∀ b, (B b ∨ T b) → b < w.heap.size := by
  rintro b (h1 | h1)
  ·exact Nat.lt_of_lt_of_le (st.old b h1) hs.grow
  ·exact (hT b h1).2.lt
 have farT : ∀ b, tof H ρ b → ¬ (B b ∨ T b) := by
  rintro b hb (h1 | h1)
  ·rcases tof_old hs hb with ⟨j, hj⟩ | hj
   ·exact st.apart j b hj h1
   ·have := st.old b h1; omega
  ·exact hd b h1 (.inr (.inl hb))
 have st' : Stat (fun b => B b ∨ T b) (aR m H ρ) w := ⟨hB, fun k b e => farT b (aR_tof e)⟩
 have hfold : ∀ us : List Value, (ps.zip us.toArray).foldl (fun tmps (x : Nat × Value) => tmps.setIfInBounds x.1 x.2) a.tmps = (ps.toList.zip us).foldl (fun t (q : Nat × Value) => t.setIfInBounds q.1 q.2) a.tmps := fun us => by
  rw [← Array.foldl_toList, Array.toList_zip]
 have hs0 : Sim (fun b => B b ∨ T b) (aR m H ρ) w { s := putP s0 ps.toList ys, H := H, n := n, N := M, m := m } { tmps := (ps.toList.zip us).foldl (fun t (q : Nat × Value) => t.setIfInBounds q.1 q.2) a.tmps, defers := [] } w ρ := by
  refine ⟨fun _ => rfl, by rw [show ({ tmps := (ps.toList.zip us).foldl (fun t (q : Nat × Value) => t.setIfInBounds q.1 q.2) a.tmps, defers := [] } : Act).tmps = _ from rfl, putP_size]; exact hs.size, ?_, hH, hs.fresh, fun k x b e1 e2 => .inl (tof_aR ⟨k, x, e1, e2⟩), rfl, rfl, rfl, Nat.le_refl _, fun _ _ _ => rfl, fun _ _ _ _ e => ⟨_, _, _, e, rfl⟩, fun k b e => aR_pin e, Marks.nil _ _⟩
  refine putP_rep ps.toList ys us s0 a.tmps (by simpa using hps) hus (fun p hp => by rw [hs.size]; exact hpM p hp) hs.slots fun j y v hy hv => ?_
  have h1 := hr j y v hy hv
  refine RepV.of_W (h1.mono ((Ext.less (O' := own (fun b => B b ∨ T b) ρ H) ?_).into ρ)) h1.notTup
  rintro b ((h2 | h2) | h2)
  ·exact .inl (.inl h2)
  ·exact .inr h2
  ·exact .inl (.inr (.inl h2))
 have hll : l < w.heap.size := (Array.getElem?_eq_some_iff.1 hl).1
 have rdA : RdOk (aR m H ρ) w (some l) := ⟨fun l' e => by cases e; exact ⟨fun k e => tof_loop hH hl (aR_tof e), _, hl⟩⟩
 have hy := run_yield (P := P) (args := us.toArray) hl (by simp [hps, hus])
 simp only at hy
 refine ⟨fn, _, assign, body, hy, roundIn_of_wpIn (F := rd none) trivial ?_⟩
 have e0 := hfold us
 rw [show (ps.zip us.toArray).foldl (fun tmps (x : Nat × Value) => match x with | (t, a) => tmps.setIfInBounds t a) a.tmps = _ from e0]
 refine wpIn_mono (hb _ _ w st' _ w ρ hs0 (r := some l)) ?_
 rintro e a1 w1 ⟨σ1, ρ1, hE, hs1⟩
 cases e with
 | exit id => exact hE.elim
 | goto l => exact hE.elim
 | ret => exact hE.elim
 | panic c => exact hE.elim
 | outgrown => exact hE.elim
 | normal =>
 obtain ⟨⟨hq1, hm1⟩, hlive1, hbody⟩ := hE
 have hl1 : w1.heap[l]? = some (.loop { state := .ready, pending := none, fn, tmps := a.tmps, params := ps, assign, body, defers := D }) := (hs1.same l hll fun j e => tof_loop hH hl (aR_tof e)).trans hl
 refine ⟨_, run_beginRound hl1 rfl, ?_⟩
 have hx2 := ext_put (O := own (fun b => B b ∨ T b) ρ1 σ1.H) (y := { state := .busy, pending := none, fn, tmps := a.tmps, params := ps, assign, body, defers := D }) hl1 ρ1
 generalize hw2 : w1.putObj l (.loop { state := .busy, pending := none, fn, tmps := a.tmps, params := ps, assign, body, defers := D }) = w2 at hx2
 have o2 : ∀ b, b ≠ l → w2.heap[b]? = w1.heap[b]? := fun b hb => by rw [← hw2]; exact World.putObj_heap_other hb
 have z2 : w2.heap.size = w1.heap.size := by rw [← hw2]; simp
 have n1 : ¬ tof σ1.H ρ1 l := tof_loop hs1.heap hl1
 have hl2 : w2.heap[l]? = some (.loop { state := .busy, pending := none, fn, tmps := a.tmps, params := ps, assign, body, defers := D }) := by rw [← hw2]; exact World.putObj_heap_same (Array.getElem?_eq_some_iff.1 hl1).1
 have hs2 := hs1.at hq1 (m := m) (by omega) hx2 (fun b hb => o2 b fun e => n1 (e ▸ hb))
 have st2 : Stat (fun b => B b ∨ T b) (aR m σ1.H ρ1) w2 := ⟨fun b h1 => by have := hB b h1; have := hs1.grow; omega, fun k b e => tof_far hs1 st' (aR_tof e)⟩
 have rd2 : RdOk (aR m σ1.H ρ1) w2 (some l) := ⟨fun l' e => by cases e; exact ⟨fun k e => n1 (aR_tof e), _, hl2⟩⟩
 refine wpIn_mono (hbody _ _ w2 st2 a1 w2 ρ1 hs2 (r := some l)) ?_
 rintro e a3 w3 ⟨σ3, ρ3, hE, hs3⟩
 have hl3 : w3.heap[l]? = some (.loop { state := .busy, pending := none, fn, tmps := a.tmps, params := ps, assign, body, defers := D }) := (hs3.same l (by have := hs1.grow; omega) fun j e => n1 (aR_tof e)).trans hl2
 have old1 : ∀ b, tof σ1.H ρ1 b → tof H ρ b ∨ w.heap.size ≤ b := fun b hb => by
  rcases tof_old hs1 hb with ⟨j, hj⟩ | hj
  ·exact .inl (aR_tof hj)
  ·exact .inr hj
 have fin : ∀ (rc' : Loop) (H4 : Hp) (n4 : Nat), Wk σ3 { s := fun _ => .any, H := H4, n := n4, N := M, m := m } → ∃ C', Moves w (fun b => B b ∨ tof H ρ b ∨ b = l) (w3.putObj l (.loop rc')) C' ∧ JL B A W L a ρ0 l rc' { s := s0, H := H4, n := n4, N := M, q := true } C' T (w3.putObj l (.loop rc')) := by
  intro rc' H4 n4 hwk
  obtain ⟨ρ4, hs4⟩ := hwk _ _ _ _ _ _ hs3
  have hx4 := ext_put (O := own (fun b => B b ∨ T b) ρ4 H4) (y := rc') hl3 ρ4
  generalize hw4 : w3.putObj l (.loop rc') = w4 at hx4
  have o4 : ∀ b, b ≠ l → w4.heap[b]? = w3.heap[b]? := fun b hb => by rw [← hw4]; exact World.putObj_heap_other hb
  have z4 : w4.heap.size = w3.heap.size := by rw [← hw4]; simp
  have hl4 : w4.heap[l]? = some (.loop rc') := by rw [← hw4]; exact World.putObj_heap_same (Array.getElem?_eq_some_iff.1 hl3).1
  have g1 := hs1.grow
  have g4 := hs4.grow
  have key : ∀ b, b < w.heap.size → ¬ tof H ρ b → b ≠ l → w4.heap[b]? = w.heap[b]? := fun b hb hn hbl => by
   rw [o4 b hbl, hs4.same b (by omega) (fun j e => ?_), o2 b hbl, hs1.same b hb (fun j e => hn (aR_tof e))]
   rcases old1 b (aR_tof e) with h1 | h1
   ·exact hn h1
   ·omega
  have new4 : ∀ b, tof H4 ρ4 b → tof H ρ b ∨ w.heap.size ≤ b := fun b hb => by
   rcases tof_old hs4 hb with ⟨j, hj⟩ | hj
   ·exact old1 b (aR_tof hj)
   ·exact .inr (by omega)
  have row4 : ∀ (b : Nat) (arr : Array Value) (t : TypeId) (fr : Nat × Nat), w.heap[b]? = some (.cells arr t fr) → ∃ (arr' : Array Value) (t' : TypeId) (fr' : Nat × Nat), w4.heap[b]? = some (.cells arr' t' fr') ∧ arr'.size = arr.size := fun b arr t fr e => by
   have hbl : b ≠ l := fun e' => by rw [e', hl] at e; cases e
   obtain ⟨x1, t1, f1, e1, q1⟩ := hs1.row b arr t fr e
   rw [← o2 b hbl] at e1
   obtain ⟨x2, t2, f2, e2, q2⟩ := hs4.row b x1 t1 f1 e1
   exact ⟨x2, t2, f2, (o4 b hbl).trans e2, q2.trans q1⟩
  have pin4 : ∀ k b, ρ0 k = some b → ρ4 k = some b := fun k b e => by
   have hk : k < m := by
    rcases Nat.lt_or_ge k m with h1 | h1
    ·exact h1
    ·rw [h0 k h1] at e; cases e
   have e1 := (hs1.pins k b (aR_live hk (hlive.get hk) (hρ k b e))).2
   exact (hs4.pins k b (aR_live hk (hlive1.get hk) e1)).2
  have hos : w4.os = w.os := by rw [← hw4]; exact hs4.os.trans ((show w2.os = w1.os by rw [← hw2]; rfl).trans hs1.os)
  have htp : w4.tape = w.tape := by rw [← hw4]; exact hs4.tape.trans ((show w2.tape = w1.tape by rw [← hw2]; rfl).trans hs1.tape)
  have hout : w4.output = w.output := by rw [← hw4]; exact hs4.output.trans ((show w2.output = w1.output by rw [← hw2]; rfl).trans hs1.output)
  have hxx : ∀ ρ5, (∀ k b, ρ0 k = some b → ρ5 k = some b) → Ext w (own (fun b => B b ∨ T b) ρ H) ρ0 w4 (own (fun b => B b ∨ T b) ρ4 H4) ρ5 := fun ρ5 hm5 => ⟨hm5, fun b hb hO => by
   refine ⟨?_, fun arr t fr e => key b hb (fun h1 => hO (.inr h1)) fun e' => by rw [e', hl] at e; cases e⟩
   rintro (h1 | h1)
   ·exact hO (.inl h1)
   ·rcases new4 b h1 with h2 | h2
    ·exact hO (.inr h2)
    ·omega, by omega, row4⟩
  have cellT : ∀ b, T b → IsCells w4 b := fun b hb => by
   obtain ⟨arr, t, fr, e⟩ := (hT b hb).2
   exact ⟨arr, t, fr, (key b (hT b hb).2.lt (fun h1 => hd b hb (.inr (.inl h1))) fun h1 => hd b hb (.inr (.inr h1))).trans e⟩
  refine ⟨fun b => B b ∨ tof H4 ρ4 b ∨ b = l, ⟨fun b hb hn => key b hb (fun h1 => hn (.inr (.inl h1))) fun h1 => hn (.inr (.inr h1)), ?_, by omega, row4, hos, htp, hout⟩, ρ4, ⟨fun e => (by cases e), hs.size, fun t => (hsl t).mono (hxx ρ4 pin4), ?_, hs4.fresh, fun k x b e1 e2 => ?_, hos.trans hs.os, htp.trans hs.tape, hout.trans hs.output, by have := hs.grow; omega, fun b hb hA => ?_, fun b arr t fr e => ?_, fun k b e => ?_, ?_⟩, rfl, pin4, fun t => (hsl t).mono (hxx ρ0 fun _ _ e => e), hl4, fun b hb => ⟨(hT b hb).1, cellT b hb⟩, ?_, by omega⟩
  ·rintro b (h1 | h1 | h1)
   ·exact .inl (.inl h1)
   ·rcases new4 b h1 with h2 | h2
    ·exact .inl (.inr (.inl h2))
    ·exact .inr h2
   ·exact .inl (.inr (.inr h1))
  ·exact hs4.heap.mono hx4 (fun k x b e1 e2 => o4 b fun e => tof_loop hs4.heap hl3 ⟨k, x, e1, e ▸ e2⟩) (fun _ _ _ _ e => e)
  ·rcases new4 b ⟨k, x, e1, e2⟩ with h2 | h2
   ·exact tof_old hs h2
   ·exact .inr (Nat.le_trans hs.grow h2)
  ·refine (key b (Nat.lt_of_lt_of_le hb hs.grow) (fun h1 => ?_) (by omega)).trans (hs.same b hb hA)
   rcases tof_old hs h1 with ⟨j, hj⟩ | hj
   ·exact hA j hj
   ·omega
  ·obtain ⟨x1, t1, f1, e1, q1⟩ := hs.row b arr t fr e
   obtain ⟨x2, t2, f2, e2, q2⟩ := row4 b x1 t1 f1 e1
   exact ⟨x2, t2, f2, e2, q2.trans q1⟩
  ·exact absurd (hs.pins k b e).1 (Nat.not_lt_zero k)
  ·refine hs.marks.keep fun D' hD => key D' (Array.getElem?_eq_some_iff.1 hD).1 (fun h1 => ?_) fun e => ?_
   ·obtain ⟨_, _, _, e⟩ := tof_cells hH h1
    rw [hD] at e; cases e
   ·rw [e, hl] at hD; cases hD
  ·rintro b hb (h1 | h1 | h1)
   ·exact hd b hb (.inl h1)
   ·rcases new4 b h1 with h2 | h2
    ·exact hd b hb (.inr (.inl h2))
    ·have := (hT b hb).2.lt; omega
   ·exact hd b hb (.inr (.inr h1))
 cases e with
 | normal =>
   obtain ⟨C', h1, h2⟩ := fin { state := .ready, pending := none, fn, tmps := a.tmps, params := ps, assign, body, defers := D } H' n' hE.2
   exact ⟨_, _, run_endRound none hl3, C', true, rfl, h1, hE.1, h2⟩
 | exit id =>
   obtain ⟨H'', n'', hst, hwk⟩ := hE
   obtain ⟨C', h1, h2⟩ := fin { state := .done, pending := some (.exit id), fn, tmps := a.tmps, params := ps, assign, body, defers := D } H'' n'' hwk
   exact ⟨_, _, run_endRound (some (.exit id)) hl3, C', false, rfl, h1, id, H'', n'', hst, h2⟩
 | goto l => exact hE.elim
 | ret => exact hE.elim
 | panic c => exact hE.elim
 | outgrown => exact hE.elim
end
end Go.Proofs.YtfbogelmgdojgaaGreat


/- Loops over functions: the statement. No program in sight. -/
namespace Go.Proofs.YtfbogelmgdojgaaGreat
set_option linter.unusedSimpArgs false
set_option linter.unusedVariables false
open Go.RowKit

theorem enter_ok {P : Program} {w : World} {r : Option Nat} (hr : ∀ l, r = some l → ∃ x, w.heap[l]? = some (.loop x)) (fn : FuncId) (tmps : Array Value) (ps : Array Tmp) (assign body : Code) :
 ∃ (l D : Nat) (mark : List Deferred) (w1 : World), (Instr.enterLoop fn tmps ps assign body r).run P w = .ok (l, mark) w1 ∧ w1.heap[l]? = some (.loop { state := .ready, pending := none, fn, tmps, params := ps, assign, body, defers := D }) ∧ w.heap.size ≤ l ∧
  (∀ b, b < w.heap.size → w1.heap[b]? = w.heap[b]?) ∧ w.heap.size ≤ w1.heap.size ∧ w1.os = w.os ∧ w1.tape = w.tape ∧ w1.output = w.output ∧ (mark = [] ∨ ∃ D', mark = [{ target := .collected D', args := #[] }] ∧ w.heap.size ≤ D' ∧ w1.heap[D']? = some (.deferred (some []))) := by
 cases r with
 | none =>
   have e1 : ((w.alloc (.deferred (some []))).alloc (.loop { state := .ready, pending := none, fn, tmps, params := ps, assign, body, defers := w.heap.size })).heap[w.heap.size + 1]? = some (.loop { state := .ready, pending := none, fn, tmps, params := ps, assign, body, defers := w.heap.size }) := by
    have := World.alloc_heap_new (w.alloc (.deferred (some []))) (.loop { state := .ready, pending := none, fn, tmps, params := ps, assign, body, defers := w.heap.size })
    rwa [World.size_alloc] at this
   have e2 : ∀ o : Obj, ((w.alloc (.deferred (some []))).alloc o).heap[w.heap.size]? = some (.deferred (some [])) := fun o =>
    (Below.heap_alloc _ _ _ (by simp)).trans (World.alloc_heap_new w _)
   refine ⟨w.heap.size + 1, w.heap.size, _, _, run_enterLoop_outer _ _ _ _ _, e1, by omega, fun b hb => ?_, by simp; omega, rfl, rfl, rfl, .inr ⟨_, rfl, Nat.le_refl _, e2 _⟩⟩
   exact (Below.heap_alloc _ _ _ (by simp; omega)).trans (Below.heap_alloc _ _ _ hb)
 | some l₀ =>
   obtain ⟨x, hx⟩ := hr l₀ rfl
   refine ⟨w.heap.size, x.defers, [], w.alloc (.loop { state := .ready, pending := none, fn, tmps, params := ps, assign, body, defers := x.defers }), ?_, World.alloc_heap_new w _, Nat.le_refl _, fun b hb => Below.heap_alloc _ _ _ hb, by simp, rfl, rfl, rfl, .inl rfl⟩
   unfold Instr.enterLoop
   simp only [Sem.run_bind, run_getLoop hx, run_newObj_alloc, Result.andThen, Sem.run_pure]
theorem AWp.rounds {P : Program} {g : FuncId} {caps : List V} {xs : Nat → Option (List V)} {L : Nat} (hseq : SeqC P g caps L xs) (hc : callable P g = true) (N : Nat) (hN1 : N ≤ L) {fo : Operand} {ps : Array Tmp} {assign body : Code} {Q : Exit → St → Prop} {σ : St} {s0 : Nat → V} {M m : Nat}
 (Hs : Nat → Hp) (ns : Nat → Nat) (Stop : Nat → Hp → Nat → Prop) (hn0 : ns 0 = m) (hw : Wk σ { s := s0, H := Hs 0, n := m, N := M }) (hf : ({ s := s0, H := Hs 0, n := m, N := M } : St).ev fo = .clo (.func g) [] caps) (hcp : caps.all V.pure = true)
 (hlive : ∀ i, liveTo (Hs i) m)
 (hr : ∀ i ys, xs i = some ys → i ≤ N → (ps.size = ys.length ∧ ∀ p ∈ ps.toList, p < M) ∧
  AWp P assign (thenE (fun σ1 => (σ1.q = false ∧ σ1.m = m) ∧ liveTo σ1.H m ∧ AWp P body (rndE s0 M m (Hs (i + 1)) (ns (i + 1)) Stop (i + 1 ≤ N)) σ1) (fun _ _ => False)) { s := putP s0 ps.toList ys, H := Hs i, n := ns i, N := M, m := m })
 (hstop : ∀ id H n, Stop id H n → Q (.exit id) { s := s0, H := H, n := n, N := M, q := true })
 (hd : ∀ i, i ≤ N → xs i = none → Q .normal { s := s0, H := Hs i, n := ns i, N := M, q := true }) : AWp P (.rangeFunc fo ps assign body) Q σ := by
 intro B A W st a w ρ hs r hrd
 obtain ⟨ρ0, hs0⟩ := hw B A W a w ρ hs
 refine wpIn_rangeFunc ?_
 intro fn _
 have hrr : ∀ l, r = some l → ∃ x, w.heap[l]? = some (.loop x) := fun l e => by
  obtain ⟨h1, x, h2⟩ := hrd.lies l e
  exact ⟨x, (hs0.same l (Array.getElem?_eq_some_iff.1 h2).1 h1).trans h2⟩
 obtain ⟨l, D, mark, w1, he, hl, hlw, hsame, hsz, hos, htp, hout, hmk⟩ := enter_ok (P := P) hrr fn a.tmps ps assign body
 have had : a.defers = [] := hs0.defers rfl
 have hv := RepW.atom (show RepW w (own B ρ0 (Hs 0)) ρ0 (.clo (.func g) [] caps) (a.eval fo) by have := hs0.ev fo; rw [hf] at this; exact this) rfl
 generalize hfv : a.eval fo = fv at hv
 cases hv with
 | clo _ _ _ _ vf vc h1 h2 s1 s2 r1 r2 =>
 have hvf : vf = #[] := by
  have : vf.size = 0 := by rw [← h1]; rfl
  exact Array.eq_empty_of_size_eq_zero this
 subst hvf
 have hH0 := hs0.heap
 have nl : ¬ tof (Hs 0) ρ0 l := fun ht => by have := (tof_cells hH0 ht).lt; omega
 have hcel : ∀ (b : Nat) (arr : Array Value) (t : TypeId) (fr : Nat × Nat), w.heap[b]? = some (.cells arr t fr) → w1.heap[b]? = w.heap[b]? := fun b arr t fr e => hsame b (Array.getElem?_eq_some_iff.1 e).1
 have hgrow : ∀ (O O' : Nat → Prop) (ρ1 : Nat → Option Nat), (∀ b, b < w.heap.size → O' b → O b) → Ext w O ρ1 w1 O' ρ1 := fun O O' ρ1 ho => ⟨fun _ _ e => e, fun b hb hO => ⟨fun h => hO (ho b hb h), .of (hsame b hb)⟩, hsz, fun b arr t fr e => ⟨arr, t, fr, (hcel b arr t fr e).trans e, rfl⟩⟩
 have hmk1 : Marks W w1 (mark ++ a.defers) := by
  rw [had, List.append_nil]
  rcases hmk with rfl | ⟨D', rfl, q1, q2⟩
  ·exact Marks.nil _ _
  ·exact ⟨[D'], rfl, by simp, fun D hD => by simp at hD; subst hD; exact ⟨Nat.le_trans hs0.grow q1, q2⟩⟩
 have hll : l < w1.heap.size := (Array.getElem?_eq_some_iff.1 hl).1
 have hlW : W.heap.size ≤ l := Nat.le_trans hs0.grow hlw
 have hWL : W.heap.size ≤ w1.heap.size := Nat.le_trans hs0.grow hsz
 obtain ⟨J, hJd⟩ : ∃ J : Option Nat → (Nat → Prop) → (Nat → Prop) → World → Prop, J = fun i C T w' => match i with
  | some i => i ≤ N ∧ JL B A W w1.heap.size { a with defers := mark ++ a.defers } ρ0 l { state := .ready, pending := none, fn, tmps := a.tmps, params := ps, assign, body, defers := D } { s := s0, H := Hs i, n := ns i, N := M, q := true } C T w'
  | none => ∃ id H n, Stop id H n ∧ JL B A W w1.heap.size { a with defers := mark ++ a.defers } ρ0 l { state := .done, pending := some (.exit id), fn, tmps := a.tmps, params := ps, assign, body, defers := D } { s := s0, H := H, n := n, N := M, q := true } C T w' := ⟨_, rfl⟩
 have hx0 : ∀ ρ1, Ext w (own B ρ0 (Hs 0)) ρ1 w1 (own (fun b => B b ∨ (fun _ => False) b) ρ0 (Hs 0)) ρ1 := fun ρ1 => hgrow _ _ _ fun b _ h => by
  rcases h with (h | h) | h
  ·exact .inl h
  ·exact h.elim
  ·exact .inr h
 have hJ0 : J (some 0) (fun b => B b ∨ tof (Hs 0) ρ0 b ∨ b = l) (fun _ => False) w1 := by
  rw [hJd]
  refine ⟨Nat.zero_le _, ρ0, ?_, rfl, fun _ _ e => e, fun t => (hs0.slots t).mono (hx0 ρ0), hl, fun _ h => h.elim, fun _ h => h.elim, Nat.le_refl _⟩
  refine ⟨fun e => (by cases e), hs0.size, fun t => (hs0.slots t).mono (hx0 ρ0), hH0.mono (hx0 ρ0) (fun k x b e1 e2 => hsame b (tof_cells hH0 ⟨k, x, e1, e2⟩).lt) (fun _ _ _ _ e => e), by rw [hn0]; exact hs0.fresh, hs0.mine, hos.trans hs0.os, htp.trans hs0.tape, hout.trans hs0.output, hWL, fun b hb hA => (hsame b (Nat.lt_of_lt_of_le hb hs0.grow)).trans (hs0.same b hb hA), fun b arr t fr e => ?_, hs0.pins, hmk1⟩
  obtain ⟨x1, t1, f1, e1, q1⟩ := hs0.row b arr t fr e
  exact ⟨x1, t1, f1, (hcel b x1 t1 f1 e1).trans e1, q1⟩
 have hJ : JOk P l N xs J := by
  subst hJd
  refine ⟨fun i C T w1' T' w2 h mv hc' => ?_, fun i C T w1' h => h.1, fun i C T w1' h => ?_, fun i C T w1' ys us h hx hu hrep => ?_⟩
  ·cases i with
   | some i => exact ⟨h.1, h.2.move st hWL hll mv hc'⟩
   | none => obtain ⟨id, H, n, q1, q2⟩ := h; exact ⟨id, H, n, q1, q2.move st hWL hll mv hc'⟩
  ·have gen : ∀ rc τ, JL B A W w1.heap.size { a with defers := mark ++ a.defers } ρ0 l rc τ C T w1' → (∀ b, C b → b < w1'.heap.size) ∧ ∀ b, T b → ¬ C b := by
    rintro rc τ ⟨ρ, q1, rfl, _, _, q2, q3, q4, q5⟩
    refine ⟨fun b hb => ?_, fun b hb => q4 b hb⟩
    rcases hb with hb | hb | rfl
    ·exact Nat.lt_of_lt_of_le (st.old b hb) q1.grow
    ·exact (tof_cells q1.heap hb).lt
    ·exact (Array.getElem?_eq_some_iff.1 q2).1
   cases i with
   | some i => exact gen _ _ h.2
   | none => obtain ⟨id, H, n, q1, q2⟩ := h; exact gen _ _ q2
  ·obtain ⟨⟨g2, g3⟩, g4⟩ := hr i ys hx h.1
   obtain ⟨fn', tm, x, y, y1, y2⟩ := JL.round (P := P) (Stop := Stop) st hWL hlW hll h.2 (fun k hk => hs0.fresh k hk) (hlive i) g2 hu g3 hrep g4
   refine ⟨fn', tm, x, y, y1, y2.mono ?_⟩
   rintro e w' ⟨C', b, rfl, mv, hb⟩
   refine ⟨C', b, rfl, ?_, mv⟩
   cases b with
   | true => exact hb
   | false => exact hb
 refine ⟨l, mark, w1, { target := .fn (.func g) vc, args := #[.func (.yield l) #[] #[]] }, w1, g, #[.func (.yield l) #[] #[]] ++ vc, w1, he, ?_, fun _ _ => trivial, ?_, fun e => (by cases e), ?_⟩
 ·simp only [resolve, hfv]
  simp [go_sem]
 ·simp [invoke, go_sem, run_callFunc hc]
 ·have hcall := hseq (fun b => B b ∨ tof (Hs 0) ρ0 b ∨ b = l) w1 vc.toList (by simp [h2]) (fun j x v hj hv => by
   have hW : RepW w (own B ρ0 (Hs 0)) ρ0 x v := .inr ⟨s2 j x v hj (by simpa using hv), r2 j x v hj (by simpa using hv)⟩
   refine (hW.pure (List.all_eq_true.1 hcp x (List.mem_of_getElem? hj))).mono (hgrow _ _ _ fun b hb h => ?_)
   rcases h with h | h | h
   ·exact .inl h
   ·exact .inr h
   ·omega) (hJ.old _ _ _ _ hJ0).1 l N J hN1 hJ hJ0
  rw [show vc.toList.toArray = vc from by simp] at hcall
  have hcall' : CallsIn (rd r) 0 P g (#[.func (.yield l) #[] #[]] ++ vc) w1 fun e w' => (∃ v, e = .returned v) ∧ ∃ C' T', J none C' T' w' ∨ ∃ i, xs i = none ∧ J (some i) C' T' w' := hcall
  refine hcall'.mono ?_
  rintro e w2 ⟨⟨v, rfl⟩, C', T', h⟩
  have fin : ∀ (rc : Loop) (τ : St), JL B A W w1.heap.size { a with defers := mark ++ a.defers } ρ0 l rc τ C' T' w2 → rc.state ≠ .busy → ∃ w4 ρ4, (Instr.endLoop l).run P w2 = .ok rc.pending w4 ∧ Sim B A W τ { a with defers := mark ++ a.defers } w4 ρ4 := by
   rintro rc τ ⟨ρ2, q1, _, _, _, q2, _⟩ hb
   refine ⟨_, ρ2, run_endLoop q2 hb, q1.to ((ext_put q2 ρ2).trans (Ext.less fun b hb => ?_)) (fun b hb => World.putObj_heap_other fun e => tof_loop q1.heap q2 (e ▸ hb)) rfl rfl rfl (fun b hb _ => World.putObj_heap_other (by omega)) (q1.marks.keep fun D' hD => World.putObj_heap_other fun e => ?_)⟩
   ·rcases hb with h | h
    ·exact .inl (.inl h)
    ·exact .inr h
   ·rw [e, q2] at hD; cases hD
  subst hJd
  rcases h with ⟨id, H, n, q1, q2⟩ | ⟨i, q1, q2⟩
  ·obtain ⟨w4, ρ4, q3, q4⟩ := fin _ _ q2 (by simp)
   exact ⟨_, w4, q3, wpIn_exit ⟨_, ρ4, hstop id H n q1, q4⟩⟩
  ·obtain ⟨w4, ρ4, q3, q4⟩ := fin _ _ q2.2 (by simp)
   exact ⟨_, w4, q3, _, ρ4, hd i q2.1 q1, q4⟩
end Go.Proofs.YtfbogelmgdojgaaGreat


/- Loops over functions: evaluation rules. No program in sight. -/
namespace Go.Proofs.YtfbogelmgdojgaaGreat
set_option linter.unusedSimpArgs false
set_option linter.unusedVariables false
open Go.RowKit

@[go_sem ↓, go_sem] theorem ev_thenI_n {Nx : Option Nat → St → Prop} {Q : Exit → Option Nat → St → Prop} {i : Option Nat} {σ : St} : thenI Nx Q .normal i σ = Nx i σ := rfl
@[go_sem ↓, go_sem] theorem ev_thenI_e {Nx : Option Nat → St → Prop} {Q : Exit → Option Nat → St → Prop} {i : Option Nat} {σ : St} {id : Nat} : thenI Nx Q (.exit id) i σ = Q (.exit id) i σ := rfl
@[go_sem ↓, go_sem] theorem ev_thenI_r {Nx : Option Nat → St → Prop} {Q : Exit → Option Nat → St → Prop} {i : Option Nat} {σ : St} : thenI Nx Q .ret i σ = Q .ret i σ := rfl
@[go_sem ↓, go_sem] theorem ev_blkI_n {id : Nat} {Q : Exit → Option Nat → St → Prop} {i : Option Nat} {σ : St} : blkI id Q .normal i σ = Q .normal i σ := rfl
@[go_sem ↓, go_sem] theorem ev_blkI_e {id id' : Nat} {Q : Exit → Option Nat → St → Prop} {i : Option Nat} {σ : St} : blkI id Q (.exit id') i σ = if id' = id then Q .normal i σ else Q (.exit id') i σ := rfl
@[go_sem ↓, go_sem] theorem ev_blkI_r {id : Nat} {Q : Exit → Option Nat → St → Prop} {i : Option Nat} {σ : St} : blkI id Q .ret i σ = Q .ret i σ := rfl
@[go_sem ↓, go_sem] theorem ev_rndE_n {s0 : Nat → V} {M m : Nat} {H' : Hp} {n' : Nat} {Stop : Nat → Hp → Nat → Prop} {G : Prop} {σ : St} : rndE s0 M m H' n' Stop G .normal σ = (G ∧ Wk σ { s := fun _ => .any, H := H', n := n', N := M, m := m }) := rfl
@[go_sem ↓, go_sem] theorem ev_rndE_e {s0 : Nat → V} {M m : Nat} {H' : Hp} {n' : Nat} {Stop : Nat → Hp → Nat → Prop} {G : Prop} {σ : St} {id : Nat} : rndE s0 M m H' n' Stop G (.exit id) σ = ∃ H'' n'', Stop id H'' n'' ∧ Wk σ { s := fun _ => .any, H := H'', n := n'', N := M, m := m } := rfl
attribute [go_sem] liveTo.eq_1 liveTo.eq_2
end Go.Proofs.YtfbogelmgdojgaaGreat


/- A long statement, piece by piece. No program in sight. -/
namespace Go.Proofs.YtfbogelmgdojgaaGreat
set_option linter.unusedSimpArgs false
set_option linter.unusedVariables false
open Go.RowKit

def RegI (P : Program) (ops : Array Oper) (i : Nat) (Q : Exit → St → Prop) (σ : St) : Prop :=
 ∀ (B : Nat → Prop) (A : Nat → Option Nat) (W : World), Stat B A W → ∀ (a : Act) (w : World) (ρ : Nat → Option Nat), Sim B A W σ a w ρ → ∀ {r : Option Nat} [RdOk A W r], wpOpsIn (rd r) 0 P ops (fun e a' w' => ∃ σ' ρ', Q e σ' ∧ Sim B A W σ' a' w' ρ') (List.range' i (ops.toList.drop i).length) a w
section
variable {P : Program} {Γ : Tab} {Δ : Gab} {ops : Array Oper} {Q : Exit → St → Prop} {σ : St}
theorem RegI.fin (T : Tabs P Γ Δ) (i : Nat) {os : List Oper} (hos : ops.toList.drop i = os) (h : vcOps P Γ Δ ops os σ (Q .normal)) : RegI P ops i Q σ := by
 intro B A W st a w ρ hs r _
 have := vcOps_ok (P := P) (r := r) (ops := ops) (Q := fun e a' w' => ∃ σ' ρ', Q e σ' ∧ Sim B A W σ' a' w' ρ') T.tab T.gab st (fun σ' a' w' ρ' h1 h2 => ⟨σ', ρ', h1, h2⟩) os i σ a w ρ hos hs h
 rw [hos]
 exact this
theorem RegI.cut (T : Tabs P Γ Δ) (i j : Nat) {os : List Oper} (hos : (ops.toList.drop i).take (j - i) = os) (hl : os.length = j - i) (hij : i ≤ j) (h : vcOps P Γ Δ ops os σ fun σ1 => ∃ τ, Wk σ1 τ ∧ RegI P ops j Q τ) : RegI P ops i Q σ := by
 intro B A W st a w ρ hs r hr
 have hlen : (ops.toList.drop i).length = (j - i) + (ops.toList.drop j).length := by
  have h1 := congrArg List.length hos
  rw [hl, List.length_take] at h1
  rw [List.length_drop, List.length_drop]
  rw [List.length_drop] at h1
  omega
 rw [hlen, ← List.range'_append_1, show i + (j - i) = j from by omega]
 have h2 := vcOps_pre T.tab T.gab st (r := r) (ops := ops) (Q := fun e a' w' => ∃ σ' ρ', Q e σ' ∧ Sim B A W σ' a' w' ρ') (K := fun σ1 => ∃ τ, Wk σ1 τ ∧ RegI P ops j Q τ) (List.range' j (ops.toList.drop j).length) (fun σ1 a1 w1 ρ1 hk hs1 => by
  obtain ⟨τ, h1, h2⟩ := hk
  obtain ⟨ρ2, hs2⟩ := h1 B A W a1 w1 ρ1 hs1
  exact h2 B A W st a1 w1 ρ2 hs2) os i σ a w ρ (by rw [hl]; exact hos) hs h
 rw [hl] at h2
 exact h2
end
theorem PCall.of_awp {P : Program} {f : FuncId} {fn : Func} {c : Code} {args : List V} {r : V} (hf : P.funcs[f]? = some fn) (hb : fn.body = some c) {N : Nat} (hn : fn.ntmps = N) {rs : Array ResultVar} (hrs : fn.results = rs) (hN : args.length ≤ N)
 (h : AWp P c (retE P rs.toList r) (st0 args N)) : PCall P f args r := by
 subst hn hrs
 intro B w vs hl hr hB
 refine callsIn_wide.1 (callsIn_of_wp_marks (F := Fence.wide) (n := 0) hf hb trivial ?_)
 have st : Stat B (fun _ => none) w := ⟨hB, fun _ _ h => by cases h⟩
 have hown : ∀ b, own B (fun _ => none) (fun _ => none) b → B b := fun b hb => by
  rcases hb with hb | ⟨k, x, h1, _⟩
  ·exact hb
  ·cases h1
 have hx : Ext w B (fun _ => none) w (own B (fun _ => none) (fun _ => none)) (fun _ => none) := Ext.less hown
 have hs : Sim B (fun _ => none) w (st0 args fn.ntmps) { tmps := vs.toArray ++ Array.replicate (fn.ntmps - vs.toArray.size) undef, defers := [] } w (fun _ => none) := sim0 hl hr hN
 refine wpIn_mono (h B (fun _ => none) w st _ w _ hs (r := none)) fun e a' w' hq => ?_
 obtain ⟨σ', ρ', hq, hs'⟩ := hq
 have fin : (aResL P σ' fn.results.toList fun xs => argsP σ'.H xs fun ys _ => Outs ys r) → LeavesInM Fence.wide 0 P fn a'.tmps (fun e w' => ∃ v', e = .returned v' ∧ RepV w' B (fun _ => none) r v' ∧ Below w.heap.size w w') a'.defers .returning w' := fun hq => leaves_of _ _ hs' fun w' hs' => by
  obtain ⟨xs, us, h1, h2, h3, h4⟩ := res_ok (P := P) hs' _ _ hq
  obtain ⟨ys, rs, h5, h6, h7⟩ := argsP_ok hs'.heap (hs'.hfar st) xs us _ h3 h4 h1
  refine ⟨_, results_run h2, _, rfl, ?_, hs'.below⟩
  refine (Outs.rep h5 (by omega) (h7 rs fun _ h => h)).mono (Ext.less fun b hb => .inl hb)
 cases e with
 | normal => exact fin hq
 | ret => exact fin hq
 | exit id => exact hq.elim
 | goto l => exact hq.elim
 | panic c => exact hq.elim
 | outgrown => exact hq.elim
theorem AWp.seq {P : Program} {x y : Code} {Q : Exit → St → Prop} {σ : St} (h : AWp P x (thenE (fun σ => AWp P y Q σ) Q) σ) : AWp P (.seq x y) Q σ := by
 intro B A W st a w ρ hs r _
 refine wpIn_seq (wpIn_mono (h B A W st a w ρ hs (r := r)) ?_)
 rintro e a' w' ⟨σ', ρ', h1, h2⟩
 cases e with
 | normal => exact h1 B A W st a' w' ρ' h2
 | exit id => exact ⟨σ', ρ', h1, h2⟩
 | goto l => exact ⟨σ', ρ', h1, h2⟩
 | ret => exact ⟨σ', ρ', h1, h2⟩
 | panic c => exact ⟨σ', ρ', h1, h2⟩
 | outgrown => exact ⟨σ', ρ', h1, h2⟩
theorem AWp.from {P : Program} {c : Code} {Q : Exit → St → Prop} {σ σ' : St} (hw : Wk σ σ') (h : AWp P c Q σ') : AWp P c Q σ := h.weaken hw
end Go.Proofs.YtfbogelmgdojgaaGreat


/- A slot's row is let go: it becomes a plain value. No program in sight. -/
namespace Go.Proofs.YtfbogelmgdojgaaGreat
set_option linter.unusedSimpArgs false
set_option linter.unusedVariables false
open Go.RowKit

@[go_sem] theorem drops_nil (H : Hp) : H.drops [] = H := by funext j; simp [Hp.drops]
@[go_sem] theorem drops_cons (H : Hp) (k : Nat) (l : List Nat) : H.drops (k :: l) = (H.up k none).drops l := by
  funext j
  unfold Hp.drops Hp.up
  by_cases h : j ∈ l
  ·simp [h]
  ·by_cases e : j = k
   ·simp [e]
   ·simp [h, e]
theorem AWp.frzS (t : Nat) {P : Program} {c : Code} {Q : Exit → St → Prop} {σ : St} (h : argsP σ.H [σ.s t] fun ys ids => optC ys[0]? fun y => AWp P c Q { σ with s := upS σ.s t y, H := σ.H.drops ids }) : AWp P c Q σ := by
 intro B A W st a w ρ hs r _
 have hv := hs.slots t
 obtain ⟨ys, ids, h1, h2, h3⟩ := argsP_ok hs.heap (hs.hfar st) [σ.s t] [a.tmps.getD t undef] _ rfl (fun j x v hj hv' => by
  cases j with
  | zero =>
    have e1 := Option.some.inj (show some (σ.s t) = some x from hj)
    have e2 := Option.some.inj (show some (a.tmps.getD t undef) = some v from hv')
    rw [← e1, ← e2]; exact hv
  | succ j => simp at hj) h
 match ys, h2 with
 | [y], _ =>
   have hy := h3 ids (fun _ h => h) 0 y _ rfl rfl
   obtain ⟨hD, _⟩ := hs.heap.drops ids
   have hx := drops_ext (w := w) (B := B) (ρ := ρ) σ.H ids
   have live : ∀ i q, (σ.H.drops ids) i = some q → σ.H i = some q := fun i q hi => by
    unfold Hp.drops at hi
    split at hi
    ·cases hi
    ·exact hi
   refine h1 B A W st a w ρ ⟨hs.defers, hs.size, fun u => ?_, hD, hs.fresh, fun i q b h4 h5 => hs.mine i q b (live i q h4) h5, hs.os, hs.tape, hs.output, hs.grow, hs.same, hs.row, hs.pins, hs.marks⟩
   show RepV w (own B ρ (σ.H.drops ids)) ρ (upS σ.s t y u) _
   unfold upS
   split
   ·rename_i e
    subst e
    have hy' := hy.mono ((Ext.refl w (own B ρ (σ.H.drops ids)) (fun _ => none)).into ρ)
    exact RepV.of_W hy' hy'.notTup
   ·exact (hs.slots u).mono hx
end Go.Proofs.YtfbogelmgdojgaaGreat

