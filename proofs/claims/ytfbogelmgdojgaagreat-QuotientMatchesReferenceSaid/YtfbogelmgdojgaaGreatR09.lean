/- Texts A19 A20 in one. -/
import Derived.Test.YtfbogelmgdojgaaGreatR08
import Derived.Scope
import Derived.RangeFuncRecord
/- The abstract run of code, and contracts out of it. No program in sight. -/
namespace Go.Proofs.YtfbogelmgdojgaaGreat
set_option linter.unusedSimpArgs false
set_option linter.unusedVariables false
open Go.RowKit

theorem stepR_scope {P : Program} {b : Frame} {a : Act} {k : List Item} {cs : List Frame} {w : World} {c : Code} : step P (lone (b.atR a (.code (.scope c) :: k)) cs w) = .next (lone (b.atR a (.code c :: .inScope c :: k)) cs w) :=
 step_lone_go (by simp [stepG, stepG.exec, Frame.atR])
theorem stepR_inScope {P : Program} {b : Frame} {a : Act} {k : List Item} {cs : List Frame} {w : World} {c : Code} : step P (lone (b.atR a (.inScope c :: k)) cs w) = .next (lone (b.atR a k) cs w) :=
 step_lone_go (by simp [stepG, stepG.exec, Frame.atR])
theorem wpIn_scope_rd {P : Program} {F : Fence} {n : Nat} {Q : Exit → Act → World → Prop} {a : Act} {w : World} {c : Code} (h : c.wpIn F n P (Exit.noGoto Q) a w) : (Code.scope c).wpIn F n P Q a w := by
 intro b k cs hro hfn hrm
 obtain ⟨e, a₁, w₁, hq, harr⟩ := h b (.inScope c :: k) cs hro hfn hrm
 have one : StepsIn (Machine.fenced P F) P (lone (b.atR a (.code (.scope c) :: k)) cs w) (lone (b.atR a (.code c :: .inScope c :: k)) cs w) := .one (fenced_calm hfn hrm rfl) stepR_scope
 cases e with
 | normal => exact ⟨.normal, a₁, w₁, hq, one.trans (StepsIn.trans harr (.one (fenced_calm hfn hrm rfl) stepR_inScope))⟩
 | exit id => exact ⟨.exit id, a₁, w₁, hq, ⟨fun k' hk => one.trans (harr.1 k' (by simp [exitTo, hk])), fun hr hk => let ⟨k₁, h1, h2⟩ := harr.2 hr (by simp [exitTo, hk]); ⟨k₁, h1, one.trans h2⟩⟩⟩
 | goto l => exact hq.elim
 | ret => exact ⟨_, a₁, w₁, hq, .of_steps one harr⟩
 | panic ch => exact ⟨_, a₁, w₁, hq, .of_steps one harr⟩
 | outgrown => exact ⟨_, a₁, w₁, hq, .of_steps one harr⟩
class RdOk (A : Nat → Option Nat) (W : World) (r : Option Nat) : Prop where
 lies : ∀ l, r = some l → (∀ k, A k ≠ some l) ∧ ∃ x, W.heap[l]? = some (.loop x)
instance (A : Nat → Option Nat) (W : World) : RdOk A W none := ⟨fun _ h => by cases h⟩
def AWp (P : Program) (c : Code) (Q : Exit → St → Prop) (σ : St) : Prop :=
 ∀ (B : Nat → Prop) (A : Nat → Option Nat) (W : World), Stat B A W → ∀ (a : Act) (w : World) (ρ : Nat → Option Nat), Sim B A W σ a w ρ → ∀ {r : Option Nat} [RdOk A W r], c.wpIn (rd r) 0 P (fun e a' w' => ∃ σ' ρ', Q e σ' ∧ Sim B A W σ' a' w' ρ') a w
def thenE (N : St → Prop) (Q : Exit → St → Prop) : Exit → St → Prop
 | .normal, σ => N σ
 | e, σ => Q e σ
def blkE (id : Nat) (Q : Exit → St → Prop) : Exit → St → Prop
 | .exit id', σ => if id' = id then Q .normal σ else Q (.exit id') σ
 | e, σ => Q e σ
def scopeE (Q : Exit → St → Prop) : Exit → St → Prop
 | .goto _, _ => False
 | e, σ => Q e σ
def vc (P : Program) (Γ : Tab) (Δ : Gab) : Code → (Exit → St → Prop) → St → Prop
 | .skip, Q, σ => Q .normal σ
 | .region _ ops d, Q, σ => if d = true then vcDraw P Γ Δ ops σ (Q .normal) else vcOps P Γ Δ ops ops.toList σ (Q .normal)
 | .seq x y, Q, σ => vc P Γ Δ x (thenE (vc P Γ Δ y Q) Q) σ
 | .cond c x y, Q, σ => match σ.ev c with
   | .raw (.bool t) => (t = true → vc P Γ Δ x Q σ) ∧ (t = false → vc P Γ Δ y Q σ)
   | _ => False
 | .block id c, Q, σ => vc P Γ Δ c (blkE id Q) σ
 | .exit id, Q, σ => Q (.exit id) σ
 | .ret, Q, σ => Q .ret σ
 | .scope c, Q, σ => vc P Γ Δ c (scopeE Q) σ
 | .label _, Q, σ => Q .normal σ
 | c, Q, σ => AWp P c Q σ
structure Tabs (P : Program) (Γ : Tab) (Δ : Gab) : Prop where
 mixed : P.follows .mixedOrders = true
 tab : TabOk P Γ
 gab : GabOk P Δ
 loc : GabLoc Δ

section
variable {P : Program} {Γ : Tab} {Δ : Gab}
theorem AWp.mono {c : Code} {Q Q' : Exit → St → Prop} {σ : St} (h : AWp P c Q σ) (hq : ∀ e σ, Q e σ → Q' e σ) : AWp P c Q' σ := fun B A W st a w ρ hs =>
 wpIn_mono (h B A W st a w ρ hs) fun e a' w' ⟨σ', ρ', h1, h2⟩ => ⟨σ', ρ', hq _ _ h1, h2⟩
theorem vc_ok (T : Tabs P Γ Δ) : ∀ (c : Code) (Q : Exit → St → Prop) (σ : St), vc P Γ Δ c Q σ → AWp P c Q σ
 | .skip, Q, σ, h => fun B A W st a w ρ hs => wpIn_skip ⟨σ, ρ, h, hs⟩
 | .region id ops d, Q, σ, h => fun B A W st a w ρ hs => by
   intro r _
   unfold vc at h
   cases d with
   | true =>
     rw [if_pos rfl] at h
     exact vcDraw_ok T.mixed T.tab T.gab T.loc st (fun σ' a' w' ρ' h1 h2 => ⟨σ', ρ', h1, h2⟩) hs h
   | false =>
     rw [if_neg (by simp)] at h
     refine wpIn_region ?_
     have h2 := vcOps_ok (P := P) (r := r) (ops := ops) (Q := fun e a' w' => ∃ σ' ρ', Q e σ' ∧ Sim B A W σ' a' w' ρ') T.tab T.gab st (fun σ' a' w' ρ' h1 h2 => ⟨σ', ρ', h1, h2⟩) ops.toList 0 σ a w ρ rfl hs h
     rw [List.range_eq_range']
     simpa using h2
 | .seq x y, Q, σ, h => fun B A W st a w ρ hs => by
   intro r _
   refine wpIn_seq (wpIn_mono (vc_ok T x _ σ h B A W st a w ρ hs) fun e a' w' hq => ?_)
   obtain ⟨σ', ρ', h1, h2⟩ := hq
   cases e with
   | normal => exact vc_ok T y Q σ' h1 B A W st a' w' ρ' h2
   | exit id => exact ⟨σ', ρ', h1, h2⟩
   | goto l => exact ⟨σ', ρ', h1, h2⟩
   | ret => exact ⟨σ', ρ', h1, h2⟩
   | panic c => exact ⟨σ', ρ', h1, h2⟩
   | outgrown => exact ⟨σ', ρ', h1, h2⟩
 | .cond c x y, Q, σ, h => fun B A W st a w ρ hs => by
   intro r _
   unfold vc at h
   split at h
   ·rename_i t hc
    have hv := hs.ev c
    rw [hc] at hv
    have hv := RepW.raw_inv hv
    refine wpIn_cond hv ?_
    cases t with
    | true => exact vc_ok T x Q σ (h.1 rfl) B A W st a w ρ hs
    | false => exact vc_ok T y Q σ (h.2 rfl) B A W st a w ρ hs
   ·exact h.elim
 | .block id c, Q, σ, h => fun B A W st a w ρ hs => by
   intro r _
   refine wpIn_block (wpIn_mono (vc_ok T c _ σ h B A W st a w ρ hs) fun e a' w' hq => ?_)
   obtain ⟨σ', ρ', h1, h2⟩ := hq
   cases e with
   | exit id' =>
     simp only [blkE] at h1
     simp only [Exit.inBlock]
     split
     ·rename_i e; rw [if_pos e] at h1; exact ⟨σ', ρ', h1, h2⟩
     ·rename_i e; rw [if_neg e] at h1; exact ⟨σ', ρ', h1, h2⟩
   | normal => exact ⟨σ', ρ', h1, h2⟩
   | goto l => exact ⟨σ', ρ', h1, h2⟩
   | ret => exact ⟨σ', ρ', h1, h2⟩
   | panic c => exact ⟨σ', ρ', h1, h2⟩
   | outgrown => exact ⟨σ', ρ', h1, h2⟩
 | .exit id, Q, σ, h => fun B A W st a w ρ hs => wpIn_exit ⟨σ, ρ, h, hs⟩
 | .ret, Q, σ, h => fun B A W st a w ρ hs => wpIn_ret ⟨σ, ρ, h, hs⟩
 | .loop c, Q, σ, h => h
 | .rangeFunc f ps x y, Q, σ, h => h
 | .scope c, Q, σ, h => fun B A W st a w ρ hs => by
   intro r _
   refine wpIn_scope_rd (wpIn_mono (vc_ok T c _ σ h B A W st a w ρ hs) fun e a' w' hq => ?_)
   obtain ⟨σ', ρ', h1, h2⟩ := hq
   cases e with
   | goto l => exact h1
   | normal => exact ⟨σ', ρ', h1, h2⟩
   | exit id => exact ⟨σ', ρ', h1, h2⟩
   | ret => exact ⟨σ', ρ', h1, h2⟩
   | panic c => exact ⟨σ', ρ', h1, h2⟩
   | outgrown => exact ⟨σ', ρ', h1, h2⟩
 | .label l, Q, σ, h => fun B A W st a w ρ hs => wpIn_label ⟨σ, ρ, h, hs⟩
 | .goto l, Q, σ, h => h
 | .refuse s, Q, σ, h => h

def Wk (σ σ' : St) : Prop := ∀ (B : Nat → Prop) (A : Nat → Option Nat) (W : World) (a : Act) (w : World) (ρ : Nat → Option Nat), Sim B A W σ a w ρ → ∃ ρ', Sim B A W σ' a w ρ'
theorem Wk.refl (σ : St) : Wk σ σ := fun _ _ _ _ _ ρ h => ⟨ρ, h⟩
theorem Wk.trans {σ σ' σ'' : St} (h : Wk σ σ') (k : Wk σ' σ'') : Wk σ σ'' := fun B A W a w ρ hs => let ⟨ρ', h1⟩ := h B A W a w ρ hs; k B A W a w ρ' h1
theorem AWp.weaken {c : Code} {Q : Exit → St → Prop} {σ σ' : St} (h : AWp P c Q σ') (hw : Wk σ σ') : AWp P c Q σ := fun B A W st a w ρ hs => let ⟨ρ', h1⟩ := hw B A W a w ρ hs; h B A W st a w ρ' h1
def loopE {X : Type} (I : X → St) (μ : X → Nat) (x : X) (Q : Exit → St → Prop) : Exit → St → Prop
 | .normal, σ => ∃ x', Wk σ (I x') ∧ μ x' < μ x
 | e, σ => Q e σ
theorem AWp.loops {X : Type} (I : X → St) (μ : X → Nat) {c : Code} {Q : Exit → St → Prop} {σ : St} (x0 : X) (hw : Wk σ (I x0)) (hr : ∀ x, AWp P c (loopE I μ x Q) (I x)) : AWp P (.loop c) Q σ := by
 intro B A W st a w ρ hs
 obtain ⟨ρ0, hs0⟩ := hw B A W a w ρ hs
 intro r _ b k cs hro hfn hrm
 have key : ∀ n x a w ρ, μ x = n → Sim B A W (I x) a w ρ →
  ∃ e a' w', (∃ σ' ρ', Q e σ' ∧ Sim B A W σ' a' w' ρ') ∧ ArrivesIn (Machine.fenced P (rd r)) P (lone (b.atR a (.code c :: .inLoop c :: k)) cs w) b k cs e a' w' := by
  intro n
  induction n using Nat.strongRecOn with
  | _ n ih =>
    intro x a w ρ hn hI
    obtain ⟨e, a₁, w₁, ⟨σ', ρ', hq, hs'⟩, harr⟩ := hr x B A W st a w ρ hI b (.inLoop c :: k) cs hro hfn hrm
    cases e with
    | normal =>
      obtain ⟨x', hwk, hlt⟩ := hq
      obtain ⟨ρ'', hs''⟩ := hwk B A W a₁ w₁ ρ' hs'
      obtain ⟨e₂, a₂, w₂, hq₂, harr₂⟩ := ih (μ x') (hn ▸ hlt) x' a₁ w₁ ρ'' rfl hs''
      exact ⟨e₂, a₂, w₂, hq₂, .of_steps (StepsIn.trans harr (.one (fenced_calm hfn hrm rfl) stepR_inLoop)) harr₂⟩
    | exit id => exact ⟨_, a₁, w₁, ⟨σ', ρ', hq, hs'⟩, .pass (x := .inLoop c) rfl (fun _ _ => .inl (by simp)) harr⟩
    | goto l => exact ⟨_, a₁, w₁, ⟨σ', ρ', hq, hs'⟩, .pass (x := .inLoop c) rfl (fun _ _ => .inl (by simp)) harr⟩
    | ret => exact ⟨_, a₁, w₁, ⟨σ', ρ', hq, hs'⟩, .pass (x := .inLoop c) rfl (fun _ _ => .inl (by simp)) harr⟩
    | panic ch => exact ⟨_, a₁, w₁, ⟨σ', ρ', hq, hs'⟩, .pass (x := .inLoop c) rfl (fun _ _ => .inl (by simp)) harr⟩
    | outgrown => exact ⟨_, a₁, w₁, ⟨σ', ρ', hq, hs'⟩, .pass (x := .inLoop c) rfl (fun _ _ => .inl (by simp)) harr⟩
 obtain ⟨e, a', w', hq, harr⟩ := key _ x0 a w ρ0 rfl hs0
 exact ⟨e, a', w', hq, .of_steps (.one (fenced_calm hfn hrm rfl) stepR_loop) harr⟩
end

def RenC (θ : List Nat) : V → V → Prop
 | .ptr k e i off, .ptr k0 e0 i0 off0 => θ[k]? = some k0 ∧ e = e0 ∧ i = i0 ∧ off = off0
 | x, y => x = y ∧ x.atoms.all pureB = true
def RenCs (θ : List Nat) : List V → List V → Prop
 | [], [] => True
 | x :: l, y :: m => RenC θ x y ∧ RenCs θ l m
 | _, _ => False
def RenV (θ : List Nat) : V → V → Prop
 | .any, _ => True
 | .clo f a b, .clo f0 a0 b0 => f = f0 ∧ RenCs θ a a0 ∧ RenCs θ b b0
 | .ptr k e i off, .ptr k0 e0 i0 off0 => θ[k]? = some k0 ∧ e = e0 ∧ i = i0 ∧ off = off0
 | .sl k e o n, .sl k0 e0 o0 n0 => θ[k]? = some k0 ∧ e = e0 ∧ o = o0 ∧ n = n0
 | x, y => x.pure = true ∧ (x = y ∨ (x.isAgg = true ∧ y.isAgg = true ∧ x.atoms = y.atoms))
def RenS (θ : List Nat) (s' s : Nat → V) : Prop := ∀ t, RenV θ (s' t) (s t)
def RenL (θ : List Nat) (l' l : List V) : Prop := l'.length = l.length ∧ ∀ (i : Nat) (x y : V), l'[i]? = some x → l[i]? = some y → RenV θ x y ∧ x.wid = y.wid ∧ (x = .any → y.isAgg = false)
def RenB (θ : List Nat) (k : Nat) (x : Blk) (H : Hp) : Prop := ∃ k0 y, θ[k]? = some k0 ∧ H k0 = some y ∧ x.t = y.t ∧ x.e = y.e ∧ RenL θ x.l y.l
def RenH (θ : List Nat) (H' H : Hp) : Prop := ∀ k x, H' k = some x → RenB θ k x H
section
variable {w : World} {O O' : Nat → Prop} {ρ : Nat → Option Nat}
def renR (θ : List Nat) (ρ : Nat → Option Nat) : Nat → Option Nat := fun k => (θ[k]?).bind ρ
theorem RenCs.get {θ : List Nat} : ∀ {l m : List V}, RenCs θ l m → l.length = m.length ∧ ∀ (j : Nat) (x : V), l[j]? = some x → ∃ y, m[j]? = some y ∧ RenC θ x y
 | [], [], _ => ⟨rfl, fun j x h => by simp at h⟩
 | x :: l, y :: m, h => by
   obtain ⟨h1, h2⟩ := RenCs.get h.2
   refine ⟨by simp [h1], fun j q hq => ?_⟩
   cases j with
   | zero => simp at hq; subst hq; exact ⟨y, rfl, h.1⟩
   | succ j => obtain ⟨z, e1, e2⟩ := h2 j q (by simpa using hq); exact ⟨z, by simpa using e1, e2⟩
 | [], _ :: _, h => h.elim
 | _ :: _, [], h => h.elim
theorem RenC.rep {θ : List Nat} {x y : V} {v : Value} (h : RenC θ x y) (hO : Ext w O ρ w O' ρ) (hs : ShapeOk y v) (hr : ∀ (i : Nat) (z : V) (u : Value), y.atoms[i]? = some z → v.cells[i]? = some u → RepA w O ρ z u) :
 ShapeOk x v ∧ ∀ (i : Nat) (z : V) (u : Value), x.atoms[i]? = some z → v.cells[i]? = some u → RepA w O' (renR θ ρ) z u := by
 unfold RenC at h
 split at h
 ·rename_i k e i off k0 e0 i0 off0
  obtain ⟨h1, rfl, rfl, rfl⟩ := h
  refine ⟨hs, fun j z u hz hu => ?_⟩
  cases j with
  | zero =>
    simp [V.atoms] at hz
    subst hz
    have := hr 0 _ u rfl hu
    cases this with
    | ptr _ _ _ _ _ b hb => exact .ptr _ _ _ _ _ _ (by simp [renR, h1, hb])
  | succ j => simp [V.atoms] at hz
 ·obtain ⟨rfl, hp⟩ := h
  exact ⟨hs, fun i z u hz hu => (((hr i z u hz hu).mono hO).pureB (List.all_eq_true.1 hp z (List.mem_of_getElem? hz))).mono ((Ext.refl _ _ _).into _)⟩
theorem ren_clo {θ : List Nat} {f : Fn} {a a0 b b0 : List V} {v : Value} (ha : RenCs θ a a0) (hb : RenCs θ b b0) (h : RepA w O ρ (.clo f a0 b0) v) (hO : Ext w O ρ w O' ρ) : RepA w O' (renR θ ρ) (.clo f a b) v := by
 cases h with
 | clo _ _ _ _ vf vc h1 h2 s1 s2 r1 r2 =>
   obtain ⟨l1, g1⟩ := ha.get
   obtain ⟨l2, g2⟩ := hb.get
   refine .clo _ _ _ _ vf vc (by omega) (by omega) (fun j x v hj hv => ?_) (fun j x v hj hv => ?_) (fun j x v hj hv => ?_) (fun j x v hj hv => ?_)
   ·obtain ⟨y, e1, e2⟩ := g1 j x hj
    exact (e2.rep hO (s1 j y v e1 hv) (r1 j y v e1 hv)).1
   ·obtain ⟨y, e1, e2⟩ := g2 j x hj
    exact (e2.rep hO (s2 j y v e1 hv) (r2 j y v e1 hv)).1
   ·obtain ⟨y, e1, e2⟩ := g1 j x hj
    exact (e2.rep hO (s1 j y v e1 hv) (r1 j y v e1 hv)).2
   ·obtain ⟨y, e1, e2⟩ := g2 j x hj
    exact (e2.rep hO (s2 j y v e1 hv) (r2 j y v e1 hv)).2
theorem ren_atomic {θ : List Nat} {x y : V} {v : Value} (h : RenV θ x y) (hx : ∀ l, x ≠ .tup l) (hr : RepV w O ρ y v) (hO : Ext w O ρ w O' ρ) : RepW w O' (renR θ ρ) x v := by
 unfold RenV at h
 split at h
 ·exact .inl rfl
 ·rename_i f a b f0 a0 b0
  obtain ⟨rfl, h1, h2⟩ := h
  have hA := RepW.atom hr rfl
  have hB := ren_clo h1 h2 hA hO
  cases hA with
  | clo => exact RepW.of_atom hB rfl rfl
 ·rename_i k e i off k0 e0 i0 off0
  obtain ⟨h1, rfl, rfl, rfl⟩ := h
  have hA := RepW.atom hr rfl
  cases hA with
  | ptr _ _ _ _ _ b hb => exact RepW.of_atom (.ptr _ _ _ _ _ _ (by simp [renR, h1, hb])) rfl rfl
 ·rename_i k e i off k0 e0 i0 off0
  obtain ⟨h1, rfl, rfl, rfl⟩ := h
  have hA := RepW.atom hr rfl
  cases hA with
  | sl _ _ _ _ _ b c arr t fr g1 g2 g3 g4 => exact RepW.of_atom (.sl _ _ _ _ _ _ _ arr t fr (by simp [renR, h1, g1]) g2 g3 g4) rfl rfl
 ·obtain ⟨hp, h⟩ := h
  have hW : RepW w O ρ x v := by
   rcases h with rfl | ⟨h1, h2, h3⟩
   ·cases x <;> first | exact hr | exact absurd rfl (hx _)
   ·have hyW : RepW w O ρ y v := by cases y <;> first | exact hr | simp [V.isAgg] at h2
    exact hyW.congr h2 h1 h3.symm
  have h1 := (hW.mono hO).pure hp
  exact h1.mono ((Ext.refl _ _ _).into _)
theorem Wk.mk {σ σ' : St} (θ : List Nat) (hN : σ'.N = σ.N) (hm : σ'.m = σ.m) (hq : σ'.q = σ.q) (hid : ∀ k, k < σ.m → θ[k]? = some k) (hn : σ'.n = θ.length) (hs : RenS θ σ'.s σ.s) (hH : RenH θ σ'.H σ.H) (hnd : θ.Nodup) (ht : ∀ t l, σ'.s t ≠ .tup l) : Wk σ σ' := by
 intro B A W a w ρ h
 have hlive : ∀ k x b, σ'.H k = some x → renR θ ρ k = some b → ∃ k0 y, θ[k]? = some k0 ∧ σ.H k0 = some y ∧ ρ k0 = some b := fun k x b h1 h2 => by
  obtain ⟨k0, y, e1, e2, _⟩ := hH k x h1
  refine ⟨k0, y, e1, e2, ?_⟩
  simpa [renR, e1] using h2
 have hO : Ext w (own B ρ σ.H) ρ w (own B (renR θ ρ) σ'.H) ρ := Ext.less fun b hb => by
  rcases hb with hb | ⟨k, x, h1, h2⟩
  ·exact .inl hb
  ·obtain ⟨k0, y, _, e2, e3⟩ := hlive k x b h1 h2
   exact .inr ⟨k0, y, e2, e3⟩
 refine ⟨renR θ ρ, fun e => h.defers (by rw [← hq]; exact e), by rw [hN]; exact h.size, fun t => RepV.of_W (ren_atomic (hs t) (ht t) (h.slots t) hO) (ht t), ⟨fun k x hk => ?_, fun k k' x x' b h1 h2 h3 h4 => ?_⟩, fun k hk => ?_, fun k x b h1 h2 => ?_, h.os, h.tape, h.output, h.grow, h.same, h.row, fun k b e => ⟨by rw [hm]; exact (h.pins k b e).1, by simp [renR, hid k (h.pins k b e).1, (h.pins k b e).2]⟩, h.marks⟩
 ·obtain ⟨k0, y, e1, e2, e3, e4, e5, e6⟩ := hH k x hk
  obtain ⟨b, arr, g1, g2, g3, g4, g5⟩ := h.heap.row k0 y e2
  have hall : ∀ z ∈ x.l, z.wid = x.e := fun z hz => by
   obtain ⟨i, hi⟩ := List.getElem?_of_mem hz
   have hil : i < y.l.length := by rw [← e5]; exact (List.getElem?_eq_some_iff.1 hi).1
   have h1 := e6 i z _ hi (List.getElem?_eq_getElem hil)
   rw [h1.2.1, e4]
   exact g3 _ (List.getElem_mem hil)
  have hlx := V.atomsL_length hall
  have hly := V.atomsL_length g3
  refine ⟨b, arr, by simp [renR, e1, g1], by rw [e3]; exact g2, hall, by rw [hlx, e5, e4, ← hly]; exact g4, fun j z u hz hu => ?_⟩
  have hjl : j < x.l.length * x.e := by rw [← hlx]; exact (List.getElem?_eq_some_iff.1 hz).1
  have hpos : 0 < x.e := by
   rcases Nat.eq_zero_or_pos x.e with e0 | e0
   ·rw [e0] at hjl; omega
   ·exact e0
  have hdm : j / x.e * x.e + j % x.e = j := by rw [Nat.mul_comm]; exact Nat.div_add_mod j x.e
  have hmod : j % x.e < x.e := Nat.mod_lt _ hpos
  have hdl : j / x.e < x.l.length := by rw [Nat.div_lt_iff_lt_mul hpos]; omega
  have hix : x.l[j / x.e]? = some x.l[j / x.e] := List.getElem?_eq_getElem hdl
  have hiy : y.l[j / x.e]? = some (y.l[j / x.e]'(by omega)) := List.getElem?_eq_getElem (by omega)
  have hz' := V.atomsL_get hall hix hmod
  rw [hdm, hz] at hz'
  obtain ⟨r1, r2, r3⟩ := e6 _ _ _ hix hiy
  generalize hxx : x.l[j / x.e] = xx at *
  generalize hyy : (y.l[j / x.e]'(by omega)) = yy at *
  have hyat : ∀ i p, yy.atoms[i]? = some p → i < x.e → ∀ u', arr[j / x.e * x.e + i]? = some u' → RepA w (own B ρ σ.H) ρ p u' := fun i p hp hi u' hu' => by
   refine g5 (j / x.e * x.e + i) p u' ?_ hu'
   have := V.atomsL_get g3 hiy (j := i) (by rw [← e4]; exact hi)
   rw [← e4] at this
   rw [this]; exact hp
  unfold RenV at r1
  split at r1
  ·have : z = .any := by
    rw [V.atoms_single rfl] at hz'
    cases hm : j % x.e with
    | zero => rw [hm] at hz'; simpa using hz'
    | succ m => rw [hm] at hz'; simp at hz'
   subst this
   exact .any _ _
  ·rename_i f1 a1 b1 f2 a2 b2
   obtain ⟨rfl, c1, c2⟩ := r1
   have hxe : x.e = 1 := by rw [← hall _ (List.mem_of_getElem? hix)]; rfl
   have hm0 : j % x.e = 0 := by rw [hxe]; omega
   rw [hm0] at hz'
   simp [V.atoms] at hz'
   subst hz'
   exact ren_clo c1 c2 (hyat 0 (.clo f1 a2 b2) rfl (by omega) u (by rw [← hm0, hdm]; exact hu)) hO
  ·rename_i k1 q1 i1 o1 k2 q2 i2 o2
   obtain ⟨a1, rfl, rfl, rfl⟩ := r1
   have hxe : x.e = 1 := by rw [← hall _ (List.mem_of_getElem? hix)]; rfl
   have hm0 : j % x.e = 0 := by rw [hxe]; omega
   rw [hm0] at hz'
   simp [V.atoms] at hz'
   subst hz'
   have := hyat 0 (.ptr k2 q1 i1 o1) rfl (by omega) u (by rw [← hm0, hdm]; exact hu)
   cases this with
   | ptr _ _ _ _ _ b' hb' => exact .ptr _ _ _ _ _ _ (by simp [renR, a1, hb'])
  ·rename_i k1 q1 i1 o1 k2 q2 i2 o2
   obtain ⟨a1, rfl, rfl, rfl⟩ := r1
   have hxe : x.e = 1 := by rw [← hall _ (List.mem_of_getElem? hix)]; rfl
   have hm0 : j % x.e = 0 := by rw [hxe]; omega
   rw [hm0] at hz'
   simp [V.atoms] at hz'
   subst hz'
   have := hyat 0 (.sl k2 q1 i1 o1) rfl (by omega) u (by rw [← hm0, hdm]; exact hu)
   cases this with
   | sl _ _ _ _ _ b' c arr' t fr c1 c2 c3 c4 => exact .sl _ _ _ _ _ _ _ arr' t fr (by simp [renR, a1, c1]) c2 c3 c4
  ·obtain ⟨hp, heq⟩ := r1
   have hat : xx.atoms = yy.atoms := by
    rcases heq with rfl | ⟨_, _, h3⟩
    ·rfl
    ·exact h3
   rw [hat] at hz'
   have h1 := hyat (j % x.e) z hz'.symm hmod u (by rw [hdm]; exact hu)
   have hzp : pureA z = true := by
    unfold V.pure at hp
    rw [hat] at hp
    exact List.all_eq_true.1 hp z (List.mem_of_getElem? hz'.symm)
   exact ((h1.mono hO).pureA hzp).mono ((Ext.refl _ _ _).into _)
 ·obtain ⟨k0, y, e1, e2, e3⟩ := hlive k x b h1 h3
  obtain ⟨k0', y', e1', e2', e3'⟩ := hlive k' x' b h2 h4
  have hk0 := h.heap.inj k0 k0' y y' b e2 e2' e3 e3'
  subst hk0
  obtain ⟨hk, hv⟩ := List.getElem?_eq_some_iff.1 e1
  obtain ⟨hk', hv'⟩ := List.getElem?_eq_some_iff.1 e1'
  have hpw := List.pairwise_iff_getElem.1 hnd
  rcases Nat.lt_trichotomy k k' with hlt | rfl | hlt
  ·exact absurd (hv.trans hv'.symm) (hpw k k' hk hk' hlt)
  ·rfl
  ·exact absurd (hv'.trans hv.symm) (hpw k' k hk' hk hlt)
 ·unfold renR
  rw [List.getElem?_eq_none (by omega)]
  rfl
 ·obtain ⟨k0, y, e1, e2, e3⟩ := hlive k x b h1 h2
  exact h.mine k0 y b e2 e3
end
end Go.Proofs.YtfbogelmgdojgaaGreat


/- Contracts of functions out of the abstract run. No program in sight. -/
namespace Go.Proofs.YtfbogelmgdojgaaGreat
set_option linter.unusedSimpArgs false
set_option linter.unusedVariables false
open Go.RowKit

def aResL (P : Program) (σ : St) : List ResultVar → (List V → Prop) → Prop
 | [], k => k []
 | .tmp t :: r, k => aResL P σ r fun ys => k (σ.s t :: ys)
 | .cell t ty :: r, k => aLoad P σ.H ty (σ.s t) fun z _ _ => aResL P σ r fun ys => k (z :: ys)
def atLe : V → V → Prop
 | .emp, .lst l => l = []
 | .raw v, .lst l => v = .slice none 0 0 ∧ l = []
 | y, r => y = r
def atsLe : List V → List V → Prop
 | [], [] => True
 | y :: ys, r :: rs => atLe y r ∧ atsLe ys rs
 | _, _ => False
def OutEq (y r : V) : Prop := y = r ∨ (y.isAgg = true ∧ r.isAgg = true ∧ atsLe y.atoms r.atoms) ∨ (y.isAgg = false ∧ r.isAgg = false ∧ atLe y r)
theorem OutEq.refl (y : V) : OutEq y y := .inl rfl
theorem atLe.rfl' (y : V) : atLe y y := by
 cases y <;> rfl
theorem atsLe.refl : ∀ l : List V, atsLe l l
 | [] => trivial
 | y :: l => ⟨atLe.rfl' y, atsLe.refl l⟩
theorem OutEq.atoms {y r : V} (h1 : y.isAgg = true) (h2 : r.isAgg = true) (h3 : y.atoms = r.atoms) : OutEq y r := .inr (.inl ⟨h1, h2, h3 ▸ atsLe.refl _⟩)
theorem atLe.rep {w O ρ} {y r : V} {v : Value} (h : atLe y r) (hy : RepA w O ρ y v) : RepA w O ρ r v := by
 unfold atLe at h
 split at h
 ·subst h; cases hy; exact .nil _ _ _
 ·obtain ⟨rfl, rfl⟩ := h; cases hy; exact .nil _ _ _
 ·subst h; exact hy
theorem atsLe.get : ∀ {ys rs : List V}, atsLe ys rs → ys.length = rs.length ∧ ∀ (j : Nat) (r : V), rs[j]? = some r → ∃ y, ys[j]? = some y ∧ atLe y r
 | [], [], _ => ⟨rfl, fun j r h => by simp at h⟩
 | y :: ys, r :: rs, h => by
   obtain ⟨h1, h2⟩ := atsLe.get h.2
   refine ⟨by simp [h1], fun j q hq => ?_⟩
   cases j with
   | zero => simp at hq; subst hq; exact ⟨y, rfl, h.1⟩
   | succ j => obtain ⟨z, e1, e2⟩ := h2 j q (by simpa using hq); exact ⟨z, by simpa using e1, e2⟩
 | [], _ :: _, h => h.elim
 | _ :: _, [], h => h.elim
def OutsL : List V → List V → Prop
 | [], [] => True
 | y :: ys, r :: rs => OutEq y r ∧ OutsL ys rs
 | _, _ => False
def Outs (ys : List V) (r : V) : Prop :=
 match ys, r with
 | [y], r => OutEq y r
 | ys, .tup l => OutsL ys l
 | _, _ => False
def retE (P : Program) (rs : List ResultVar) (r : V) : Exit → St → Prop
 | .normal, σ => aResL P σ rs fun xs => argsP σ.H xs fun ys _ => Outs ys r
 | .ret, σ => aResL P σ rs fun xs => argsP σ.H xs fun ys _ => Outs ys r
 | _, _ => False
def argS : List V → Nat → (Nat → V) → Nat → V
 | [], _, s => s
 | a :: l, i, s => argS l (i + 1) (upS s i a)
def st0 (args : List V) (N : Nat) : St := { s := argS args 0 fun _ => .any, H := fun _ => none, n := 0, N := N }

theorem argS_get : ∀ (l : List V) (i : Nat) (s : Nat → V) (t : Nat), argS l i s t = if i ≤ t ∧ t < i + l.length then l.getD (t - i) .any else s t
 | [], i, s, t => by simp [argS]; omega
 | a :: l, i, s, t => by
   simp only [argS, argS_get l]
   by_cases h1 : i + 1 ≤ t ∧ t < i + 1 + l.length
   ·rw [if_pos h1, if_pos (by simp only [List.length_cons]; omega), show t - i = (t - (i + 1)) + 1 from by omega]
    simp
   ·rw [if_neg h1]
    by_cases h2 : t = i
    ·subst h2
     rw [if_pos (by simp only [List.length_cons]; omega)]
     simp [upS]
    ·rw [if_neg (by simp only [List.length_cons]; omega)]
     simp [upS, h2]
theorem RepW.notTup {w O ρ x v} (h : RepW w O ρ x v) : ∀ l, x ≠ .tup l := by
 rintro l rfl
 rcases h with h | ⟨h1, h2⟩
 ·cases h
 ·have h3 : 0 < v.cells.size := by have := h1.2.2; simp [V.atoms] at this; omega
  have := h2 0 _ _ rfl (Array.getElem?_eq_getElem h3)
  cases this
section
variable {P : Program} {B : Nat → Prop} {A : Nat → Option Nat} {W w : World} {σ : St} {a : Act} {ρ : Nat → Option Nat}
theorem load_addr {t : TypeId} {u v : Value} (h : (Instr.loadAt t u).run P w = .ok v w) : ((do loadVar t (← asAddr u)) : Sem Value).run P w = .ok v w := by
 cases u with
 | pointer p =>
   cases p with
   | none => simp [Instr.loadAt, Instr.sureAddr] at h
   | some p => simpa [Instr.loadAt, Instr.sureAddr, asAddr] using h
 | _ => simp [Instr.loadAt, Instr.sureAddr] at h
def resV (tmps : Array Value) : ResultVar → Sem Value
 | .tmp t => pure (tmps.getD t undef)
 | .cell p t => do loadVar t (← asAddr (tmps.getD p undef))
theorem res_ok (hs : Sim B A W σ a w ρ) : ∀ (l : List ResultVar) (k : List V → Prop), aResL P σ l k →
 ∃ xs vs, k xs ∧ (l.mapM (m := Sem) (resV a.tmps)).run P w = .ok vs w ∧ vs.length = xs.length ∧
  ∀ (j : Nat) (x : V) (v : Value), xs[j]? = some x → vs[j]? = some v → RepV w (own B ρ σ.H) ρ x v
 | [], k, h => ⟨[], [], h, by simp, rfl, fun j x v h1 _ => by simp at h1⟩
 | .tmp t :: r, k, h => by
   obtain ⟨xs, vs, h1, h2, h3, h4⟩ := res_ok hs r _ h
   refine ⟨σ.s t :: xs, a.tmps.getD t undef :: vs, h1, ?_, by simp [h3], fun j x v e1 e2 => ?_⟩
   ·simp only [List.mapM_cons, resV, Sem.run_bind, Sem.run_pure, Result.andThen_ok, h2]
   ·cases j with
    | zero => simp only [List.getElem?_cons_zero, Option.some.injEq] at e1 e2; subst e1 e2; exact hs.slots t
    | succ j => exact h4 j x v (by simpa using e1) (by simpa using e2)
 | .cell t ty :: r, k, h => by
   obtain ⟨z, rs, hz, v, hr, hv⟩ := aLoad_ok (P := P) hs.heap (hs.slots t) h
   obtain ⟨xs, vs, h1, h2, h3, h4⟩ := res_ok hs r _ hz
   have hr' := load_addr hr
   refine ⟨z :: xs, v :: vs, h1, ?_, by simp [h3], fun j x u e1 e2 => ?_⟩
   ·have hr2 : (resV a.tmps (.cell t ty)).run P w = .ok v w := hr'
    rw [List.mapM_cons, Sem.run_bind, hr2, Result.andThen_ok, Sem.run_bind, h2]
    rfl
   ·cases j with
    | zero => simp only [List.getElem?_cons_zero, Option.some.injEq] at e1 e2; subst e1 e2; exact hv
    | succ j => exact h4 j x u (by simpa using e1) (by simpa using e2)
theorem results_run {fn : Func} {tmps : Array Value} {vs : List Value} (h : (fn.results.toList.mapM (m := Sem) (resV tmps)).run P w = .ok vs w) :
 (results fn tmps).run P w = .ok (if hh : vs.toArray.size = 1 then vs.toArray[0] else .tuple vs.toArray) w := by
 have e : results fn tmps = (do let vs ← fn.results.mapM (resV tmps); pure (if h : vs.size = 1 then vs[0] else .tuple vs)) := by
  unfold results
  congr 1
 rw [e, Array.mapM_eq_mapM_toList, Sem.run_bind, Sem.run_map, h]
 rfl
theorem OutEq.rep {O : Nat → Prop} {ρ'} {y r : V} {v : Value} (h : OutEq y r) (hy : RepW w O ρ' y v) : RepW w O ρ' r v := by
 rcases h with rfl | ⟨h1, h2, h3⟩ | ⟨h1, h2, h3⟩
 ·exact hy
 ·rw [RepW.agg_iff h1] at hy
  rw [RepW.agg_iff h2]
  obtain ⟨e1, e2⟩ := h3.get
  obtain ⟨cs, rfl, q1, q2⟩ := hy
  refine ⟨cs, rfl, by omega, fun i r u hr hu => ?_⟩
  obtain ⟨y', k1, k2⟩ := e2 i r hr
  exact k2.rep (q2 i y' u k1 hu)
 ·have ha := h3.rep (hy.atom h1)
  rcases hy with rfl | ⟨s1, s2⟩
  ·have : r = .any := by
    exact (show V.any = r by cases r <;> first | exact h3 | exact absurd h3 (by intro e; cases e)).symm
   subst this; exact .inl rfl
  ·exact RepW.of_atom ha h2 (s1.2.1 h1)
theorem OutsL.get : ∀ (ys rs : List V), OutsL ys rs → ys.length = rs.length ∧ ∀ (j : Nat) (r : V), rs[j]? = some r → ∃ y, ys[j]? = some y ∧ OutEq y r
 | [], [], _ => ⟨rfl, fun j r h => by simp at h⟩
 | y :: ys, r :: rs, h => by
   obtain ⟨h1, h2⟩ := OutsL.get ys rs h.2
   refine ⟨by simp [h1], fun j q hq => ?_⟩
   cases j with
   | zero => simp at hq; subst hq; exact ⟨y, rfl, h.1⟩
   | succ j => obtain ⟨z, e1, e2⟩ := h2 j q (by simpa using hq); exact ⟨z, by simpa using e1, e2⟩
 | [], _ :: _, h => h.elim
 | _ :: _, [], h => h.elim
theorem Outs.rep {O : Nat → Prop} {ρ'} {ys : List V} {r : V} {vs : List Value} (h : Outs ys r) (hl : vs.length = ys.length) (hr : ∀ (j : Nat) (y : V) (v : Value), ys[j]? = some y → vs[j]? = some v → RepW w O ρ' y v) :
 RepV w O ρ' r (if hh : vs.toArray.size = 1 then vs.toArray[0] else .tuple vs.toArray) := by
 have multi : ys.length ≠ 1 → ∀ l, r = .tup l → OutsL ys l → RepV w O ρ' r (if hh : vs.toArray.size = 1 then vs.toArray[0] else .tuple vs.toArray) := by
  rintro hne l rfl h
  obtain ⟨h1, h2⟩ := OutsL.get _ _ h
  have hsz : ¬ vs.toArray.size = 1 := by simpa [hl] using hne
  rw [dif_neg hsz]
  refine ⟨vs.toArray, rfl, by simp [← h1, hl], fun j q u hq hu => ?_⟩
  obtain ⟨y, e1, e2⟩ := h2 j q hq
  exact e2.rep (hr j y u e1 (by simpa using hu))
 match ys, vs, hl, h, hr, multi with
 | [y], [v], _, h, hr, _ =>
   have h' : OutEq y r := by cases r <;> exact h
   have h1 := h'.rep (hr 0 y v rfl rfl)
   exact RepV.of_W h1 h1.notTup
 | [], vs, _, h, _, multi =>
   cases r with
   | tup l => exact multi (by simp) l rfl h
   | _ => exact h.elim
 | _ :: _ :: _, vs, _, h, _, multi =>
   cases r with
   | tup l => exact multi (by simp) l rfl h
   | _ => exact h.elim
theorem PCall.le {f : FuncId} {args args' : List V} {r : V} (h : PCall P f args r) (hl : OutsL args' args) : PCall P f args' r := by
 intro B w vs hv hr hB
 obtain ⟨e1, e2⟩ := OutsL.get _ _ hl
 refine h B w vs (by omega) (fun j x v hx hv => ?_) hB
 obtain ⟨y, k1, k2⟩ := e2 j x hx
 exact k2.rep (hr j y v k1 hv)
end
theorem sim0 {B : Nat → Prop} {w : World} {vs : List Value} {args : List V} {N : Nat} (hl : vs.length = args.length) (hr : ∀ (j : Nat) (x : V) (v : Value), args[j]? = some x → vs[j]? = some v → RepW w B (fun _ => none) x v) (hN : args.length ≤ N) :
 Sim B (fun _ => none) w (st0 args N) { tmps := vs.toArray ++ Array.replicate (N - vs.toArray.size) undef, defers := [] } w (fun _ => none) := by
 have hown : ∀ b, own B (fun _ => none) (fun _ => none) b → B b := fun b hb => by
  rcases hb with hb | ⟨k, x, h1, _⟩
  ·exact hb
  ·cases h1
 have hx : Ext w B (fun _ => none) w (own B (fun _ => none) (fun _ => none)) (fun _ => none) := Ext.less hown
 refine ⟨fun _ => rfl, by simp [hl, st0]; omega, fun t => ?_, ⟨fun k x h => by simp [st0] at h, fun k k' x x' b h1 => by simp [st0] at h1⟩, fun _ _ => rfl, fun k x b h => by simp [st0] at h, rfl, rfl, rfl, Nat.le_refl _, fun _ _ _ => rfl, fun b arr t fr e => ⟨_, _, _, e, rfl⟩, fun k b e => (by cases e), Marks.nil _ _⟩
 simp only [st0, argS_get, Nat.zero_le, true_and, Nat.zero_add, Nat.sub_zero]
 by_cases ht : t < args.length
 ·rw [if_pos ht]
  have e1 : args[t]? = some args[t] := List.getElem?_eq_getElem ht
  have e2 : vs[t]? = some (vs[t]'(by omega)) := List.getElem?_eq_getElem (by omega)
  have h1 := (hr t _ _ e1 e2).mono hx
  have e3 : (vs.toArray ++ Array.replicate (N - vs.toArray.size) undef).getD t undef = vs[t]'(by omega) := by
   rw [Array.getD_eq_getD_getElem?, Array.getElem?_append_left (by simp; omega)]
   simp [e2]
  rw [e3]
  have e4 : args.getD t .any = args[t] := by simp [List.getD_eq_getElem?_getD, e1]
  rw [e4]
  exact RepV.of_W h1 h1.notTup
 ·rw [if_neg ht]
  exact .inl rfl
theorem Sim.shut {P : Program} {B : Nat → Prop} {A : Nat → Option Nat} {W : World} {σ : St} {a : Act} {w : World} {ρ : Nat → Option Nat} (h : Sim B A W σ a w ρ) {d : Deferred} {ds : List Deferred} (hd : a.defers = d :: ds) :
 ∃ D w', d.target = .collected D ∧ (Instr.takeDeferred D).run P w = .ok [] w' ∧ Sim B A W σ { a with defers := ds } w' ρ := by
 obtain ⟨l, e1, e2, e3⟩ := h.marks
 rw [hd] at e1
 match l, e1, e2, e3 with
 | D :: lm, e1, e2, e3 =>
   simp only [List.map_cons, List.cons.injEq] at e1
   obtain ⟨rfl, e4⟩ := e1
   obtain ⟨n1, n2⟩ := List.nodup_cons.1 e2
   obtain ⟨g1, g2⟩ := e3 D (by simp)
   have oth : ∀ b, b ≠ D → (w.putObj D (.deferred none)).heap[b]? = w.heap[b]? := fun b hb => World.putObj_heap_other hb
   have cel : ∀ (b : Nat) (arr : Array Value) (t : TypeId) (fr : Nat × Nat), w.heap[b]? = some (.cells arr t fr) → (w.putObj D (.deferred none)).heap[b]? = w.heap[b]? := fun b arr t fr e => oth b fun hb => by subst hb; rw [g2] at e; cases e
   have hx : Ext w (own B ρ σ.H) ρ (w.putObj D (.deferred none)) (own B ρ σ.H) ρ := ⟨fun _ _ e => e, fun b _ hO => ⟨hO, cel b⟩, by simp, fun b arr t fr e => ⟨arr, t, fr, (cel b arr t fr e).trans e, rfl⟩⟩
   refine ⟨D, _, rfl, run_takeDeferred g2, fun e => ?_, h.size, fun t => (h.slots t).mono hx, h.heap.mono hx (fun k x b f1 f2 => ?_) (fun _ _ _ _ e => e), h.fresh, h.mine, h.os, h.tape, h.output, by rw [World.putObj_size]; exact h.grow, fun b hb hA => (oth b (by omega)).trans (h.same b hb hA), fun b arr t fr e => ?_, h.pins, ⟨lm, e4, n2, fun D' hD' => ⟨(e3 D' (by simp [hD'])).1, (oth D' fun e => n1 (e ▸ hD')).trans (e3 D' (by simp [hD'])).2⟩⟩⟩
   ·exact absurd (h.defers e) (by rw [hd]; simp)
   ·obtain ⟨b', arr, q1, q2, _⟩ := h.heap.row k x f1
    rw [f2] at q1; injection q1 with q1; subst q1
    exact cel _ _ _ _ q2
   ·obtain ⟨a1, t1, f1, q1, s1⟩ := h.row b arr t fr e
    exact ⟨a1, t1, f1, (cel _ _ _ _ q1).trans q1, s1⟩
theorem leaves_of {P : Program} {F : Fence} {n : Nat} {fn : Func} {R : Ending → World → Prop} {B : Nat → Prop} {A : Nat → Option Nat} {W : World} {σ : St} {ρ : Nat → Option Nat} {tmps : Array Value} : ∀ (ds : List Deferred) (w : World), Sim B A W σ { tmps := tmps, defers := ds } w ρ →
 (∀ w', Sim B A W σ { tmps := tmps, defers := [] } w' ρ → ∃ v, (results fn tmps).run P w' = .ok v w' ∧ R (.returned v) w') → LeavesInM F n P fn tmps R ds .returning w
 | [], w, hs, h => h w hs
 | d :: ds, w, hs, h => by
   obtain ⟨D, w', h1, h2, h3⟩ := hs.shut (P := P) rfl
   exact ⟨by simp, .inl ⟨D, w', h1, h2, leaves_of ds w' h3 h⟩⟩
theorem PCall.of_vc {P : Program} {Γ : Tab} {Δ : Gab} (T : Tabs P Γ Δ) {f : FuncId} {fn : Func} {c : Code} {args : List V} {r : V} (hf : P.funcs[f]? = some fn) (hb : fn.body = some c) {N : Nat} (hn : fn.ntmps = N) {rs : Array ResultVar} (hrs : fn.results = rs) (hN : args.length ≤ N)
 (h : vc P Γ Δ c (retE P rs.toList r) (st0 args N)) : PCall P f args r := by
 subst hn hrs
 intro B w vs hl hr hB
 refine callsIn_wide.1 (callsIn_of_wp_marks (F := Fence.wide) (n := 0) hf hb trivial ?_)
 have st : Stat B (fun _ => none) w := ⟨hB, fun _ _ h => by cases h⟩
 have hown : ∀ b, own B (fun _ => none) (fun _ => none) b → B b := fun b hb => by
  rcases hb with hb | ⟨k, x, h1, _⟩
  ·exact hb
  ·cases h1
 have hx : Ext w B (fun _ => none) w (own B (fun _ => none) (fun _ => none)) (fun _ => none) := Ext.less hown
 have hs : Sim B (fun _ => none) w (st0 args fn.ntmps) { tmps := vs.toArray ++ Array.replicate (fn.ntmps - vs.toArray.size) undef, defers := [] } w (fun _ => none) := sim0 hl hr hN
 refine wpIn_mono (vc_ok T c _ _ h B (fun _ => none) w st _ w _ hs (r := none)) fun e a' w' hq => ?_
 obtain ⟨σ', ρ', hq, hs'⟩ := hq
 have fin : (aResL P σ' fn.results.toList fun xs => argsP σ'.H xs fun ys _ => Outs ys r) → LeavesInM Fence.wide 0 P fn a'.tmps (fun e w' => ∃ v', e = .returned v' ∧ RepV w' B (fun _ => none) r v' ∧ Below w.heap.size w w') a'.defers .returning w' := fun hq => leaves_of _ _ hs' fun w' hs' => by
  obtain ⟨xs, us, h1, h2, h3, h4⟩ := res_ok (P := P) hs' _ _ hq
  obtain ⟨ys, rs, h5, h6, h7⟩ := argsP_ok hs'.heap (hs'.hfar st) xs us _ h3 h4 h1
  refine ⟨_, results_run h2, _, rfl, ?_, hs'.below⟩
  refine (Outs.rep h5 (by omega) (h7 rs fun _ h => h)).mono (Ext.less fun b hb => .inl hb)
 cases e with
 | normal => exact fin hq
 | ret => exact fin hq
 | exit id => exact hq.elim
 | goto l => exact hq.elim
 | panic c => exact hq.elim
 | outgrown => exact hq.elim
end Go.Proofs.YtfbogelmgdojgaaGreat

