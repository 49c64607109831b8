/- The abstract run of code, and contracts out of it. No program in sight. -/
import Derived.Test.YtbnhnmpgbpejaaaA18
import Derived.Scope
namespace Go.Proofs.Ytbnhnmpgbpejaaa
set_option linter.unusedSimpArgs false
set_option linter.unusedVariables false
open Go.RowKit

def AWp (P : Program) (c : Code) (Q : Exit → St → Prop) (σ : St) : Prop :=
  ∀ (B A : Nat → Prop) (W : World), Stat B A W → ∀ (a : Act) (w : World) (ρ : Nat → Option Nat), Sim B A W σ a w ρ → c.wp P (fun e a' w' => ∃ σ' ρ', Q e σ' ∧ Sim B A W σ' a' w' ρ') a w
def thenE (N : St → Prop) (Q : Exit → St → Prop) : Exit → St → Prop
  | .normal, σ => N σ
  | e, σ => Q e σ
def blkE (id : Nat) (Q : Exit → St → Prop) : Exit → St → Prop
  | .exit id', σ => if id' = id then Q .normal σ else Q (.exit id') σ
  | e, σ => Q e σ
def scopeE (Q : Exit → St → Prop) : Exit → St → Prop
  | .goto _, _ => False
  | e, σ => Q e σ
/-- What is to be shown of a piece of code. -/
def vc (P : Program) (Γ : Tab) (Δ : Gab) : Code → (Exit → St → Prop) → St → Prop
  | .skip, Q, σ => Q .normal σ
  | .region _ ops d, Q, σ => if d = true then vcDraw P Γ Δ ops σ (Q .normal) else vcOps P Γ Δ ops ops.toList σ (Q .normal)
  | .seq x y, Q, σ => vc P Γ Δ x (thenE (vc P Γ Δ y Q) Q) σ
  | .cond c x y, Q, σ => match σ.ev c with
    | .raw (.bool t) => (t = true → vc P Γ Δ x Q σ) ∧ (t = false → vc P Γ Δ y Q σ)
    | _ => False
  | .block id c, Q, σ => vc P Γ Δ c (blkE id Q) σ
  | .exit id, Q, σ => Q (.exit id) σ
  | .ret, Q, σ => Q .ret σ
  | .scope c, Q, σ => vc P Γ Δ c (scopeE Q) σ
  | .label _, Q, σ => Q .normal σ
  | c, Q, σ => AWp P c Q σ
/-- The tables of contracts, proved. -/
structure Tabs (P : Program) (Γ : Tab) (Δ : Gab) : Prop where
  mixed : P.follows .mixedOrders = true
  tab : TabOk P Γ
  gab : GabOk P Δ
  loc : GabLoc Δ

section
variable {P : Program} {Γ : Tab} {Δ : Gab}
theorem AWp.mono {c : Code} {Q Q' : Exit → St → Prop} {σ : St} (h : AWp P c Q σ) (hq : ∀ e σ, Q e σ → Q' e σ) : AWp P c Q' σ := fun B A W st a w ρ hs =>
  wp_mono (h B A W st a w ρ hs) fun e a' w' ⟨σ', ρ', h1, h2⟩ => ⟨σ', ρ', hq _ _ h1, h2⟩
theorem vc_ok (T : Tabs P Γ Δ) : ∀ (c : Code) (Q : Exit → St → Prop) (σ : St), vc P Γ Δ c Q σ → AWp P c Q σ
  | .skip, Q, σ, h => fun B A W st a w ρ hs => wp_skip ⟨σ, ρ, h, hs⟩
  | .region id ops d, Q, σ, h => fun B A W st a w ρ hs => by
    unfold vc at h
    cases d with
    | true =>
      rw [if_pos rfl] at h
      exact vcDraw_ok T.mixed T.tab T.gab T.loc st (fun σ' a' w' ρ' h1 h2 => ⟨σ', ρ', h1, h2⟩) hs h
    | false =>
      rw [if_neg (by simp)] at h
      refine wp_region ?_
      have h2 := vcOps_ok (P := P) (ops := ops) (Q := fun e a' w' => ∃ σ' ρ', Q e σ' ∧ Sim B A W σ' a' w' ρ') T.tab T.gab st (fun σ' a' w' ρ' h1 h2 => ⟨σ', ρ', h1, h2⟩) ops.toList 0 σ a w ρ rfl hs h
      rw [List.range_eq_range']
      simpa using h2
  | .seq x y, Q, σ, h => fun B A W st a w ρ hs => by
    refine wp_seq (wp_mono (vc_ok T x _ σ h B A W st a w ρ hs) fun e a' w' hq => ?_)
    obtain ⟨σ', ρ', h1, h2⟩ := hq
    cases e with
    | normal => exact vc_ok T y Q σ' h1 B A W st a' w' ρ' h2
    | exit id => exact ⟨σ', ρ', h1, h2⟩
    | goto l => exact ⟨σ', ρ', h1, h2⟩
    | ret => exact ⟨σ', ρ', h1, h2⟩
    | panic c => exact ⟨σ', ρ', h1, h2⟩
    | outgrown => exact ⟨σ', ρ', h1, h2⟩
  | .cond c x y, Q, σ, h => fun B A W st a w ρ hs => by
    unfold vc at h
    split at h
    · rename_i t hc
      have hv := hs.ev c
      rw [hc] at hv
      have hv := RepW.raw_inv hv
      refine wp_cond hv ?_
      cases t with
      | true => exact vc_ok T x Q σ (h.1 rfl) B A W st a w ρ hs
      | false => exact vc_ok T y Q σ (h.2 rfl) B A W st a w ρ hs
    · exact h.elim
  | .block id c, Q, σ, h => fun B A W st a w ρ hs => by
    refine wp_block (wp_mono (vc_ok T c _ σ h B A W st a w ρ hs) fun e a' w' hq => ?_)
    obtain ⟨σ', ρ', h1, h2⟩ := hq
    cases e with
    | exit id' =>
      simp only [blkE] at h1
      simp only [Exit.inBlock]
      split
      · rename_i e; rw [if_pos e] at h1; exact ⟨σ', ρ', h1, h2⟩
      · rename_i e; rw [if_neg e] at h1; exact ⟨σ', ρ', h1, h2⟩
    | normal => exact ⟨σ', ρ', h1, h2⟩
    | goto l => exact ⟨σ', ρ', h1, h2⟩
    | ret => exact ⟨σ', ρ', h1, h2⟩
    | panic c => exact ⟨σ', ρ', h1, h2⟩
    | outgrown => exact ⟨σ', ρ', h1, h2⟩
  | .exit id, Q, σ, h => fun B A W st a w ρ hs => wp_exit ⟨σ, ρ, h, hs⟩
  | .ret, Q, σ, h => fun B A W st a w ρ hs => wp_ret ⟨σ, ρ, h, hs⟩
  | .loop c, Q, σ, h => h
  | .rangeFunc f ps x y, Q, σ, h => h
  | .scope c, Q, σ, h => fun B A W st a w ρ hs => by
    refine wp_scope_straight (wp_mono (vc_ok T c _ σ h B A W st a w ρ hs) fun e a' w' hq => ?_)
    obtain ⟨σ', ρ', h1, h2⟩ := hq
    cases e with
    | goto l => exact h1
    | normal => exact ⟨σ', ρ', h1, h2⟩
    | exit id => exact ⟨σ', ρ', h1, h2⟩
    | ret => exact ⟨σ', ρ', h1, h2⟩
    | panic c => exact ⟨σ', ρ', h1, h2⟩
    | outgrown => exact ⟨σ', ρ', h1, h2⟩
  | .label l, Q, σ, h => fun B A W st a w ρ hs => wp_label ⟨σ, ρ, h, hs⟩
  | .goto l, Q, σ, h => h
  | .refuse s, Q, σ, h => h

/-- One state says less than another. -/
def Wk (σ σ' : St) : Prop := ∀ (B A : Nat → Prop) (W : World) (a : Act) (w : World) (ρ : Nat → Option Nat), Sim B A W σ a w ρ → ∃ ρ', Sim B A W σ' a w ρ'
theorem Wk.refl (σ : St) : Wk σ σ := fun _ _ _ _ _ ρ h => ⟨ρ, h⟩
theorem Wk.trans {σ σ' σ'' : St} (h : Wk σ σ') (k : Wk σ' σ'') : Wk σ σ'' := fun B A W a w ρ hs => let ⟨ρ', h1⟩ := h B A W a w ρ hs; k B A W a w ρ' h1
theorem AWp.weaken {c : Code} {Q : Exit → St → Prop} {σ σ' : St} (h : AWp P c Q σ') (hw : Wk σ σ') : AWp P c Q σ := fun B A W st a w ρ hs => let ⟨ρ', h1⟩ := hw B A W a w ρ hs; h B A W st a w ρ' h1
def loopE {X : Type} (I : X → St) (μ : X → Nat) (x : X) (Q : Exit → St → Prop) : Exit → St → Prop
  | .normal, σ => ∃ x', Wk σ (I x') ∧ μ x' < μ x
  | e, σ => Q e σ
theorem AWp.loops {X : Type} (I : X → St) (μ : X → Nat) {c : Code} {Q : Exit → St → Prop} {σ : St} (x0 : X) (hw : Wk σ (I x0)) (hr : ∀ x, AWp P c (loopE I μ x Q) (I x)) : AWp P (.loop c) Q σ := by
  intro B A W st a w ρ hs
  obtain ⟨ρ0, hs0⟩ := hw B A W a w ρ hs
  intro b k cs
  have key : ∀ n x a w ρ, μ x = n → Sim B A W (I x) a w ρ →
      ∃ e a' w', (∃ σ' ρ', Q e σ' ∧ Sim B A W σ' a' w' ρ') ∧ Arrives P (lone (b.at a (.code c :: .inLoop c :: k)) cs w) b k cs e a' w' := by
    intro n
    induction n using Nat.strongRecOn with
    | _ n ih =>
      intro x a w ρ hn hI
      obtain ⟨e, a₁, w₁, ⟨σ', ρ', hq, hs'⟩, harr⟩ := hr x B A W st a w ρ hI b (.inLoop c :: k) cs
      cases e with
      | normal =>
        obtain ⟨x', hwk, hlt⟩ := hq
        obtain ⟨ρ'', hs''⟩ := hwk B A W a₁ w₁ ρ' hs'
        obtain ⟨e₂, a₂, w₂, hq₂, harr₂⟩ := ih (μ x') (hn ▸ hlt) x' a₁ w₁ ρ'' rfl hs''
        exact ⟨e₂, a₂, w₂, hq₂, .of_steps (Steps.trans harr (.one step_inLoop)) harr₂⟩
      | exit id => exact ⟨_, a₁, w₁, ⟨σ', ρ', hq, hs'⟩, .pass (x := .inLoop c) rfl (fun _ _ => .inl (by simp)) harr⟩
      | goto l => exact ⟨_, a₁, w₁, ⟨σ', ρ', hq, hs'⟩, .pass (x := .inLoop c) rfl (fun _ _ => .inl (by simp)) harr⟩
      | ret => exact ⟨_, a₁, w₁, ⟨σ', ρ', hq, hs'⟩, .pass (x := .inLoop c) rfl (fun _ _ => .inl (by simp)) harr⟩
      | panic ch => exact ⟨_, a₁, w₁, ⟨σ', ρ', hq, hs'⟩, .pass (x := .inLoop c) rfl (fun _ _ => .inl (by simp)) harr⟩
      | outgrown => exact ⟨_, a₁, w₁, ⟨σ', ρ', hq, hs'⟩, .pass (x := .inLoop c) rfl (fun _ _ => .inl (by simp)) harr⟩
  obtain ⟨e, a', w', hq, harr⟩ := key _ x0 a w ρ0 rfl hs0
  exact ⟨e, a', w', hq, .of_steps (.one step_loop) harr⟩
end

/-- A weaker state: slots are forgotten, names are given anew (new name k was θ[k]). -/
def RenV (θ : List Nat) : V → V → Prop
  | .any, _ => True
  | .ptr k e i off, .ptr k0 e0 i0 off0 => θ[k]? = some k0 ∧ e = e0 ∧ i = i0 ∧ off = off0
  | .sl k e o n, .sl k0 e0 o0 n0 => θ[k]? = some k0 ∧ e = e0 ∧ o = o0 ∧ n = n0
  | x, y => x.pure = true ∧ (x = y ∨ (x.isAgg = true ∧ y.isAgg = true ∧ x.atoms = y.atoms))
def RenS (θ : List Nat) (s' s : Nat → V) : Prop := ∀ t, RenV θ (s' t) (s t)
def RenL (θ : List Nat) (l' l : List V) : Prop := l'.length = l.length ∧ ∀ (i : Nat) (x y : V), l'[i]? = some x → l[i]? = some y → RenV θ x y ∧ x.wid = y.wid ∧ (x = .any → y.isAgg = false)
def RenB (θ : List Nat) (k : Nat) (x : Blk) (H : Hp) : Prop := ∃ k0 y, θ[k]? = some k0 ∧ H k0 = some y ∧ x.t = y.t ∧ x.e = y.e ∧ RenL θ x.l y.l
def RenH (θ : List Nat) (H' H : Hp) : Prop := ∀ k x, H' k = some x → RenB θ k x H
section
variable {w : World} {O O' : Nat → Prop} {ρ : Nat → Option Nat}
def renR (θ : List Nat) (ρ : Nat → Option Nat) : Nat → Option Nat := fun k => (θ[k]?).bind ρ
theorem ren_atomic {θ : List Nat} {x y : V} {v : Value} (h : RenV θ x y) (hx : ∀ l, x ≠ .tup l) (hr : RepV w O ρ y v) (hO : Ext w O ρ w O' ρ) : RepW w O' (renR θ ρ) x v := by
  unfold RenV at h
  split at h
  · exact .inl rfl
  · rename_i k e i off k0 e0 i0 off0
    obtain ⟨h1, rfl, rfl, rfl⟩ := h
    have hA := RepW.atom hr rfl
    cases hA with
    | ptr _ _ _ _ _ b hb => exact RepW.of_atom (.ptr _ _ _ _ _ _ (by simp [renR, h1, hb])) rfl rfl
  · rename_i k e i off k0 e0 i0 off0
    obtain ⟨h1, rfl, rfl, rfl⟩ := h
    have hA := RepW.atom hr rfl
    cases hA with
    | sl _ _ _ _ _ b c arr t fr g1 g2 g3 g4 => exact RepW.of_atom (.sl _ _ _ _ _ _ _ arr t fr (by simp [renR, h1, g1]) g2 g3 g4) rfl rfl
  · obtain ⟨hp, h⟩ := h
    have hW : RepW w O ρ x v := by
      rcases h with rfl | ⟨h1, h2, h3⟩
      · cases x <;> first | exact hr | exact absurd rfl (hx _)
      · have hyW : RepW w O ρ y v := by cases y <;> first | exact hr | simp [V.isAgg] at h2
        exact hyW.congr h2 h1 h3.symm
    have h1 := (hW.mono hO).pure hp
    exact h1.mono ((Ext.refl _ _ _).into _)
theorem Wk.mk {σ σ' : St} (θ : List Nat) (hN : σ'.N = σ.N) (hn : σ'.n = θ.length) (hs : RenS θ σ'.s σ.s) (hH : RenH θ σ'.H σ.H) (hnd : θ.Nodup) (ht : ∀ t l, σ'.s t ≠ .tup l) : Wk σ σ' := by
  intro B A W a w ρ h
  have hlive : ∀ k x b, σ'.H k = some x → renR θ ρ k = some b → ∃ k0 y, θ[k]? = some k0 ∧ σ.H k0 = some y ∧ ρ k0 = some b := fun k x b h1 h2 => by
    obtain ⟨k0, y, e1, e2, _⟩ := hH k x h1
    refine ⟨k0, y, e1, e2, ?_⟩
    simpa [renR, e1] using h2
  have hO : Ext w (own B ρ σ.H) ρ w (own B (renR θ ρ) σ'.H) ρ := Ext.less fun b hb => by
    rcases hb with hb | ⟨k, x, h1, h2⟩
    · exact .inl hb
    · obtain ⟨k0, y, _, e2, e3⟩ := hlive k x b h1 h2
      exact .inr ⟨k0, y, e2, e3⟩
  refine ⟨renR θ ρ, h.defers, by rw [hN]; exact h.size, fun t => RepV.of_W (ren_atomic (hs t) (ht t) (h.slots t) hO) (ht t), ⟨fun k x hk => ?_, fun k k' x x' b h1 h2 h3 h4 => ?_⟩, fun k hk => ?_, fun k x b h1 h2 => ?_, h.os, h.tape, h.output, h.grow, h.same, h.row⟩
  · obtain ⟨k0, y, e1, e2, e3, e4, e5, e6⟩ := hH k x hk
    obtain ⟨b, arr, g1, g2, g3, g4, g5⟩ := h.heap.row k0 y e2
    have hall : ∀ z ∈ x.l, z.wid = x.e := fun z hz => by
      obtain ⟨i, hi⟩ := List.getElem?_of_mem hz
      have hil : i < y.l.length := by rw [← e5]; exact (List.getElem?_eq_some_iff.1 hi).1
      have h1 := e6 i z _ hi (List.getElem?_eq_getElem hil)
      rw [h1.2.1, e4]
      exact g3 _ (List.getElem_mem hil)
    have hlx := V.atomsL_length hall
    have hly := V.atomsL_length g3
    refine ⟨b, arr, by simp [renR, e1, g1], by rw [e3]; exact g2, hall, by rw [hlx, e5, e4, ← hly]; exact g4, fun j z u hz hu => ?_⟩
    have hjl : j < x.l.length * x.e := by rw [← hlx]; exact (List.getElem?_eq_some_iff.1 hz).1
    have hpos : 0 < x.e := by
      rcases Nat.eq_zero_or_pos x.e with e0 | e0
      · rw [e0] at hjl; omega
      · exact e0
    have hdm : j / x.e * x.e + j % x.e = j := by rw [Nat.mul_comm]; exact Nat.div_add_mod j x.e
    have hmod : j % x.e < x.e := Nat.mod_lt _ hpos
    have hdl : j / x.e < x.l.length := by rw [Nat.div_lt_iff_lt_mul hpos]; omega
    have hix : x.l[j / x.e]? = some x.l[j / x.e] := List.getElem?_eq_getElem hdl
    have hiy : y.l[j / x.e]? = some (y.l[j / x.e]'(by omega)) := List.getElem?_eq_getElem (by omega)
    have hz' := V.atomsL_get hall hix hmod
    rw [hdm, hz] at hz'
    obtain ⟨r1, r2, r3⟩ := e6 _ _ _ hix hiy
    generalize hxx : x.l[j / x.e] = xx at *
    generalize hyy : (y.l[j / x.e]'(by omega)) = yy at *
    have hyat : ∀ i p, yy.atoms[i]? = some p → i < x.e → ∀ u', arr[j / x.e * x.e + i]? = some u' → RepA w (own B ρ σ.H) ρ p u' := fun i p hp hi u' hu' => by
      refine g5 (j / x.e * x.e + i) p u' ?_ hu'
      have := V.atomsL_get g3 hiy (j := i) (by rw [← e4]; exact hi)
      rw [← e4] at this
      rw [this]; exact hp
    unfold RenV at r1
    split at r1
    · have : z = .any := by
        rw [V.atoms_single rfl] at hz'
        cases hm : j % x.e with
        | zero => rw [hm] at hz'; simpa using hz'
        | succ m => rw [hm] at hz'; simp at hz'
      subst this
      exact .any _ _
    · rename_i k1 q1 i1 o1 k2 q2 i2 o2
      obtain ⟨a1, rfl, rfl, rfl⟩ := r1
      have hxe : x.e = 1 := by rw [← hall _ (List.mem_of_getElem? hix)]; rfl
      have hm0 : j % x.e = 0 := by rw [hxe]; omega
      rw [hm0] at hz'
      simp [V.atoms] at hz'
      subst hz'
      have := hyat 0 (.ptr k2 q1 i1 o1) rfl (by omega) u (by rw [← hm0, hdm]; exact hu)
      cases this with
      | ptr _ _ _ _ _ b' hb' => exact .ptr _ _ _ _ _ _ (by simp [renR, a1, hb'])
    · rename_i k1 q1 i1 o1 k2 q2 i2 o2
      obtain ⟨a1, rfl, rfl, rfl⟩ := r1
      have hxe : x.e = 1 := by rw [← hall _ (List.mem_of_getElem? hix)]; rfl
      have hm0 : j % x.e = 0 := by rw [hxe]; omega
      rw [hm0] at hz'
      simp [V.atoms] at hz'
      subst hz'
      have := hyat 0 (.sl k2 q1 i1 o1) rfl (by omega) u (by rw [← hm0, hdm]; exact hu)
      cases this with
      | sl _ _ _ _ _ b' c arr' t fr c1 c2 c3 c4 => exact .sl _ _ _ _ _ _ _ arr' t fr (by simp [renR, a1, c1]) c2 c3 c4
    · obtain ⟨hp, heq⟩ := r1
      have hat : xx.atoms = yy.atoms := by
        rcases heq with rfl | ⟨_, _, h3⟩
        · rfl
        · exact h3
      rw [hat] at hz'
      have h1 := hyat (j % x.e) z hz'.symm hmod u (by rw [hdm]; exact hu)
      have hzp : pureA z = true := by
        unfold V.pure at hp
        rw [hat] at hp
        exact List.all_eq_true.1 hp z (List.mem_of_getElem? hz'.symm)
      exact ((h1.mono hO).pureA hzp).mono ((Ext.refl _ _ _).into _)
  · obtain ⟨k0, y, e1, e2, e3⟩ := hlive k x b h1 h3
    obtain ⟨k0', y', e1', e2', e3'⟩ := hlive k' x' b h2 h4
    have hk0 := h.heap.inj k0 k0' y y' b e2 e2' e3 e3'
    subst hk0
    obtain ⟨hk, hv⟩ := List.getElem?_eq_some_iff.1 e1
    obtain ⟨hk', hv'⟩ := List.getElem?_eq_some_iff.1 e1'
    have hpw := List.pairwise_iff_getElem.1 hnd
    rcases Nat.lt_trichotomy k k' with hlt | rfl | hlt
    · exact absurd (hv.trans hv'.symm) (hpw k k' hk hk' hlt)
    · rfl
    · exact absurd (hv'.trans hv.symm) (hpw k' k hk' hk hlt)
  · unfold renR
    rw [List.getElem?_eq_none (by omega)]
    rfl
  · obtain ⟨k0, y, e1, e2, e3⟩ := hlive k x b h1 h2
    exact h.mine k0 y b e2 e3
end
end Go.Proofs.Ytbnhnmpgbpejaaa
