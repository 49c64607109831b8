/- Tables of contracts; states written as lists. No program in sight. -/
import Derived.Test.YtbnhnmpgbpejaaaA21
namespace Go.Proofs.Ytbnhnmpgbpejaaa
set_option linter.unusedSimpArgs false
set_option linter.unusedVariables false
open Go.RowKit

abbrev Con := List V → Option (Prop × V)
def Ctr (P : Program) (f : FuncId) (C : Con) : Prop := callable P f = true ∧ ∀ args p r, C args = some (p, r) → p → PCall P f args r
def tbl : List (FuncId × Con) → Tab
  | [], _, _ => none
  | (g, C) :: l, f, args => if f = g then C args else tbl l f args
attribute [go_sem] tbl.eq_1 tbl.eq_2
def noGab : Gab := fun _ _ _ _ => none
@[go_sem] theorem noGab_eq (f : FuncId) (l : List V) (H : Hp) (n : Nat) : noGab f l H n = none := Eq.trans rfl rfl
theorem tbl_nil {P : Program} : TabOk P (tbl []) := fun _ _ _ _ h => by cases h
theorem tbl_cons {P : Program} {f : FuncId} {C : Con} {l : List (FuncId × Con)} (h : Ctr P f C) (hl : TabOk P (tbl l)) : TabOk P (tbl ((f, C) :: l)) := by
  intro g args p r hg
  simp only [tbl] at hg
  split at hg
  · rename_i e
    subst e
    exact ⟨h.1, h.2 args p r hg⟩
  · exact hl g args p r hg
theorem tabs {P : Program} (hm : P.follows .mixedOrders = true) {l : List (FuncId × Con)} (h : TabOk P (tbl l)) : Tabs P (tbl l) noGab :=
  ⟨hm, h, (fun _ _ _ _ _ _ _ _ h => by cases h), (fun _ _ _ _ => ⟨(fun _ _ _ _ h => by cases h), fun _ _ => rfl⟩)⟩

/-- A state, written out. -/
def mkS : List (Nat × V) → Nat → V
  | [] => fun _ => .any
  | (t, v) :: l => upS (mkS l) t v
def mkH : List (Nat × Bool × Blk) → Hp
  | [] => fun _ => none
  | (k, _, x) :: l => (mkH l).up k (some x)
def mkSt (ss : List (Nat × V)) (hs : List (Nat × Bool × Blk)) (n N : Nat) : St := { s := mkS ss, H := mkH hs, n := n, N := N }
attribute [go_sem] mkS.eq_1 mkS.eq_2 mkH.eq_1 mkH.eq_2
/-- A body, from a state written out. -/
theorem vc_at {P : Program} {Γ : Tab} {Δ : Gab} (T : Tabs P Γ Δ) {c : Code} {Q : Exit → St → Prop} {ss : List (Nat × V)} {hs : List (Nat × Bool × Blk)} {n N : Nat} (h : vc P Γ Δ c Q { s := mkS ss, H := mkH hs, n := n, N := N }) : AWp P c Q (mkSt ss hs n N) := vc_ok T _ _ _ h
def wkS (θ : List Nat) (s : Nat → V) : List (Nat × V) → Prop
  | [] => True
  | (t, v) :: l => (v.noTup = true ∧ RenV θ v (s t)) ∧ wkS θ s l
def renLL (θ : List Nat) : List V → List V → Prop
  | [], [] => True
  | x :: l, y :: m => (RenV θ x y ∧ x.wid = y.wid ∧ (x = .any → y.isAgg = false)) ∧ renLL θ l m
  | _, _ => False
def wkB (θ : List Nat) (m : Bool) (x y : Blk) : Prop := x.t = y.t ∧ x.e = y.e ∧ (if m = true then x.l = y.l ∧ allPure x.l else renLL θ x.l y.l)
def wkH (θ : List Nat) (H : Hp) : List (Nat × Bool × Blk) → Prop
  | [] => True
  | (k, m, x) :: l => optC θ[k]? (fun k0 => optC (H k0) fun y => wkB θ m x y) ∧ wkH θ H l
attribute [go_sem] wkS wkB wkH renLL
def wkC (θ : List Nat) (σ : St) (ss : List (Nat × V)) (hs : List (Nat × Bool × Blk)) (n N : Nat) : Prop := N = σ.N ∧ n = θ.length ∧ wkS θ σ.s ss ∧ wkH θ σ.H hs
attribute [go_sem] wkC
theorem renL_of {θ : List Nat} : ∀ (l m : List V), renLL θ l m → RenL θ l m
  | [], [], _ => ⟨rfl, fun i x y h => by simp at h⟩
  | x :: l, y :: m, h => by
    obtain ⟨h1, h2⟩ := h
    obtain ⟨h3, h4⟩ := renL_of l m h2
    refine ⟨by simp [h3], fun i a b ha hb => ?_⟩
    cases i with
    | zero => simp at ha hb; subst ha hb; exact h1
    | succ i => exact h4 i a b (by simpa using ha) (by simpa using hb)
  | [], _ :: _, h => h.elim
  | _ :: _, [], h => h.elim
theorem renV_pure {θ : List Nat} {x : V} (h : x.pure = true) : RenV θ x x := by
  unfold RenV
  split
  · trivial
  · simp [V.pure, V.atoms, pureA] at h
  · simp [V.pure, V.atoms, pureA] at h
  · exact ⟨h, .inl rfl⟩
theorem renL_refl {θ : List Nat} {l : List V} (h : allPure l) : RenL θ l l := ⟨rfl, fun i x y hx hy => by
  rw [hx] at hy
  injection hy with hy
  subst hy
  exact ⟨renV_pure (h x (List.mem_of_getElem? hx)), rfl, fun e => by subst e; rfl⟩⟩
theorem Wk.of (θ : List Nat) {σ : St} {ss : List (Nat × V)} {hs : List (Nat × Bool × Blk)} {n N : Nat} (hnd : θ.Nodup) (h : wkC θ σ ss hs n N) : Wk σ (mkSt ss hs n N) := by
  obtain ⟨h1, h2, h3, h4⟩ := h
  have hS : ∀ (l : List (Nat × V)), wkS θ σ.s l → RenS θ (mkS l) σ.s ∧ ∀ t m, mkS l t ≠ .tup m := by
    intro l
    induction l with
    | nil => intro _; exact ⟨fun t => trivial, fun t m h => by simp [mkS] at h⟩
    | cons p l ih =>
      intro hl
      obtain ⟨⟨q1, q2⟩, q3⟩ := hl
      obtain ⟨i1, i2⟩ := ih q3
      refine ⟨fun t => ?_, fun t m => ?_⟩
      · simp only [mkS, upS]
        split
        · rename_i e; subst e; exact q2
        · exact i1 t
      · simp only [mkS, upS]
        split
        · intro e; rw [e] at q1; simp [V.noTup] at q1
        · exact i2 t m
  have hHH : ∀ (l : List (Nat × Bool × Blk)), wkH θ σ.H l → RenH θ (mkH l) σ.H := by
    intro l
    induction l with
    | nil => intro _ k x hk; simp [mkH] at hk
    | cons p l ih =>
      intro hl k x hk
      obtain ⟨q1, q2⟩ := hl
      simp only [mkH, Hp.up] at hk
      split at hk
      · rename_i e
        subst e
        injection hk with hk
        subst hk
        unfold optC at q1
        split at q1
        · rename_i k0 hk0
          split at q1
          · rename_i y hy
            obtain ⟨r1, r2, r3⟩ := q1
            refine ⟨k0, y, hk0, hy, r1, r2, ?_⟩
            split at r3
            · rw [← r3.1]; exact renL_refl r3.2
            · exact renL_of _ _ r3
          · exact q1.elim
        · exact q1.elim
      · exact ih q2 k x hk
  exact Wk.mk θ h1 h2 (hS ss h3).1 (hHH hs h4) hnd (hS ss h3).2
@[go_sem] theorem ren_any (θ : List Nat) (y : V) : RenV θ .any y = True := by simp [RenV]
@[go_sem] theorem ren_ptr (θ : List Nat) (k e i o k0 e0 i0 o0 : Nat) : RenV θ (.ptr k e i o) (.ptr k0 e0 i0 o0) = (θ[k]? = some k0 ∧ e = e0 ∧ i = i0 ∧ o = o0) := rfl
@[go_sem] theorem ren_sl (θ : List Nat) (k e i o k0 e0 i0 o0 : Nat) : RenV θ (.sl k e i o) (.sl k0 e0 i0 o0) = (θ[k]? = some k0 ∧ e = e0 ∧ i = i0 ∧ o = o0) := rfl
@[go_sem] theorem ren_raw (θ : List Nat) (v : Value) (y : V) : RenV θ (.raw v) y = (.raw v = y) := by
  simp [RenV, V.pure, V.atoms, pureA, V.isAgg]
@[go_sem] theorem ren_lst (θ : List Nat) (l : List V) (y : V) : RenV θ (.lst l) y = (.lst l = y) := by
  simp [RenV, V.pure, V.atoms, pureA, V.isAgg]
@[go_sem] theorem ren_emp (θ : List Nat) (y : V) : RenV θ .emp y = (.emp = y) := by
  simp [RenV, V.pure, V.atoms, pureA, V.isAgg]
theorem ren_I (θ : List Nat) (z : Int) : RenV θ (.I z) (.I z) := renV_pure rfl
theorem ren_Q (θ : List Nat) (z : Rat) : RenV θ (.Q z) (.Q z) := renV_pure rfl
end Go.Proofs.Ytbnhnmpgbpejaaa
