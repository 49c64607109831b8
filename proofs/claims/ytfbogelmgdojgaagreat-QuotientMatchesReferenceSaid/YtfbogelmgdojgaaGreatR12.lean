/- Texts A22 A23 B1 M1 M2 in one. -/
import Derived.Test.YtfbogelmgdojgaaGreatR11
import Derived.Test.YtfbogelmgdojgaaGreatR10
import Derived.Test.YtfbogelmgdojgaaGreatR00
import Derived.Lib.BitFns
import Derived.BigQuiet
import Derived.Deep.QuietTactic
/- Tables of contracts; states written as lists. No program in sight. -/
namespace Go.Proofs.YtfbogelmgdojgaaGreat
set_option linter.unusedSimpArgs false
set_option linter.unusedVariables false
open Go.RowKit

abbrev Con := List V → Option (Prop × V)
def Ctr (P : Program) (f : FuncId) (C : Con) : Prop := callable P f = true ∧ ∀ args p r, C args = some (p, r) → p → PCall P f args r
def tbl : List (FuncId × Con) → Tab
 | [], _, _ => none
 | (g, C) :: l, f, args => if f = g then C args else tbl l f args
attribute [go_sem] tbl.eq_1 tbl.eq_2
def noGab : Gab := fun _ _ _ _ => none
@[go_sem] theorem noGab_eq (f : FuncId) (l : List V) (H : Hp) (n : Nat) : noGab f l H n = none := Eq.trans rfl rfl
theorem tbl_nil {P : Program} : TabOk P (tbl []) := fun _ _ _ _ h => by cases h
theorem tbl_cons {P : Program} {f : FuncId} {C : Con} {l : List (FuncId × Con)} (h : Ctr P f C) (hl : TabOk P (tbl l)) : TabOk P (tbl ((f, C) :: l)) := by
 intro g args p r hg
 simp only [tbl] at hg
 split at hg
 ·rename_i e
  subst e
  exact ⟨h.1, h.2 args p r hg⟩
 ·exact hl g args p r hg
theorem tabs {P : Program} (hm : P.follows .mixedOrders = true) {l : List (FuncId × Con)} (h : TabOk P (tbl l)) : Tabs P (tbl l) noGab :=
 ⟨hm, h, (fun _ _ _ _ _ _ _ _ h => by cases h), (fun _ _ _ _ => ⟨(fun _ _ _ _ h => by cases h), fun _ _ => rfl⟩)⟩

def mkS : List (Nat × V) → Nat → V
 | [] => fun _ => .any
 | (t, v) :: l => upS (mkS l) t v
def mkH : List (Nat × Bool × Blk) → Hp
 | [] => fun _ => none
 | (k, _, x) :: l => (mkH l).up k (some x)
def mkStM (m : Nat) (ss : List (Nat × V)) (hs : List (Nat × Bool × Blk)) (n N : Nat) : St := { s := mkS ss, H := mkH hs, n := n, N := N, m := m }
def mkSt (ss : List (Nat × V)) (hs : List (Nat × Bool × Blk)) (n N : Nat) : St := { s := mkS ss, H := mkH hs, n := n, N := N }
attribute [go_sem] mkS.eq_1 mkS.eq_2 mkH.eq_1 mkH.eq_2
theorem vc_at {P : Program} {Γ : Tab} {Δ : Gab} (T : Tabs P Γ Δ) {c : Code} {Q : Exit → St → Prop} {ss : List (Nat × V)} {hs : List (Nat × Bool × Blk)} {n N : Nat} (h : vc P Γ Δ c Q { s := mkS ss, H := mkH hs, n := n, N := N }) : AWp P c Q (mkSt ss hs n N) := vc_ok T _ _ _ h
def wkS (θ : List Nat) (s : Nat → V) : List (Nat × V) → Prop
 | [] => True
 | (t, v) :: l => (v.noTup = true ∧ RenV θ v (s t)) ∧ wkS θ s l
def renLL (θ : List Nat) : List V → List V → Prop
 | [], [] => True
 | x :: l, y :: m => (RenV θ x y ∧ x.wid = y.wid ∧ (x = .any → y.isAgg = false)) ∧ renLL θ l m
 | _, _ => False
def wkB (θ : List Nat) (m : Bool) (x y : Blk) : Prop := x.t = y.t ∧ x.e = y.e ∧ (if m = true then x.l = y.l ∧ allPure x.l else renLL θ x.l y.l)
def wkH (θ : List Nat) (H : Hp) : List (Nat × Bool × Blk) → Prop
 | [] => True
 | (k, m, x) :: l => optC θ[k]? (fun k0 => optC (H k0) fun y => wkB θ m x y) ∧ wkH θ H l
attribute [go_sem] wkS wkB wkH renLL
def wkM (m : Nat) (θ : List Nat) (σ : St) (ss : List (Nat × V)) (hs : List (Nat × Bool × Blk)) (n N : Nat) : Prop := (N = σ.N ∧ σ.m = m ∧ σ.q = false) ∧ n = θ.length ∧ wkS θ σ.s ss ∧ wkH θ σ.H hs
def wkC (θ : List Nat) (σ : St) (ss : List (Nat × V)) (hs : List (Nat × Bool × Blk)) (n N : Nat) : Prop := (N = σ.N ∧ σ.m = 0 ∧ σ.q = false) ∧ n = θ.length ∧ wkS θ σ.s ss ∧ wkH θ σ.H hs
attribute [go_sem] wkC wkM
theorem renL_of {θ : List Nat} : ∀ (l m : List V), renLL θ l m → RenL θ l m
 | [], [], _ => ⟨rfl, fun i x y h => by simp at h⟩
 | x :: l, y :: m, h => by
   obtain ⟨h1, h2⟩ := h
   obtain ⟨h3, h4⟩ := renL_of l m h2
   refine ⟨by simp [h3], fun i a b ha hb => ?_⟩
   cases i with
   | zero => simp at ha hb; subst ha hb; exact h1
   | succ i => exact h4 i a b (by simpa using ha) (by simpa using hb)
 | [], _ :: _, h => h.elim
 | _ :: _, [], h => h.elim
theorem renCs_pure {θ : List Nat} : ∀ {l : List V}, (l.all fun x => x.atoms.all pureB) = true → RenCs θ l l
 | [], _ => trivial
 | x :: l, h => by
   simp only [List.all_cons, Bool.and_eq_true] at h
   refine ⟨?_, renCs_pure h.2⟩
   have h1 := h.1
   cases x <;> first | exact ⟨rfl, h1⟩ | (simp [V.atoms, pureB] at h1)
theorem renV_pure {θ : List Nat} {x : V} (h : x.pure = true) : RenV θ x x := by
 unfold RenV
 split
 ·trivial
 ·simp only [V.pure, V.atoms, List.all_cons, List.all_nil, Bool.and_true, pureA, Bool.and_eq_true] at h
  exact ⟨rfl, renCs_pure h.1, renCs_pure h.2⟩
 ·simp [V.pure, V.atoms, pureA] at h
 ·simp [V.pure, V.atoms, pureA] at h
 ·exact ⟨h, .inl rfl⟩
theorem renL_refl {θ : List Nat} {l : List V} (h : allPure l) : RenL θ l l := ⟨rfl, fun i x y hx hy => by
 rw [hx] at hy
 injection hy with hy
 subst hy
 exact ⟨renV_pure (h x (List.mem_of_getElem? hx)), rfl, fun e => by subst e; rfl⟩⟩
theorem Wk.ofM (m : Nat) (θ : List Nat) {σ : St} {ss : List (Nat × V)} {hs : List (Nat × Bool × Blk)} {n N : Nat} (hnd : θ.Nodup) (hid : ∀ k, k < m → θ[k]? = some k) (h : wkM m θ σ ss hs n N) : Wk σ (mkStM m ss hs n N) := by
 obtain ⟨⟨h1, h0, hq⟩, h2, h3, h4⟩ := h
 have hS : ∀ (l : List (Nat × V)), wkS θ σ.s l → RenS θ (mkS l) σ.s ∧ ∀ t m, mkS l t ≠ .tup m := by
  intro l
  induction l with
  | nil => intro _; exact ⟨fun t => trivial, fun t m h => by simp [mkS] at h⟩
  | cons p l ih =>
    intro hl
    obtain ⟨⟨q1, q2⟩, q3⟩ := hl
    obtain ⟨i1, i2⟩ := ih q3
    refine ⟨fun t => ?_, fun t m => ?_⟩
    ·simp only [mkS, upS]
     split
     ·rename_i e; subst e; exact q2
     ·exact i1 t
    ·simp only [mkS, upS]
     split
     ·intro e; rw [e] at q1; simp [V.noTup] at q1
     ·exact i2 t m
 have hHH : ∀ (l : List (Nat × Bool × Blk)), wkH θ σ.H l → RenH θ (mkH l) σ.H := by
  intro l
  induction l with
  | nil => intro _ k x hk; simp [mkH] at hk
  | cons p l ih =>
    intro hl k x hk
    obtain ⟨q1, q2⟩ := hl
    simp only [mkH, Hp.up] at hk
    split at hk
    ·rename_i e
     subst e
     injection hk with hk
     subst hk
     unfold optC at q1
     split at q1
     ·rename_i k0 hk0
      split at q1
      ·rename_i y hy
       obtain ⟨r1, r2, r3⟩ := q1
       refine ⟨k0, y, hk0, hy, r1, r2, ?_⟩
       split at r3
       ·rw [← r3.1]; exact renL_refl r3.2
       ·exact renL_of _ _ r3
      ·exact q1.elim
     ·exact q1.elim
    ·exact ih q2 k x hk
 exact Wk.mk θ h1 h0.symm hq.symm (fun k hk => hid k (by omega)) h2 (hS ss h3).1 (hHH hs h4) hnd (hS ss h3).2
theorem Wk.of (θ : List Nat) {σ : St} {ss : List (Nat × V)} {hs : List (Nat × Bool × Blk)} {n N : Nat} (hnd : θ.Nodup) (h : wkC θ σ ss hs n N) : Wk σ (mkSt ss hs n N) :=
 Wk.ofM 0 θ hnd (fun k hk => absurd hk (Nat.not_lt_zero k)) h
@[go_sem] theorem ren_any (θ : List Nat) (y : V) : RenV θ .any y = True := by simp [RenV]
@[go_sem] theorem ren_ptr (θ : List Nat) (k e i o k0 e0 i0 o0 : Nat) : RenV θ (.ptr k e i o) (.ptr k0 e0 i0 o0) = (θ[k]? = some k0 ∧ e = e0 ∧ i = i0 ∧ o = o0) := rfl
@[go_sem] theorem ren_cl (θ : List Nat) (f f0 : Fn) (a b a0 b0 : List V) : RenV θ (.clo f a b) (.clo f0 a0 b0) = (f = f0 ∧ RenCs θ a a0 ∧ RenCs θ b b0) := rfl
@[go_sem] theorem renCs_nil (θ : List Nat) : RenCs θ [] [] = True := rfl
@[go_sem] theorem renCs_cons (θ : List Nat) (x y : V) (l m : List V) : RenCs θ (x :: l) (y :: m) = (RenC θ x y ∧ RenCs θ l m) := rfl
@[go_sem] theorem renC_ptr (θ : List Nat) (k e i o k0 e0 i0 o0 : Nat) : RenC θ (.ptr k e i o) (.ptr k0 e0 i0 o0) = (θ[k]? = some k0 ∧ e = e0 ∧ i = i0 ∧ o = o0) := rfl
@[go_sem] theorem ren_sl (θ : List Nat) (k e i o k0 e0 i0 o0 : Nat) : RenV θ (.sl k e i o) (.sl k0 e0 i0 o0) = (θ[k]? = some k0 ∧ e = e0 ∧ i = i0 ∧ o = o0) := rfl
@[go_sem] theorem ren_raw (θ : List Nat) (v : Value) (y : V) : RenV θ (.raw v) y = (.raw v = y) := by
  simp [RenV, V.pure, V.atoms, pureA, V.isAgg]
@[go_sem] theorem ren_lst (θ : List Nat) (l : List V) (y : V) : RenV θ (.lst l) y = (.lst l = y) := by
  simp [RenV, V.pure, V.atoms, pureA, V.isAgg]
end Go.Proofs.YtfbogelmgdojgaaGreat


/- Calls whose result is a fresh row of the caller. No program in sight. -/
namespace Go.Proofs.YtfbogelmgdojgaaGreat
set_option linter.unusedSimpArgs false
set_option linter.unusedVariables false
open Go.RowKit

structure FRes where
 t : TypeId
 e : Nat
 l : List V
def FCall (P : Program) (f : FuncId) (args : List V) (R : FRes) : Prop :=
 ∀ (B : Nat → Prop) (w : World) (vs : List Value), vs.length = args.length → (∀ (j : Nat) (x : V) (v : Value), args[j]? = some x → vs[j]? = some v → RepW w B (fun _ => none) x v) → (∀ b, B b → b < w.heap.size) →
  Calls P f vs.toArray w fun e w' => ∃ (b c : Nat) (arr : Array Value), e = .returned (.slice (some ⟨b, 0, none⟩) R.l.length c) ∧ R.l.length ≤ c ∧ c * R.e ≤ arr.size ∧ w.heap.size ≤ b ∧ w'.heap[b]? = some (.cells arr R.t (0, 0)) ∧
   (∀ y ∈ R.l, y.wid = R.e) ∧ (V.atomsL R.l).length ≤ arr.size ∧ (∀ (j : Nat) (y : V) (u : Value), (V.atomsL R.l)[j]? = some y → arr[j]? = some u → RepA w' (fun b' => B b' ∨ b' = b) (fun _ => none) y u) ∧ Below w.heap.size w w'
section
variable {P : Program}
theorem FCall.le {f : FuncId} {args args' : List V} {R : FRes} (h : FCall P f args R) (hl : OutsL args' args) : FCall P f args' R := by
 intro B w vs hv hr hB
 obtain ⟨e1, e2⟩ := OutsL.get _ _ hl
 refine h B w vs (by omega) (fun j x v hx hv => ?_) hB
 obtain ⟨y, k1, k2⟩ := e2 j x hx
 exact k2.rep (hr j y v k1 hv)
theorem FCall.gcall {f : FuncId} {args : List V} {R : FRes} (h : FCall P f args R) (hp : args.all V.pure = true) (H : Hp) (n : Nat) : GCall P f args H n (.sl n R.e 0 R.l.length) [(n, some ⟨R.t, R.e, R.l⟩)] := by
 intro B w ρ vs hH hf hB hfar hl hr
 have hlt : ∀ b, own B ρ H b → b < w.heap.size := by
  rintro b (hb | ⟨k, x, h1, h2⟩)
  ·exact hB b hb
  ·obtain ⟨b', arr, e1, e2, _⟩ := hH.row k x h1
   rw [h2] at e1; injection e1 with e1; subst e1
   exact (Array.getElem?_eq_some_iff.1 e2).1
 refine (h (own B ρ H) w vs hl (fun j x v hx hv => (hr j x v hx hv).pure (List.all_eq_true.1 hp x (List.mem_of_getElem? hx))) hlt).mono ?_
 rintro e w' ⟨b, c, arr, rfl, hc, hca, hb, hbw, hw, hal, hrep, hbel⟩
 have hH' : H.puts [(n, some ⟨R.t, R.e, R.l⟩)] = H.up n (some ⟨R.t, R.e, R.l⟩) := rfl
 rw [hH']
 have step : Step H w ρ (H.up n (some ⟨R.t, R.e, R.l⟩)) w' (fun k => if k = n then some b else ρ k) := by
  refine ⟨fun k b0 e => ?_, fun b0 hb0 _ => hbel.block b0 hb0, fun k x b0 e1 e2 => ?_, hbel.size, fun b0 arr0 t0 fr e => ⟨arr0, t0, fr, ?_, rfl⟩, hbel.os, hbel.tape, hbel.output⟩
  ·split
   ·rename_i hk; subst hk; rw [hf] at e; cases e
   ·exact e
  ·split at e2
   ·injection e2 with e2; subst e2; exact .inr hb
   ·rename_i hk
    refine .inl ⟨k, x, ?_, e2⟩
    simpa [Hp.up, hk] using e1
  ·rw [hbel.block b0 (Array.getElem?_eq_some_iff.1 e).1]; exact e
 have hsub : ∀ b0, own B (fun k => if k = n then some b else ρ k) (H.up n (some ⟨R.t, R.e, R.l⟩)) b0 → own B ρ H b0 ∨ b0 = b := by
  rintro b0 (h0 | ⟨k, x, h1, h2⟩)
  ·exact .inl (.inl h0)
  ·simp only at h2
   split at h2
   ·injection h2 with h2; exact .inr h2.symm
   ·rename_i hk
    exact .inl (.inr ⟨k, x, by simpa [Hp.up, hk] using h1, h2⟩)
 refine ⟨_, fun k => if k = n then some b else ρ k, rfl, step, ⟨fun k x hk => ?_, fun k k' x x' b0 e1 e2 e3 e4 => ?_⟩, fun k hk e => by simp [hk, e], ?_⟩
 ·by_cases hkn : k = n
  ·subst hkn
   have : x = ⟨R.t, R.e, R.l⟩ := by simpa [Hp.up] using hk.symm
   subst this
   refine ⟨b, arr, by simp, hbw, hw, hal, fun j y u hy hu => ?_⟩
   exact (hrep j y u hy hu).mono ((Ext.less hsub).into _)
  ·have hk0 : H k = some x := by simpa [Hp.up, hkn] using hk
   obtain ⟨b0, arr0, h1, h2, h3, h4, h5⟩ := hH.row k x hk0
   refine ⟨b0, arr0, by simp [hkn, h1], ?_, h3, h4, fun j y u hy hu => (h5 j y u hy hu).mono (step.ext B)⟩
   rw [hbel.block b0 (Array.getElem?_eq_some_iff.1 h2).1]; exact h2
 ·have old : ∀ q y, q ≠ n → (H.up n (some ⟨R.t, R.e, R.l⟩)) q = some y → (if q = n then some b else ρ q) = some b0 → H q = some y ∧ ρ q = some b0 ∧ b0 < w.heap.size := fun q y hq h1 h2 => by
   have h1' : H q = some y := by simpa [Hp.up, hq] using h1
   rw [if_neg hq] at h2
   exact ⟨h1', h2, hlt b0 (.inr ⟨q, y, h1', h2⟩)⟩
  by_cases hk : k = n
  ·by_cases hk' : k' = n
   ·rw [hk, hk']
   ·obtain ⟨_, _, h3⟩ := old k' x' hk' e2 e4
    simp only [hk, if_true, Option.some.injEq] at e3
    omega
  ·by_cases hk' : k' = n
   ·obtain ⟨_, _, h3⟩ := old k x hk e1 e3
    simp only [hk', if_true, Option.some.injEq] at e4
    omega
   ·obtain ⟨a1, a2, _⟩ := old k x hk e1 e3
    obtain ⟨c1, c2, _⟩ := old k' x' hk' e2 e4
    exact hH.inj k k' x x' b0 a1 c1 a2 c2
 ·refine RepV.of_W (RepW.of_atom ?_ rfl rfl) (by intro l h; cases h)
  have := RepA.sl (w := w') (O := own B (fun k => if k = n then some b else ρ k) (H.up n (some ⟨R.t, R.e, R.l⟩))) (fun k => if k = n then some b else ρ k) n R.e 0 R.l.length b c arr R.t (0, 0) (by simp) hbw hc (by simpa using hca)
  simpa using this
def retF (P : Program) (rs : List ResultVar) (R : FRes) : Exit → St → Prop
 | .normal, σ => aResL P σ rs fun xs => ∃ k, xs = [.sl k R.e 0 R.l.length] ∧ σ.H k = some ⟨R.t, R.e, R.l⟩ ∧ allPure R.l
 | .ret, σ => aResL P σ rs fun xs => ∃ k, xs = [.sl k R.e 0 R.l.length] ∧ σ.H k = some ⟨R.t, R.e, R.l⟩ ∧ allPure R.l
 | _, _ => False
theorem FCall.of_vc {Γ : Tab} {Δ : Gab} (T : Tabs P Γ Δ) {f : FuncId} {fn : Func} {c : Code} {args : List V} {R : FRes} (hf : P.funcs[f]? = some fn) (hb : fn.body = some c) {N : Nat} (hn : fn.ntmps = N) {rs : Array ResultVar} (hrs : fn.results = rs) (hN : args.length ≤ N)
 (h : vc P Γ Δ c (retF P rs.toList R) (st0 args N)) : FCall P f args R := by
 subst hn hrs
 intro B w vs hl hr hB
 refine callsIn_wide.1 (callsIn_of_wp_marks (F := Fence.wide) (n := 0) hf hb trivial ?_)
 have st : Stat B (fun _ => none) w := ⟨hB, fun _ _ h => by cases h⟩
 have hown : ∀ b, own B (fun _ => none) (fun _ => none) b → B b := fun b hb => by
  rcases hb with hb | ⟨k, x, h1, _⟩
  ·exact hb
  ·cases h1
 have hx : Ext w B (fun _ => none) w (own B (fun _ => none) (fun _ => none)) (fun _ => none) := Ext.less hown
 have hs : Sim B (fun _ => none) w (st0 args fn.ntmps) { tmps := vs.toArray ++ Array.replicate (fn.ntmps - vs.toArray.size) undef, defers := [] } w (fun _ => none) := sim0 hl hr hN
 refine wpIn_mono (vc_ok T c _ _ h B (fun _ => none) w st _ w _ hs (r := none)) fun e a' w' hq => ?_
 obtain ⟨σ', ρ', hq, hs'⟩ := hq
 have fin : (aResL P σ' fn.results.toList fun xs => ∃ k, xs = [.sl k R.e 0 R.l.length] ∧ σ'.H k = some ⟨R.t, R.e, R.l⟩ ∧ allPure R.l) → LeavesInM Fence.wide 0 P fn a'.tmps (fun e w' =>
  ∃ (b c : Nat) (arr : Array Value), e = .returned (.slice (some ⟨b, 0, none⟩) R.l.length c) ∧ R.l.length ≤ c ∧ c * R.e ≤ arr.size ∧ w.heap.size ≤ b ∧ w'.heap[b]? = some (.cells arr R.t (0, 0)) ∧
  (∀ y ∈ R.l, y.wid = R.e) ∧ (V.atomsL R.l).length ≤ arr.size ∧ (∀ (j : Nat) (y : V) (u : Value), (V.atomsL R.l)[j]? = some y → arr[j]? = some u → RepA w' (fun b' => B b' ∨ b' = b) (fun _ => none) y u) ∧ Below w.heap.size w w') a'.defers .returning w' := fun hq => leaves_of _ _ hs' fun w' hs' => by
  obtain ⟨xs, us, h1, h2, h3, h4⟩ := res_ok (P := P) hs' _ _ hq
  obtain ⟨k, rfl, hk, hpure⟩ := h1
  match us, h3 with
  | [u], _ =>
    have h5 := h4 0 _ _ rfl rfl
    have h6 : RepA w' (own B ρ' σ'.H) ρ' (.sl k R.e 0 R.l.length) u := RepW.atom h5 rfl
    obtain ⟨b, arr, q1, q2, q3, q4, q5⟩ := hs'.heap.row k _ hk
    refine ⟨_, results_run h2, ?_⟩
    cases h6 with
    | sl _ _ _ _ _ b' c arr' t' fr' e1 e2 e3 e4 =>
      rw [q1] at e1; injection e1 with e1; subst e1
      rw [q2] at e2; injection e2 with e2; injection e2 with e2 e5 e6; subst e2 e5 e6
      refine ⟨b, c, arr, by simp, e3, by simpa using e4, ?_, q2, q3, q4, fun j y u hy hu => ?_, hs'.below⟩
      ·rcases hs'.mine k _ b hk q1 with ⟨_, hh⟩ | hh
       ·cases hh
       ·exact hh
      ·have hp : pureA y = true := by
        have : ∀ (l : List V), allPure l → ∀ y ∈ V.atomsL l, pureA y = true := by
         intro l
         induction l with
         | nil => intro _ y hy; simp [V.atomsL] at hy
         | cons x l ih =>
           intro hl y hy
           simp only [V.atomsL, List.mem_append] at hy
           rcases hy with hy | hy
           ·have := hl x (by simp)
            unfold V.pure at this
            exact List.all_eq_true.1 this y hy
           ·exact ih (fun z hz => hl z (by simp [hz])) y hy
        exact this _ hpure y (List.mem_of_getElem? hy)
       refine ((q5 j y u hy hu).pureA hp).mono (Ext.less ?_)
       rintro b0 (h0 | rfl)
       ·exact .inl h0
       ·exact .inr ⟨k, _, hk, q1⟩
 cases e with
 | normal => exact fin hq
 | ret => exact fin hq
 | exit id => exact hq.elim
 | goto l => exact hq.elim
 | panic c => exact hq.elim
 | outgrown => exact hq.elim
end
abbrev FCon := List V → Option (Prop × FRes)
def FCtr (P : Program) (f : FuncId) (C : FCon) : Prop := callable P f = true ∧ ∀ args p R, C args = some (p, R) → p → FCall P f args R
def gtb : List (FuncId × FCon) → Gab
 | [], _, _, _, _ => none
 | (g, C) :: l, f, args, H, n => if f = g then (if args.all V.pure = true then (C args).map fun q => (q.1, .sl n q.2.e 0 q.2.l.length, [(n, some ⟨q.2.t, q.2.e, q.2.l⟩)], []) else none) else gtb l f args H n
theorem gtb_loc : ∀ (l : List (FuncId × FCon)) (f : FuncId) (args : List V) (H H' : Hp) (n : Nat), gtb l f args H n = gtb l f args H' n
 | [], _, _, _, _, _ => rfl
 | (g, C) :: l, f, args, H, H', n => by simp only [gtb]; rw [gtb_loc l f args H H' n]
theorem gtb_nil {P : Program} : GabOk P (gtb []) := fun _ _ _ _ _ _ _ _ h => by cases h
theorem gtb_cons {P : Program} {f : FuncId} {C : FCon} {l : List (FuncId × FCon)} (h : FCtr P f C) (hl : GabOk P (gtb l)) : GabOk P (gtb ((f, C) :: l)) := by
 intro g args H n p r ws rs hg
 simp only [gtb] at hg
 split at hg
 ·rename_i e
  subst e
  split at hg
  ·rename_i hp
   rcases hc : C args with _ | ⟨p', R⟩ <;> rw [hc] at hg
   ·cases hg
   ·injection hg with hg
    injection hg with h1 h2; injection h2 with h2 h3; injection h3 with h3 h4
    subst h1 h2 h3
    exact ⟨h.1, fun hp' => (h.2 args p' R hc hp').gcall hp H n⟩
  ·cases hg
 ·exact hl g args H n p r ws rs hg
theorem tabsG {P : Program} (hm : P.follows .mixedOrders = true) {l : List (FuncId × Con)} (h : TabOk P (tbl l)) {m : List (FuncId × FCon)} (hg : GabOk P (gtb m)) : Tabs P (tbl l) (gtb m) :=
 ⟨hm, h, hg, fun f args H n => ⟨fun p r ws rs e H' _ => by rw [gtb_loc m f args H' H n]; exact e, fun e H' => by rw [gtb_loc m f args H' H n]; exact e⟩⟩
attribute [go_sem] gtb.eq_1 gtb.eq_2
@[go_sem ↓, go_sem] theorem ev_retF_n {P : Program} {l : List ResultVar} {R : FRes} {σ : St} : retF P l R .normal σ = aResL P σ l fun xs => ∃ k, xs = [.sl k R.e 0 R.l.length] ∧ σ.H k = some ⟨R.t, R.e, R.l⟩ ∧ allPure R.l := rfl
@[go_sem ↓, go_sem] theorem ev_retF_r {P : Program} {l : List ResultVar} {R : FRes} {σ : St} : retF P l R .ret σ = aResL P σ l fun xs => ∃ k, xs = [.sl k R.e 0 R.l.length] ∧ σ.H k = some ⟨R.t, R.e, R.l⟩ ∧ allPure R.l := rfl
theorem AWp.cut {P : Program} {c : Code} {Q E : Exit → St → Prop} {σ : St} (h : AWp P c (fun e σ => ∃ τ, Wk σ τ ∧ E e τ) σ) (hq : ∀ e τ, E e τ → Q e τ) : AWp P c Q σ := fun B A W st a w ρ hs =>
 wpIn_mono (h B A W st a w ρ hs) fun e a' w' ⟨σ', ρ', ⟨τ, h1, h2⟩, h3⟩ => let ⟨ρ'', h4⟩ := h1 B A W a' w' ρ' h3; ⟨τ, ρ'', hq _ _ h2, h4⟩
end Go.Proofs.YtfbogelmgdojgaaGreat


/- Rows of limbs and of bytes in the abstract run. -/
namespace Go.Proofs.YtfbogelmgdojgaaGreat
set_option linter.unusedSimpArgs false
set_option linter.unusedVariables false
open Go.RowKit

theorem mixed : Tryz.prog.follows .mixedOrders = true := by rfl
@[go_sem] theorem limbs_len (l : List Nat) : (V.limbs l).length = l.length := by simp [V.limbs]
theorem limbs_get {l : List Nat} {i : Nat} (h : i < l.length) : (V.limbs l)[i]? = some (.raw (.int .u32 (at0 l i))) := by
 simp [V.limbs, at0, List.getElem?_eq_getElem h]
@[go_sem ↓, go_sem] theorem ev_limbs_get {l : List Nat} {i : Nat} {k : V → Prop} : optC (V.limbs l)[i]? k = (i < l.length ∧ k (.raw (.int .u32 (at0 l i : Nat)))) := by
  by_cases h : i < l.length
  ·rw [limbs_get h]; simp [optC, h]
  ·have : (V.limbs l)[i]? = none := by rw [List.getElem?_eq_none]; rw [limbs_len]; omega
   rw [this]; simp [optC, h]
@[go_sem] theorem limbs_take (l : List Nat) (n : Nat) : (V.limbs l).take n = V.limbs (l.take n) := by simp [V.limbs]
@[go_sem] theorem limbs_drop (l : List Nat) (n : Nat) : (V.limbs l).drop n = V.limbs (l.drop n) := by simp [V.limbs]
@[go_sem] theorem limbs_append (l m : List Nat) : V.limbs l ++ V.limbs m = V.limbs (l ++ m) := by simp [V.limbs]
@[go_sem] theorem limbs_wid (l : List Nat) : allWid (V.limbs l) 1 = True := by
  simp only [eq_iff_iff, iff_true]
  intro y hy
  obtain ⟨x, _, rfl⟩ := List.mem_map.1 hy
  rfl
@[go_sem] theorem limbs_wid' (l : List Nat) : (∀ y ∈ V.limbs l, y.atoms.length = 1) = True := by
  simp only [eq_iff_iff, iff_true]
  intro y hy
  obtain ⟨x, _, rfl⟩ := List.mem_map.1 hy
  rfl
@[go_sem] theorem limbs_good (l : List Nat) : allGood (V.limbs l) = True := by
  simp only [eq_iff_iff, iff_true]
  intro y hy
  obtain ⟨x, _, rfl⟩ := List.mem_map.1 hy
  rfl
@[go_sem] theorem limbs_pure (l : List Nat) : allPure (V.limbs l) = True := by
  simp only [eq_iff_iff, iff_true]
  intro y hy
  obtain ⟨x, _, rfl⟩ := List.mem_map.1 hy
  rfl
theorem limbs_set {l : List Nat} {i x : Nat} {X : Int} (h : X = x) : (V.limbs l).set i (.raw (.int .u32 X)) = V.limbs (l.set i x) := by
 subst h; simp [V.limbs, List.map_set]
@[go_sem] theorem limbs_rep (n : Nat) : List.replicate n (.raw (.int .u32 0)) = V.limbs (List.replicate n 0) := by simp [V.limbs]
@[go_sem] theorem limbs_setN (l : List Nat) (i x : Nat) : (V.limbs l).set i (.raw (.int .u32 (x : Nat))) = V.limbs (l.set i x) := limbs_set rfl
theorem limbs_nil : ([] : List V) = V.limbs [] := rfl
def sv (s : Bool) (l : List Nat) : Int := if s = true then -(lv l : Int) else lv l
theorem sv_natAbs (s : Bool) (l : List Nat) : (sv s l).natAbs = lv l := by unfold sv; split <;> omega
theorem atoms_I {s : Bool} {l : List Nat} (hl : Canon l) (hs : s = true → l ≠ []) : V.atoms (.I (sv s l)) = [.raw (.bool s), .lst (V.limbs l)] := by
 have e : dg (sv s l).natAbs = l := by rw [sv_natAbs]; exact (dg_of_canon hl rfl).symm
 have h2 : decide (sv s l < 0) = s := by
  cases s
  ·simp [sv]
  ·have := lv_pos hl (hs rfl); simp [sv]; omega
 show V.atomsI _ = _
 unfold V.atomsI
 rw [e, h2]
theorem out_I {s : Bool} {l : List Nat} {z : Int} (hl : Canon l) (hs : s = true → l ≠ []) (hz : z = sv s l) : OutEq (.agg [.raw (.bool s), .lst (V.limbs l)]) (.I z) := by
 subst hz
 refine .atoms rfl rfl ?_
 rw [atoms_I hl hs]
 simp [V.atoms, V.atomsL]
theorem out_I0 {z : Int} (hz : z = 0) : OutEq (.agg [.raw (.bool false), .emp]) (.I z) := by
 subst hz
 exact .inr (.inl ⟨rfl, rfl, rfl, rfl, trivial⟩)
theorem out_In {z : Int} (hz : z = 0) : OutEq (.agg [.raw (.bool false), .raw (.slice none 0 0)]) (.I z) := by
 subst hz
 exact .inr (.inl ⟨rfl, rfl, rfl, ⟨rfl, rfl⟩, trivial⟩)
theorem sv_open (z : Int) : ∃ s l, z = sv s l ∧ Canon l ∧ (s = true → l ≠ []) ∧ dg z.natAbs = l ∧ decide (z < 0) = s ∧ l.length = dl z.natAbs := by
 refine ⟨decide (z < 0), dg z.natAbs, ?_, dg_canon _, ?_, rfl, rfl, rfl⟩
 ·unfold sv; rw [lv_dg]; by_cases hz : z < 0 <;> simp [hz] <;> omega
 ·intro hz e; rw [dg_eq_nil] at e; simp at hz; omega
theorem sv_zero {s : Bool} {l : List Nat} (hl : Canon l) : sv s l = 0 ↔ l = [] := by
 constructor
 ·intro h
  have : lv l = 0 := by rw [← sv_natAbs s l, h]; rfl
  by_cases e : l = []
  ·exact e
  ·have := lv_pos hl e; omega
 ·rintro rfl; cases s <;> rfl
attribute [go_sem] Int.toNat_natCast List.length_replicate List.length_append List.length_set List.length_take List.length_drop decide_eq_true_eq decide_eq_false_iff_not
theorem out_int {k : IntKind} {a b : Int} (h : a = b) : OutEq (V.raw (.int k a)) (.raw (.int k b)) := .inl (by rw [h])
theorem out_bool {a b : Bool} (h : a = b) : OutEq (V.raw (.bool a)) (.raw (.bool b)) := .inl (by rw [h])
end Go.Proofs.YtfbogelmgdojgaaGreat


/- Plain arithmetic for the integers. No program in sight. -/
namespace Go.Proofs.YtfbogelmgdojgaaGreat
set_option linter.unusedSimpArgs false
set_option linter.unusedVariables false
open Go.RowKit

theorem sv_true (l : List Nat) : sv true l = -(lv l : Int) := rfl
theorem sv_false (l : List Nat) : sv false l = lv l := rfl
theorem sv_neg_iff {s : Bool} {l : List Nat} (hl : Canon l) (hs : s = true → l ≠ []) : s = decide (sv s l < 0) := by
 cases s
 ·rw [sv_false]; simp
 ·have := lv_pos hl (hs rfl); rw [sv_true]; simp; omega
theorem sv_zero_iff {s : Bool} {l : List Nat} (hl : Canon l) : sv s l = 0 ↔ l = [] := sv_zero hl
def cmpI (a b : Int) : Int := if a < b then -1 else if a = b then 0 else 1
theorem cmpI_lt {a b : Int} (h : a < b) : cmpI a b = -1 := if_pos h
theorem cmpI_eq {a b : Int} (h : a = b) : cmpI a b = 0 := by unfold cmpI; rw [if_neg (by omega), if_pos h]
theorem cmpI_gt {a b : Int} (h : b < a) : cmpI a b = 1 := by unfold cmpI; rw [if_neg (by omega), if_neg (by omega)]
theorem lv_lt_of_top {l m : List Nat} (hl : Lim l) (hm : Lim m) (n : Nat) (h1 : l.length = n) (h2 : m.length = n) (k : Nat) (hk : k < n)
 (hlt : at0 l k < at0 m k) (hh : ∀ j, k < j → at0 l j = at0 m j) : lv l < lv m := by
 induction l generalizing m n k with
 | nil => simp at h1; omega
 | cons x l ih =>
   cases m with
   | nil => simp at h2; omega
   | cons y m =>
     simp only [List.length_cons] at h1 h2
     rw [lv_cons, lv_cons]
     cases k with
     | zero =>
       simp only [at0_cons_zero] at hlt
       have : l = m := by
        apply List.ext_getElem (by omega)
        intro i hi hi'
        have := hh (i + 1) (by omega)
        simpa [at0, hi, hi'] using this
       subst this; omega
     | succ k =>
       have := ih hl.tail hm.tail (n - 1) (by omega) (by omega) k (by omega) (by simpa [at0_cons_succ] using hlt) (fun j hj => by simpa [at0_cons_succ] using hh (j + 1) (by omega))
       have := hl.head
       have := hm.head
       omega
theorem eq_of_at0 {l m : List Nat} (h : l.length = m.length) (hh : ∀ j, at0 l j = at0 m j) : l = m := by
 apply List.ext_getElem h
 intro i hi hi'
 simpa [at0, hi, hi'] using hh i
theorem lv_lt_of_len {l m : List Nat} (hl : Lim l) (hm : Canon m) (h : l.length < m.length) : lv l < lv m := by
 have h1 := lv_lt hl
 have h2 := pow_dl_le hm (by rintro rfl; simp at h)
 have h3 : 4294967296 ^ l.length ≤ 4294967296 ^ (m.length - 1) := Nat.pow_le_pow_right (by decide) (by omega)
 omega
def sgI (z : Int) : Int := cmpI z 0
theorem sgI_sv {s : Bool} {l : List Nat} (hl : Canon l) (hs : s = true → l ≠ []) : sgI (sv s l) = if l = [] then 0 else if s = true then -1 else 1 := by
 unfold sgI
 by_cases h0 : l = []
 ·rw [if_pos h0, cmpI_eq ((sv_zero_iff hl).2 h0)]
 ·have := lv_pos hl h0
  rw [if_neg h0]
  cases s
  ·rw [sv_false, cmpI_gt (by omega)]; rfl
  ·rw [sv_true, cmpI_lt (by omega)]; rfl
theorem sv_flip (s : Bool) (l : List Nat) : sv (!s) l = -sv s l := by cases s <;> simp [sv]
def validB (s : Bool) (l : List Nat) : Bool := if l = [] then !s else decide (at0 l (l.length - 1) ≠ 0)
theorem lv_two (x y : Nat) : lv [x, y] = x + 4294967296 * y := by simp [lv]
theorem lim_two {x y : Nat} (hx : x < 4294967296) (hy : y < 4294967296) : Lim [x, y] := Lim.cons hx (Lim.cons hy Lim.nil)
theorem wraps_u64 (n : Int) (h₀ : 0 ≤ n) (h₁ : n < 2 ^ 64) : IntKind.u64.wrap n = n := by
 have : (2 : Int) ^ 64 = 18446744073709551616 := by decide
 exact IntWalk.u64_in n (by omega)
theorem or_shift (x y : Int) (hx0 : 0 ≤ x) (hx : x < 4294967296) (hy0 : 0 ≤ y) (hy : y < 4294967296) : bits BinOp.or IntKind.u64 (y * 4294967296) x = y * 4294967296 + x := by
 have e : (2 : Int) ^ 64 = 18446744073709551616 := by decide
 have e' : (2 : Int) ^ 32 = 4294967296 := by decide
 exact bits_join .u64 64 (by decide) wraps_u64 32 _ _ (by omega) (by rw [e']; omega) (by rw [e]; omega) hx0 (by rw [e']; exact hx) (by rw [e]; omega)
theorem add_step {P a b c s l m r : Nat} (h : r + P * c = l + m) (hs : s = a + b + c) :
 r + P * (s % 4294967296) + P * 4294967296 * (s / 4294967296) = (l + P * a) + (m + P * b) := by
 have e : P * (s % 4294967296) + P * 4294967296 * (s / 4294967296) = P * s := by
  rw [Nat.mul_assoc, ← Nat.mul_add, Nat.mod_add_div]
 rw [Nat.add_assoc, e, hs, Nat.mul_add, Nat.mul_add]
 omega
def bor (x y c : Int) : Int := if x < y + c then 1 else 0
theorem bor_range (x y c : Int) : 0 ≤ bor x y c ∧ bor x y c ≤ 1 := by unfold bor; split <;> omega
theorem bv_cast (v : BitVec 32) : IntKind.u32.wrap (v.toNat : Int) = v.toNat := IntWalk.u32_in _ (by have := v.isLt; omega)
theorem bits_and32 (a b : Int) : bits BinOp.and IntKind.u32 a b = ((BitVec.ofInt 32 a &&& BitVec.ofInt 32 b).toNat : Int) := bv_cast _
theorem bits_or32 (a b : Int) : bits BinOp.or IntKind.u32 a b = ((BitVec.ofInt 32 a ||| BitVec.ofInt 32 b).toNat : Int) := bv_cast _
theorem bits_xor32 (a b : Int) : bits BinOp.xor IntKind.u32 a b = ((BitVec.ofInt 32 a ^^^ BitVec.ofInt 32 b).toNat : Int) := bv_cast _
theorem ofInt_toNat (v : BitVec 32) : BitVec.ofInt 32 (v.toNat : Int) = v := by rw [BitVec.ofInt_natCast, BitVec.ofNat_toNat, BitVec.setWidth_eq]
theorem top_bit (v : BitVec 32) : v.toNat / 2147483648 = if v.msb = true then 1 else 0 := by
 have := v.isLt
 rw [BitVec.msb_eq_decide]
 split <;> rename_i h <;> simp at h <;> omega
theorem ofInt_nat32 (x : Int) (h0 : 0 ≤ x) (h1 : x < 4294967296) : ((BitVec.ofInt 32 x).toNat : Int) = x := by
 rw [BitVec.toNat_ofInt]; omega
theorem sub32_bits (x y c : Int) (hx : 0 ≤ x) (hx' : x < 4294967296) (hy : 0 ≤ y) (hy' : y < 4294967296) (hc : 0 ≤ c) (hc' : c ≤ 1) :
 bits BinOp.or IntKind.u32 (bits BinOp.and IntKind.u32 (bits BinOp.xor IntKind.u32 IntKind.u32.max x) y)
  (bits BinOp.and IntKind.u32 (bits BinOp.xor IntKind.u32 IntKind.u32.max (bits BinOp.xor IntKind.u32 x y)) ((x - y - c) % 4294967296)) / 2147483648 = bor x y c := by
 simp only [bits_and32, bits_or32, bits_xor32, ofInt_toNat]
 have hmax : BitVec.ofInt 32 IntKind.u32.max = BitVec.allOnes 32 := by decide
 rw [hmax, BitVec.allOnes_xor, BitVec.allOnes_xor]
 have e : ∀ v : BitVec 32, ((v.toNat : Int)) / 2147483648 = ((v.toNat / 2147483648 : Nat) : Int) := fun v => by omega
 rw [e, top_bit]
 have hX := ofInt_nat32 x hx hx'
 have hY := ofInt_nat32 y hy hy'
 have hD := ofInt_nat32 ((x - y - c) % 4294967296) (by omega) (by omega)
 generalize BitVec.ofInt 32 x = X at *
 generalize BitVec.ofInt 32 y = Y at *
 generalize BitVec.ofInt 32 ((x - y - c) % 4294967296) = D at *
 simp only [BitVec.msb_or, BitVec.msb_and, BitVec.msb_not, BitVec.msb_xor]
 have mX := BitVec.msb_eq_decide X
 have mY := BitVec.msb_eq_decide Y
 have mD := BitVec.msb_eq_decide D
 unfold bor
 cases hx1 : X.msb <;> cases hy1 : Y.msb <;> cases hd1 : D.msb <;> rw [hx1] at mX <;> rw [hy1] at mY <;> rw [hd1] at mD <;> simp at mX mY mD ⊢ <;> omega
theorem sub_step {P a b c r l m d t : Nat} (h : r + m = l + P * c) (hs : d + b + c = a + 4294967296 * t) :
 r + P * d + (m + P * b) = l + P * a + P * 4294967296 * t := by
 have e : P * d + P * b + P * c = P * a + P * 4294967296 * t := by
  rw [← Nat.mul_add, ← Nat.mul_add, hs, Nat.mul_add, Nat.mul_assoc]
 omega
theorem dl_neg (x : Int) : dl (-x).natAbs = dl x.natAbs := by rw [Int.natAbs_neg]
theorem mul_step {P Q c xy o t r' k lr lm : Nat} (h : lr + P * Q * c = k + lm) (ht : t = c + (xy + o)) (hs : r' + P * Q * o = lr + P * Q * (t % 4294967296)) :
 r' + P * (Q * 4294967296) * (t / 4294967296) = k + (lm + P * (Q * xy)) := by
 have e : P * Q * (t % 4294967296) + P * (Q * 4294967296) * (t / 4294967296) = P * Q * t := by
  rw [← Nat.mul_assoc P Q 4294967296, Nat.mul_assoc (P * Q) 4294967296, ← Nat.mul_add, Nat.mod_add_div]
 have e2 : P * Q * t = P * Q * c + (P * Q * xy + P * Q * o) := by rw [ht, Nat.mul_add, Nat.mul_add]
 have e3 : P * (Q * xy) = P * Q * xy := by rw [Nat.mul_assoc]
 omega
theorem mulb (x y c o : Nat) (hx : x < 4294967296) (hy : y < 4294967296) (hc : c < 4294967296) (ho : o < 4294967296) : c + (x * y + o) < 18446744073709551616 := by
 have : x * y ≤ 4294967295 * 4294967295 := Nat.mul_le_mul (by omega) (by omega)
 omega
theorem lv_drop (l : List Nat) (i : Nat) : lv (l.drop i) = at0 l i + 4294967296 * lv (l.drop (i + 1)) := by
 by_cases h : i < l.length
 ·rw [List.drop_eq_getElem_cons h, lv_cons]
  unfold at0; rw [List.getD_eq_getElem?_getD, List.getElem?_eq_getElem h]; rfl
 ·rw [at0_beyond (by omega), List.drop_eq_nil_of_le (by omega), List.drop_eq_nil_of_le (by omega)]; rfl
theorem drop_set_lt (l : List Nat) (i x k : Nat) (h : i < k) : (l.set i x).drop k = l.drop k := by
 induction l generalizing i k with
 | nil => simp
 | cons y l ih =>
   cases k with
   | zero => omega
   | succ k =>
     cases i with
     | zero => simp
     | succ i => simp only [List.set_cons_succ, List.drop_succ_cons, ih i k (by omega)]
theorem lv_drop_set {l : List Nat} {i : Nat} (x : Nat) (h : i < l.length) : lv ((l.set i x).drop i) = x + 4294967296 * lv (l.drop (i + 1)) := by
 rw [lv_drop, at0_set h, if_pos rfl, drop_set_lt _ _ _ _ (by omega)]
theorem wraps_u32 (n : Int) (h₀ : 0 ≤ n) (h₁ : n < 2 ^ 32) : IntKind.u32.wrap n = n := by
 have : (2 : Int) ^ 32 = 4294967296 := by decide
 exact IntWalk.u32_in n (by omega)
theorem bits_or_u32 (a b j : Nat) (hj : j ≤ 32) (ha : a < 2 ^ j) (hb : b % 2 ^ j = 0) (hb' : b < 4294967296) : bits BinOp.or IntKind.u32 (a : Int) (b : Int) = ((a + b : Nat) : Int) := by
 have e32 : (2 : Nat) ^ 32 = 4294967296 := by decide
 have ha' : a < 2 ^ 32 := Nat.lt_of_lt_of_le ha (Nat.pow_le_pow_right (by decide) hj)
 rw [(bits_nat .u32 32 (by decide) wraps_u32 a b ha' (by omega)).2]
 have hq : b = 2 ^ j * (b / 2 ^ j) := by have := Nat.div_add_mod b (2 ^ j); omega
 congr 1
 rw [Nat.or_comm]
 conv => lhs; rw [hq]
 rw [← Nat.two_pow_add_eq_or_of_lt ha (b / 2 ^ j), ← hq, Nat.add_comm]
theorem bitLen_bounds : ∀ (f x : Nat), x < 2 ^ f → x ≠ 0 → x < 2 ^ 64 → 2 ^ (Lib.bitLen x - 1) ≤ x ∧ x < 2 ^ Lib.bitLen x ∧ 1 ≤ Lib.bitLen x := by
 intro f
 induction f with
 | zero => intro x hx h0; simp at hx; omega
 | succ f ih =>
   intro x hx h0 h64
   rw [Lib.bitLen_half x h0 h64]
   by_cases h1 : x / 2 = 0
   ·have : x = 1 := by omega
    subst this
    decide
   ·obtain ⟨a, b, c⟩ := ih (x / 2) (by rw [Nat.pow_succ] at hx; omega) h1 (by omega)
    generalize Lib.bitLen (x / 2) = n at *
    obtain ⟨n, rfl⟩ : ∃ m, n = m + 1 := ⟨n - 1, by omega⟩
    rw [show 1 + (n + 1) - 1 = n + 1 from by omega, show 1 + (n + 1) = n + 1 + 1 from by omega]
    rw [Nat.add_sub_cancel] at a
    refine ⟨?_, ?_, by omega⟩
    ·rw [Nat.pow_succ]; omega
    ·rw [Nat.pow_succ]; omega
def pw (x : Int) (k : Nat) : Int := x ^ k
theorem dl_pw (x : Int) (k : Nat) (hk : 0 < k) : dl (pw x k).natAbs ≤ k * dl x.natAbs := by
 unfold pw
 induction k with
 | zero => omega
 | succ k ih =>
   rcases Nat.eq_zero_or_pos k with rfl | h
   ·simp
   ·rw [Int.pow_succ, Int.natAbs_mul]
    have h1 := ih h
    have h2 := dl_mul (x ^ k).natAbs x.natAbs
    rw [Nat.add_mul]; omega
theorem dl_pw1 (x : Int) (k : Nat) : dl (pw x k).natAbs ≤ k * dl x.natAbs + 1 := by
 rcases Nat.eq_zero_or_pos k with rfl | h
 ·have : dl (pw x 0).natAbs = 1 := by unfold pw; simp; decide
  omega
 ·have := dl_pw x k h; omega
theorem wraps_i64 (n : Int) (h₀ : 0 ≤ n) (h₁ : n < 2 ^ 63) : IntKind.i64.wrap n = n := by
 have : (2 : Int) ^ 63 = 9223372036854775808 := by decide
 exact IntWalk.i64_in n (by omega)
theorem sv_inj {s t : Bool} {l m : List Nat} (hl : Canon l) (hm : Canon m) (hs : s = true → l ≠ []) (ht : t = true → m ≠ []) : sv s l = sv t m ↔ s = t ∧ lv l = lv m := by
 constructor
 ·intro h
  refine ⟨?_, by rw [← sv_natAbs s l, h, sv_natAbs]⟩
  rw [sv_neg_iff hl hs, sv_neg_iff hm ht, h]
 ·rintro ⟨rfl, h⟩
  unfold sv; rw [h]
end Go.Proofs.YtfbogelmgdojgaaGreat


/- Limbs of a given length. No program in sight. -/
namespace Go.Proofs.YtfbogelmgdojgaaGreat
set_option linter.unusedSimpArgs false
set_option linter.unusedVariables false
open Go.RowKit

def nl : Nat → Nat → List Nat
 | 0, _ => []
 | n + 1, v => v % 4294967296 :: nl n (v / 4294967296)
theorem nl_length (n v : Nat) : (nl n v).length = n := by
 induction n generalizing v with
 | zero => rfl
 | succ n ih => simp [nl, ih]
theorem nl_lim (n v : Nat) : Lim (nl n v) := by
 induction n generalizing v with
 | zero => exact Lim.nil
 | succ n ih => exact Lim.cons (Nat.mod_lt _ (by decide)) (ih _)
theorem lv_nl (n v : Nat) (h : v < 4294967296 ^ n) : lv (nl n v) = v := by
 induction n generalizing v with
 | zero => simp at h; subst h; rfl
 | succ n ih =>
   rw [nl, lv_cons, ih _ (by rw [Nat.pow_succ] at h; exact Nat.div_lt_of_lt_mul (by rw [Nat.mul_comm]; exact h))]
   omega
theorem nl_of {l : List Nat} {n v : Nat} (h : Lim l) (hn : l.length = n) (hv : lv l = v) : l = nl n v := by
 induction l generalizing n v with
 | nil => subst hn; rfl
 | cons x l ih =>
   cases n with
   | zero => simp at hn
   | succ n =>
     rw [lv_cons] at hv
     have hx := h.head
     rw [nl, ← ih h.tail (by simpa using hn) (v := v / 4294967296) (by omega)]
     congr 1
     omega
theorem pow_pos' (n : Nat) : 0 < 4294967296 ^ n := Nat.pow_pos (by decide)
theorem pow_le' {m n : Nat} (h : m ≤ n) : 4294967296 ^ m ≤ 4294967296 ^ n := Nat.pow_le_pow_right (by decide) h
theorem lv_lt_le {l : List Nat} (h : Lim l) {n : Nat} (hn : l.length ≤ n) : lv l < 4294967296 ^ n := Nat.lt_of_lt_of_le (lv_lt h) (pow_le' hn)
theorem sum_lt {l m : List Nat} (hl : Lim l) (hm : Lim m) {n : Nat} (h1 : l.length ≤ n) (h2 : m.length ≤ n) : lv l + lv m < 4294967296 ^ (n + 1) := by
 have := lv_lt_le hl h1
 have := lv_lt_le hm h2
 rw [Nat.pow_succ]; omega
end Go.Proofs.YtfbogelmgdojgaaGreat

