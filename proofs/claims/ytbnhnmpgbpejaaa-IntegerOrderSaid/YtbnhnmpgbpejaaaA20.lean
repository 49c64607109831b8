/- Contracts of functions out of the abstract run. No program in sight. -/
import Derived.Test.YtbnhnmpgbpejaaaA19
namespace Go.Proofs.Ytbnhnmpgbpejaaa
set_option linter.unusedSimpArgs false
set_option linter.unusedVariables false
open Go.RowKit

def aResL (P : Program) (σ : St) : List ResultVar → (List V → Prop) → Prop
  | [], k => k []
  | .tmp t :: r, k => aResL P σ r fun ys => k (σ.s t :: ys)
  | .cell t ty :: r, k => aLoad P σ.H ty (σ.s t) fun z _ _ => aResL P σ r fun ys => k (z :: ys)
/-- An empty row, however it is made. -/
def atLe : V → V → Prop
  | .emp, .lst l => l = []
  | .raw v, .lst l => v = .slice none 0 0 ∧ l = []
  | y, r => y = r
def atsLe : List V → List V → Prop
  | [], [] => True
  | y :: ys, r :: rs => atLe y r ∧ atsLe ys rs
  | _, _ => False
def OutEq (y r : V) : Prop := y = r ∨ (y.isAgg = true ∧ r.isAgg = true ∧ atsLe y.atoms r.atoms) ∨ (y.isAgg = false ∧ r.isAgg = false ∧ atLe y r)
theorem OutEq.refl (y : V) : OutEq y y := .inl rfl
theorem atLe.rfl' (y : V) : atLe y y := by
  cases y <;> rfl
theorem atsLe.refl : ∀ l : List V, atsLe l l
  | [] => trivial
  | y :: l => ⟨atLe.rfl' y, atsLe.refl l⟩
theorem OutEq.atoms {y r : V} (h1 : y.isAgg = true) (h2 : r.isAgg = true) (h3 : y.atoms = r.atoms) : OutEq y r := .inr (.inl ⟨h1, h2, h3 ▸ atsLe.refl _⟩)
theorem atLe.rep {w O ρ} {y r : V} {v : Value} (h : atLe y r) (hy : RepA w O ρ y v) : RepA w O ρ r v := by
  unfold atLe at h
  split at h
  · subst h; cases hy; exact .nil _ _ _
  · obtain ⟨rfl, rfl⟩ := h; cases hy; exact .nil _ _ _
  · subst h; exact hy
theorem atsLe.get : ∀ {ys rs : List V}, atsLe ys rs → ys.length = rs.length ∧ ∀ (j : Nat) (r : V), rs[j]? = some r → ∃ y, ys[j]? = some y ∧ atLe y r
  | [], [], _ => ⟨rfl, fun j r h => by simp at h⟩
  | y :: ys, r :: rs, h => by
    obtain ⟨h1, h2⟩ := atsLe.get h.2
    refine ⟨by simp [h1], fun j q hq => ?_⟩
    cases j with
    | zero => simp at hq; subst hq; exact ⟨y, rfl, h.1⟩
    | succ j => obtain ⟨z, e1, e2⟩ := h2 j q (by simpa using hq); exact ⟨z, by simpa using e1, e2⟩
  | [], _ :: _, h => h.elim
  | _ :: _, [], h => h.elim
def OutsL : List V → List V → Prop
  | [], [] => True
  | y :: ys, r :: rs => OutEq y r ∧ OutsL ys rs
  | _, _ => False
def Outs (ys : List V) (r : V) : Prop :=
  match ys, r with
  | [y], r => OutEq y r
  | ys, .tup l => OutsL ys l
  | _, _ => False
def retE (P : Program) (rs : List ResultVar) (r : V) : Exit → St → Prop
  | .normal, σ => aResL P σ rs fun xs => argsP σ.H xs fun ys _ => Outs ys r
  | .ret, σ => aResL P σ rs fun xs => argsP σ.H xs fun ys _ => Outs ys r
  | _, _ => False
def argS : List V → Nat → (Nat → V) → Nat → V
  | [], _, s => s
  | a :: l, i, s => argS l (i + 1) (upS s i a)
def st0 (args : List V) (N : Nat) : St := { s := argS args 0 fun _ => .any, H := fun _ => none, n := 0, N := N }

theorem argS_get : ∀ (l : List V) (i : Nat) (s : Nat → V) (t : Nat), argS l i s t = if i ≤ t ∧ t < i + l.length then l.getD (t - i) .any else s t
  | [], i, s, t => by simp [argS]; omega
  | a :: l, i, s, t => by
    simp only [argS, argS_get l]
    by_cases h1 : i + 1 ≤ t ∧ t < i + 1 + l.length
    · rw [if_pos h1, if_pos (by simp only [List.length_cons]; omega), show t - i = (t - (i + 1)) + 1 from by omega]
      simp
    · rw [if_neg h1]
      by_cases h2 : t = i
      · subst h2
        rw [if_pos (by simp only [List.length_cons]; omega)]
        simp [upS]
      · rw [if_neg (by simp only [List.length_cons]; omega)]
        simp [upS, h2]
theorem RepW.notTup {w O ρ x v} (h : RepW w O ρ x v) : ∀ l, x ≠ .tup l := by
  rintro l rfl
  rcases h with h | ⟨h1, h2⟩
  · cases h
  · have h3 : 0 < v.cells.size := by have := h1.2.2; simp [V.atoms] at this; omega
    have := h2 0 _ _ rfl (Array.getElem?_eq_getElem h3)
    cases this
section
variable {P : Program} {B A : Nat → Prop} {W w : World} {σ : St} {a : Act} {ρ : Nat → Option Nat}
theorem load_addr {t : TypeId} {u v : Value} (h : (Instr.loadAt t u).run P w = .ok v w) : ((do loadVar t (← asAddr u)) : Sem Value).run P w = .ok v w := by
  cases u with
  | pointer p =>
    cases p with
    | none => simp [Instr.loadAt, Instr.sureAddr] at h
    | some p => simpa [Instr.loadAt, Instr.sureAddr, asAddr] using h
  | _ => simp [Instr.loadAt, Instr.sureAddr] at h
def resV (tmps : Array Value) : ResultVar → Sem Value
  | .tmp t => pure (tmps.getD t undef)
  | .cell p t => do loadVar t (← asAddr (tmps.getD p undef))
theorem res_ok (hs : Sim B A W σ a w ρ) : ∀ (l : List ResultVar) (k : List V → Prop), aResL P σ l k →
    ∃ xs vs, k xs ∧ (l.mapM (m := Sem) (resV a.tmps)).run P w = .ok vs w ∧ vs.length = xs.length ∧
      ∀ (j : Nat) (x : V) (v : Value), xs[j]? = some x → vs[j]? = some v → RepV w (own B ρ σ.H) ρ x v
  | [], k, h => ⟨[], [], h, by simp, rfl, fun j x v h1 _ => by simp at h1⟩
  | .tmp t :: r, k, h => by
    obtain ⟨xs, vs, h1, h2, h3, h4⟩ := res_ok hs r _ h
    refine ⟨σ.s t :: xs, a.tmps.getD t undef :: vs, h1, ?_, by simp [h3], fun j x v e1 e2 => ?_⟩
    · simp only [List.mapM_cons, resV, Sem.run_bind, Sem.run_pure, Result.andThen_ok, h2]
    · cases j with
      | zero => simp only [List.getElem?_cons_zero, Option.some.injEq] at e1 e2; subst e1 e2; exact hs.slots t
      | succ j => exact h4 j x v (by simpa using e1) (by simpa using e2)
  | .cell t ty :: r, k, h => by
    obtain ⟨z, rs, hz, v, hr, hv⟩ := aLoad_ok (P := P) hs.heap (hs.slots t) h
    obtain ⟨xs, vs, h1, h2, h3, h4⟩ := res_ok hs r _ hz
    have hr' := load_addr hr
    refine ⟨z :: xs, v :: vs, h1, ?_, by simp [h3], fun j x u e1 e2 => ?_⟩
    · have hr2 : (resV a.tmps (.cell t ty)).run P w = .ok v w := hr'
      rw [List.mapM_cons, Sem.run_bind, hr2, Result.andThen_ok, Sem.run_bind, h2]
      rfl
    · cases j with
      | zero => simp only [List.getElem?_cons_zero, Option.some.injEq] at e1 e2; subst e1 e2; exact hv
      | succ j => exact h4 j x u (by simpa using e1) (by simpa using e2)
theorem results_run {fn : Func} {tmps : Array Value} {vs : List Value} (h : (fn.results.toList.mapM (m := Sem) (resV tmps)).run P w = .ok vs w) :
    (results fn tmps).run P w = .ok (if hh : vs.toArray.size = 1 then vs.toArray[0] else .tuple vs.toArray) w := by
  have e : results fn tmps = (do let vs ← fn.results.mapM (resV tmps); pure (if h : vs.size = 1 then vs[0] else .tuple vs)) := by
    unfold results
    congr 1
  rw [e, Array.mapM_eq_mapM_toList, Sem.run_bind, Sem.run_map, h]
  rfl
theorem OutEq.rep {O : Nat → Prop} {ρ'} {y r : V} {v : Value} (h : OutEq y r) (hy : RepW w O ρ' y v) : RepW w O ρ' r v := by
  rcases h with rfl | ⟨h1, h2, h3⟩ | ⟨h1, h2, h3⟩
  · exact hy
  · rw [RepW.agg_iff h1] at hy
    rw [RepW.agg_iff h2]
    obtain ⟨e1, e2⟩ := h3.get
    obtain ⟨cs, rfl, q1, q2⟩ := hy
    refine ⟨cs, rfl, by omega, fun i r u hr hu => ?_⟩
    obtain ⟨y', k1, k2⟩ := e2 i r hr
    exact k2.rep (q2 i y' u k1 hu)
  · have ha := h3.rep (hy.atom h1)
    rcases hy with rfl | ⟨s1, s2⟩
    · have : r = .any := by
        exact (show V.any = r by cases r <;> first | exact h3 | exact absurd h3 (by intro e; cases e)).symm
      subst this; exact .inl rfl
    · exact RepW.of_atom ha h2 (s1.2.1 h1)
theorem OutsL.get : ∀ (ys rs : List V), OutsL ys rs → ys.length = rs.length ∧ ∀ (j : Nat) (r : V), rs[j]? = some r → ∃ y, ys[j]? = some y ∧ OutEq y r
  | [], [], _ => ⟨rfl, fun j r h => by simp at h⟩
  | y :: ys, r :: rs, h => by
    obtain ⟨h1, h2⟩ := OutsL.get ys rs h.2
    refine ⟨by simp [h1], fun j q hq => ?_⟩
    cases j with
    | zero => simp at hq; subst hq; exact ⟨y, rfl, h.1⟩
    | succ j => obtain ⟨z, e1, e2⟩ := h2 j q (by simpa using hq); exact ⟨z, by simpa using e1, e2⟩
  | [], _ :: _, h => h.elim
  | _ :: _, [], h => h.elim
theorem Outs.rep {O : Nat → Prop} {ρ'} {ys : List V} {r : V} {vs : List Value} (h : Outs ys r) (hl : vs.length = ys.length) (hr : ∀ (j : Nat) (y : V) (v : Value), ys[j]? = some y → vs[j]? = some v → RepW w O ρ' y v) :
    RepV w O ρ' r (if hh : vs.toArray.size = 1 then vs.toArray[0] else .tuple vs.toArray) := by
  have multi : ys.length ≠ 1 → ∀ l, r = .tup l → OutsL ys l → RepV w O ρ' r (if hh : vs.toArray.size = 1 then vs.toArray[0] else .tuple vs.toArray) := by
    rintro hne l rfl h
    obtain ⟨h1, h2⟩ := OutsL.get _ _ h
    have hsz : ¬ vs.toArray.size = 1 := by simpa [hl] using hne
    rw [dif_neg hsz]
    refine ⟨vs.toArray, rfl, by simp [← h1, hl], fun j q u hq hu => ?_⟩
    obtain ⟨y, e1, e2⟩ := h2 j q hq
    exact e2.rep (hr j y u e1 (by simpa using hu))
  match ys, vs, hl, h, hr, multi with
  | [y], [v], _, h, hr, _ =>
    have h' : OutEq y r := by cases r <;> exact h
    have h1 := h'.rep (hr 0 y v rfl rfl)
    exact RepV.of_W h1 h1.notTup
  | [], vs, _, h, _, multi =>
    cases r with
    | tup l => exact multi (by simp) l rfl h
    | _ => exact h.elim
  | _ :: _ :: _, vs, _, h, _, multi =>
    cases r with
    | tup l => exact multi (by simp) l rfl h
    | _ => exact h.elim
/-- The same call on values that stand for these. -/
theorem PCall.le {f : FuncId} {args args' : List V} {r : V} (h : PCall P f args r) (hl : OutsL args' args) : PCall P f args' r := by
  intro B w vs hv hr hB
  obtain ⟨e1, e2⟩ := OutsL.get _ _ hl
  refine h B w vs (by omega) (fun j x v hx hv => ?_) hB
  obtain ⟨y, k1, k2⟩ := e2 j x hx
  exact k2.rep (hr j y v k1 hv)
end
/-- The start of a call. -/
theorem sim0 {B : Nat → Prop} {w : World} {vs : List Value} {args : List V} {N : Nat} (hl : vs.length = args.length) (hr : ∀ (j : Nat) (x : V) (v : Value), args[j]? = some x → vs[j]? = some v → RepW w B (fun _ => none) x v) (hN : args.length ≤ N) :
    Sim B (fun _ => False) w (st0 args N) { tmps := vs.toArray ++ Array.replicate (N - vs.toArray.size) undef, defers := [] } w (fun _ => none) := by
  have hown : ∀ b, own B (fun _ => none) (fun _ => none) b → B b := fun b hb => by
    rcases hb with hb | ⟨k, x, h1, _⟩
    · exact hb
    · cases h1
  have hx : Ext w B (fun _ => none) w (own B (fun _ => none) (fun _ => none)) (fun _ => none) := Ext.less hown
  refine ⟨rfl, by simp [hl, st0]; omega, fun t => ?_, ⟨fun k x h => by simp [st0] at h, fun k k' x x' b h1 => by simp [st0] at h1⟩, fun _ _ => rfl, fun k x b h => by simp [st0] at h, rfl, rfl, rfl, Nat.le_refl _, fun _ _ _ => rfl, fun b arr t fr e => ⟨_, _, _, e, rfl⟩⟩
  simp only [st0, argS_get, Nat.zero_le, true_and, Nat.zero_add, Nat.sub_zero]
  by_cases ht : t < args.length
  · rw [if_pos ht]
    have e1 : args[t]? = some args[t] := List.getElem?_eq_getElem ht
    have e2 : vs[t]? = some (vs[t]'(by omega)) := List.getElem?_eq_getElem (by omega)
    have h1 := (hr t _ _ e1 e2).mono hx
    have e3 : (vs.toArray ++ Array.replicate (N - vs.toArray.size) undef).getD t undef = vs[t]'(by omega) := by
      rw [Array.getD_eq_getD_getElem?, Array.getElem?_append_left (by simp; omega)]
      simp [e2]
    rw [e3]
    have e4 : args.getD t .any = args[t] := by simp [List.getD_eq_getElem?_getD, e1]
    rw [e4]
    exact RepV.of_W h1 h1.notTup
  · rw [if_neg ht]
    exact .inl rfl
/-- A contract out of the abstract run of the body. -/
theorem PCall.of_vc {P : Program} {Γ : Tab} {Δ : Gab} (T : Tabs P Γ Δ) {f : FuncId} {fn : Func} {c : Code} {args : List V} {r : V} (hf : P.funcs[f]? = some fn) (hb : fn.body = some c) {N : Nat} (hn : fn.ntmps = N) {rs : Array ResultVar} (hrs : fn.results = rs) (hN : args.length ≤ N)
    (h : vc P Γ Δ c (retE P rs.toList r) (st0 args N)) : PCall P f args r := by
  subst hn hrs
  intro B w vs hl hr hB
  refine calls_of_wp hf hb ?_
  have st : Stat B (fun _ => False) w := ⟨hB, fun _ h => h.elim⟩
  have hown : ∀ b, own B (fun _ => none) (fun _ => none) b → B b := fun b hb => by
    rcases hb with hb | ⟨k, x, h1, _⟩
    · exact hb
    · cases h1
  have hx : Ext w B (fun _ => none) w (own B (fun _ => none) (fun _ => none)) (fun _ => none) := Ext.less hown
  have hs : Sim B (fun _ => False) w (st0 args fn.ntmps) { tmps := vs.toArray ++ Array.replicate (fn.ntmps - vs.toArray.size) undef, defers := [] } w (fun _ => none) := sim0 hl hr hN
  refine wp_mono (vc_ok T c _ _ h B (fun _ => False) w st _ w _ hs) fun e a' w' hq => ?_
  obtain ⟨σ', ρ', hq, hs'⟩ := hq
  have fin : (aResL P σ' fn.results.toList fun xs => argsP σ'.H xs fun ys _ => Outs ys r) → a'.defers = [] ∧ ∃ v, (results fn a'.tmps).run P w' = .ok v w' ∧ ∃ v', Ending.returned v = .returned v' ∧ RepV w' B (fun _ => none) r v' ∧ Below w.heap.size w w' := fun hq => by
    obtain ⟨xs, us, h1, h2, h3, h4⟩ := res_ok (P := P) hs' _ _ hq
    obtain ⟨ys, rs, h5, h6, h7⟩ := argsP_ok hs'.heap (hs'.hfar st) xs us _ h3 h4 h1
    refine ⟨hs'.defers, _, results_run h2, _, rfl, ?_, hs'.below⟩
    refine (Outs.rep h5 (by omega) (h7 rs fun _ h => h)).mono (Ext.less fun b hb => .inl hb)
  cases e with
  | normal => exact fin hq
  | ret => exact fin hq
  | exit id => exact hq.elim
  | goto l => exact hq.elim
  | panic c => exact hq.elim
  | outgrown => exact hq.elim
end Go.Proofs.Ytbnhnmpgbpejaaa
