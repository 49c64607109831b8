/- Calls whose result is a fresh row of the caller. No program in sight. -/
import Derived.Test.YtbnhnmpgbpejaaaA22
namespace Go.Proofs.Ytbnhnmpgbpejaaa
set_option linter.unusedSimpArgs false
set_option linter.unusedVariables false
open Go.RowKit

/-- A row: its type of elements, the cells of an element, the elements. -/
structure FRes where
  t : TypeId
  e : Nat
  l : List V
def FCall (P : Program) (f : FuncId) (args : List V) (R : FRes) : Prop :=
  ∀ (B : Nat → Prop) (w : World) (vs : List Value), vs.length = args.length → (∀ (j : Nat) (x : V) (v : Value), args[j]? = some x → vs[j]? = some v → RepW w B (fun _ => none) x v) → (∀ b, B b → b < w.heap.size) →
    Calls P f vs.toArray w fun e w' => ∃ (b c : Nat) (arr : Array Value), e = .returned (.slice (some ⟨b, 0, none⟩) R.l.length c) ∧ R.l.length ≤ c ∧ c * R.e ≤ arr.size ∧ w.heap.size ≤ b ∧ w'.heap[b]? = some (.cells arr R.t (0, 0)) ∧
      (∀ y ∈ R.l, y.wid = R.e) ∧ (V.atomsL R.l).length ≤ arr.size ∧ (∀ (j : Nat) (y : V) (u : Value), (V.atomsL R.l)[j]? = some y → arr[j]? = some u → RepA w' (fun b' => B b' ∨ b' = b) (fun _ => none) y u) ∧ Below w.heap.size w w'
section
variable {P : Program}
theorem FCall.le {f : FuncId} {args args' : List V} {R : FRes} (h : FCall P f args R) (hl : OutsL args' args) : FCall P f args' R := by
  intro B w vs hv hr hB
  obtain ⟨e1, e2⟩ := OutsL.get _ _ hl
  refine h B w vs (by omega) (fun j x v hx hv => ?_) hB
  obtain ⟨y, k1, k2⟩ := e2 j x hx
  exact k2.rep (hr j y v k1 hv)
theorem FCall.gcall {f : FuncId} {args : List V} {R : FRes} (h : FCall P f args R) (hp : args.all V.pure = true) (H : Hp) (n : Nat) : GCall P f args H n (.sl n R.e 0 R.l.length) [(n, some ⟨R.t, R.e, R.l⟩)] := by
  intro B w ρ vs hH hf hB hfar hl hr
  have hlt : ∀ b, own B ρ H b → b < w.heap.size := by
    rintro b (hb | ⟨k, x, h1, h2⟩)
    · exact hB b hb
    · obtain ⟨b', arr, e1, e2, _⟩ := hH.row k x h1
      rw [h2] at e1; injection e1 with e1; subst e1
      exact (Array.getElem?_eq_some_iff.1 e2).1
  refine (h (own B ρ H) w vs hl (fun j x v hx hv => (hr j x v hx hv).pure (List.all_eq_true.1 hp x (List.mem_of_getElem? hx))) hlt).mono ?_
  rintro e w' ⟨b, c, arr, rfl, hc, hca, hb, hbw, hw, hal, hrep, hbel⟩
  have hH' : H.puts [(n, some ⟨R.t, R.e, R.l⟩)] = H.up n (some ⟨R.t, R.e, R.l⟩) := rfl
  rw [hH']
  have step : Step H w ρ (H.up n (some ⟨R.t, R.e, R.l⟩)) w' (fun k => if k = n then some b else ρ k) := by
    refine ⟨fun k b0 e => ?_, fun b0 hb0 _ => hbel.block b0 hb0, fun k x b0 e1 e2 => ?_, hbel.size, fun b0 arr0 t0 fr e => ⟨arr0, t0, fr, ?_, rfl⟩, hbel.os, hbel.tape, hbel.output⟩
    · split
      · rename_i hk; subst hk; rw [hf] at e; cases e
      · exact e
    · split at e2
      · injection e2 with e2; subst e2; exact .inr hb
      · rename_i hk
        refine .inl ⟨k, x, ?_, e2⟩
        simpa [Hp.up, hk] using e1
    · rw [hbel.block b0 (Array.getElem?_eq_some_iff.1 e).1]; exact e
  have hsub : ∀ b0, own B (fun k => if k = n then some b else ρ k) (H.up n (some ⟨R.t, R.e, R.l⟩)) b0 → own B ρ H b0 ∨ b0 = b := by
    rintro b0 (h0 | ⟨k, x, h1, h2⟩)
    · exact .inl (.inl h0)
    · simp only at h2
      split at h2
      · injection h2 with h2; exact .inr h2.symm
      · rename_i hk
        exact .inl (.inr ⟨k, x, by simpa [Hp.up, hk] using h1, h2⟩)
  refine ⟨_, fun k => if k = n then some b else ρ k, rfl, step, ⟨fun k x hk => ?_, fun k k' x x' b0 e1 e2 e3 e4 => ?_⟩, fun k hk e => by simp [hk, e], ?_⟩
  · by_cases hkn : k = n
    · subst hkn
      have : x = ⟨R.t, R.e, R.l⟩ := by simpa [Hp.up] using hk.symm
      subst this
      refine ⟨b, arr, by simp, hbw, hw, hal, fun j y u hy hu => ?_⟩
      exact (hrep j y u hy hu).mono ((Ext.less hsub).into _)
    · have hk0 : H k = some x := by simpa [Hp.up, hkn] using hk
      obtain ⟨b0, arr0, h1, h2, h3, h4, h5⟩ := hH.row k x hk0
      refine ⟨b0, arr0, by simp [hkn, h1], ?_, h3, h4, fun j y u hy hu => (h5 j y u hy hu).mono (step.ext B)⟩
      rw [hbel.block b0 (Array.getElem?_eq_some_iff.1 h2).1]; exact h2
  · have old : ∀ q y, q ≠ n → (H.up n (some ⟨R.t, R.e, R.l⟩)) q = some y → (if q = n then some b else ρ q) = some b0 → H q = some y ∧ ρ q = some b0 ∧ b0 < w.heap.size := fun q y hq h1 h2 => by
      have h1' : H q = some y := by simpa [Hp.up, hq] using h1
      rw [if_neg hq] at h2
      exact ⟨h1', h2, hlt b0 (.inr ⟨q, y, h1', h2⟩)⟩
    by_cases hk : k = n
    · by_cases hk' : k' = n
      · rw [hk, hk']
      · obtain ⟨_, _, h3⟩ := old k' x' hk' e2 e4
        simp only [hk, if_true, Option.some.injEq] at e3
        omega
    · by_cases hk' : k' = n
      · obtain ⟨_, _, h3⟩ := old k x hk e1 e3
        simp only [hk', if_true, Option.some.injEq] at e4
        omega
      · obtain ⟨a1, a2, _⟩ := old k x hk e1 e3
        obtain ⟨c1, c2, _⟩ := old k' x' hk' e2 e4
        exact hH.inj k k' x x' b0 a1 c1 a2 c2
  · refine RepV.of_W (RepW.of_atom ?_ rfl rfl) (by intro l h; cases h)
    have := RepA.sl (w := w') (O := own B (fun k => if k = n then some b else ρ k) (H.up n (some ⟨R.t, R.e, R.l⟩))) (fun k => if k = n then some b else ρ k) n R.e 0 R.l.length b c arr R.t (0, 0) (by simp) hbw hc (by simpa using hca)
    simpa using this
def retF (P : Program) (rs : List ResultVar) (R : FRes) : Exit → St → Prop
  | .normal, σ => aResL P σ rs fun xs => ∃ k, xs = [.sl k R.e 0 R.l.length] ∧ σ.H k = some ⟨R.t, R.e, R.l⟩ ∧ allPure R.l
  | .ret, σ => aResL P σ rs fun xs => ∃ k, xs = [.sl k R.e 0 R.l.length] ∧ σ.H k = some ⟨R.t, R.e, R.l⟩ ∧ allPure R.l
  | _, _ => False
theorem FCall.of_vc {Γ : Tab} {Δ : Gab} (T : Tabs P Γ Δ) {f : FuncId} {fn : Func} {c : Code} {args : List V} {R : FRes} (hf : P.funcs[f]? = some fn) (hb : fn.body = some c) {N : Nat} (hn : fn.ntmps = N) {rs : Array ResultVar} (hrs : fn.results = rs) (hN : args.length ≤ N)
    (h : vc P Γ Δ c (retF P rs.toList R) (st0 args N)) : FCall P f args R := by
  subst hn hrs
  intro B w vs hl hr hB
  refine calls_of_wp hf hb ?_
  have st : Stat B (fun _ => False) w := ⟨hB, fun _ h => h.elim⟩
  have hown : ∀ b, own B (fun _ => none) (fun _ => none) b → B b := fun b hb => by
    rcases hb with hb | ⟨k, x, h1, _⟩
    · exact hb
    · cases h1
  have hx : Ext w B (fun _ => none) w (own B (fun _ => none) (fun _ => none)) (fun _ => none) := Ext.less hown
  have hs : Sim B (fun _ => False) w (st0 args fn.ntmps) { tmps := vs.toArray ++ Array.replicate (fn.ntmps - vs.toArray.size) undef, defers := [] } w (fun _ => none) := sim0 hl hr hN
  refine wp_mono (vc_ok T c _ _ h B (fun _ => False) w st _ w _ hs) fun e a' w' hq => ?_
  obtain ⟨σ', ρ', hq, hs'⟩ := hq
  have fin : (aResL P σ' fn.results.toList fun xs => ∃ k, xs = [.sl k R.e 0 R.l.length] ∧ σ'.H k = some ⟨R.t, R.e, R.l⟩ ∧ allPure R.l) → a'.defers = [] ∧ ∃ v, (results fn a'.tmps).run P w' = .ok v w' ∧
      ∃ (b c : Nat) (arr : Array Value), Ending.returned v = .returned (.slice (some ⟨b, 0, none⟩) R.l.length c) ∧ R.l.length ≤ c ∧ c * R.e ≤ arr.size ∧ w.heap.size ≤ b ∧ w'.heap[b]? = some (.cells arr R.t (0, 0)) ∧
      (∀ y ∈ R.l, y.wid = R.e) ∧ (V.atomsL R.l).length ≤ arr.size ∧ (∀ (j : Nat) (y : V) (u : Value), (V.atomsL R.l)[j]? = some y → arr[j]? = some u → RepA w' (fun b' => B b' ∨ b' = b) (fun _ => none) y u) ∧ Below w.heap.size w w' := fun hq => by
    obtain ⟨xs, us, h1, h2, h3, h4⟩ := res_ok (P := P) hs' _ _ hq
    obtain ⟨k, rfl, hk, hpure⟩ := h1
    match us, h3 with
    | [u], _ =>
      have h5 := h4 0 _ _ rfl rfl
      have h6 : RepA w' (own B ρ' σ'.H) ρ' (.sl k R.e 0 R.l.length) u := RepW.atom h5 rfl
      obtain ⟨b, arr, q1, q2, q3, q4, q5⟩ := hs'.heap.row k _ hk
      refine ⟨hs'.defers, _, results_run h2, ?_⟩
      cases h6 with
      | sl _ _ _ _ _ b' c arr' t' fr' e1 e2 e3 e4 =>
        rw [q1] at e1; injection e1 with e1; subst e1
        rw [q2] at e2; injection e2 with e2; injection e2 with e2 e5 e6; subst e2 e5 e6
        refine ⟨b, c, arr, by simp, e3, by simpa using e4, ?_, q2, q3, q4, fun j y u hy hu => ?_, hs'.below⟩
        · rcases hs'.mine k _ b hk q1 with hh | hh
          · exact hh.elim
          · exact hh
        · have hp : pureA y = true := by
            have : ∀ (l : List V), allPure l → ∀ y ∈ V.atomsL l, pureA y = true := by
              intro l
              induction l with
              | nil => intro _ y hy; simp [V.atomsL] at hy
              | cons x l ih =>
                intro hl y hy
                simp only [V.atomsL, List.mem_append] at hy
                rcases hy with hy | hy
                · have := hl x (by simp)
                  unfold V.pure at this
                  exact List.all_eq_true.1 this y hy
                · exact ih (fun z hz => hl z (by simp [hz])) y hy
            exact this _ hpure y (List.mem_of_getElem? hy)
          refine ((q5 j y u hy hu).pureA hp).mono (Ext.less ?_)
          rintro b0 (h0 | rfl)
          · exact .inl h0
          · exact .inr ⟨k, _, hk, q1⟩
  cases e with
  | normal => exact fin hq
  | ret => exact fin hq
  | exit id => exact hq.elim
  | goto l => exact hq.elim
  | panic c => exact hq.elim
  | outgrown => exact hq.elim
end
/-- A table of such calls: they are made on stable arguments. -/
abbrev FCon := List V → Option (Prop × FRes)
def FCtr (P : Program) (f : FuncId) (C : FCon) : Prop := callable P f = true ∧ ∀ args p R, C args = some (p, R) → p → FCall P f args R
def gtb : List (FuncId × FCon) → Gab
  | [], _, _, _, _ => none
  | (g, C) :: l, f, args, H, n => if f = g then (if args.all V.pure = true then (C args).map fun q => (q.1, .sl n q.2.e 0 q.2.l.length, [(n, some ⟨q.2.t, q.2.e, q.2.l⟩)], []) else none) else gtb l f args H n
theorem gtb_loc : ∀ (l : List (FuncId × FCon)) (f : FuncId) (args : List V) (H H' : Hp) (n : Nat), gtb l f args H n = gtb l f args H' n
  | [], _, _, _, _, _ => rfl
  | (g, C) :: l, f, args, H, H', n => by simp only [gtb]; rw [gtb_loc l f args H H' n]
theorem gtb_nil {P : Program} : GabOk P (gtb []) := fun _ _ _ _ _ _ _ _ h => by cases h
theorem gtb_cons {P : Program} {f : FuncId} {C : FCon} {l : List (FuncId × FCon)} (h : FCtr P f C) (hl : GabOk P (gtb l)) : GabOk P (gtb ((f, C) :: l)) := by
  intro g args H n p r ws rs hg
  simp only [gtb] at hg
  split at hg
  · rename_i e
    subst e
    split at hg
    · rename_i hp
      rcases hc : C args with _ | ⟨p', R⟩ <;> rw [hc] at hg
      · cases hg
      · injection hg with hg
        injection hg with h1 h2; injection h2 with h2 h3; injection h3 with h3 h4
        subst h1 h2 h3
        exact ⟨h.1, fun hp' => (h.2 args p' R hc hp').gcall hp H n⟩
    · cases hg
  · exact hl g args H n p r ws rs hg
theorem tabsG {P : Program} (hm : P.follows .mixedOrders = true) {l : List (FuncId × Con)} (h : TabOk P (tbl l)) {m : List (FuncId × FCon)} (hg : GabOk P (gtb m)) : Tabs P (tbl l) (gtb m) :=
  ⟨hm, h, hg, fun f args H n => ⟨fun p r ws rs e H' _ => by rw [gtb_loc m f args H' H n]; exact e, fun e H' => by rw [gtb_loc m f args H' H n]; exact e⟩⟩
attribute [go_sem] gtb.eq_1 gtb.eq_2
@[go_sem ↓, go_sem] theorem ev_retF_n {P : Program} {l : List ResultVar} {R : FRes} {σ : St} : retF P l R .normal σ = aResL P σ l fun xs => ∃ k, xs = [.sl k R.e 0 R.l.length] ∧ σ.H k = some ⟨R.t, R.e, R.l⟩ ∧ allPure R.l := rfl
@[go_sem ↓, go_sem] theorem ev_retF_r {P : Program} {l : List ResultVar} {R : FRes} {σ : St} : retF P l R .ret σ = aResL P σ l fun xs => ∃ k, xs = [.sl k R.e 0 R.l.length] ∧ σ.H k = some ⟨R.t, R.e, R.l⟩ ∧ allPure R.l := rfl
/-- What stands behind is proved once, from a state written out. -/
theorem AWp.cut {P : Program} {c : Code} {Q E : Exit → St → Prop} {σ : St} (h : AWp P c (fun e σ => ∃ τ, Wk σ τ ∧ E e τ) σ) (hq : ∀ e τ, E e τ → Q e τ) : AWp P c Q σ := fun B A W st a w ρ hs =>
  wp_mono (h B A W st a w ρ hs) fun e a' w' ⟨σ', ρ', ⟨τ, h1, h2⟩, h3⟩ => let ⟨ρ'', h4⟩ := h1 B A W a' w' ρ' h3; ⟨τ, ρ'', hq _ _ h2, h4⟩
end Go.Proofs.Ytbnhnmpgbpejaaa
