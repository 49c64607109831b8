/- Texts A24 F1 in one. -/
import Derived.Test.YtilkleibnciloaaP08
import Derived.Test.YtilkleibnciloaaP18
import Derived.Test.YtilkleibnciloaaP09
import Derived.Test.YtilkleibnciloaaP28
import Derived.Test.YtilkleibnciloaaP30
/- Calls that change rows of their caller. No program in sight. -/
namespace Go.Proofs.Ytilkleibnciloaa
set_option linter.unusedSimpArgs false
set_option linter.unusedVariables false
open Go.RowKit

def hpU : Nat → List Blk → Hp
  | _, [] => fun _ => none
  | i, b :: bs => (hpU (i + 1) bs).up i (some b)
def hpL (bs : List Blk) : Hp := hpU 0 bs
theorem hpU_get : ∀ (bs : List Blk) (i k : Nat), hpU i bs k = if i ≤ k then bs[k - i]? else none
  | [], i, k => by simp [hpU]
  | b :: bs, i, k => by
    simp only [hpU, Hp.up, hpU_get bs]
    by_cases h1 : k = i
    · subst h1; simp
    · rw [if_neg h1]
      by_cases h2 : i + 1 ≤ k
      · rw [if_pos h2, if_pos (by omega), show k - i = (k - (i + 1)) + 1 from by omega]
        simp
      · rw [if_neg h2, if_neg (by omega)]
theorem hpL_get (bs : List Blk) (k : Nat) : hpL bs k = bs[k]? := by
  unfold hpL
  rw [hpU_get, if_pos (Nat.zero_le _), Nat.sub_zero]
theorem hpL_lt {bs : List Blk} {k : Nat} {x : Blk} (h : hpL bs k = some x) : k < bs.length := by
  rw [hpL_get] at h
  exact (List.getElem?_eq_some_iff.1 h).1
theorem hpL_some {bs : List Blk} {k : Nat} (h : k < bs.length) : ∃ x, hpL bs k = some x := ⟨bs[k], by rw [hpL_get]; exact List.getElem?_eq_getElem h⟩
/-- A contract of a function that changes rows of its caller; their names are 0, 1, .. here. -/
def MCall (P : Program) (f : FuncId) (args : List V) (bs bs' : List Blk) (r : V) : Prop :=
  ∀ (B : Nat → Prop) (w : World) (ρ : Nat → Option Nat) (vs : List Value), HRep w (own B ρ (hpL bs)) ρ (hpL bs) → (∀ k, bs.length ≤ k → ρ k = none) → (∀ b, B b → b < w.heap.size) → (∀ k x b, hpL bs k = some x → ρ k = some b → ¬ B b) →
    vs.length = args.length → (∀ (j : Nat) (x : V) (v : Value), args[j]? = some x → vs[j]? = some v → RepW w (own B ρ (hpL bs)) ρ x v) →
    Calls P f vs.toArray w fun e w' => ∃ v, e = .returned v ∧ Step (hpL bs) w ρ (hpL bs') w' ρ ∧ HRep w' (own B ρ (hpL bs')) ρ (hpL bs') ∧ RepV w' (own B ρ (hpL bs')) (fun _ => none) r v
def blksAt (H : Hp) : Nat → List Blk → Prop
  | _, [] => True
  | i, b :: bs => H i = some b ∧ blksAt H (i + 1) bs
theorem blksAt_get {H : Hp} : ∀ (bs : List Blk) (i k : Nat) (x : Blk), blksAt H i bs → bs[k]? = some x → H (i + k) = some x
  | [], i, k, x, _, h => by simp at h
  | b :: bs, i, k, x, h, hk => by
    cases k with
    | zero => simp at hk; subst hk; exact h.1
    | succ k =>
      have := blksAt_get bs (i + 1) k x h.2 (by simpa using hk)
      rw [show i + (k + 1) = i + 1 + k from by omega]
      exact this
def retM (P : Program) (rs : List ResultVar) (r : V) (bs : List Blk) : Exit → St → Prop
  | .normal, σ => aResL P σ rs fun xs => argsP σ.H xs fun ys ids => Outs ys r ∧ (∀ i ∈ ids, bs.length ≤ i) ∧ blksAt σ.H 0 bs
  | .ret, σ => aResL P σ rs fun xs => argsP σ.H xs fun ys ids => Outs ys r ∧ (∀ i ∈ ids, bs.length ≤ i) ∧ blksAt σ.H 0 bs
  | _, _ => False
def stM (args : List V) (bs : List Blk) (N : Nat) : St := { s := argS args 0 fun _ => .any, H := hpL bs, n := bs.length, N := N, m := bs.length }
theorem pure_row {l : List V} (h : allPure l) : ∀ y ∈ V.atomsL l, pureA y = true :=
  atomsL_all fun z hz => by have := h z hz; unfold V.pure at this; exact this
section
variable {P : Program}
theorem MCall.of_vc {Γ : Tab} {Δ : Gab} (T : Tabs P Γ Δ) {f : FuncId} {fn : Func} {c : Code} {args : List V} {bs bs' : List Blk} {r : V} (hf : P.funcs[f]? = some fn) (hb : fn.body = some c) {N : Nat} (hn : fn.ntmps = N) {rs : Array ResultVar} (hrs : fn.results = rs) (hN : args.length ≤ N)
    (hlen : bs'.length = bs.length) (hpure : ∀ x ∈ bs', allPure x.l) (h : vc P Γ Δ c (retM P rs.toList r bs') (stM args bs N)) : MCall P f args bs bs' r := by
  subst hn hrs
  intro B w ρ vs hH hfr hB hfar hl hr
  refine calls_of_wp hf hb ?_
  have live : ∀ k x b, hpL bs k = some x → ρ k = some b → (if k < bs.length then ρ k else none) = some b := fun k x b h1 h2 => by
    rw [if_pos (hpL_lt h1)]; exact h2
  have alive : ∀ j b, (if j < bs.length then ρ j else none) = some b → j < bs.length ∧ ρ j = some b := fun j b e => by
    split at e
    · rename_i hj; exact ⟨hj, e⟩
    · cases e
  have st : Stat B (fun k => if k < bs.length then ρ k else none) w := ⟨hB, fun k b e => by
    obtain ⟨h1, h2⟩ := alive k b e
    obtain ⟨x, hx⟩ := hpL_some h1
    exact hfar k x b hx h2⟩
  have hs : Sim B (fun k => if k < bs.length then ρ k else none) w (stM args bs fn.ntmps) { tmps := vs.toArray ++ Array.replicate (fn.ntmps - vs.toArray.size) undef, defers := [] } w ρ := by
    refine ⟨rfl, by simp [hl, stM]; omega, fun t => ?_, hH, hfr, fun k x b h1 h2 => .inl ⟨k, live k x b h1 h2⟩, rfl, rfl, rfl, Nat.le_refl _, fun _ _ _ => rfl, fun b arr t fr e => ⟨_, _, _, e, rfl⟩, fun k b e => alive k b e⟩
    simp only [stM, argS_get, Nat.zero_le, true_and, Nat.zero_add, Nat.sub_zero]
    by_cases ht : t < args.length
    · rw [if_pos ht]
      have e1 : args[t]? = some args[t] := List.getElem?_eq_getElem ht
      have e2 : vs[t]? = some (vs[t]'(by omega)) := List.getElem?_eq_getElem (by omega)
      have h1 := hr t _ _ e1 e2
      have e3 : (vs.toArray ++ Array.replicate (fn.ntmps - vs.toArray.size) undef).getD t undef = vs[t]'(by omega) := by
        rw [Array.getD_eq_getD_getElem?, Array.getElem?_append_left (by simp; omega)]
        simp [e2]
      rw [e3]
      have e4 : args.getD t .any = args[t] := by simp [List.getD_eq_getElem?_getD, e1]
      rw [e4]
      exact RepV.of_W h1 h1.notTup
    · rw [if_neg ht]
      exact .inl rfl
  refine wp_mono (vc_ok T c _ _ h B _ w st _ w _ hs) fun e a' w' hq => ?_
  obtain ⟨σ', ρ', hq, hs'⟩ := hq
  have fin : (aResL P σ' fn.results.toList fun xs => argsP σ'.H xs fun ys ids => Outs ys r ∧ (∀ i ∈ ids, bs'.length ≤ i) ∧ blksAt σ'.H 0 bs') → a'.defers = [] ∧ ∃ v, (results fn a'.tmps).run P w' = .ok v w' ∧
      ∃ v', Ending.returned v = .returned v' ∧ Step (hpL bs) w ρ (hpL bs') w' ρ ∧ HRep w' (own B ρ (hpL bs')) ρ (hpL bs') ∧ RepV w' (own B ρ (hpL bs')) (fun _ => none) r v' := fun hq => by
    obtain ⟨xs, us, h1, h2, h3, h4⟩ := res_ok (P := P) hs' _ _ hq
    obtain ⟨ys, ids, ⟨h5, h6, h7⟩, h8, h9⟩ := argsP_ok hs'.heap (hs'.hfar st) xs us _ h3 h4 h1
    have at' : ∀ k x, hpL bs' k = some x → σ'.H k = some x ∧ ∃ b, ρ k = some b ∧ ρ' k = some b := fun k x hk => by
      have hk' : bs'[k]? = some x := by rw [← hpL_get]; exact hk
      have g1 := blksAt_get bs' 0 k x h7 hk'
      rw [Nat.zero_add] at g1
      have hlt : k < bs.length := by rw [← hlen]; exact hpL_lt hk
      obtain ⟨x0, hx0⟩ := hpL_some hlt
      obtain ⟨b, arr, e1, _⟩ := hH.row k x0 hx0
      exact ⟨g1, b, e1, (hs'.pins k b (live k x0 b hx0 e1)).2⟩
    have sub : ∀ b, own B ρ (hpL bs') b → own B ρ' (σ'.H.drops ids) b := fun b hb => by
      rcases hb with hb | ⟨k, x, e1, e2⟩
      · exact .inl hb
      · obtain ⟨g1, b', g2, g3⟩ := at' k x e1
        rw [g2] at e2; injection e2 with e2; subst e2
        refine .inr ⟨k, x, ?_, g3⟩
        unfold Hp.drops
        rw [if_neg fun hk => by have := h6 k hk; have := hpL_lt e1; omega]
        exact g1
    have sub' : ∀ b, own B ρ (hpL bs') b → own B ρ' σ'.H b := fun b hb => by
      rcases sub b hb with hb | ⟨k, x, e1, e2⟩
      · exact .inl hb
      · refine .inr ⟨k, x, ?_, e2⟩
        unfold Hp.drops at e1
        split at e1
        · cases e1
        · exact e1
    refine ⟨hs'.defers, _, results_run h2, _, rfl, ⟨fun _ _ h => h, fun b hb hn => ?_, fun k x b e1 e2 => ?_, hs'.grow, hs'.row, hs'.os, hs'.tape, hs'.output⟩, ⟨fun k x hk => ?_, fun k k' x x' b e1 e2 e3 e4 => ?_⟩, ?_⟩
    · refine hs'.same b hb fun j e => ?_
      obtain ⟨g1, g2⟩ := alive j b e
      obtain ⟨x, hx⟩ := hpL_some g1
      exact hn j x hx g2
    · obtain ⟨x0, hx0⟩ := hpL_some (bs := bs) (k := k) (by rw [← hlen]; exact hpL_lt e1)
      exact .inl ⟨k, x0, hx0, e2⟩
    · obtain ⟨g1, b, g2, g3⟩ := at' k x hk
      obtain ⟨b', arr, q1, q2, q3, q4, q5⟩ := hs'.heap.row k x g1
      rw [g3] at q1; injection q1 with q1; subst q1
      refine ⟨b, arr, g2, q2, q3, q4, fun j y u hy hu => ?_⟩
      have hx : x ∈ bs' := by rw [hpL_get] at hk; exact List.mem_of_getElem? hk
      have hp := pure_row (hpure x hx) y (List.mem_of_getElem? hy)
      exact (((q5 j y u hy hu).pureA hp).mono (Ext.less sub')).mono ((Ext.refl _ _ _).into ρ)
    · obtain ⟨x0, hx0⟩ := hpL_some (bs := bs) (k := k) (by rw [← hlen]; exact hpL_lt e1)
      obtain ⟨x1, hx1⟩ := hpL_some (bs := bs) (k := k') (by rw [← hlen]; exact hpL_lt e2)
      exact hH.inj k k' x0 x1 b hx0 hx1 e3 e4
    · exact (Outs.rep h5 (by omega) (h9 ids fun _ h => h)).mono (Ext.less sub)
  cases e with
  | normal => exact fin hq
  | ret => exact fin hq
  | exit id => exact hq.elim
  | goto l => exact hq.elim
  | panic c => exact hq.elim
  | outgrown => exact hq.elim
theorem puts_zip : ∀ (θ : List Nat) (bs : List Blk) (H : Hp), θ.Nodup → θ.length = bs.length →
    (∀ (i k : Nat), θ[i]? = some k → H.puts ((θ.zip bs).map fun p => (p.1, some p.2)) k = bs[i]?) ∧ ∀ k, k ∉ θ → H.puts ((θ.zip bs).map fun p => (p.1, some p.2)) k = H k
  | [], bs, H, _, _ => ⟨fun i k h => by simp at h, fun k _ => rfl⟩
  | t :: θ, [], H, _, h => by simp at h
  | t :: θ, b :: bs, H, hnd, hl => by
    obtain ⟨hn1, hn2⟩ := List.nodup_cons.1 hnd
    obtain ⟨h1, h2⟩ := puts_zip θ bs (H.up t (some b)) hn2 (by simpa using hl)
    simp only [List.zip_cons_cons, List.map_cons, Hp.puts]
    refine ⟨fun i k hi => ?_, fun k hk => ?_⟩
    · cases i with
      | zero =>
        simp at hi
        subst hi
        rw [h2 t hn1]
        simp [Hp.up]
      | succ i => rw [h1 i k (by simpa using hi)]; simp
    · simp only [List.mem_cons, not_or] at hk
      rw [h2 k hk.2]
      simp [Hp.up, hk.1]
/-- The same call, in the names of its caller. -/
theorem MCall.gcall {f : FuncId} {args args' : List V} {bs bs' : List Blk} {r : V} (h : MCall P f args bs bs' r) (θ : List Nat) (hnd : θ.Nodup) {H : Hp} (hθ : θ.length = bs.length) (hlen : bs'.length = bs.length)
    (hblk : ∀ (i k : Nat), θ[i]? = some k → H k = bs[i]?) (hp : ∀ x ∈ bs, allPure x.l) (hp' : ∀ x ∈ bs', allPure x.l) (ha : args.length = args'.length)
    (hren : ∀ (j : Nat) (x y : V), args[j]? = some x → args'[j]? = some y → RenV θ x y ∧ x.noTup = true) (n : Nat) : GCall P f args' H n r ((θ.zip bs').map fun p => (p.1, some p.2)) := by
  intro B w ρ vs hH hf hB hfar hl hr
  obtain ⟨B0, hB0⟩ : ∃ B0 : Nat → Prop, B0 = fun b => own B ρ H b ∧ ∀ k ∈ θ, ρ k ≠ some b := ⟨_, rfl⟩
  obtain ⟨z1, z2⟩ := puts_zip θ bs' H hnd (by omega)
  obtain ⟨H', hH'⟩ : ∃ H' : Hp, H' = H.puts ((θ.zip bs').map fun p => (p.1, some p.2)) := ⟨_, rfl⟩
  rw [← hH'] at z1 z2 ⊢
  have hlt : ∀ b, own B ρ H b → b < w.heap.size := by
    rintro b (hb | ⟨k, x, h1, h2⟩)
    · exact hB b hb
    · exact hH.lt h1 h2
  have idx : ∀ i, i < bs.length → ∃ k, θ[i]? = some k := fun i hi => ⟨θ[i]'(by omega), List.getElem?_eq_getElem (by omega)⟩
  have ownL : ∀ cs : List Blk, cs.length = bs.length → own B0 (renR θ ρ) (hpL cs) = own B ρ H := fun cs hcs => by
    funext b
    refine propext ⟨?_, fun hb => ?_⟩
    · rintro (hb | ⟨i, x, h1, h2⟩)
      · rw [hB0] at hb; exact hb.1
      · obtain ⟨k, hk⟩ := idx i (by rw [← hcs]; exact hpL_lt h1)
        refine .inr ⟨k, bs[i]'(by rw [← hcs]; exact hpL_lt h1), ?_, by simpa [renR, hk] using h2⟩
        rw [hblk i k hk]
        exact List.getElem?_eq_getElem _
    · by_cases hh : ∃ k ∈ θ, ρ k = some b
      · obtain ⟨k, hk, e⟩ := hh
        obtain ⟨i, hi⟩ := List.getElem?_of_mem hk
        have hil : i < cs.length := by rw [hcs, ← hθ]; exact (List.getElem?_eq_some_iff.1 hi).1
        obtain ⟨x, hx⟩ := hpL_some hil
        exact .inr ⟨i, x, hx, by simp [renR, hi, e]⟩
      · refine .inl ?_
        rw [hB0]
        exact ⟨hb, fun k hk e => hh ⟨k, hk, e⟩⟩
  have alive : ∀ k x, H' k = some x → ∃ y, H k = some y := fun k x hk => by
    by_cases hm : k ∈ θ
    · obtain ⟨i, hi⟩ := List.getElem?_of_mem hm
      have hil : i < bs.length := by rw [← hθ]; exact (List.getElem?_eq_some_iff.1 hi).1
      exact ⟨bs[i], by rw [hblk i k hi]; exact List.getElem?_eq_getElem hil⟩
    · rw [z2 k hm] at hk; exact ⟨x, hk⟩
  have alive' : ∀ k x, H k = some x → ∃ y, H' k = some y := fun k x hk => by
    by_cases hm : k ∈ θ
    · obtain ⟨i, hi⟩ := List.getElem?_of_mem hm
      have hil : i < bs'.length := by rw [hlen, ← hθ]; exact (List.getElem?_eq_some_iff.1 hi).1
      exact ⟨bs'[i], by rw [z1 i k hi]; exact List.getElem?_eq_getElem hil⟩
    · exact ⟨x, by rw [z2 k hm]; exact hk⟩
  have ownH : own B ρ H' = own B ρ H := by
    funext b
    refine propext ⟨?_, ?_⟩
    · rintro (hb | ⟨k, x, h1, h2⟩)
      · exact .inl hb
      · obtain ⟨y, hy⟩ := alive k x h1
        exact .inr ⟨k, y, hy, h2⟩
    · rintro (hb | ⟨k, x, h1, h2⟩)
      · exact .inl hb
      · obtain ⟨y, hy⟩ := alive' k x h1
        exact .inr ⟨k, y, hy, h2⟩
  have low : ∀ i x, hpL bs i = some x → ∃ k, θ[i]? = some k ∧ H k = some x := fun i x hx => by
    obtain ⟨k, hk⟩ := idx i (hpL_lt hx)
    exact ⟨k, hk, by rw [hblk i k hk, ← hpL_get]; exact hx⟩
  have hrep : HRep w (own B0 (renR θ ρ) (hpL bs)) (renR θ ρ) (hpL bs) := by
    rw [ownL bs rfl]
    refine ⟨fun i x hx => ?_, fun i i' x x' b h1 h2 h3 h4 => ?_⟩
    · obtain ⟨k, hk, hx'⟩ := low i x hx
      obtain ⟨b, arr, q1, q2, q3, q4, q5⟩ := hH.row k x hx'
      refine ⟨b, arr, by simp [renR, hk, q1], q2, q3, q4, fun j y u hy hu => ?_⟩
      have hx2 : x ∈ bs := by rw [hpL_get] at hx; exact List.mem_of_getElem? hx
      exact ((q5 j y u hy hu).pureA (pure_row (hp x hx2) y (List.mem_of_getElem? hy))).mono ((Ext.refl _ _ _).into _)
    · obtain ⟨k, hk, hx'⟩ := low i x h1
      obtain ⟨k', hk', hx''⟩ := low i' x' h2
      have e := hH.inj k k' x x' b hx' hx'' (by simpa [renR, hk] using h3) (by simpa [renR, hk'] using h4)
      subst e
      obtain ⟨g1, g2⟩ := List.getElem?_eq_some_iff.1 hk
      obtain ⟨g3, g4⟩ := List.getElem?_eq_some_iff.1 hk'
      exact (List.getElem_inj hnd).1 (g2.trans g4.symm)
  refine (h B0 w (renR θ ρ) vs hrep (fun k hk => by simp [renR, List.getElem?_eq_none (by omega : θ.length ≤ k)]) (fun b hb => by rw [hB0] at hb; exact hlt b hb.1) (fun i x b h1 h2 hb => ?_) (by omega) (fun j x v hx hv => ?_)).mono ?_
  · obtain ⟨k, hk⟩ := idx i (hpL_lt h1)
    rw [hB0] at hb
    exact hb.2 k (List.mem_of_getElem? hk) (by simpa [renR, hk] using h2)
  · have hj : j < args'.length := by rw [← ha]; exact (List.getElem?_eq_some_iff.1 hx).1
    have hy : args'[j]? = some args'[j] := List.getElem?_eq_getElem hj
    obtain ⟨h1, h2⟩ := hren j x _ hx hy
    have h3 := hr j _ v hy hv
    rw [ownL bs rfl]
    exact ren_atomic h1 (fun l e => by subst e; simp [V.noTup] at h2) (RepV.of_W h3 h3.notTup) (Ext.refl _ _ _)
  · rintro e w' ⟨v, rfl, s, hr', hv⟩
    rw [ownL bs' hlen] at hr' hv
    have step : Step H w ρ H' w' ρ := by
      refine ⟨fun _ _ h => h, fun b hb hn => ?_, fun k x b h1 h2 => ?_, s.size, s.row, s.os, s.tape, s.output⟩
      · refine s.same b hb fun i x h1 h2 => ?_
        obtain ⟨k, hk, hx⟩ := low i x h1
        exact hn k x hx (by simpa [renR, hk] using h2)
      · obtain ⟨y, hy⟩ := alive k x h1
        exact .inl ⟨k, y, hy, h2⟩
    have hx : Ext w (own B ρ H) ρ w' (own B ρ H) ρ := by
      have := step.ext B
      rw [ownH] at this
      exact this
    refine ⟨v, ρ, rfl, step, ?_, fun _ _ h => h, ?_⟩
    · rw [ownH]
      refine ⟨fun k x hk => ?_, fun k k' x x' b h1 h2 h3 h4 => ?_⟩
      · by_cases hm : k ∈ θ
        · obtain ⟨i, hi⟩ := List.getElem?_of_mem hm
          have hk' : hpL bs' i = some x := by rw [hpL_get, ← z1 i k hi]; exact hk
          obtain ⟨b, arr, q1, q2, q3, q4, q5⟩ := hr'.row i x hk'
          refine ⟨b, arr, by simpa [renR, hi] using q1, q2, q3, q4, fun j y u hy hu => ?_⟩
          have hx2 : x ∈ bs' := by rw [hpL_get] at hk'; exact List.mem_of_getElem? hk'
          exact ((q5 j y u hy hu).pureA (pure_row (hp' x hx2) y (List.mem_of_getElem? hy))).mono ((Ext.refl _ _ _).into _)
        · rw [z2 k hm] at hk
          obtain ⟨b, arr, q1, q2, q3, q4, q5⟩ := hH.row k x hk
          refine ⟨b, arr, q1, ?_, q3, q4, fun j y u hy hu => (q5 j y u hy hu).mono hx⟩
          rw [s.same b (Array.getElem?_eq_some_iff.1 q2).1 fun i y h1 h2 => ?_]
          · exact q2
          · obtain ⟨k', hk', hy⟩ := low i y h1
            have e := hH.inj k k' x y b hk hy q1 (by simpa [renR, hk'] using h2)
            subst e
            exact hm (List.mem_of_getElem? hk')
      · obtain ⟨y, hy⟩ := alive k x h1
        obtain ⟨y', hy'⟩ := alive k' x' h2
        exact hH.inj k k' y y' b hy hy' h3 h4
    · rw [ownH]
      exact hv.mono ((Ext.refl _ _ _).into ρ)
end
/-- A table of such calls. -/
abbrev MCon := List V → Option (List Nat × (List (Option Blk) → Prop × V × List (Nat × Option Blk)))
def MCtr (P : Program) (f : FuncId) (C : MCon) : Prop := callable P f = true ∧ ∀ args θ k (H : Hp) n, C args = some (θ, k) → (k (θ.map H)).1 → GCall P f args H n (k (θ.map H)).2.1 (k (θ.map H)).2.2
def mtb : List (FuncId × MCon) → Gab
  | [], _, _, _, _ => none
  | (g, C) :: l, f, args, H, n => if f = g then (C args).map fun q => ((q.2 (q.1.map H)).1, (q.2 (q.1.map H)).2.1, (q.2 (q.1.map H)).2.2, q.1) else mtb l f args H n
theorem mtb_loc : ∀ (l : List (FuncId × MCon)) (f : FuncId) (args : List V) (H : Hp) (n : Nat), (∀ p r ws rs, mtb l f args H n = some (p, r, ws, rs) → ∀ H' : Hp, (∀ b ∈ rs, H' b = H b) → mtb l f args H' n = some (p, r, ws, rs)) ∧ (mtb l f args H n = none → ∀ H' : Hp, mtb l f args H' n = none)
  | [], _, _, _, _ => ⟨fun _ _ _ _ h => (by cases h), fun _ _ => rfl⟩
  | (g, C) :: l, f, args, H, n => by
    simp only [mtb]
    split
    · rcases C args with _ | ⟨θ, k⟩
      · exact ⟨fun _ _ _ _ h => (by cases h), fun _ _ => rfl⟩
      · refine ⟨fun p r ws rs h H' hb => ?_, fun h => by cases h⟩
        simp only [Option.map_some, Option.some.injEq, Prod.mk.injEq] at h ⊢
        obtain ⟨h1, h2, h3, h4⟩ := h
        subst h4
        have : θ.map H' = θ.map H := List.map_congr_left hb
        rw [this]
        exact ⟨h1, h2, h3, rfl⟩
    · exact mtb_loc l f args H n
theorem mtb_nil {P : Program} : GabOk P (mtb []) := fun _ _ _ _ _ _ _ _ h => by cases h
theorem mtb_cons {P : Program} {f : FuncId} {C : MCon} {l : List (FuncId × MCon)} (h : MCtr P f C) (hl : GabOk P (mtb l)) : GabOk P (mtb ((f, C) :: l)) := by
  intro g args H n p r ws rs hg
  simp only [mtb] at hg
  split at hg
  · rename_i e
    subst e
    rcases hc : C args with _ | ⟨θ, k⟩ <;> rw [hc] at hg
    · cases hg
    · simp only [Option.map_some, Option.some.injEq, Prod.mk.injEq] at hg
      obtain ⟨h1, h2, h3, h4⟩ := hg
      subst h1 h2 h3
      exact ⟨h.1, fun hp => h.2 args θ k H n hc hp⟩
  · exact hl g args H n p r ws rs hg
theorem tabsM {P : Program} (hm : P.follows .mixedOrders = true) {l : List (FuncId × Con)} (h : TabOk P (tbl l)) {m : List (FuncId × MCon)} (hg : GabOk P (mtb m)) : Tabs P (tbl l) (mtb m) :=
  ⟨hm, h, hg, fun f args H n => mtb_loc m f args H n⟩
/-- One pointer, to a row of its own. -/
def conM1 (t : TypeId) (e : Nat) (F : List V → Prop × List V × V) : MCon
  | [.ptr k e' 0 0] => if e' = e then some ([k], fun l => match l with
    | [some b] => ((b.t = t ∧ b.e = e ∧ allPure b.l) ∧ (F b.l).1, (F b.l).2.2, [(k, some ⟨t, e, (F b.l).2.1⟩)])
    | _ => (False, .any, [])) else none
  | _ => none
theorem MCtr.one {P : Program} {f : FuncId} {t : TypeId} {e : Nat} {F : List V → Prop × List V × V} (hc : callable P f = true) (h : ∀ l, (F l).1 → allPure (F l).2.1 ∧ MCall P f [.ptr 0 e 0 0] [⟨t, e, l⟩] [⟨t, e, (F l).2.1⟩] (F l).2.2) : MCtr P f (conM1 t e F) := by
  refine ⟨hc, fun args θ k H n hC hp => ?_⟩
  unfold conM1 at hC
  split at hC
  · rename_i k0 e'
    split at hC
    · rename_i he
      subst he
      injection hC with hC
      injection hC with h1 h2
      subst h1 h2
      simp only [List.map_cons, List.map_nil] at hp ⊢
      cases hk : H k0 with
      | none => rw [hk] at hp; exact hp.elim
      | some b =>
        rw [hk] at hp
        obtain ⟨bt, be, bl⟩ := b
        obtain ⟨⟨h1, h2, h3⟩, h4⟩ := hp
        simp only at h1 h2 h3 h4
        subst h1 h2
        obtain ⟨g1, g2⟩ := h bl h4
        refine g2.gcall (args' := [.ptr k0 be 0 0]) [k0] (H := H) (by simp) rfl rfl (fun i k hi => ?_) (fun x hx => ?_) (fun x hx => ?_) rfl (fun j x y hx hy => ?_) n
        · cases i with
          | zero => simp at hi; subst hi; exact hk
          | succ i => simp at hi
        · simp at hx; subst hx; exact h3
        · simp at hx; subst hx; exact g1
        · cases j with
          | zero => simp at hx hy; subst hx hy; exact ⟨⟨rfl, rfl, rfl, rfl⟩, rfl⟩
          | succ j => simp at hx
    · cases hC
  · cases hC
attribute [go_sem] mtb.eq_1 mtb.eq_2 hpL hpU.eq_1 hpU.eq_2 blksAt.eq_1 blksAt.eq_2 stM
@[go_sem ↓, go_sem] theorem ev_conM1 {t : TypeId} {e k : Nat} {F : List V → Prop × List V × V} : conM1 t e F [.ptr k e 0 0] = some ([k], fun l => match l with
    | [some b] => ((b.t = t ∧ b.e = e ∧ allPure b.l) ∧ (F b.l).1, (F b.l).2.2, [(k, some ⟨t, e, (F b.l).2.1⟩)])
    | _ => (False, .any, [])) := if_pos rfl
@[go_sem ↓, go_sem] theorem ev_retM_n {P : Program} {l : List ResultVar} {r : V} {bs : List Blk} {σ : St} : retM P l r bs .normal σ = aResL P σ l fun xs => argsP σ.H xs fun ys ids => Outs ys r ∧ (∀ i ∈ ids, bs.length ≤ i) ∧ blksAt σ.H 0 bs := rfl
@[go_sem ↓, go_sem] theorem ev_retM_r {P : Program} {l : List ResultVar} {r : V} {bs : List Blk} {σ : St} : retM P l r bs .ret σ = aResL P σ l fun xs => argsP σ.H xs fun ys ids => Outs ys r ∧ (∀ i ∈ ids, bs.length ≤ i) ∧ blksAt σ.H 0 bs := rfl
end Go.Proofs.Ytilkleibnciloaa

/- Rational numbers: patterns of values, plain laws of lowest terms and of sizes. -/
namespace Go.Proofs.Ytilkleibnciloaa
set_option linter.unusedSimpArgs false
set_option linter.unusedVariables false
open Go.RowKit

theorem beqF {a b : Int} (h : a ≠ b) : (a == b) = false := by simpa using h
theorem beqT {a b : Int} (h : a = b) : (a == b) = true := by simpa using h
theorem bneF {a b : Int} (h : a = b) : (a != b) = false := by simpa using h
theorem bneT {a b : Int} (h : a ≠ b) : (a != b) = true := by simpa using h
theorem sg_cases (x : Int) : (x < 0 ∧ sgI x = -1) ∨ (x = 0 ∧ sgI x = 0) ∨ (0 < x ∧ sgI x = 1) := by
  rcases Int.lt_trichotomy x 0 with h | h | h
  · exact .inl ⟨h, cmpI_lt h⟩
  · exact .inr (.inl ⟨h, by rw [h]; rfl⟩)
  · exact .inr (.inr ⟨h, cmpI_gt h⟩)
theorem atsLe_append : ∀ {a b c d : List V}, atsLe a b → atsLe c d → atsLe (a ++ c) (b ++ d)
  | [], [], _, _, _, h => h
  | _ :: _, _ :: _, _, _, h1, h2 => ⟨h1.1, atsLe_append h1.2 h2⟩
  | [], _ :: _, _, _, h, _ => h.elim
  | _ :: _, [], _, _, h, _ => h.elim
theorem OutEq.ats {x : V} {z : Int} (h : OutEq x (.I z)) : atsLe x.atoms (V.atomsI z) := by
  rcases h with h | ⟨_, _, h⟩ | ⟨_, h, _⟩
  · subst h; exact atsLe.refl _
  · exact h
  · cases h
theorem out_P {x y : V} {n d : Int} (hx : OutEq x (.I n)) (hy : OutEq y (.I d)) : OutEq (.agg [x, y]) (.agg [.I n, .I d]) := by
  refine .inr (.inl ⟨rfl, rfl, ?_⟩)
  show atsLe (x.atoms ++ (y.atoms ++ [])) (V.atomsI n ++ (V.atomsI d ++ []))
  exact atsLe_append hx.ats (atsLe_append hy.ats trivial)
theorem out_PQ {x : V} {n d : Int} {q : Rat} (h : OutEq x (.agg [.I n, .I d])) (h1 : n = q.num) (h2 : d = q.den) : OutEq x (.Q q) := by
  have e : (V.agg [.I n, .I d]).atoms = (V.Q q).atoms := by
    show V.atomsI n ++ (V.atomsI d ++ []) = V.atomsI q.num ++ V.atomsI q.den
    rw [h1, h2, List.append_nil]
  rcases h with h | ⟨h3, _, h4⟩ | ⟨_, h, _⟩
  · subst h; exact .atoms rfl rfl e
  · exact .inr (.inl ⟨h3, rfl, e ▸ h4⟩)
  · cases h
theorem out_Q {x y : V} {n d : Int} {q : Rat} (hx : OutEq x (.I n)) (hy : OutEq y (.I d)) (h1 : n = q.num) (h2 : d = q.den) : OutEq (.agg [x, y]) (.Q q) := out_PQ (out_P hx hy) h1 h2
theorem out_QP {q : Rat} {n d : Int} (h1 : q.num = n) (h2 : (q.den : Int) = d) : OutEq (.Q q) (.agg [.I n, .I d]) := by
  refine .atoms rfl rfl ?_
  show V.atomsI q.num ++ V.atomsI q.den = V.atomsI n ++ (V.atomsI d ++ [])
  rw [h1, h2, List.append_nil]
theorem out_QQ {a b : Rat} (h : a = b) : OutEq (.Q a) (.Q b) := .inl (by rw [h])
/-- Numerator and denominator. -/
def pq (q : Rat) : Int × Int := (q.num, (q.den : Int))
@[go_sem] theorem pq_inj {a b : Rat} : (pq a = pq b) = (a = b) := by
  refine propext ⟨fun h => ?_, fun h => by rw [h]⟩
  injection h with h1 h2
  exact Rat.ext h1 (by omega)
@[go_sem] theorem pq_fst {a : Rat} : (pq a).1 = a.num := rfl
@[go_sem] theorem pq_snd {a : Rat} : (pq a).2 = (a.den : Int) := rfl
/-- A pair of integers. -/
def pP : Pat (Int × Int) where
  p
    | .Q q => some (True, pq q)
    | .agg [x, y] => (pI.p x).bind fun a => (pI.p y).map fun b => (a.1 ∧ b.1, (a.2, b.2))
    | _ => none
  val a := .agg [.I a.1, .I a.2]
  ok x c a h hc := by
    split at h
    · injection h with h; injection h with h1 h2; subst h2; exact out_QP rfl rfl
    · rename_i x y
      rcases ha : pI.p x with _ | ⟨c1, a1⟩ <;> rw [ha] at h
      · cases h
      · rcases hb : pI.p y with _ | ⟨c2, a2⟩ <;> simp only [hb, bind_some] at h
        · cases h
        · injection h with h; injection h with h1 h2; subst h1 h2
          exact out_P (pI.ok _ _ _ ha hc.1) (pI.ok _ _ _ hb hc.2)
    · cases h
@[go_sem ↓, go_sem] theorem ev_pP {q : Rat} : pP.p (.Q q) = some (True, pq q) := rfl
@[go_sem ↓, go_sem] theorem ev_pP_agg {x y : V} : pP.p (.agg [x, y]) = (pI.p x).bind fun a => (pI.p y).map fun b => (a.1 ∧ b.1, (a.2, b.2)) := rfl
@[go_sem ↓, go_sem] theorem ev_pP_val {a : Int × Int} : pP.val a = .agg [.I a.1, .I a.2] := rfl
/-- A rational number in lowest terms. -/
def pQ : Pat Rat where
  p
    | .Q q => some (True, q)
    | .agg [x, y] => (pI.p x).bind fun a => (pI.p y).map fun b => (a.1 ∧ b.1 ∧ (Rat.divInt a.2 b.2).num = a.2 ∧ ((Rat.divInt a.2 b.2).den : Int) = b.2, Rat.divInt a.2 b.2)
    | _ => none
  val := .Q
  ok x c a h hc := by
    split at h
    · injection h with h; injection h with h1 h2; subst h2; exact .refl _
    · rename_i x y
      rcases ha : pI.p x with _ | ⟨c1, a1⟩ <;> rw [ha] at h
      · cases h
      · rcases hb : pI.p y with _ | ⟨c2, a2⟩ <;> simp only [hb, bind_some] at h
        · cases h
        · injection h with h; injection h with h1 h2; subst h1 h2
          exact out_Q (pI.ok _ _ _ ha hc.1) (pI.ok _ _ _ hb hc.2.1) hc.2.2.1.symm hc.2.2.2.symm
    · cases h
@[go_sem ↓, go_sem] theorem ev_pQ {q : Rat} : pQ.p (.Q q) = some (True, q) := rfl
@[go_sem ↓, go_sem] theorem ev_pQ_val {q : Rat} : pQ.val q = .Q q := rfl
/- Lowest terms. -/
theorem low_pos (n d : Int) (hd : 0 < d) : (Rat.divInt n d).num = n / (Nat.gcd n.natAbs d.natAbs : Nat) ∧ ((Rat.divInt n d).den : Int) = d / (Nat.gcd n.natAbs d.natAbs : Nat) := by
  have e : Int.gcd d n = Nat.gcd n.natAbs d.natAbs := Nat.gcd_comm _ _
  rw [Rat.num_divInt, Rat.den_divInt, if_neg (by omega), Int.sign_eq_one_of_pos hd, Int.one_mul, e]
  refine ⟨rfl, ?_⟩
  rw [Int.natCast_ediv]
  congr 1
  omega
theorem low_one (n d : Int) (hd : 0 < d) (h : Nat.gcd n.natAbs d.natAbs = 1) : (Rat.divInt n d).num = n ∧ ((Rat.divInt n d).den : Int) = d := by
  obtain ⟨h1, h2⟩ := low_pos n d hd
  rw [h1, h2, h]
  exact ⟨Int.ediv_one _, Int.ediv_one _⟩
theorem low_neg (n d : Int) : Rat.divInt (-n) (-d) = Rat.divInt n d := Rat.neg_divInt_neg n d
/-- The size of a rational number. -/
def qs (q : Rat) : Nat := max (dl q.num.natAbs) (dl q.den)
theorem qs_num (q : Rat) : dl q.num.natAbs ≤ qs q := Nat.le_max_left _ _
theorem qs_den (q : Rat) : dl q.den ≤ qs q := Nat.le_max_right _ _
theorem qs_pos (q : Rat) : 1 ≤ qs q := by
  have h1 := qs_den q
  have h2 := q.den_pos
  have h3 : dl q.den ≠ 0 := fun h => by rw [dl_eq_zero] at h; omega
  omega
theorem qs_divInt (n d : Int) : qs (Rat.divInt n d) ≤ max (max (dl n.natAbs) (dl d.natAbs)) 1 := by
  unfold qs
  by_cases h : d = 0
  · subst h
    rw [Rat.divInt_zero]
    show max (dl 0) (dl 1) ≤ _
    have : dl 1 ≤ 1 := dl_le.2 (by decide)
    have := dl_zero
    omega
  · rw [Rat.num_divInt, Rat.den_divInt, if_neg h]
    have h1 : dl (d.sign * n / (Int.gcd d n : Nat)).natAbs ≤ dl n.natAbs := dl_mono (by
      refine Nat.le_trans (Int.natAbs_ediv_le_natAbs _ _) ?_
      rw [Int.natAbs_mul]
      have : d.sign.natAbs ≤ 1 := by rw [Int.natAbs_sign]; split <;> omega
      exact Nat.le_trans (Nat.mul_le_mul_right _ this) (by omega))
    have h2 : dl (d.natAbs / Int.gcd d n) ≤ dl d.natAbs := dl_mono (Nat.div_le_self _ _)
    omega
theorem add_dI (a b : Rat) : Rat.divInt (a.num * b.den + b.num * a.den) ((a.den : Int) * b.den) = a + b := by
  rw [Rat.add_def', ← Int.natCast_mul, Rat.divInt_ofNat]
theorem sub_dI (a b : Rat) : Rat.divInt (a.num * b.den - b.num * a.den) ((a.den : Int) * b.den) = a - b := by
  rw [Rat.sub_def', ← Int.natCast_mul, Rat.divInt_ofNat]
theorem mul_dI (a b : Rat) : Rat.divInt (a.num * b.num) ((a.den : Int) * b.den) = a * b := by
  rw [Rat.mul_def', ← Int.natCast_mul, Rat.divInt_ofNat]
theorem div_dI (a b : Rat) : Rat.divInt (a.num * b.den) ((a.den : Int) * b.num) = a / b := by
  rw [Rat.div_def, Rat.inv_def]
  conv => rhs; rw [← Rat.num_divInt_den a, Rat.divInt_mul_divInt]
theorem qs_add (a b : Rat) : qs (a + b) ≤ qs a + qs b + 1 := by
  rw [← add_dI]
  refine Nat.le_trans (qs_divInt _ _) ?_
  have h1 : dl (a.num * b.den + b.num * a.den).natAbs ≤ qs a + qs b + 1 := by
    refine Nat.le_trans (dl_mono (Int.natAbs_add_le _ _)) (Nat.le_trans (dl_add _ _) ?_)
    have e1 := dl_mulI a.num b.den
    have e2 := dl_mulI b.num a.den
    rw [Int.natAbs_natCast] at e1 e2
    have := qs_num a; have := qs_num b; have := qs_den a; have := qs_den b
    omega
  have h2 := dl_mulI a.den b.den
  rw [Int.natAbs_natCast, Int.natAbs_natCast] at h2
  have := qs_den a; have := qs_den b
  omega
theorem qs_neg (a : Rat) : qs (-a) = qs a := by
  unfold qs
  rw [Rat.neg_num, Rat.neg_den, Int.natAbs_neg]
theorem qs_sub (a b : Rat) : qs (a - b) ≤ qs a + qs b + 1 := by
  rw [Rat.sub_eq_add_neg, ← qs_neg b]; exact qs_add _ _
theorem qs_mul (a b : Rat) : qs (a * b) ≤ qs a + qs b := by
  rw [← mul_dI]
  refine Nat.le_trans (qs_divInt _ _) ?_
  have h1 := dl_mulI a.num b.num
  have h2 := dl_mulI a.den b.den
  rw [Int.natAbs_natCast, Int.natAbs_natCast] at h2
  have := qs_num a; have := qs_num b; have := qs_den a; have := qs_den b; have := qs_pos a
  omega
theorem qs_div (a b : Rat) : qs (a / b) ≤ qs a + qs b := by
  rw [← div_dI]
  refine Nat.le_trans (qs_divInt _ _) ?_
  have h1 := dl_mulI a.num b.den
  have h2 := dl_mulI a.den b.num
  rw [Int.natAbs_natCast] at h1 h2
  have := qs_num a; have := qs_num b; have := qs_den a; have := qs_den b; have := qs_pos a
  omega
theorem qs_int (z : Int) : qs (z : Rat) ≤ max (dl z.natAbs) 1 := by
  unfold qs
  rw [Rat.num_intCast, Rat.den_intCast]
  have : dl 1 ≤ 1 := dl_le.2 (by decide)
  omega
end Go.Proofs.Ytilkleibnciloaa
