/- Texts A24 A25 A26 in one. -/
import Derived.Test.YtfbogelmgdojgaaGreatP08
/- Calls that change rows of their caller. No program in sight. -/
namespace Go.Proofs.YtfbogelmgdojgaaGreat
set_option linter.unusedSimpArgs false
set_option linter.unusedVariables false
open Go.RowKit

def hpU : Nat → List Blk → Hp
  | _, [] => fun _ => none
  | i, b :: bs => (hpU (i + 1) bs).up i (some b)
def hpL (bs : List Blk) : Hp := hpU 0 bs
theorem hpU_get : ∀ (bs : List Blk) (i k : Nat), hpU i bs k = if i ≤ k then bs[k - i]? else none
  | [], i, k => by simp [hpU]
  | b :: bs, i, k => by
    simp only [hpU, Hp.up, hpU_get bs]
    by_cases h1 : k = i
    · subst h1; simp
    · rw [if_neg h1]
      by_cases h2 : i + 1 ≤ k
      · rw [if_pos h2, if_pos (by omega), show k - i = (k - (i + 1)) + 1 from by omega]
        simp
      · rw [if_neg h2, if_neg (by omega)]
theorem hpL_get (bs : List Blk) (k : Nat) : hpL bs k = bs[k]? := by
  unfold hpL
  rw [hpU_get, if_pos (Nat.zero_le _), Nat.sub_zero]
theorem hpL_lt {bs : List Blk} {k : Nat} {x : Blk} (h : hpL bs k = some x) : k < bs.length := by
  rw [hpL_get] at h
  exact (List.getElem?_eq_some_iff.1 h).1
theorem hpL_some {bs : List Blk} {k : Nat} (h : k < bs.length) : ∃ x, hpL bs k = some x := ⟨bs[k], by rw [hpL_get]; exact List.getElem?_eq_getElem h⟩
/-- A contract of a function that changes rows of its caller; their names are 0, 1, .. here. -/
def MCall (P : Program) (f : FuncId) (args : List V) (bs bs' : List Blk) (r : V) : Prop :=
  ∀ (B : Nat → Prop) (w : World) (ρ : Nat → Option Nat) (vs : List Value), HRep w (own B ρ (hpL bs)) ρ (hpL bs) → (∀ k, bs.length ≤ k → ρ k = none) → (∀ b, B b → b < w.heap.size) → (∀ k x b, hpL bs k = some x → ρ k = some b → ¬ B b) →
    vs.length = args.length → (∀ (j : Nat) (x : V) (v : Value), args[j]? = some x → vs[j]? = some v → RepW w (own B ρ (hpL bs)) ρ x v) →
    Calls P f vs.toArray w fun e w' => ∃ v, e = .returned v ∧ Step (hpL bs) w ρ (hpL bs') w' ρ ∧ HRep w' (own B ρ (hpL bs')) ρ (hpL bs') ∧ RepV w' (own B ρ (hpL bs')) (fun _ => none) r v
def blksAt (H : Hp) : Nat → List Blk → Prop
  | _, [] => True
  | i, b :: bs => H i = some b ∧ blksAt H (i + 1) bs
theorem blksAt_get {H : Hp} : ∀ (bs : List Blk) (i k : Nat) (x : Blk), blksAt H i bs → bs[k]? = some x → H (i + k) = some x
  | [], i, k, x, _, h => by simp at h
  | b :: bs, i, k, x, h, hk => by
    cases k with
    | zero => simp at hk; subst hk; exact h.1
    | succ k =>
      have := blksAt_get bs (i + 1) k x h.2 (by simpa using hk)
      rw [show i + (k + 1) = i + 1 + k from by omega]
      exact this
def retM (P : Program) (rs : List ResultVar) (r : V) (bs : List Blk) : Exit → St → Prop
  | .normal, σ => aResL P σ rs fun xs => argsP σ.H xs fun ys ids => Outs ys r ∧ (∀ i ∈ ids, bs.length ≤ i) ∧ blksAt σ.H 0 bs
  | .ret, σ => aResL P σ rs fun xs => argsP σ.H xs fun ys ids => Outs ys r ∧ (∀ i ∈ ids, bs.length ≤ i) ∧ blksAt σ.H 0 bs
  | _, _ => False
def stM (args : List V) (bs : List Blk) (N : Nat) : St := { s := argS args 0 fun _ => .any, H := hpL bs, n := bs.length, N := N, m := bs.length }
theorem pure_row {l : List V} (h : allPure l) : ∀ y ∈ V.atomsL l, pureA y = true :=
  atomsL_all fun z hz => by have := h z hz; unfold V.pure at this; exact this
/-- The caller's rows, as a base: their names are to stay. -/
def aM (m : Nat) (ρ : Nat → Option Nat) : Nat → Option Nat := fun j => if j % 2 = 0 ∧ j / 2 < m then ρ (j / 2) else none
theorem aM_pin (m : Nat) (ρ : Nat → Option Nat) (k : Nat) : aM m ρ (2 * k) = if k < m then ρ k else none := by
  unfold aM
  rw [Nat.mul_div_cancel_left k (by omega)]
  simp
section
variable {P : Program}
theorem MCall.of_vc {Γ : Tab} {Δ : Gab} (T : Tabs P Γ Δ) {f : FuncId} {fn : Func} {c : Code} {args : List V} {bs bs' : List Blk} {r : V} (hf : P.funcs[f]? = some fn) (hb : fn.body = some c) {N : Nat} (hn : fn.ntmps = N) {rs : Array ResultVar} (hrs : fn.results = rs) (hN : args.length ≤ N)
    (hlen : bs'.length = bs.length) (hpure : ∀ x ∈ bs', allPure x.l) (h : vc P Γ Δ c (retM P rs.toList r bs') (stM args bs N)) : MCall P f args bs bs' r := by
  subst hn hrs
  intro B w ρ vs hH hfr hB hfar hl hr
  refine callsIn_wide.1 (callsIn_of_wp_marks (F := Fence.wide) (n := 0) hf hb trivial ?_)
  have live : ∀ k x b, hpL bs k = some x → ρ k = some b → aM bs.length ρ (2 * k) = some b := fun k x b h1 h2 => by
    rw [aM_pin, if_pos (hpL_lt h1)]; exact h2
  have alive : ∀ j b, aM bs.length ρ j = some b → j / 2 < bs.length ∧ ρ (j / 2) = some b := fun j b e => by
    unfold aM at e
    split at e
    · rename_i hj; exact ⟨hj.2, e⟩
    · cases e
  have st : Stat B (aM bs.length ρ) w := ⟨hB, fun k b e => by
    obtain ⟨h1, h2⟩ := alive k b e
    obtain ⟨x, hx⟩ := hpL_some h1
    exact hfar _ x b hx h2⟩
  have hs : Sim B (aM bs.length ρ) w (stM args bs fn.ntmps) { tmps := vs.toArray ++ Array.replicate (fn.ntmps - vs.toArray.size) undef, defers := [] } w ρ := by
    refine ⟨fun _ => rfl, by simp [hl, stM]; omega, fun t => ?_, hH, hfr, fun k x b h1 h2 => .inl ⟨2 * k, live k x b h1 h2⟩, rfl, rfl, rfl, Nat.le_refl _, fun _ _ _ => rfl, fun b arr t fr e => ⟨_, _, _, e, rfl⟩, fun k b e => by have := alive (2 * k) b e; rwa [Nat.mul_div_cancel_left k (by omega)] at this, Marks.nil _ _⟩
    simp only [stM, argS_get, Nat.zero_le, true_and, Nat.zero_add, Nat.sub_zero]
    by_cases ht : t < args.length
    · rw [if_pos ht]
      have e1 : args[t]? = some args[t] := List.getElem?_eq_getElem ht
      have e2 : vs[t]? = some (vs[t]'(by omega)) := List.getElem?_eq_getElem (by omega)
      have h1 := hr t _ _ e1 e2
      have e3 : (vs.toArray ++ Array.replicate (fn.ntmps - vs.toArray.size) undef).getD t undef = vs[t]'(by omega) := by
        rw [Array.getD_eq_getD_getElem?, Array.getElem?_append_left (by simp; omega)]
        simp [e2]
      rw [e3]
      have e4 : args.getD t .any = args[t] := by simp [List.getD_eq_getElem?_getD, e1]
      rw [e4]
      exact RepV.of_W h1 h1.notTup
    · rw [if_neg ht]
      exact .inl rfl
  refine wpIn_mono (vc_ok T c _ _ h B _ w st _ w _ hs (r := none)) fun e a' w' hq => ?_
  obtain ⟨σ', ρ', hq, hs'⟩ := hq
  have fin : (aResL P σ' fn.results.toList fun xs => argsP σ'.H xs fun ys ids => Outs ys r ∧ (∀ i ∈ ids, bs'.length ≤ i) ∧ blksAt σ'.H 0 bs') → LeavesInM Fence.wide 0 P fn a'.tmps (fun e w' =>
      ∃ v', e = .returned v' ∧ Step (hpL bs) w ρ (hpL bs') w' ρ ∧ HRep w' (own B ρ (hpL bs')) ρ (hpL bs') ∧ RepV w' (own B ρ (hpL bs')) (fun _ => none) r v') a'.defers .returning w' := fun hq => leaves_of _ _ hs' fun w' hs' => by
    obtain ⟨xs, us, h1, h2, h3, h4⟩ := res_ok (P := P) hs' _ _ hq
    obtain ⟨ys, ids, ⟨h5, h6, h7⟩, h8, h9⟩ := argsP_ok hs'.heap (hs'.hfar st) xs us _ h3 h4 h1
    have at' : ∀ k x, hpL bs' k = some x → σ'.H k = some x ∧ ∃ b, ρ k = some b ∧ ρ' k = some b := fun k x hk => by
      have hk' : bs'[k]? = some x := by rw [← hpL_get]; exact hk
      have g1 := blksAt_get bs' 0 k x h7 hk'
      rw [Nat.zero_add] at g1
      have hlt : k < bs.length := by rw [← hlen]; exact hpL_lt hk
      obtain ⟨x0, hx0⟩ := hpL_some hlt
      obtain ⟨b, arr, e1, _⟩ := hH.row k x0 hx0
      exact ⟨g1, b, e1, (hs'.pins k b (live k x0 b hx0 e1)).2⟩
    have sub : ∀ b, own B ρ (hpL bs') b → own B ρ' (σ'.H.drops ids) b := fun b hb => by
      rcases hb with hb | ⟨k, x, e1, e2⟩
      · exact .inl hb
      · obtain ⟨g1, b', g2, g3⟩ := at' k x e1
        rw [g2] at e2; injection e2 with e2; subst e2
        refine .inr ⟨k, x, ?_, g3⟩
        unfold Hp.drops
        rw [if_neg fun hk => by have := h6 k hk; have := hpL_lt e1; omega]
        exact g1
    have sub' : ∀ b, own B ρ (hpL bs') b → own B ρ' σ'.H b := fun b hb => by
      rcases sub b hb with hb | ⟨k, x, e1, e2⟩
      · exact .inl hb
      · refine .inr ⟨k, x, ?_, e2⟩
        unfold Hp.drops at e1
        split at e1
        · cases e1
        · exact e1
    refine ⟨_, results_run h2, _, rfl, ⟨fun _ _ h => h, fun b hb hn => ?_, fun k x b e1 e2 => ?_, hs'.grow, hs'.row, hs'.os, hs'.tape, hs'.output⟩, ⟨fun k x hk => ?_, fun k k' x x' b e1 e2 e3 e4 => ?_⟩, ?_⟩
    · refine hs'.same b hb fun j e => ?_
      obtain ⟨g1, g2⟩ := alive j b e
      obtain ⟨x, hx⟩ := hpL_some g1
      exact hn _ x hx g2
    · obtain ⟨x0, hx0⟩ := hpL_some (bs := bs) (k := k) (by rw [← hlen]; exact hpL_lt e1)
      exact .inl ⟨k, x0, hx0, e2⟩
    · obtain ⟨g1, b, g2, g3⟩ := at' k x hk
      obtain ⟨b', arr, q1, q2, q3, q4, q5⟩ := hs'.heap.row k x g1
      rw [g3] at q1; injection q1 with q1; subst q1
      refine ⟨b, arr, g2, q2, q3, q4, fun j y u hy hu => ?_⟩
      have hx : x ∈ bs' := by rw [hpL_get] at hk; exact List.mem_of_getElem? hk
      have hp := pure_row (hpure x hx) y (List.mem_of_getElem? hy)
      exact (((q5 j y u hy hu).pureA hp).mono (Ext.less sub')).mono ((Ext.refl _ _ _).into ρ)
    · obtain ⟨x0, hx0⟩ := hpL_some (bs := bs) (k := k) (by rw [← hlen]; exact hpL_lt e1)
      obtain ⟨x1, hx1⟩ := hpL_some (bs := bs) (k := k') (by rw [← hlen]; exact hpL_lt e2)
      exact hH.inj k k' x0 x1 b hx0 hx1 e3 e4
    · exact (Outs.rep h5 (by omega) (h9 ids fun _ h => h)).mono (Ext.less sub)
  cases e with
  | normal => exact fin hq
  | ret => exact fin hq
  | exit id => exact hq.elim
  | goto l => exact hq.elim
  | panic c => exact hq.elim
  | outgrown => exact hq.elim
theorem puts_zip : ∀ (θ : List Nat) (bs : List Blk) (H : Hp), θ.Nodup → θ.length = bs.length →
    (∀ (i k : Nat), θ[i]? = some k → H.puts ((θ.zip bs).map fun p => (p.1, some p.2)) k = bs[i]?) ∧ ∀ k, k ∉ θ → H.puts ((θ.zip bs).map fun p => (p.1, some p.2)) k = H k
  | [], bs, H, _, _ => ⟨fun i k h => by simp at h, fun k _ => rfl⟩
  | t :: θ, [], H, _, h => by simp at h
  | t :: θ, b :: bs, H, hnd, hl => by
    obtain ⟨hn1, hn2⟩ := List.nodup_cons.1 hnd
    obtain ⟨h1, h2⟩ := puts_zip θ bs (H.up t (some b)) hn2 (by simpa using hl)
    simp only [List.zip_cons_cons, List.map_cons, Hp.puts]
    refine ⟨fun i k hi => ?_, fun k hk => ?_⟩
    · cases i with
      | zero =>
        simp at hi
        subst hi
        rw [h2 t hn1]
        simp [Hp.up]
      | succ i => rw [h1 i k (by simpa using hi)]; simp
    · simp only [List.mem_cons, not_or] at hk
      rw [h2 k hk.2]
      simp [Hp.up, hk.1]
/-- The same call, in the names of its caller. -/
theorem MCall.gcall {f : FuncId} {args args' : List V} {bs bs' : List Blk} {r : V} (h : MCall P f args bs bs' r) (θ : List Nat) (hnd : θ.Nodup) {H : Hp} (hθ : θ.length = bs.length) (hlen : bs'.length = bs.length)
    (hblk : ∀ (i k : Nat), θ[i]? = some k → H k = bs[i]?) (hp : ∀ x ∈ bs, allPure x.l) (hp' : ∀ x ∈ bs', allPure x.l) (ha : args.length = args'.length)
    (hren : ∀ (j : Nat) (x y : V), args[j]? = some x → args'[j]? = some y → RenV θ x y ∧ x.noTup = true) (n : Nat) : GCall P f args' H n r ((θ.zip bs').map fun p => (p.1, some p.2)) := by
  intro B w ρ vs hH hf hB hfar hl hr
  obtain ⟨B0, hB0⟩ : ∃ B0 : Nat → Prop, B0 = fun b => own B ρ H b ∧ ∀ k ∈ θ, ρ k ≠ some b := ⟨_, rfl⟩
  obtain ⟨z1, z2⟩ := puts_zip θ bs' H hnd (by omega)
  obtain ⟨H', hH'⟩ : ∃ H' : Hp, H' = H.puts ((θ.zip bs').map fun p => (p.1, some p.2)) := ⟨_, rfl⟩
  rw [← hH'] at z1 z2 ⊢
  have hlt : ∀ b, own B ρ H b → b < w.heap.size := by
    rintro b (hb | ⟨k, x, h1, h2⟩)
    · exact hB b hb
    · exact hH.lt h1 h2
  have idx : ∀ i, i < bs.length → ∃ k, θ[i]? = some k := fun i hi => ⟨θ[i]'(by omega), List.getElem?_eq_getElem (by omega)⟩
  have ownL : ∀ cs : List Blk, cs.length = bs.length → own B0 (renR θ ρ) (hpL cs) = own B ρ H := fun cs hcs => by
    funext b
    refine propext ⟨?_, fun hb => ?_⟩
    · rintro (hb | ⟨i, x, h1, h2⟩)
      · rw [hB0] at hb; exact hb.1
      · obtain ⟨k, hk⟩ := idx i (by rw [← hcs]; exact hpL_lt h1)
        refine .inr ⟨k, bs[i]'(by rw [← hcs]; exact hpL_lt h1), ?_, by simpa [renR, hk] using h2⟩
        rw [hblk i k hk]
        exact List.getElem?_eq_getElem _
    · by_cases hh : ∃ k ∈ θ, ρ k = some b
      · obtain ⟨k, hk, e⟩ := hh
        obtain ⟨i, hi⟩ := List.getElem?_of_mem hk
        have hil : i < cs.length := by rw [hcs, ← hθ]; exact (List.getElem?_eq_some_iff.1 hi).1
        obtain ⟨x, hx⟩ := hpL_some hil
        exact .inr ⟨i, x, hx, by simp [renR, hi, e]⟩
      · refine .inl ?_
        rw [hB0]
        exact ⟨hb, fun k hk e => hh ⟨k, hk, e⟩⟩
  have alive : ∀ k x, H' k = some x → ∃ y, H k = some y := fun k x hk => by
    by_cases hm : k ∈ θ
    · obtain ⟨i, hi⟩ := List.getElem?_of_mem hm
      have hil : i < bs.length := by rw [← hθ]; exact (List.getElem?_eq_some_iff.1 hi).1
      exact ⟨bs[i], by rw [hblk i k hi]; exact List.getElem?_eq_getElem hil⟩
    · rw [z2 k hm] at hk; exact ⟨x, hk⟩
  have alive' : ∀ k x, H k = some x → ∃ y, H' k = some y := fun k x hk => by
    by_cases hm : k ∈ θ
    · obtain ⟨i, hi⟩ := List.getElem?_of_mem hm
      have hil : i < bs'.length := by rw [hlen, ← hθ]; exact (List.getElem?_eq_some_iff.1 hi).1
      exact ⟨bs'[i], by rw [z1 i k hi]; exact List.getElem?_eq_getElem hil⟩
    · exact ⟨x, by rw [z2 k hm]; exact hk⟩
  have ownH : own B ρ H' = own B ρ H := by
    funext b
    refine propext ⟨?_, ?_⟩
    · rintro (hb | ⟨k, x, h1, h2⟩)
      · exact .inl hb
      · obtain ⟨y, hy⟩ := alive k x h1
        exact .inr ⟨k, y, hy, h2⟩
    · rintro (hb | ⟨k, x, h1, h2⟩)
      · exact .inl hb
      · obtain ⟨y, hy⟩ := alive' k x h1
        exact .inr ⟨k, y, hy, h2⟩
  have low : ∀ i x, hpL bs i = some x → ∃ k, θ[i]? = some k ∧ H k = some x := fun i x hx => by
    obtain ⟨k, hk⟩ := idx i (hpL_lt hx)
    exact ⟨k, hk, by rw [hblk i k hk, ← hpL_get]; exact hx⟩
  have hrep : HRep w (own B0 (renR θ ρ) (hpL bs)) (renR θ ρ) (hpL bs) := by
    rw [ownL bs rfl]
    refine ⟨fun i x hx => ?_, fun i i' x x' b h1 h2 h3 h4 => ?_⟩
    · obtain ⟨k, hk, hx'⟩ := low i x hx
      obtain ⟨b, arr, q1, q2, q3, q4, q5⟩ := hH.row k x hx'
      refine ⟨b, arr, by simp [renR, hk, q1], q2, q3, q4, fun j y u hy hu => ?_⟩
      have hx2 : x ∈ bs := by rw [hpL_get] at hx; exact List.mem_of_getElem? hx
      exact ((q5 j y u hy hu).pureA (pure_row (hp x hx2) y (List.mem_of_getElem? hy))).mono ((Ext.refl _ _ _).into _)
    · obtain ⟨k, hk, hx'⟩ := low i x h1
      obtain ⟨k', hk', hx''⟩ := low i' x' h2
      have e := hH.inj k k' x x' b hx' hx'' (by simpa [renR, hk] using h3) (by simpa [renR, hk'] using h4)
      subst e
      obtain ⟨g1, g2⟩ := List.getElem?_eq_some_iff.1 hk
      obtain ⟨g3, g4⟩ := List.getElem?_eq_some_iff.1 hk'
      exact (List.getElem_inj hnd).1 (g2.trans g4.symm)
  refine (h B0 w (renR θ ρ) vs hrep (fun k hk => by simp [renR, List.getElem?_eq_none (by omega : θ.length ≤ k)]) (fun b hb => by rw [hB0] at hb; exact hlt b hb.1) (fun i x b h1 h2 hb => ?_) (by omega) (fun j x v hx hv => ?_)).mono ?_
  · obtain ⟨k, hk⟩ := idx i (hpL_lt h1)
    rw [hB0] at hb
    exact hb.2 k (List.mem_of_getElem? hk) (by simpa [renR, hk] using h2)
  · have hj : j < args'.length := by rw [← ha]; exact (List.getElem?_eq_some_iff.1 hx).1
    have hy : args'[j]? = some args'[j] := List.getElem?_eq_getElem hj
    obtain ⟨h1, h2⟩ := hren j x _ hx hy
    have h3 := hr j _ v hy hv
    rw [ownL bs rfl]
    exact ren_atomic h1 (fun l e => by subst e; simp [V.noTup] at h2) (RepV.of_W h3 h3.notTup) (Ext.refl _ _ _)
  · rintro e w' ⟨v, rfl, s, hr', hv⟩
    rw [ownL bs' hlen] at hr' hv
    have step : Step H w ρ H' w' ρ := by
      refine ⟨fun _ _ h => h, fun b hb hn => ?_, fun k x b h1 h2 => ?_, s.size, s.row, s.os, s.tape, s.output⟩
      · refine s.same b hb fun i x h1 h2 => ?_
        obtain ⟨k, hk, hx⟩ := low i x h1
        exact hn k x hx (by simpa [renR, hk] using h2)
      · obtain ⟨y, hy⟩ := alive k x h1
        exact .inl ⟨k, y, hy, h2⟩
    have hx : Ext w (own B ρ H) ρ w' (own B ρ H) ρ := by
      have := step.ext B
      rw [ownH] at this
      exact this
    refine ⟨v, ρ, rfl, step, ?_, fun _ _ h => h, ?_⟩
    · rw [ownH]
      refine ⟨fun k x hk => ?_, fun k k' x x' b h1 h2 h3 h4 => ?_⟩
      · by_cases hm : k ∈ θ
        · obtain ⟨i, hi⟩ := List.getElem?_of_mem hm
          have hk' : hpL bs' i = some x := by rw [hpL_get, ← z1 i k hi]; exact hk
          obtain ⟨b, arr, q1, q2, q3, q4, q5⟩ := hr'.row i x hk'
          refine ⟨b, arr, by simpa [renR, hi] using q1, q2, q3, q4, fun j y u hy hu => ?_⟩
          have hx2 : x ∈ bs' := by rw [hpL_get] at hk'; exact List.mem_of_getElem? hk'
          exact ((q5 j y u hy hu).pureA (pure_row (hp' x hx2) y (List.mem_of_getElem? hy))).mono ((Ext.refl _ _ _).into _)
        · rw [z2 k hm] at hk
          obtain ⟨b, arr, q1, q2, q3, q4, q5⟩ := hH.row k x hk
          refine ⟨b, arr, q1, ?_, q3, q4, fun j y u hy hu => (q5 j y u hy hu).mono hx⟩
          rw [s.same b (Array.getElem?_eq_some_iff.1 q2).1 fun i y h1 h2 => ?_]
          · exact q2
          · obtain ⟨k', hk', hy⟩ := low i y h1
            have e := hH.inj k k' x y b hk hy q1 (by simpa [renR, hk'] using h2)
            subst e
            exact hm (List.mem_of_getElem? hk')
      · obtain ⟨y, hy⟩ := alive k x h1
        obtain ⟨y', hy'⟩ := alive k' x' h2
        exact hH.inj k k' y y' b hy hy' h3 h4
    · rw [ownH]
      exact hv.mono ((Ext.refl _ _ _).into ρ)
end
/-- A table of such calls. -/
abbrev MCon := List V → Option (List Nat × (List (Option Blk) → Prop × V × List (Nat × Option Blk)))
def MCtr (P : Program) (f : FuncId) (C : MCon) : Prop := callable P f = true ∧ ∀ args θ k (H : Hp) n, C args = some (θ, k) → (k (θ.map H)).1 → GCall P f args H n (k (θ.map H)).2.1 (k (θ.map H)).2.2
def mtb : List (FuncId × MCon) → Gab
  | [], _, _, _, _ => none
  | (g, C) :: l, f, args, H, n => if f = g then (C args).map fun q => ((q.2 (q.1.map H)).1, (q.2 (q.1.map H)).2.1, (q.2 (q.1.map H)).2.2, q.1) else mtb l f args H n
theorem mtb_loc : ∀ (l : List (FuncId × MCon)) (f : FuncId) (args : List V) (H : Hp) (n : Nat), (∀ p r ws rs, mtb l f args H n = some (p, r, ws, rs) → ∀ H' : Hp, (∀ b ∈ rs, H' b = H b) → mtb l f args H' n = some (p, r, ws, rs)) ∧ (mtb l f args H n = none → ∀ H' : Hp, mtb l f args H' n = none)
  | [], _, _, _, _ => ⟨fun _ _ _ _ h => (by cases h), fun _ _ => rfl⟩
  | (g, C) :: l, f, args, H, n => by
    simp only [mtb]
    split
    · rcases C args with _ | ⟨θ, k⟩
      · exact ⟨fun _ _ _ _ h => (by cases h), fun _ _ => rfl⟩
      · refine ⟨fun p r ws rs h H' hb => ?_, fun h => by cases h⟩
        simp only [Option.map_some, Option.some.injEq, Prod.mk.injEq] at h ⊢
        obtain ⟨h1, h2, h3, h4⟩ := h
        subst h4
        have : θ.map H' = θ.map H := List.map_congr_left hb
        rw [this]
        exact ⟨h1, h2, h3, rfl⟩
    · exact mtb_loc l f args H n
theorem mtb_nil {P : Program} : GabOk P (mtb []) := fun _ _ _ _ _ _ _ _ h => by cases h
theorem mtb_cons {P : Program} {f : FuncId} {C : MCon} {l : List (FuncId × MCon)} (h : MCtr P f C) (hl : GabOk P (mtb l)) : GabOk P (mtb ((f, C) :: l)) := by
  intro g args H n p r ws rs hg
  simp only [mtb] at hg
  split at hg
  · rename_i e
    subst e
    rcases hc : C args with _ | ⟨θ, k⟩ <;> rw [hc] at hg
    · cases hg
    · simp only [Option.map_some, Option.some.injEq, Prod.mk.injEq] at hg
      obtain ⟨h1, h2, h3, h4⟩ := hg
      subst h1 h2 h3
      exact ⟨h.1, fun hp => h.2 args θ k H n hc hp⟩
  · exact hl g args H n p r ws rs hg
theorem tabsM {P : Program} (hm : P.follows .mixedOrders = true) {l : List (FuncId × Con)} (h : TabOk P (tbl l)) {m : List (FuncId × MCon)} (hg : GabOk P (mtb m)) : Tabs P (tbl l) (mtb m) :=
  ⟨hm, h, hg, fun f args H n => mtb_loc m f args H n⟩
/-- One pointer, to a row of its own. -/
def conM1 (t : TypeId) (e : Nat) (F : List V → Prop × List V × V) : MCon
  | [.ptr k e' 0 0] => if e' = e then some ([k], fun l => match l with
    | [some b] => ((b.t = t ∧ b.e = e ∧ allPure b.l) ∧ (F b.l).1, (F b.l).2.2, [(k, some ⟨t, e, (F b.l).2.1⟩)])
    | _ => (False, .any, [])) else none
  | _ => none
theorem MCtr.one {P : Program} {f : FuncId} {t : TypeId} {e : Nat} {F : List V → Prop × List V × V} (hc : callable P f = true) (h : ∀ l, (F l).1 → allPure (F l).2.1 ∧ MCall P f [.ptr 0 e 0 0] [⟨t, e, l⟩] [⟨t, e, (F l).2.1⟩] (F l).2.2) : MCtr P f (conM1 t e F) := by
  refine ⟨hc, fun args θ k H n hC hp => ?_⟩
  unfold conM1 at hC
  split at hC
  · rename_i k0 e'
    split at hC
    · rename_i he
      subst he
      injection hC with hC
      injection hC with h1 h2
      subst h1 h2
      simp only [List.map_cons, List.map_nil] at hp ⊢
      cases hk : H k0 with
      | none => rw [hk] at hp; exact hp.elim
      | some b =>
        rw [hk] at hp
        obtain ⟨bt, be, bl⟩ := b
        obtain ⟨⟨h1, h2, h3⟩, h4⟩ := hp
        simp only at h1 h2 h3 h4
        subst h1 h2
        obtain ⟨g1, g2⟩ := h bl h4
        refine g2.gcall (args' := [.ptr k0 be 0 0]) [k0] (H := H) (by simp) rfl rfl (fun i k hi => ?_) (fun x hx => ?_) (fun x hx => ?_) rfl (fun j x y hx hy => ?_) n
        · cases i with
          | zero => simp at hi; subst hi; exact hk
          | succ i => simp at hi
        · simp at hx; subst hx; exact h3
        · simp at hx; subst hx; exact g1
        · cases j with
          | zero => simp at hx hy; subst hx hy; exact ⟨⟨rfl, rfl, rfl, rfl⟩, rfl⟩
          | succ j => simp at hx
    · cases hC
  · cases hC
attribute [go_sem] mtb.eq_1 mtb.eq_2 hpL hpU.eq_1 hpU.eq_2 blksAt.eq_1 blksAt.eq_2 stM
@[go_sem ↓, go_sem] theorem ev_conM1 {t : TypeId} {e k : Nat} {F : List V → Prop × List V × V} : conM1 t e F [.ptr k e 0 0] = some ([k], fun l => match l with
    | [some b] => ((b.t = t ∧ b.e = e ∧ allPure b.l) ∧ (F b.l).1, (F b.l).2.2, [(k, some ⟨t, e, (F b.l).2.1⟩)])
    | _ => (False, .any, [])) := if_pos rfl
@[go_sem ↓, go_sem] theorem ev_retM_n {P : Program} {l : List ResultVar} {r : V} {bs : List Blk} {σ : St} : retM P l r bs .normal σ = aResL P σ l fun xs => argsP σ.H xs fun ys ids => Outs ys r ∧ (∀ i ∈ ids, bs.length ≤ i) ∧ blksAt σ.H 0 bs := rfl
@[go_sem ↓, go_sem] theorem ev_retM_r {P : Program} {l : List ResultVar} {r : V} {bs : List Blk} {σ : St} : retM P l r bs .ret σ = aResL P σ l fun xs => argsP σ.H xs fun ys ids => Outs ys r ∧ (∀ i ∈ ids, bs.length ≤ i) ∧ blksAt σ.H 0 bs := rfl
end Go.Proofs.YtfbogelmgdojgaaGreat

/- Calls whose result is a fresh row: rows that the caller owns are handed over. No program in sight. -/
namespace Go.Proofs.YtfbogelmgdojgaaGreat
set_option linter.unusedSimpArgs false
set_option linter.unusedVariables false
open Go.RowKit

/-- The names of the rows among arguments. -/
def slIds : List V → List Nat
  | [] => []
  | .sl b _ _ _ :: xs => b :: slIds xs
  | _ :: xs => slIds xs
/-- Arguments, the rows read. -/
def rsvB : List V → List (Option Blk) → Option (List V × Prop)
  | [], _ => some ([], True)
  | .sl _ e o m :: xs, y :: ys => y.bind fun x => (rsvB xs ys).map fun q => (.lst ((x.l.drop o).take m) :: q.1, (x.e = e ∧ o + m ≤ x.l.length ∧ allPure ((x.l.drop o).take m)) ∧ q.2)
  | .sl _ _ _ _ :: _, [] => none
  | x :: xs, ys => (rsvB xs ys).map fun q => (x :: q.1, x.pure = true ∧ q.2)
def xres (C : FCon) (args : List V) (bs : List (Option Blk)) : Prop × FRes :=
  match rsvB args bs with
  | some q => (match C q.1 with
    | some c => (q.2 ∧ c.1, c.2)
    | none => (False, ⟨0, 0, []⟩))
  | none => (False, ⟨0, 0, []⟩)
def xtb : List (FuncId × FCon) → Gab
  | [], _, _, _, _ => none
  | (g, C) :: l, f, args, H, n => if f = g then some ((xres C args ((slIds args).map H)).1, .sl n (xres C args ((slIds args).map H)).2.e 0 (xres C args ((slIds args).map H)).2.l.length,
      (slIds args).map (fun j => (j, none)) ++ [(n, some ⟨(xres C args ((slIds args).map H)).2.t, (xres C args ((slIds args).map H)).2.e, (xres C args ((slIds args).map H)).2.l⟩)], slIds args) else xtb l f args H n
theorem xtb_loc : ∀ (l : List (FuncId × FCon)) (f : FuncId) (args : List V) (H : Hp) (n : Nat), (∀ p r ws rs, xtb l f args H n = some (p, r, ws, rs) → ∀ H' : Hp, (∀ b ∈ rs, H' b = H b) → xtb l f args H' n = some (p, r, ws, rs)) ∧ (xtb l f args H n = none → ∀ H' : Hp, xtb l f args H' n = none)
  | [], _, _, _, _ => ⟨fun _ _ _ _ h => (by cases h), fun _ _ => rfl⟩
  | (g, C) :: l, f, args, H, n => by
    simp only [xtb]
    split
    · refine ⟨fun p r ws rs h H' hb => ?_, fun h => by cases h⟩
      have hrs : slIds args = rs := by injection h with h; injection h with _ h; injection h with _ h; injection h with _ h
      have : (slIds args).map H' = (slIds args).map H := List.map_congr_left fun b hb' => hb b (by rw [← hrs]; exact hb')
      rw [this]
      exact h
    · exact xtb_loc l f args H n
section
variable {P : Program} {B : Nat → Prop} {H : Hp} {w : World} {ρ : Nat → Option Nat}
theorem sl_lst (hH : HRep w (own B ρ H) ρ H) (hfar : ∀ k x b, H k = some x → ρ k = some b → ¬ B b) {b e o m : Nat} {x : Blk} {v : Value} (hx : RepW w (own B ρ H) ρ (.sl b e o m) v) (hb : H b = some x) (he : x.e = e) (hm : o + m ≤ x.l.length)
    (hp : allPure ((x.l.drop o).take m)) {ids : List Nat} (hi : b ∈ ids) : RepW w (own B ρ (H.drops ids)) (fun _ => none) (.lst ((x.l.drop o).take m)) v := by
  have hel : aElems H (.sl b e o m) = some ((x.l.drop o).take m, [b]) := by
    rw [elems_sl, hb]
    simp [he, hm]
  generalize hL : (x.l.drop o).take m = L at *
  obtain ⟨b', arr', q1, q2, q3, q4, q5⟩ := hH.row _ _ hb
  have hLw : allWid L e := fun y hy => by
    rw [← hL] at hy
    rw [q3 y (List.mem_of_mem_drop (List.mem_of_mem_take hy)), he]
  obtain ⟨A, c, news, rfl, hc, hcl, _, hst, _⟩ := elems_src (P := default) hH (RepV.of_W hx (by intro l h; cases h)) hel hLw (fun k e' o m he => by cases he; rfl)
  refine RepW.of_atom ?_ rfl rfl
  by_cases hL0 : L = []
  · rw [hL0]; exact .nil _ _ _
  · obtain ⟨bb, off, rfl, hs⟩ := hst hL0
    have hA := RepW.atom hx rfl
    have hbb : bb = b' := by
      cases hA with
      | sl _ _ _ _ _ _ _ _ _ _ g1 => rw [g1] at q1; injection q1
    subst hbb
    refine .lst _ _ _ _ _ news hL0 hc (Array.getElem?_eq_some_iff.1 q2).1 (own_drop hH hfar hb q1 hi) ⟨e, hLw⟩ hs hcl.len fun j y u hy hu => ?_
    refine ((hcl.rep j y u hy hu).mono (drops_ext H ids)).pureA ?_
    exact atomsL_all (fun z hz => by have := hp z hz; unfold V.pure at this; exact this) y (List.mem_of_getElem? hy)
theorem rsv_ok (hH : HRep w (own B ρ H) ρ H) (hfar : ∀ k x b, H k = some x → ρ k = some b → ¬ B b) (θ : List Nat) : ∀ (args : List V) (vs : List Value) (ys : List V) (p : Prop), (∀ b ∈ slIds args, b ∈ θ) → rsvB args ((slIds args).map H) = some (ys, p) → p →
    (∀ (j : Nat) (x : V) (v : Value), args[j]? = some x → vs[j]? = some v → RepW w (own B ρ H) ρ x v) →
    ys.length = args.length ∧ ys.all V.pure = true ∧ ∀ (j : Nat) (y : V) (v : Value), ys[j]? = some y → vs[j]? = some v → RepW w (own B ρ (H.drops θ)) (fun _ => none) y v
  | [], vs, ys, p, _, h, _, _ => by
    simp only [slIds, List.map_nil, rsvB, Option.some.injEq, Prod.mk.injEq] at h
    obtain ⟨rfl, _⟩ := h
    exact ⟨rfl, rfl, fun j y v hy _ => by simp at hy⟩
  | x :: xs, vs, ys, p, hθ, h, hp, hr => by
    have tail : ∀ q, rsvB xs ((slIds xs).map H) = some q → q.2 → (∀ b ∈ slIds xs, b ∈ θ) → q.1.length = xs.length ∧ q.1.all V.pure = true ∧ ∀ (j : Nat) (y : V) (v : Value), q.1[j]? = some y → (vs.drop 1)[j]? = some v → RepW w (own B ρ (H.drops θ)) (fun _ => none) y v := fun q hq hq2 hθ' =>
      rsv_ok hH hfar θ xs (vs.drop 1) q.1 q.2 hθ' hq hq2 fun j x v h1 h2 => hr (j + 1) x v (by simpa using h1) (by rw [List.getElem?_drop] at h2; rwa [Nat.add_comm] at h2)
    by_cases hs : ∃ b e o m, x = .sl b e o m
    · obtain ⟨b, e, o, m, rfl⟩ := hs
      simp only [slIds, List.map_cons, rsvB] at h hθ
      rcases hb : H b with _ | z
      · rw [hb] at h; cases h
      · rw [hb] at h
        simp only [Option.bind_some] at h
        rcases hq : rsvB xs ((slIds xs).map H) with _ | q
        · rw [hq] at h; cases h
        · rw [hq] at h
          simp only [Option.map_some, Option.some.injEq, Prod.mk.injEq] at h
          obtain ⟨rfl, rfl⟩ := h
          obtain ⟨⟨p1, p2, p3⟩, p4⟩ := hp
          obtain ⟨t1, t2, t3⟩ := tail q hq p4 fun b hb => hθ b (by simp [hb])
          refine ⟨by simp [t1], by simp [t2, V.pure, V.atoms, pureA], fun j y v hy hv => ?_⟩
          cases j with
          | zero =>
            simp at hy
            subst hy
            exact sl_lst hH hfar (hr 0 _ v rfl hv) hb p1 p2 p3 (hθ b (by simp))
          | succ j => exact t3 j y v (by simpa using hy) (by rw [List.getElem?_drop, Nat.add_comm]; exact hv)
    · have hslx : slIds (x :: xs) = slIds xs := by
        cases x <;> first | rfl | exact absurd ⟨_, _, _, _, rfl⟩ hs
      have hrsv : rsvB (x :: xs) ((slIds xs).map H) = (rsvB xs ((slIds xs).map H)).map fun q => (x :: q.1, x.pure = true ∧ q.2) := by
        cases x <;> first | rfl | exact absurd ⟨_, _, _, _, rfl⟩ hs
      rw [hslx] at h hθ
      rw [hrsv] at h
      rcases hq : rsvB xs ((slIds xs).map H) with _ | q
      · rw [hq] at h; cases h
      · rw [hq] at h
        simp only [Option.map_some, Option.some.injEq, Prod.mk.injEq] at h
        obtain ⟨rfl, rfl⟩ := h
        obtain ⟨p1, p4⟩ := hp
        obtain ⟨t1, t2, t3⟩ := tail q hq p4 hθ
        refine ⟨by simp [t1], by simp [t2, p1], fun j y v hy hv => ?_⟩
        cases j with
        | zero =>
          simp at hy
          subst hy
          exact ((hr 0 _ v rfl hv).mono (drops_ext H θ)).pure p1
        | succ j => exact t3 j y v (by simpa using hy) (by rw [List.getElem?_drop, Nat.add_comm]; exact hv)
theorem puts_append : ∀ (l m : List (Nat × Option Blk)) (H : Hp), H.puts (l ++ m) = (H.puts l).puts m
  | [], m, H => rfl
  | p :: l, m, H => puts_append l m _
end
theorem xtb_nil {P : Program} : GabOk P (xtb []) := fun _ _ _ _ _ _ _ _ h => by cases h
theorem xtb_cons {P : Program} {f : FuncId} {C : FCon} {l : List (FuncId × FCon)} (h : FCtr P f C) (hl : GabOk P (xtb l)) : GabOk P (xtb ((f, C) :: l)) := by
  intro g args H n p r ws rs hg
  simp only [xtb] at hg
  split at hg
  · rename_i e
    subst e
    injection hg with hg
    injection hg with h1 h2; injection h2 with h2 h3; injection h3 with h3 h4
    subst h1 h2 h3 h4
    refine ⟨h.1, fun hp => ?_⟩
    unfold xres at hp ⊢
    rcases hq : rsvB args ((slIds args).map H) with _ | q
    · rw [hq] at hp; exact hp.elim
    · rw [hq] at hp
      simp only at hp ⊢
      rcases hc : C q.1 with _ | c
      · rw [hc] at hp; exact hp.elim
      · rw [hc] at hp
        obtain ⟨hp1, hp2⟩ := hp
        intro B w ρ vs hH hf hB hfar hv hr
        obtain ⟨t1, t2, t3⟩ := rsv_ok hH hfar (slIds args) args vs q.1 q.2 (fun _ h => h) hq hp1 hr
        obtain ⟨d1, d2⟩ := HRep.drops hH (slIds args)
        have live : ∀ k x, (H.drops (slIds args)) k = some x → H k = some x := fun k x hk => by
          unfold Hp.drops at hk
          split at hk
          · cases hk
          · exact hk
        have hcall := (h.2 q.1 c.1 c.2 hc hp2).gcall t2 (H.drops (slIds args)) n B w ρ vs d1 hf hB (fun k x b h1 h2 => hfar k x b (live k x h1) h2) (by omega) fun j x v hx hv => (t3 j x v hx hv).mono ((Ext.refl _ _ _).into ρ)
        refine hcall.mono ?_
        rintro e w' ⟨v, ρ', rfl, s1, s2, s3, s4⟩
        have hput : H.puts ((slIds args).map (fun j => (j, none)) ++ [(n, some ⟨c.2.t, c.2.e, c.2.l⟩)]) = (H.drops (slIds args)).puts [(n, some ⟨c.2.t, c.2.e, c.2.l⟩)] := by
          rw [puts_append, Hp.puts_drops]
        rw [hput]
        exact ⟨v, ρ', rfl, d2.trans s1, s2, s3, s4⟩
  · exact hl g args H n p r ws rs hg
theorem tabsX {P : Program} (hm : P.follows .mixedOrders = true) {l : List (FuncId × Con)} (h : TabOk P (tbl l)) {m : List (FuncId × FCon)} (hg : GabOk P (xtb m)) : Tabs P (tbl l) (xtb m) :=
  ⟨hm, h, hg, fun f args H n => xtb_loc m f args H n⟩
attribute [go_sem] xtb.eq_1 xtb.eq_2
@[go_sem ↓, go_sem] theorem ids_nil : slIds [] = [] := rfl
@[go_sem ↓, go_sem] theorem ids_sl {b e o m : Nat} {xs : List V} : slIds (.sl b e o m :: xs) = b :: slIds xs := rfl
@[go_sem ↓, go_sem] theorem ids_raw {v : Value} {xs : List V} : slIds (.raw v :: xs) = slIds xs := rfl
@[go_sem ↓, go_sem] theorem ids_lst {l : List V} {xs : List V} : slIds (.lst l :: xs) = slIds xs := rfl
@[go_sem ↓, go_sem] theorem ids_agg {l : List V} {xs : List V} : slIds (.agg l :: xs) = slIds xs := rfl
@[go_sem ↓, go_sem] theorem ids_Q {q : Rat} {xs : List V} : slIds (.Q q :: xs) = slIds xs := rfl
@[go_sem ↓, go_sem] theorem ids_I {q : Int} {xs : List V} : slIds (.I q :: xs) = slIds xs := rfl
@[go_sem ↓, go_sem] theorem rsv_nil {bs : List (Option Blk)} : rsvB [] bs = some ([], True) := rfl
@[go_sem ↓, go_sem] theorem rsv_sl {b e o m : Nat} {xs : List V} {y : Blk} {ys : List (Option Blk)} : rsvB (.sl b e o m :: xs) (some y :: ys) = (rsvB xs ys).map fun q => (.lst ((y.l.drop o).take m) :: q.1, (y.e = e ∧ o + m ≤ y.l.length ∧ allPure ((y.l.drop o).take m)) ∧ q.2) := rfl
@[go_sem ↓, go_sem] theorem rsv_raw {v : Value} {xs : List V} {ys : List (Option Blk)} : rsvB (.raw v :: xs) ys = (rsvB xs ys).map fun q => (.raw v :: q.1, True ∧ q.2) := by
  cases ys <;> simp [rsvB, V.pure, V.atoms, pureA]
@[go_sem ↓, go_sem] theorem rsv_lst {l : List V} {xs : List V} {ys : List (Option Blk)} : rsvB (.lst l :: xs) ys = (rsvB xs ys).map fun q => (.lst l :: q.1, True ∧ q.2) := by
  cases ys <;> simp [rsvB, V.pure, V.atoms, pureA]
@[go_sem ↓, go_sem] theorem rsv_Q {z : Rat} {xs : List V} {ys : List (Option Blk)} : rsvB (.Q z :: xs) ys = (rsvB xs ys).map fun q => (.Q z :: q.1, True ∧ q.2) := by
  cases ys <;> simp [rsvB, show (V.Q z).pure = true from rfl]
def xres2 (C : FCon) (o : Option (List V × Prop)) : Prop × FRes := match o with
  | some q => (match C q.1 with
    | some c => (q.2 ∧ c.1, c.2)
    | none => (False, ⟨0, 0, []⟩))
  | none => (False, ⟨0, 0, []⟩)
def xres3 (o : Option (Prop × FRes)) (p : Prop) : Prop × FRes := match o with
  | some c => (p ∧ c.1, c.2)
  | none => (False, ⟨0, 0, []⟩)
@[go_sem ↓, go_sem] theorem ev_xres {C : FCon} {args : List V} {bs : List (Option Blk)} : xres C args bs = xres2 C (rsvB args bs) := Eq.trans rfl rfl
@[go_sem ↓, go_sem] theorem ev_xres2 {C : FCon} {q : List V × Prop} : xres2 C (some q) = xres3 (C q.1) q.2 := Eq.trans rfl rfl
@[go_sem ↓, go_sem] theorem ev_xres3 {c : Prop × FRes} {p : Prop} : xres3 (some c) p = (p ∧ c.1, c.2) := Eq.trans rfl rfl
end Go.Proofs.YtfbogelmgdojgaaGreat

/- What a block names is let go: rows that are no longer written become plain values. No program in sight. -/
namespace Go.Proofs.YtfbogelmgdojgaaGreat
set_option linter.unusedSimpArgs false
set_option linter.unusedVariables false
open Go.RowKit

theorem drops_up_own {B : Nat → Prop} {ρ : Nat → Option Nat} {H : Hp} {ids : List Nat} {k : Nat} {y z : Blk} (hk : H k = some y) (hid : k ∉ ids) (b : Nat) : own B ρ ((H.drops ids).up k (some z)) b ↔ own B ρ (H.drops ids) b := by
  constructor
  · rintro (h | ⟨i, q, h1, h2⟩)
    · exact .inl h
    · unfold Hp.up at h1
      split at h1
      · rename_i e; subst e
        exact .inr ⟨i, y, by unfold Hp.drops; rw [if_neg hid, hk], h2⟩
      · exact .inr ⟨i, q, h1, h2⟩
  · rintro (h | ⟨i, q, h1, h2⟩)
    · exact .inl h
    · by_cases e : i = k
      · subst e; exact .inr ⟨i, z, by unfold Hp.up; rw [if_pos rfl], h2⟩
      · exact .inr ⟨i, q, by unfold Hp.up; rw [if_neg e]; exact h1, h2⟩
theorem AWp.frz (k : Nat) {P : Program} {c : Code} {Q : Exit → St → Prop} {σ : St} (h : optC (σ.H k) fun y => frzs (frzE (argN σ.H 3)) y.l fun l' rs => (rs.all fun i => !(i == k)) = true ∧ AWp P c Q { σ with H := (σ.H.drops rs).up k (some ⟨y.t, y.e, l'⟩) }) : AWp P c Q σ := by
  intro B A W st a w ρ hs r _
  rcases hk : σ.H k with _ | y
  · rw [hk] at h; exact h.elim
  · rw [hk] at h
    obtain ⟨b, arr, g1, g2, g3, g4, g5⟩ := hs.heap.row k y hk
    have hH := hs.heap
    obtain ⟨L', rs, ⟨h1, h2⟩, e1, e2, e3, e4⟩ := frzL_ok (argN_ok hH (hs.hfar st) 3) y.l (arr.toList.take (V.atomsL y.l).length) _ (by rw [List.length_take]; simp; omega) (fun j x u hj hu => by
      rw [List.getElem?_take] at hu
      split at hu
      · exact g5 j x u hj (by simpa using hu)
      · cases hu) h
    have hid : k ∉ rs := fun hm => by
      have := List.all_eq_true.1 h1 k hm
      simp at this
    have live : ∀ i q, (σ.H.drops rs) i = some q → σ.H i = some q := fun i q hi => by
      unfold Hp.drops at hi
      split at hi
      · cases hi
      · exact hi
    obtain ⟨hD, _⟩ := hH.drops rs
    have hown : own B ρ ((σ.H.drops rs).up k (some ⟨y.t, y.e, L'⟩)) = own B ρ (σ.H.drops rs) := by
      funext b'
      exact propext (drops_up_own hk hid b')
    have hx := drops_ext (w := w) (B := B) (ρ := ρ) σ.H rs
    have back : ∀ i q, ((σ.H.drops rs).up k (some ⟨y.t, y.e, L'⟩)) i = some q → ∃ q0, σ.H i = some q0 := fun i q hi => by
      unfold Hp.up at hi
      split at hi
      · rename_i e; subst e; exact ⟨y, hk⟩
      · exact ⟨q, live i q hi⟩
    refine h2 B A W st a w ρ ⟨hs.defers, hs.size, fun t => ?_, ⟨fun i q hi => ?_, fun i i' q q' b' h3 h4 h5 h6 => ?_⟩, hs.fresh, fun i q b' h3 h4 => ?_, hs.os, hs.tape, hs.output, hs.grow, hs.same, hs.row, hs.pins, hs.marks⟩
    · show RepV w (own B ρ ((σ.H.drops rs).up k (some ⟨y.t, y.e, L'⟩))) ρ _ _
      rw [hown]
      exact (hs.slots t).mono hx
    · show ∃ (b : Nat) (arr : Array Value), _ ∧ _ ∧ _ ∧ _ ∧ ∀ (j : Nat) (y_1 : V) (u : Value), _ → _ → RepA w (own B ρ ((σ.H.drops rs).up k (some ⟨y.t, y.e, L'⟩))) ρ y_1 u
      rw [hown]
      have hi : (σ.H.drops rs).up k (some ⟨y.t, y.e, L'⟩) i = some q := hi
      by_cases e : i = k
      · subst e
        have hq : q = ⟨y.t, y.e, L'⟩ := by
          have : (some (⟨y.t, y.e, L'⟩ : Blk)) = some q := by
            rw [← hi]; unfold Hp.up; rw [if_pos rfl]
          injection this with this; exact this.symm
        subst hq
        refine ⟨b, arr, g1, g2, fun z hz => ?_, by simp only; rw [e3]; exact g4, fun j z u hz hu => ?_⟩
        · obtain ⟨n, hn⟩ := List.getElem?_of_mem hz
          have hl : n < y.l.length := by rw [← e1]; exact (List.getElem?_eq_some_iff.1 hn).1
          rw [(e2 n z _ hn (List.getElem?_eq_getElem hl)).1]
          exact g3 _ (List.getElem_mem hl)
        · have hj := (List.getElem?_eq_some_iff.1 hz).1
          refine (e4 rs (fun _ h => h) j z u hz ?_).mono ((Ext.refl _ _ _).into _)
          simp only at hj
          rw [List.getElem?_take, if_pos (by omega)]
          simpa using hu
      · exact hD.row i q (by unfold Hp.up at hi; rw [if_neg e] at hi; exact hi)
    · obtain ⟨q0, h0⟩ := back i q h3
      obtain ⟨q1, h1'⟩ := back i' q' h4
      exact hH.inj i i' q0 q1 b' h0 h1' h5 h6
    · obtain ⟨q0, h0⟩ := back i q h3
      exact hs.mine i q0 b' h0 h4
/-- An empty slice is handed over: whether it is nil is not known. -/
theorem PCall.lst0 {P : Program} {f : FuncId} {r : V} (h : ∀ A c, PCall P f [.raw (.slice A 0 c)] r) : PCall P f [.lst []] r := by
  intro B w vs hl hr hB
  match vs, hl with
  | [v], _ =>
    have hA := RepW.atom (hr 0 (.lst []) v rfl rfl) rfl
    cases hA with
    | nil _ A c =>
      refine h A c B w [.slice A 0 c] rfl (fun j x v hj hv => ?_) hB
      cases j with
      | zero => simp at hj hv; subst hj hv; exact RepW.raw rfl
      | succ j => simp at hj
    | lst _ _ b off c vs h0 => exact absurd rfl h0
end Go.Proofs.YtfbogelmgdojgaaGreat
