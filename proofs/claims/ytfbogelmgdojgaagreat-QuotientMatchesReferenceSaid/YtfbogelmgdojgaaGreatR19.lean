/- Texts A25 A26 A27 in one. -/
import Derived.Test.YtfbogelmgdojgaaGreatR18
import Derived.Test.YtfbogelmgdojgaaGreatR09
import Derived.RangeFuncSeq
/- Calls whose result is a fresh row: rows that the caller owns are handed over. No program in sight. -/
namespace Go.Proofs.YtfbogelmgdojgaaGreat
set_option linter.unusedSimpArgs false
set_option linter.unusedVariables false
open Go.RowKit

def slIds : List V → List Nat
 | [] => []
 | .sl b _ _ _ :: xs => b :: slIds xs
 | _ :: xs => slIds xs
def rsvB : List V → List (Option Blk) → Option (List V × Prop)
 | [], _ => some ([], True)
 | .sl _ e o m :: xs, y :: ys => y.bind fun x => (rsvB xs ys).map fun q => (.lst ((x.l.drop o).take m) :: q.1, (x.e = e ∧ o + m ≤ x.l.length ∧ allPure ((x.l.drop o).take m)) ∧ q.2)
 | .sl _ _ _ _ :: _, [] => none
 | x :: xs, ys => (rsvB xs ys).map fun q => (x :: q.1, x.pure = true ∧ q.2)
def xres (C : FCon) (args : List V) (bs : List (Option Blk)) : Prop × FRes :=
 match rsvB args bs with
 | some q => (match C q.1 with
   | some c => (q.2 ∧ c.1, c.2)
   | none => (False, ⟨0, 0, []⟩))
 | none => (False, ⟨0, 0, []⟩)
def xtb : List (FuncId × FCon) → Gab
 | [], _, _, _, _ => none
 | (g, C) :: l, f, args, H, n => if f = g then some ((xres C args ((slIds args).map H)).1, .sl n (xres C args ((slIds args).map H)).2.e 0 (xres C args ((slIds args).map H)).2.l.length,
  (slIds args).map (fun j => (j, none)) ++ [(n, some ⟨(xres C args ((slIds args).map H)).2.t, (xres C args ((slIds args).map H)).2.e, (xres C args ((slIds args).map H)).2.l⟩)], slIds args) else xtb l f args H n
theorem xtb_loc : ∀ (l : List (FuncId × FCon)) (f : FuncId) (args : List V) (H : Hp) (n : Nat), (∀ p r ws rs, xtb l f args H n = some (p, r, ws, rs) → ∀ H' : Hp, (∀ b ∈ rs, H' b = H b) → xtb l f args H' n = some (p, r, ws, rs)) ∧ (xtb l f args H n = none → ∀ H' : Hp, xtb l f args H' n = none)
 | [], _, _, _, _ => ⟨fun _ _ _ _ h => (by cases h), fun _ _ => rfl⟩
 | (g, C) :: l, f, args, H, n => by
   simp only [xtb]
   split
   ·refine ⟨fun p r ws rs h H' hb => ?_, fun h => by cases h⟩
    have hrs : slIds args = rs := by injection h with h; injection h with _ h; injection h with _ h; injection h with _ h
    have : (slIds args).map H' = (slIds args).map H := List.map_congr_left fun b hb' => hb b (by rw [← hrs]; exact hb')
    rw [this]
    exact h
   ·exact xtb_loc l f args H n
section
variable {P : Program} {B : Nat → Prop} {H : Hp} {w : World} {ρ : Nat → Option Nat}
theorem sl_lst (hH : HRep w (own B ρ H) ρ H) (hfar : ∀ k x b, H k = some x → ρ k = some b → ¬ B b) {b e o m : Nat} {x : Blk} {v : Value} (hx : RepW w (own B ρ H) ρ (.sl b e o m) v) (hb : H b = some x) (he : x.e = e) (hm : o + m ≤ x.l.length)
 (hp : allPure ((x.l.drop o).take m)) {ids : List Nat} (hi : b ∈ ids) : RepW w (own B ρ (H.drops ids)) (fun _ => none) (.lst ((x.l.drop o).take m)) v := by
 have hel : aElems H (.sl b e o m) = some ((x.l.drop o).take m, [b]) := by
  rw [elems_sl, hb]
  simp [he, hm]
 generalize hL : (x.l.drop o).take m = L at *
 obtain ⟨b', arr', q1, q2, q3, q4, q5⟩ := hH.row _ _ hb
 have hLw : allWid L e := fun y hy => by
  rw [← hL] at hy
  rw [q3 y (List.mem_of_mem_drop (List.mem_of_mem_take hy)), he]
 obtain ⟨A, c, news, rfl, hc, hcl, _, hst, _⟩ := elems_src (P := default) hH (RepV.of_W hx (by intro l h; cases h)) hel hLw (fun k e' o m he => by cases he; rfl)
 refine RepW.of_atom ?_ rfl rfl
 by_cases hL0 : L = []
 ·rw [hL0]; exact .nil _ _ _
 ·obtain ⟨bb, off, rfl, hs⟩ := hst hL0
  have hA := RepW.atom hx rfl
  have hbb : bb = b' := by
   cases hA with
   | sl _ _ _ _ _ _ _ _ _ _ g1 => rw [g1] at q1; injection q1
  subst hbb
  refine .lst _ _ _ _ _ news hL0 hc (Array.getElem?_eq_some_iff.1 q2).1 (own_drop hH hfar hb q1 hi) ⟨e, hLw⟩ hs hcl.len fun j y u hy hu => ?_
  refine ((hcl.rep j y u hy hu).mono (drops_ext H ids)).pureA ?_
  exact atomsL_all (fun z hz => by have := hp z hz; unfold V.pure at this; exact this) y (List.mem_of_getElem? hy)
theorem rsv_ok (hH : HRep w (own B ρ H) ρ H) (hfar : ∀ k x b, H k = some x → ρ k = some b → ¬ B b) (θ : List Nat) : ∀ (args : List V) (vs : List Value) (ys : List V) (p : Prop), (∀ b ∈ slIds args, b ∈ θ) → rsvB args ((slIds args).map H) = some (ys, p) → p →
 (∀ (j : Nat) (x : V) (v : Value), args[j]? = some x → vs[j]? = some v → RepW w (own B ρ H) ρ x v) →
 ys.length = args.length ∧ ys.all V.pure = true ∧ ∀ (j : Nat) (y : V) (v : Value), ys[j]? = some y → vs[j]? = some v → RepW w (own B ρ (H.drops θ)) (fun _ => none) y v
 | [], vs, ys, p, _, h, _, _ => by
   simp only [slIds, List.map_nil, rsvB, Option.some.injEq, Prod.mk.injEq] at h
   obtain ⟨rfl, _⟩ := h
   exact ⟨rfl, rfl, fun j y v hy _ => by simp at hy⟩
 | x :: xs, vs, ys, p, hθ, h, hp, hr => by
   have tail : ∀ q, rsvB xs ((slIds xs).map H) = some q → q.2 → (∀ b ∈ slIds xs, b ∈ θ) → q.1.length = xs.length ∧ q.1.all V.pure = true ∧ ∀ (j : Nat) (y : V) (v : Value), q.1[j]? = some y → (vs.drop 1)[j]? = some v → RepW w (own B ρ (H.drops θ)) (fun _ => none) y v := fun q hq hq2 hθ' =>
    rsv_ok hH hfar θ xs (vs.drop 1) q.1 q.2 hθ' hq hq2 fun j x v h1 h2 => hr (j + 1) x v (by simpa using h1) (by rw [List.getElem?_drop] at h2; rwa [Nat.add_comm] at h2)
   by_cases hs : ∃ b e o m, x = .sl b e o m
   ·obtain ⟨b, e, o, m, rfl⟩ := hs
    simp only [slIds, List.map_cons, rsvB] at h hθ
    rcases hb : H b with _ | z
    ·rw [hb] at h; cases h
    ·rw [hb] at h
     simp only [Option.bind_some] at h
     rcases hq : rsvB xs ((slIds xs).map H) with _ | q
     ·rw [hq] at h; cases h
     ·rw [hq] at h
      simp only [Option.map_some, Option.some.injEq, Prod.mk.injEq] at h
      obtain ⟨rfl, rfl⟩ := h
      obtain ⟨⟨p1, p2, p3⟩, p4⟩ := hp
      obtain ⟨t1, t2, t3⟩ := tail q hq p4 fun b hb => hθ b (by simp [hb])
      refine ⟨by simp [t1], by simp [t2, V.pure, V.atoms, pureA], fun j y v hy hv => ?_⟩
      cases j with
      | zero =>
        simp at hy
        subst hy
        exact sl_lst hH hfar (hr 0 _ v rfl hv) hb p1 p2 p3 (hθ b (by simp))
      | succ j => exact t3 j y v (by simpa using hy) (by rw [List.getElem?_drop, Nat.add_comm]; exact hv)
   ·have hslx : slIds (x :: xs) = slIds xs := by
     cases x <;> first | rfl | exact absurd ⟨_, _, _, _, rfl⟩ hs
    have hrsv : rsvB (x :: xs) ((slIds xs).map H) = (rsvB xs ((slIds xs).map H)).map fun q => (x :: q.1, x.pure = true ∧ q.2) := by
     cases x <;> first | rfl | exact absurd ⟨_, _, _, _, rfl⟩ hs
    rw [hslx] at h hθ
    rw [hrsv] at h
    rcases hq : rsvB xs ((slIds xs).map H) with _ | q
    ·rw [hq] at h; cases h
    ·rw [hq] at h
     simp only [Option.map_some, Option.some.injEq, Prod.mk.injEq] at h
     obtain ⟨rfl, rfl⟩ := h
     obtain ⟨p1, p4⟩ := hp
     obtain ⟨t1, t2, t3⟩ := tail q hq p4 hθ
     refine ⟨by simp [t1], by simp [t2, p1], fun j y v hy hv => ?_⟩
     cases j with
     | zero =>
       simp at hy
       subst hy
       exact ((hr 0 _ v rfl hv).mono (drops_ext H θ)).pure p1
     | succ j => exact t3 j y v (by simpa using hy) (by rw [List.getElem?_drop, Nat.add_comm]; exact hv)
theorem puts_append : ∀ (l m : List (Nat × Option Blk)) (H : Hp), H.puts (l ++ m) = (H.puts l).puts m
 | [], m, H => rfl
 | p :: l, m, H => puts_append l m _
end
theorem xtb_nil {P : Program} : GabOk P (xtb []) := fun _ _ _ _ _ _ _ _ h => by cases h
theorem xtb_cons {P : Program} {f : FuncId} {C : FCon} {l : List (FuncId × FCon)} (h : FCtr P f C) (hl : GabOk P (xtb l)) : GabOk P (xtb ((f, C) :: l)) := by
 intro g args H n p r ws rs hg
 simp only [xtb] at hg
 split at hg
 ·rename_i e
  subst e
  injection hg with hg
  injection hg with h1 h2; injection h2 with h2 h3; injection h3 with h3 h4
  subst h1 h2 h3 h4
  refine ⟨h.1, fun hp => ?_⟩
  unfold xres at hp ⊢
  rcases hq : rsvB args ((slIds args).map H) with _ | q
  ·rw [hq] at hp; exact hp.elim
  ·rw [hq] at hp
   simp only at hp ⊢
   rcases hc : C q.1 with _ | c
   ·rw [hc] at hp; exact hp.elim
   ·rw [hc] at hp
    obtain ⟨hp1, hp2⟩ := hp
    intro B w ρ vs hH hf hB hfar hv hr
    obtain ⟨t1, t2, t3⟩ := rsv_ok hH hfar (slIds args) args vs q.1 q.2 (fun _ h => h) hq hp1 hr
    obtain ⟨d1, d2⟩ := HRep.drops hH (slIds args)
    have live : ∀ k x, (H.drops (slIds args)) k = some x → H k = some x := fun k x hk => by
     unfold Hp.drops at hk
     split at hk
     ·cases hk
     ·exact hk
    have hcall := (h.2 q.1 c.1 c.2 hc hp2).gcall t2 (H.drops (slIds args)) n B w ρ vs d1 hf hB (fun k x b h1 h2 => hfar k x b (live k x h1) h2) (by omega) fun j x v hx hv => (t3 j x v hx hv).mono ((Ext.refl _ _ _).into ρ)
    refine hcall.mono ?_
    rintro e w' ⟨v, ρ', rfl, s1, s2, s3, s4⟩
    have hput : H.puts ((slIds args).map (fun j => (j, none)) ++ [(n, some ⟨c.2.t, c.2.e, c.2.l⟩)]) = (H.drops (slIds args)).puts [(n, some ⟨c.2.t, c.2.e, c.2.l⟩)] := by
     rw [puts_append, Hp.puts_drops]
    rw [hput]
    exact ⟨v, ρ', rfl, d2.trans s1, s2, s3, s4⟩
 ·exact hl g args H n p r ws rs hg
theorem tabsX {P : Program} (hm : P.follows .mixedOrders = true) {l : List (FuncId × Con)} (h : TabOk P (tbl l)) {m : List (FuncId × FCon)} (hg : GabOk P (xtb m)) : Tabs P (tbl l) (xtb m) :=
 ⟨hm, h, hg, fun f args H n => xtb_loc m f args H n⟩
attribute [go_sem] xtb.eq_1 xtb.eq_2
@[go_sem ↓, go_sem] theorem ids_nil : slIds [] = [] := rfl
@[go_sem ↓, go_sem] theorem ids_sl {b e o m : Nat} {xs : List V} : slIds (.sl b e o m :: xs) = b :: slIds xs := rfl
@[go_sem ↓, go_sem] theorem ids_raw {v : Value} {xs : List V} : slIds (.raw v :: xs) = slIds xs := rfl
@[go_sem ↓, go_sem] theorem ids_lst {l : List V} {xs : List V} : slIds (.lst l :: xs) = slIds xs := rfl
@[go_sem ↓, go_sem] theorem ids_agg {l : List V} {xs : List V} : slIds (.agg l :: xs) = slIds xs := rfl
@[go_sem ↓, go_sem] theorem ids_Q {q : Rat} {xs : List V} : slIds (.Q q :: xs) = slIds xs := rfl
@[go_sem ↓, go_sem] theorem ids_I {q : Int} {xs : List V} : slIds (.I q :: xs) = slIds xs := rfl
@[go_sem ↓, go_sem] theorem rsv_nil {bs : List (Option Blk)} : rsvB [] bs = some ([], True) := rfl
@[go_sem ↓, go_sem] theorem rsv_sl {b e o m : Nat} {xs : List V} {y : Blk} {ys : List (Option Blk)} : rsvB (.sl b e o m :: xs) (some y :: ys) = (rsvB xs ys).map fun q => (.lst ((y.l.drop o).take m) :: q.1, (y.e = e ∧ o + m ≤ y.l.length ∧ allPure ((y.l.drop o).take m)) ∧ q.2) := rfl
@[go_sem ↓, go_sem] theorem rsv_raw {v : Value} {xs : List V} {ys : List (Option Blk)} : rsvB (.raw v :: xs) ys = (rsvB xs ys).map fun q => (.raw v :: q.1, True ∧ q.2) := by
  cases ys <;> simp [rsvB, V.pure, V.atoms, pureA]
@[go_sem ↓, go_sem] theorem rsv_lst {l : List V} {xs : List V} {ys : List (Option Blk)} : rsvB (.lst l :: xs) ys = (rsvB xs ys).map fun q => (.lst l :: q.1, True ∧ q.2) := by
  cases ys <;> simp [rsvB, V.pure, V.atoms, pureA]
def xres2 (C : FCon) (o : Option (List V × Prop)) : Prop × FRes := match o with
 | some q => (match C q.1 with
   | some c => (q.2 ∧ c.1, c.2)
   | none => (False, ⟨0, 0, []⟩))
 | none => (False, ⟨0, 0, []⟩)
def xres3 (o : Option (Prop × FRes)) (p : Prop) : Prop × FRes := match o with
 | some c => (p ∧ c.1, c.2)
 | none => (False, ⟨0, 0, []⟩)
@[go_sem ↓, go_sem] theorem ev_xres {C : FCon} {args : List V} {bs : List (Option Blk)} : xres C args bs = xres2 C (rsvB args bs) := Eq.trans rfl rfl
@[go_sem ↓, go_sem] theorem ev_xres2 {C : FCon} {q : List V × Prop} : xres2 C (some q) = xres3 (C q.1) q.2 := Eq.trans rfl rfl
@[go_sem ↓, go_sem] theorem ev_xres3 {c : Prop × FRes} {p : Prop} : xres3 (some c) p = (p ∧ c.1, c.2) := Eq.trans rfl rfl
end Go.Proofs.YtfbogelmgdojgaaGreat


/- What a block names is let go: rows that are no longer written become plain values. No program in sight. -/
namespace Go.Proofs.YtfbogelmgdojgaaGreat
set_option linter.unusedSimpArgs false
set_option linter.unusedVariables false
open Go.RowKit

theorem drops_up_own {B : Nat → Prop} {ρ : Nat → Option Nat} {H : Hp} {ids : List Nat} {k : Nat} {y z : Blk} (hk : H k = some y) (hid : k ∉ ids) (b : Nat) : own B ρ ((H.drops ids).up k (some z)) b ↔ own B ρ (H.drops ids) b := by
 constructor
 ·rintro (h | ⟨i, q, h1, h2⟩)
  ·exact .inl h
  ·unfold Hp.up at h1
   split at h1
   ·rename_i e; subst e
    exact .inr ⟨i, y, by unfold Hp.drops; rw [if_neg hid, hk], h2⟩
   ·exact .inr ⟨i, q, h1, h2⟩
 ·rintro (h | ⟨i, q, h1, h2⟩)
  ·exact .inl h
  ·by_cases e : i = k
   ·subst e; exact .inr ⟨i, z, by unfold Hp.up; rw [if_pos rfl], h2⟩
   ·exact .inr ⟨i, q, by unfold Hp.up; rw [if_neg e]; exact h1, h2⟩
theorem AWp.frz (k : Nat) {P : Program} {c : Code} {Q : Exit → St → Prop} {σ : St} (h : optC (σ.H k) fun y => frzs (frzE (argN σ.H 3)) y.l fun l' rs => (rs.all fun i => !(i == k)) = true ∧ AWp P c Q { σ with H := (σ.H.drops rs).up k (some ⟨y.t, y.e, l'⟩) }) : AWp P c Q σ := by
 intro B A W st a w ρ hs r _
 rcases hk : σ.H k with _ | y
 ·rw [hk] at h; exact h.elim
 ·rw [hk] at h
  obtain ⟨b, arr, g1, g2, g3, g4, g5⟩ := hs.heap.row k y hk
  have hH := hs.heap
  obtain ⟨L', rs, ⟨h1, h2⟩, e1, e2, e3, e4⟩ := frzL_ok (argN_ok hH (hs.hfar st) 3) y.l (arr.toList.take (V.atomsL y.l).length) _ (by rw [List.length_take]; simp; omega) (fun j x u hj hu => by
   rw [List.getElem?_take] at hu
   split at hu
   ·exact g5 j x u hj (by simpa using hu)
   ·cases hu) h
  have hid : k ∉ rs := fun hm => by
   have := List.all_eq_true.1 h1 k hm
   simp at this
  have live : ∀ i q, (σ.H.drops rs) i = some q → σ.H i = some q := fun i q hi => by
   unfold Hp.drops at hi
   split at hi
   ·cases hi
   ·exact hi
  obtain ⟨hD, _⟩ := hH.drops rs
  have hown : own B ρ ((σ.H.drops rs).up k (some ⟨y.t, y.e, L'⟩)) = own B ρ (σ.H.drops rs) := by
   funext b'
   exact propext (drops_up_own hk hid b')
  have hx := drops_ext (w := w) (B := B) (ρ := ρ) σ.H rs
  have back : ∀ i q, ((σ.H.drops rs).up k (some ⟨y.t, y.e, L'⟩)) i = some q → ∃ q0, σ.H i = some q0 := fun i q hi => by
   unfold Hp.up at hi
   split at hi
   ·rename_i e; subst e; exact ⟨y, hk⟩
   ·exact ⟨q, live i q hi⟩
  refine h2 B A W st a w ρ ⟨hs.defers, hs.size, fun t => ?_, ⟨fun i q hi => ?_, fun i i' q q' b' h3 h4 h5 h6 => ?_⟩, hs.fresh, fun i q b' h3 h4 => ?_, hs.os, hs.tape, hs.output, hs.grow, hs.same, hs.row, hs.pins, hs.marks⟩
  ·show RepV w (own B ρ ((σ.H.drops rs).up k (some ⟨y.t, y.e, L'⟩))) ρ _ _
   rw [hown]
   exact (hs.slots t).mono hx
  ·show ∃ (b : Nat) (arr : Array Value), _ ∧ _ ∧ _ ∧ _ ∧ ∀ (j : Nat) (y_1 : V) (u : Value), _ → _ → RepA w (own B ρ ((σ.H.drops rs).up k (some ⟨y.t, y.e, L'⟩))) ρ y_1 u
   rw [hown]
   have hi : (σ.H.drops rs).up k (some ⟨y.t, y.e, L'⟩) i = some q := hi
   by_cases e : i = k
   ·subst e
    have hq : q = ⟨y.t, y.e, L'⟩ := by
     have : (some (⟨y.t, y.e, L'⟩ : Blk)) = some q := by
      rw [← hi]; unfold Hp.up; rw [if_pos rfl]
     injection this with this; exact this.symm
    subst hq
    refine ⟨b, arr, g1, g2, fun z hz => ?_, by simp only; rw [e3]; exact g4, fun j z u hz hu => ?_⟩
    ·obtain ⟨n, hn⟩ := List.getElem?_of_mem hz
     have hl : n < y.l.length := by rw [← e1]; exact (List.getElem?_eq_some_iff.1 hn).1
     rw [(e2 n z _ hn (List.getElem?_eq_getElem hl)).1]
     exact g3 _ (List.getElem_mem hl)
    ·have hj := (List.getElem?_eq_some_iff.1 hz).1
     refine (e4 rs (fun _ h => h) j z u hz ?_).mono ((Ext.refl _ _ _).into _)
     simp only at hj
     rw [List.getElem?_take, if_pos (by omega)]
     simpa using hu
   ·exact hD.row i q (by unfold Hp.up at hi; rw [if_neg e] at hi; exact hi)
  ·obtain ⟨q0, h0⟩ := back i q h3
   obtain ⟨q1, h1'⟩ := back i' q' h4
   exact hH.inj i i' q0 q1 b' h0 h1' h5 h6
  ·obtain ⟨q0, h0⟩ := back i q h3
   exact hs.mine i q0 b' h0 h4
end Go.Proofs.YtfbogelmgdojgaaGreat


/- Loops over functions: the iterator's side. No program in sight. -/
namespace Go.Proofs.YtfbogelmgdojgaaGreat
set_option linter.unusedSimpArgs false
set_option linter.unusedVariables false
open Go.RowKit

structure Moves (w : World) (O : Nat → Prop) (w' : World) (O' : Nat → Prop) : Prop where
 same : ∀ b, b < w.heap.size → ¬ O b → w'.heap[b]? = w.heap[b]?
 new : ∀ b, O' b → O b ∨ w.heap.size ≤ b
 size : w.heap.size ≤ w'.heap.size
 row : ∀ (b : Nat) (arr : Array Value) (t : TypeId) (fr : Nat × Nat), w.heap[b]? = some (.cells arr t fr) → ∃ (arr' : Array Value) (t' : TypeId) (fr' : Nat × Nat), w'.heap[b]? = some (.cells arr' t' fr') ∧ arr'.size = arr.size
 os : w'.os = w.os
 tape : w'.tape = w.tape
 output : w'.output = w.output
def IsCells (w : World) (b : Nat) : Prop := ∃ (arr : Array Value) (t : TypeId) (fr : Nat × Nat), w.heap[b]? = some (.cells arr t fr)
theorem IsCells.lt {w : World} {b : Nat} (h : IsCells w b) : b < w.heap.size := by
 obtain ⟨_, _, _, h⟩ := h
 exact (Array.getElem?_eq_some_iff.1 h).1
def tof (H : Hp) (ρ : Nat → Option Nat) : Nat → Prop := fun b => ∃ k x, H k = some x ∧ ρ k = some b
theorem tof_cells {w : World} {O : Nat → Prop} {ρ : Nat → Option Nat} {H : Hp} (h : HRep w O ρ H) {b : Nat} (hb : tof H ρ b) : IsCells w b := by
 obtain ⟨k, x, h1, h2⟩ := hb
 obtain ⟨b', arr, q1, q2, _⟩ := h.row k x h1
 rw [h2] at q1; injection q1 with q1; subst q1
 exact ⟨arr, x.t, _, q2⟩
def aR (m : Nat) (H : Hp) (ρ : Nat → Option Nat) : Nat → Option Nat := fun j => if (H (j / 2)).isSome = true ∧ (j % 2 = 1 ∨ j / 2 < m) then ρ (j / 2) else none
theorem aR_tof {m : Nat} {H : Hp} {ρ : Nat → Option Nat} {j b : Nat} (h : aR m H ρ j = some b) : tof H ρ b := by
 unfold aR at h
 split at h
 ·rename_i hh
  rcases hx : H (j / 2) with _ | x
  ·rw [hx] at hh; simp at hh
  ·exact ⟨_, x, hx, h⟩
 ·cases h
theorem tof_aR {m : Nat} {H : Hp} {ρ : Nat → Option Nat} {b : Nat} (h : tof H ρ b) : ∃ j, aR m H ρ j = some b := by
 obtain ⟨k, x, h1, h2⟩ := h
 refine ⟨2 * k + 1, ?_⟩
 unfold aR
 have e : (2 * k + 1) / 2 = k := by omega
 rw [e, h1]
 simp [h2]
theorem aR_pin {m : Nat} {H : Hp} {ρ : Nat → Option Nat} {k b : Nat} (h : aR m H ρ (2 * k) = some b) : k < m ∧ ρ k = some b := by
 unfold aR at h
 have e : 2 * k / 2 = k := by omega
 rw [e] at h
 split at h
 ·rename_i hh
  rcases hh.2 with h1 | h1
  ·omega
  ·exact ⟨h1, h⟩
 ·cases h
theorem Sim.rebase {B : Nat → Prop} {A : Nat → Option Nat} {W : World} {σ : St} {a : Act} {w : World} {ρ : Nat → Option Nat} (h : Sim B A W σ a w ρ) (hq : σ.q = false) {m : Nat} (hm : m ≤ σ.m) : Sim B (aR m σ.H ρ) w σ a w ρ :=
 ⟨h.defers, h.size, h.slots, h.heap, h.fresh, fun k x b h1 h2 => .inl (tof_aR ⟨k, x, h1, h2⟩), rfl, rfl, rfl, Nat.le_refl _, fun _ _ _ => rfl, fun _ _ _ _ e => ⟨_, _, _, e, rfl⟩, fun k b e => ⟨Nat.lt_of_lt_of_le (aR_pin e).1 hm, (aR_pin e).2⟩, by rw [h.defers hq]; exact Marks.nil _ _⟩
theorem Sim.moves {B : Nat → Prop} {H0 : Hp} {ρ0 : Nat → Option Nat} {m : Nat} {W : World} {σ : St} {a : Act} {w : World} {ρ : Nat → Option Nat} (h : Sim B (aR m H0 ρ0) W σ a w ρ) : Moves W (tof H0 ρ0) w (tof σ.H ρ) :=
 ⟨fun b hb hn => h.same b hb fun j e => hn (aR_tof e), fun b hb => by
  obtain ⟨k, x, h1, h2⟩ := hb
  rcases h.mine k x b h1 h2 with ⟨j, hj⟩ | hj
  ·exact .inl (aR_tof hj)
  ·exact .inr hj, h.grow, h.row, h.os, h.tape, h.output⟩

structure JOk (P : Program) (l N : Nat) (xs : Nat → Option (List V)) (J : Option Nat → (Nat → Prop) → (Nat → Prop) → World → Prop) : Prop where
 move : ∀ i C T W1 T' W2, J i C T W1 → Moves W1 T W2 T' → (∀ b, T' b → IsCells W2 b) → J i C T' W2
 bound : ∀ i C T W1, J (some i) C T W1 → i ≤ N
 old : ∀ i C T W1, J i C T W1 → (∀ b, C b → b < W1.heap.size) ∧ ∀ b, T b → ¬ C b
 yield : ∀ (i : Nat) (C T : Nat → Prop) (W1 : World) (ys : List V) (us : List Value), J (some i) C T W1 → xs i = some ys → us.length = ys.length → (∀ (j : Nat) (y : V) (v : Value), ys[j]? = some y → us[j]? = some v → RepW W1 (fun b => C b ∨ T b) (fun _ => none) y v) →
  YieldAt (rd none) 0 P l us.toArray W1 fun e W' => ∃ (C' : Nat → Prop) (b : Bool), e = .returned (.bool b) ∧ J (if b then some (i + 1) else none) C' T W' ∧ Moves W1 C W' C'
def SeqC (P : Program) (g : FuncId) (caps : List V) (L : Nat) (xs : Nat → Option (List V)) : Prop :=
 ∀ (C : Nat → Prop) (w : World) (vs : List Value), vs.length = caps.length → (∀ (j : Nat) (x : V) (v : Value), caps[j]? = some x → vs[j]? = some v → RepW w C (fun _ => none) x v) → (∀ b, C b → b < w.heap.size) →
 ∀ (l N : Nat) (J : Option Nat → (Nat → Prop) → (Nat → Prop) → World → Prop), N ≤ L → JOk P l N xs J → J (some 0) C (fun _ => False) w →
  CallsIn (rd none) 0 P g (#[.func (.yield l) #[] #[]] ++ vs.toArray) w fun e w' => (∃ v, e = .returned v) ∧ ∃ C' T', J none C' T' w' ∨ ∃ i, xs i = none ∧ J (some i) C' T' w'

def ItS (J : Option Nat → (Nat → Prop) → (Nat → Prop) → World → Prop) (i : Option Nat) (σ : St) (a : Act) (w : World) : Prop :=
 ∃ C ρ, Sim C (aR 0 σ.H ρ) w σ a w ρ ∧ J i C (tof σ.H ρ) w ∧ σ.q = false
def AIt (P : Program) (J : Option Nat → (Nat → Prop) → (Nat → Prop) → World → Prop) (c : Code) (Q : Exit → Option Nat → St → Prop) (i : Option Nat) (σ : St) : Prop :=
 ∀ a w, ItS J i σ a w → c.wpIn (rd none) 0 P (fun e a' w' => ∃ i' σ', Q e i' σ' ∧ ItS J i' σ' a' w') a w
section
variable {P : Program} {Γ : Tab} {Δ : Gab} {l N : Nat} {xs : Nat → Option (List V)} {J : Option Nat → (Nat → Prop) → (Nat → Prop) → World → Prop}
theorem stat_it (hJ : JOk P l N xs J) {i : Option Nat} {C : Nat → Prop} {H : Hp} {ρ : Nat → Option Nat} {w : World} (h : J i C (tof H ρ) w) : Stat C (aR 0 H ρ) w :=
 ⟨(hJ.old _ _ _ _ h).1, fun _ _ e => (hJ.old _ _ _ _ h).2 _ (aR_tof e)⟩
theorem ItS.step (hJ : JOk P l N xs J) {i : Option Nat} {C : Nat → Prop} {H : Hp} {ρ : Nat → Option Nat} {w : World} (h : J i C (tof H ρ) w) {σ' : St} {a' : Act} {w' : World} {ρ' : Nat → Option Nat} (hs : Sim C (aR 0 H ρ) w σ' a' w' ρ') (hq : σ'.q = false) : ItS J i σ' a' w' :=
 ⟨C, ρ', hs.rebase hq (Nat.zero_le _), hJ.move _ _ _ _ _ _ h hs.moves fun _ hb => tof_cells hs.heap hb, hq⟩
theorem AIt.of (hJ : JOk P l N xs J) {c : Code} {Q : Exit → Option Nat → St → Prop} {i : Option Nat} {σ : St} (h : AWp P c (fun e σ' => σ'.q = false ∧ Q e i σ') σ) : AIt P J c Q i σ := by
 rintro a w ⟨C, ρ, hs, hj, hq⟩
 refine wpIn_mono (h C _ w (stat_it hJ hj) a w ρ hs (r := none)) ?_
 rintro e a' w' ⟨σ', ρ', ⟨h1, h2⟩, hs'⟩
 exact ⟨i, σ', h2, ItS.step hJ hj hs' h1⟩
theorem ItS.weaken (hJ : JOk P l N xs J) {i : Option Nat} {σ σ' : St} {a : Act} {w : World} (h : ItS J i σ a w) (hw : Wk σ σ') (hq : σ'.q = false) : ItS J i σ' a w := by
 obtain ⟨C, ρ, hs, hj, _⟩ := h
 obtain ⟨ρ', hs'⟩ := hw _ _ _ _ _ _ hs
 exact ItS.step hJ hj hs' hq
theorem AIt.weaken (hJ : JOk P l N xs J) {c : Code} {Q : Exit → Option Nat → St → Prop} {i : Option Nat} {σ σ' : St} (h : AIt P J c Q i σ') (hw : Wk σ σ') (hq : σ'.q = false) : AIt P J c Q i σ :=
 fun a w hs => h a w (hs.weaken hJ hw hq)
theorem AIt.mono {c : Code} {Q Q' : Exit → Option Nat → St → Prop} {i : Option Nat} {σ : St} (h : AIt P J c Q i σ) (hq : ∀ e i σ, Q e i σ → Q' e i σ) : AIt P J c Q' i σ := fun a w hs =>
 wpIn_mono (h a w hs) fun _ _ _ ⟨i', σ', h1, h2⟩ => ⟨i', σ', hq _ _ _ h1, h2⟩
def thenI (Nx : Option Nat → St → Prop) (Q : Exit → Option Nat → St → Prop) : Exit → Option Nat → St → Prop
 | .normal, i, σ => Nx i σ
 | e, i, σ => Q e i σ
theorem AIt.seq {x y : Code} {Q : Exit → Option Nat → St → Prop} {i : Option Nat} {σ : St} (h : AIt P J x (thenI (fun i σ => AIt P J y Q i σ) Q) i σ) : AIt P J (.seq x y) Q i σ := by
 intro a w hs
 refine wpIn_seq (wpIn_mono (h a w hs) ?_)
 rintro e a' w' ⟨i', σ', h1, h2⟩
 cases e with
 | normal => exact h1 a' w' h2
 | exit id => exact ⟨i', σ', h1, h2⟩
 | goto l => exact ⟨i', σ', h1, h2⟩
 | ret => exact ⟨i', σ', h1, h2⟩
 | panic c => exact ⟨i', σ', h1, h2⟩
 | outgrown => exact ⟨i', σ', h1, h2⟩
theorem AIt.cond {c : Operand} {x y : Code} {Q : Exit → Option Nat → St → Prop} {i : Option Nat} {σ : St} {t : Bool} (hc : σ.ev c = .raw (.bool t)) (h : (t = true → AIt P J x Q i σ) ∧ (t = false → AIt P J y Q i σ)) : AIt P J (.cond c x y) Q i σ := by
 intro a w hs
 have hs0 := hs
 obtain ⟨C, ρ, hs1, _⟩ := hs0
 have hv := hs1.ev c
 rw [hc] at hv
 have hv := RepW.raw_inv hv
 refine wpIn_cond hv ?_
 cases t with
 | true => exact h.1 rfl a w hs
 | false => exact h.2 rfl a w hs
def blkI (id : Nat) (Q : Exit → Option Nat → St → Prop) : Exit → Option Nat → St → Prop
 | .exit id', i, σ => if id' = id then Q .normal i σ else Q (.exit id') i σ
 | e, i, σ => Q e i σ
theorem AIt.block {id : Nat} {c : Code} {Q : Exit → Option Nat → St → Prop} {i : Option Nat} {σ : St} (h : AIt P J c (blkI id Q) i σ) : AIt P J (.block id c) Q i σ := by
 intro a w hs
 refine wpIn_block (wpIn_mono (h a w hs) ?_)
 rintro e a' w' ⟨i', σ', h1, h2⟩
 cases e with
 | exit id' =>
   simp only [blkI] at h1
   simp only [Exit.inBlock]
   split
   ·rename_i e; rw [if_pos e] at h1; exact ⟨i', σ', h1, h2⟩
   ·rename_i e; rw [if_neg e] at h1; exact ⟨i', σ', h1, h2⟩
 | normal => exact ⟨i', σ', h1, h2⟩
 | goto l => exact ⟨i', σ', h1, h2⟩
 | ret => exact ⟨i', σ', h1, h2⟩
 | panic c => exact ⟨i', σ', h1, h2⟩
 | outgrown => exact ⟨i', σ', h1, h2⟩
theorem AIt.loops (hJ : JOk P l N xs J) {X : Type} (I : X → St) (ix : X → Nat) (μ : X → Nat) (hI : ∀ x, (I x).q = false) {c : Code} {Q : Exit → Option Nat → St → Prop} {i : Option Nat} {σ : St} (x0 : X) (hi : i = some (ix x0)) (hw : Wk σ (I x0))
 (hr : ∀ x, ix x ≤ N → AIt P J c (thenI (fun i σ => ∃ x', i = some (ix x') ∧ Wk σ (I x') ∧ μ x' < μ x) Q) (some (ix x)) (I x)) : AIt P J (.loop c) Q i σ := by
 intro a w hs b k cs hro hfn hrm
 have key : ∀ n x a w, μ x = n → ItS J (some (ix x)) (I x) a w →
  ∃ e a' w', (∃ i' σ', Q e i' σ' ∧ ItS J i' σ' a' w') ∧ ArrivesIn (Machine.fenced P (rd none)) P (lone (b.atR a (.code c :: .inLoop c :: k)) cs w) b k cs e a' w' := by
  intro n
  induction n using Nat.strongRecOn with
  | _ n ih =>
    intro x a w hn hx
    have hle : ix x ≤ N := by obtain ⟨C, ρ, _, hj, _⟩ := hx; exact hJ.bound _ _ _ _ hj
    obtain ⟨e, a₁, w₁, ⟨i', σ', hq, hs'⟩, harr⟩ := hr x hle a w hx b (.inLoop c :: k) cs hro hfn hrm
    cases e with
    | normal =>
      obtain ⟨x', rfl, hwk, hlt⟩ := hq
      obtain ⟨e₂, a₂, w₂, hq₂, harr₂⟩ := ih (μ x') (hn ▸ hlt) x' a₁ w₁ rfl (hs'.weaken hJ hwk (hI x'))
      exact ⟨e₂, a₂, w₂, hq₂, .of_steps (StepsIn.trans harr (.one (fenced_calm hfn hrm rfl) stepR_inLoop)) harr₂⟩
    | exit id => exact ⟨_, a₁, w₁, ⟨i', σ', hq, hs'⟩, .pass (x := .inLoop c) rfl (fun _ _ => .inl (by simp)) harr⟩
    | goto l => exact ⟨_, a₁, w₁, ⟨i', σ', hq, hs'⟩, .pass (x := .inLoop c) rfl (fun _ _ => .inl (by simp)) harr⟩
    | ret => exact ⟨_, a₁, w₁, ⟨i', σ', hq, hs'⟩, .pass (x := .inLoop c) rfl (fun _ _ => .inl (by simp)) harr⟩
    | panic ch => exact ⟨_, a₁, w₁, ⟨i', σ', hq, hs'⟩, .pass (x := .inLoop c) rfl (fun _ _ => .inl (by simp)) harr⟩
    | outgrown => exact ⟨_, a₁, w₁, ⟨i', σ', hq, hs'⟩, .pass (x := .inLoop c) rfl (fun _ _ => .inl (by simp)) harr⟩
 subst hi
 obtain ⟨e, a', w', hq, harr⟩ := key _ x0 a w rfl (hs.weaken hJ hw (hI x0))
 exact ⟨e, a', w', hq, .of_steps (.one (fenced_calm hfn hrm rfl) stepR_loop) harr⟩
theorem vcOps_pre (hΓ : TabOk P Γ) (hΔ : GabOk P Δ) {B : Nat → Prop} {A : Nat → Option Nat} {W : World} (st : Stat B A W) {r : Option Nat} {ops : Array Oper} {Q : Exit → Act → World → Prop} {K : St → Prop} (rest : List Nat) (hK : ∀ σ a w ρ, K σ → Sim B A W σ a w ρ → wpOpsIn (rd r) 0 P ops Q rest a w) : ∀ (os : List Oper) (i : Nat) (σ : St) (a : Act) (w : World) (ρ : Nat → Option Nat), (ops.toList.drop i).take os.length = os → Sim B A W σ a w ρ → vcOps P Γ Δ ops os σ K →
 wpOpsIn (rd r) 0 P ops Q (List.range' i os.length ++ rest) a w
 | [], i, σ, a, w, ρ, _, hs, h => hK σ a w ρ h hs
 | o :: os, i, σ, a, w, ρ, hi, hs, h => by
   have hoi : ops[i]? = some o := by
    have h1 : ((ops.toList.drop i).take (os.length + 1))[0]? = some o := by
     rw [show os.length + 1 = (o :: os).length from rfl, hi]; rfl
    rw [List.getElem?_take, if_pos (by omega), List.getElem?_drop] at h1
    simpa using h1
   have hos : (ops.toList.drop (i + 1)).take os.length = os := by
    rw [← List.tail_drop]
    rcases hdr : ops.toList.drop i with _ | ⟨x, l'⟩
    ·rw [hdr] at hi; simp at hi
    ·rw [hdr] at hi
     simp only [List.length_cons, List.take_succ_cons, List.cons.injEq] at hi
     exact hi.2
   obtain ⟨hd, h⟩ := h
   obtain ⟨z, ws, rs, hk, hok⟩ := vcOp_ok (Q := Q) (P := P) (ops := ops) (r := r) hΓ hΔ st hs h hd
   simp only [List.length_cons, List.range'_succ, List.cons_append, wpOpsIn, hoi]
   exact hok (wpOpsIn (rd r) 0 P ops Q (List.range' (i + 1) os.length ++ rest)) fun v w' ρ' hs' => vcOps_pre hΓ hΔ st rest hK os (i + 1) _ _ w' ρ' hos hs' hk
theorem Sim.other {C C' : Nat → Prop} {σ : St} {a : Act} {w w' : World} {ρ : Nat → Option Nat} (h : Sim C (aR 0 σ.H ρ) w σ a w ρ) (hq : σ.q = false) (mv : Moves w C w' C') (hT : ∀ b, tof σ.H ρ b → ¬ C b) : Sim C' (aR 0 σ.H ρ) w' σ a w' ρ := by
 have hx : Ext w (own C ρ σ.H) ρ w' (own C' ρ σ.H) ρ := ⟨fun _ _ e => e, fun b hb hO => by
  refine ⟨?_, .of (mv.same b hb fun hc => hO (.inl hc))⟩
  rintro (h1 | h1)
  ·rcases mv.new b h1 with h2 | h2
   ·exact hO (.inl h2)
   ·omega
  ·exact hO (.inr h1), mv.size, mv.row⟩
 refine ⟨h.defers, h.size, fun t => (h.slots t).mono hx, h.heap.mono hx (fun k x b e1 e2 => ?_) (fun _ _ _ _ e => e), h.fresh, fun k x b h1 h2 => .inl (tof_aR ⟨k, x, h1, h2⟩), rfl, rfl, rfl, Nat.le_refl _, fun _ _ _ => rfl, fun _ _ _ _ e => ⟨_, _, _, e, rfl⟩, fun k b e => ?_, by rw [h.defers hq]; exact Marks.nil _ _⟩
 ·have ht : tof σ.H ρ b := ⟨k, x, e1, e2⟩
  exact mv.same b (tof_cells h.heap ht).lt (hT b ht)
 ·exact h.pins k b e
theorem run_yieldCall {a : Act} {o : Oper} {w : World} {f : Operand} {args : Array Operand} {tys : Array TypeId} (hop : o.op = .call { callee := .value f, args := args, argTypes := tys }) (hf : a.eval f = .func (.yield l) #[] #[]) {fn : FuncId} {tmps : Array Value} {x y : Code}
 (h : (Instr.yield l (args.map a.eval)).run P w = .ok (.round l fn tmps x y) w) : (execOp a.eval o).run P w = .ok (.round l fn tmps x y) w := by
 simp only [execOp, hop, resolve, hf, Deferred.ofValue, Sem.run_bind, Sem.run_pure, Result.andThen_ok, invoke]
 simpa using h
theorem AIt.yieldR (T : Tabs P Γ Δ) (hJ : JOk P l N xs J) {id : Nat} {ops : Array Oper} (pre post : List Oper) (o : Oper) (hops : ops.toList = pre ++ o :: post) (hg : o.guard = none) {f : Operand} {args : Array Operand} {tys : Array TypeId} (hop : o.op = .call { callee := .value f, args := args, argTypes := tys })
 {Q : Exit → Option Nat → St → Prop} {n : Nat} {σ : St}
 (h : vcOps P Γ Δ ops pre σ fun σ1 => (σ1.q = false ∧ dstOk o σ1.N) ∧ σ1.ev f = .raw (.func (.yield l) #[] #[]) ∧ (xs n = some (args.toList.map σ1.ev) ∧ (args.toList.map σ1.ev).all V.pure = true ∧ (args.toList.map σ1.ev).all V.noTup = true) ∧
  vcOps P Γ Δ ops post (σ1.put o.dst (.raw (.bool true)) []) (fun σ2 => σ2.q = false ∧ Q .normal (some (n + 1)) σ2) ∧ vcOps P Γ Δ ops post (σ1.put o.dst (.raw (.bool false)) []) (fun σ2 => σ2.q = false ∧ Q .normal none σ2)) :
 AIt P J (.region id ops false) Q (some n) σ := by
 rintro a w ⟨C, ρ, hs, hj, hq⟩
 refine wpIn_region ?_
 have hlen : ops.size = pre.length + (post.length + 1) := by
  have := congrArg List.length hops
  simpa using this
 have hrange : List.range ops.size = List.range' 0 pre.length ++ (pre.length :: List.range' (pre.length + 1) post.length) := by
  rw [List.range_eq_range', hlen, ← List.range'_append_1 (s := 0) (m := pre.length) (n := post.length + 1), Nat.zero_add, List.range'_succ]
 rw [hrange]
 refine vcOps_pre T.tab T.gab (stat_it hJ hj) (r := none) _ ?_ pre 0 σ a w ρ (by rw [hops]; simp) hs h
 rintro σ1 a1 w1 ρ1 ⟨⟨hq1, hd⟩, hf, ⟨hx, hp, ht⟩, h1, h2⟩ hs1
 have ho : ops[pre.length]? = some o := by
  have : ops.toList[pre.length]? = some o := by rw [hops]; simp
  simpa using this
 simp only [wpOpsIn, ho]
 rw [if_pos (by simp [Region.wanted, hg])]
 have hj1 : J (some n) C (tof σ1.H ρ1) w1 := hJ.move _ _ _ _ _ _ hj hs1.moves fun _ hb => tof_cells hs1.heap hb
 have hfv := hs1.ev f
 rw [hf] at hfv
 have hfv := RepW.raw_inv hfv
 obtain ⟨fn, tmps, x, y, hy, hR⟩ := hJ.yield n C _ w1 (args.toList.map σ1.ev) (args.toList.map a1.eval) hj1 hx (by simp) fun j z v hz hv => by
  simp only [List.getElem?_map] at hz hv
  rcases hxj : args.toList[j]? with _ | q
  ·rw [hxj] at hz; simp at hz
  ·rw [hxj] at hz hv
   simp at hz hv
   subst hz hv
   have hmem : σ1.ev q ∈ args.toList.map σ1.ev := List.mem_map_of_mem (List.mem_of_getElem? hxj)
   have h3 := hs1.ev q
   have h4 : RepW w1 (own C ρ1 σ1.H) ρ1 (σ1.ev q) (a1.eval q) := by
    have := List.all_eq_true.1 ht _ hmem
    generalize σ1.ev q = z at *
    cases z <;> first | exact h3 | (simp [V.noTup] at this)
   exact h4.pure (List.all_eq_true.1 hp _ hmem)
 refine ⟨fun _ _ => trivial, ?_⟩
 rw [Oper.semAt_eq _ _ _ (fun c e => by rw [hop] at e; cases e)]
 have harr : (args.toList.map a1.eval).toArray = args.map a1.eval := by apply Array.ext'; simp
 rw [harr] at hy
 rw [run_yieldCall hop hfv hy]
 refine ⟨fun e => (by cases e), RoundIn.mono hR ?_⟩
 rintro e w2 ⟨C', b, rfl, hj2, mv⟩
 have hs2 := (hs1.rebase hq1 (Nat.zero_le _)).other hq1 mv (hJ.old _ _ _ _ hj1).2
 have hs3 := hs2.put (dst := o.dst) (dstOk_lt hd) (v := .bool b) (x := .raw (.bool b)) (ws := []) (Step.refl _ _ _) hs2.heap (fun _ _ e => e) (RepW.raw rfl)
 have hst := stat_it (H := σ1.H) (ρ := ρ1) hJ hj2
 have fin : ∀ (i' : Option Nat), J i' C' (tof σ1.H ρ1) w2 → vcOps P Γ Δ ops post (σ1.put o.dst (.raw (.bool b)) []) (fun σ2 => σ2.q = false ∧ Q .normal i' σ2) →
  wpOpsIn (rd none) 0 P ops (fun e a' w' => ∃ i' σ', Q e i' σ' ∧ ItS J i' σ' a' w') (List.range' (pre.length + 1) post.length) (a1.put o.dst (.bool b)) w2 := fun i' hj3 h3 => by
  have := vcOps_pre T.tab T.gab hst (r := none) (ops := ops) (Q := fun e a' w' => ∃ i' σ', Q e i' σ' ∧ ItS J i' σ' a' w') (K := fun σ2 => σ2.q = false ∧ Q .normal i' σ2) [] (fun σ2 a2 w3 ρ2 hk hs4 => ⟨i', σ2, hk.2, ItS.step hJ hj3 hs4 hk.1⟩) post (pre.length + 1) _ _ w2 ρ1 (by rw [hops]; simp) hs3 h3
  simpa using this
 cases b with
 | true => exact fin _ hj2 h1
 | false => exact fin _ hj2 h2
def retI (xs : Nat → Option (List V)) : Exit → Option Nat → St → Prop
 | .normal, i, _ => ∀ n, i = some n → xs n = none
 | .ret, i, _ => ∀ n, i = some n → xs n = none
 | _, _, _ => False
theorem SeqC.of_it {g : FuncId} {fn : Func} {c : Code} {caps : List V} (hf : P.funcs[g]? = some fn) (hb : fn.body = some c) {N0 : Nat} (hn : fn.ntmps = N0) (hres : fn.results = #[]) (hN : caps.length + 1 ≤ N0) {L : Nat}
 (h : ∀ l N J, N ≤ L → JOk P l N xs J → AIt P J c (retI xs) (some 0) (st0 (.raw (.func (.yield l) #[] #[]) :: caps) N0)) : SeqC P g caps L xs := by
 subst hn
 intro C w vs hl hr hC l N J hN1 hJ h0
 refine callsIn_of_wp hf hb trivial ?_ rfl
 have hs := sim0 (B := C) (w := w) (vs := .func (.yield l) #[] #[] :: vs) (args := .raw (.func (.yield l) #[] #[]) :: caps) (N := fn.ntmps) (by simp [hl]) (fun j x v hj hv => by
  cases j with
  | zero => simp at hj hv; subst hj hv; exact RepW.raw rfl
  | succ j => exact hr j x v (by simpa using hj) (by simpa using hv)) (by simpa using hN)
 have hT : tof (st0 (.raw (.func (.yield l) #[] #[]) :: caps) fn.ntmps).H (fun _ => none) = fun _ => False := by
  funext b
  simp [tof, st0]
 have key := h l N J hN1 hJ _ w ⟨C, _, hs.rebase rfl (Nat.zero_le _), by rw [hT]; exact h0, rfl⟩
 have harr : (Value.func (.yield l) #[] #[] :: vs).toArray = #[Value.func (.yield l) #[] #[]] ++ vs.toArray := by apply Array.ext'; simp
 rw [harr] at key
 refine wpIn_mono key ?_
 rintro e a' w' ⟨i', σ', hq, C', ρ', hs', hj', hq'⟩
 have fin : (∀ n, i' = some n → xs n = none) → a'.defers = [] ∧ ∃ v, (results fn a'.tmps).run P w' = .ok v w' ∧ (∃ u, Ending.returned v = .returned u) ∧ ∃ C' T', J none C' T' w' ∨ ∃ i, xs i = none ∧ J (some i) C' T' w' := fun hq => by
  refine ⟨hs'.defers hq', .tuple #[], by simp [results, hres, Sem.run_bind, Sem.run_pure], ⟨.tuple #[], rfl⟩, C', tof σ'.H ρ', ?_⟩
  cases i' with
  | none => exact .inl hj'
  | some n => exact .inr ⟨n, hq n rfl, hj'⟩
 cases e with
 | normal => exact fin hq
 | ret => exact fin hq
 | exit id => exact hq.elim
 | goto l => exact hq.elim
 | panic c => exact hq.elim
 | outgrown => exact hq.elim
end
end Go.Proofs.YtfbogelmgdojgaaGreat

