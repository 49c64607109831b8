/- Texts A3 A4 in one. -/
import Derived.Test.YtfbogelmgdojgaaGreatR00
/- Abstract operations on memory: what they give, and that the program's operations do so. -/
namespace Go.Proofs.YtfbogelmgdojgaaGreat
set_option linter.unusedSimpArgs false
set_option linter.unusedVariables false
open Go.RowKit

def OpOk (P : Program) (B : Nat → Prop) (H : Hp) (w : World) (ρ : Nat → Option Nat) (n : Nat) (a : Act) (o : Oper) (x : V) (ws : List (Nat × Option Blk)) : Prop :=
 ∀ (next : Act → World → Prop) (Q : Exit → Act → World → Prop),
  (∀ v w' ρ', Step H w ρ (H.puts ws) w' ρ' → HRep w' (own B ρ' (H.puts ws)) ρ' (H.puts ws) → (∀ k, k ≠ n → ρ k = none → ρ' k = none) → RepV w' (own B ρ' (H.puts ws)) ρ' x v → next (a.put o.dst v) w') → o.wp P a w next Q

section
variable {P : Program} {B : Nat → Prop} {H : Hp} {w : World} {ρ : Nat → Option Nat} {n : Nat} {a : Act} {o : Oper} {x : V}
theorem OpOk.value {v : Value} (hH : HRep w (own B ρ H) ρ H) (hf : ρ n = none) (hr : (execOp a.eval o).run P w = .ok (.value v) w) (hx : RepV w (own B ρ H) ρ x v) : OpOk P B H w ρ n a o x [] := by
 intro next Q h
 unfold Oper.wp
 rw [hr]
 exact h v w ρ (Step.refl _ _ _) hH (fun _ _ h => h) hx

def upR (ρ : Nat → Option Nat) (n b : Nat) : Nat → Option Nat := fun k => if k = n then some b else ρ k
theorem upR_old {b : Nat} (hn : ρ n = none) {k c : Nat} (h : ρ k = some c) : upR ρ n b k = some c := by
 unfold upR
 by_cases e : k = n
 ·subst e; rw [hn] at h; cases h
 ·rw [if_neg e]; exact h
theorem HRep.lt {O} (hH : HRep w O ρ H) {k x b} (h : H k = some x) (e : ρ k = some b) : b < w.heap.size := by
 obtain ⟨b', arr, h1, h2, _⟩ := hH.row k x h
 rw [e] at h1; injection h1 with h1; subst h1
 exact (Array.getElem?_eq_some_iff.1 h2).1
theorem step_push {w' : World} {obj : Obj} {y : Option Blk} (hH : HRep w (own B ρ H) ρ H) (hf : ρ n = none) (h1 : w'.heap = w.heap.push obj) (h2 : w'.os = w.os) (h3 : w'.tape = w.tape) (h4 : w'.output = w.output) :
 Step H w ρ (H.up n y) w' (upR ρ n w.heap.size) := by
 have old : ∀ b, b < w.heap.size → w'.heap[b]? = w.heap[b]? := fun b hb => by
  rw [h1, Array.getElem?_push, if_neg (by omega)]
 refine ⟨fun k b e => upR_old (hf) e, fun b hb _ => old b hb, fun k x b e1 e2 => ?_, by rw [h1]; simp, fun b arr t fr e => ⟨arr, t, fr, by rw [old b (Array.getElem?_eq_some_iff.1 e).1]; exact e, rfl⟩, h2, h3, h4⟩
 by_cases e : k = n
 ·subst e
  simp only [upR, if_true] at e2
  injection e2 with e2
  exact .inr (by omega)
 ·simp only [Hp.up, if_neg e] at e1
  simp only [upR, if_neg e] at e2
  exact .inl ⟨k, x, e1, e2⟩
theorem hrep_push {w' : World} {arr : Array Value} {t : TypeId} {e : Nat} {l : List V} (hH : HRep w (own B ρ H) ρ H) (hf : ρ n = none) (h1 : w'.heap = w.heap.push (.cells arr t)) (h2 : w'.os = w.os) (h3 : w'.tape = w.tape) (h4 : w'.output = w.output)
 (hw : ∀ y ∈ l, y.wid = e) (hl : (V.atomsL l).length ≤ arr.size) (hr : ∀ (j : Nat) (y : V) (u : Value), (V.atomsL l)[j]? = some y → arr[j]? = some u → RepA w (own B ρ H) ρ y u) :
 HRep w' (own B (upR ρ n w.heap.size) (H.up n (some ⟨t, e, l⟩))) (upR ρ n w.heap.size) (H.up n (some ⟨t, e, l⟩)) := by
 have hst := step_push (y := some ⟨t, e, l⟩) hH hf h1 h2 h3 h4
 have hx := hst.ext B
 refine ⟨fun k x hk => ?_, fun k k' x x' b e1 e2 e3 e4 => ?_⟩
 ·by_cases ek : k = n
  ·subst ek
   simp only [Hp.up, if_true, Option.some.injEq] at hk
   subst hk
   refine ⟨w.heap.size, arr, by simp [upR], by rw [h1]; simp, hw, hl, fun j y u hy hu => (hr j y u hy hu).mono hx⟩
  ·simp only [Hp.up, if_neg ek] at hk
   obtain ⟨b, ar, g1, g2, g3, g4, g5⟩ := hH.row k x hk
   refine ⟨b, ar, upR_old (hf) g1, ?_, g3, g4, fun j y u hy hu => (g5 j y u hy hu).mono hx⟩
   rw [h1, Array.getElem?_push, if_neg (by have := (Array.getElem?_eq_some_iff.1 g2).1; omega)]
   exact g2
 ·by_cases ek : k = n <;> by_cases ek' : k' = n
  ·rw [ek, ek']
  ·subst ek
   simp only [upR, if_true] at e3
   injection e3 with e3
   simp only [Hp.up, if_neg ek'] at e2
   simp only [upR, if_neg ek'] at e4
   have := hH.lt e2 e4
   omega
  ·subst ek'
   simp only [upR, if_true] at e4
   injection e4 with e4
   simp only [Hp.up, if_neg ek] at e1
   simp only [upR, if_neg ek] at e3
   have := hH.lt e1 e3
   omega
  ·simp only [Hp.up, if_neg ek] at e1
   simp only [Hp.up, if_neg ek'] at e2
   simp only [upR, if_neg ek] at e3
   simp only [upR, if_neg ek'] at e4
   exact hH.inj k k' x x' b e1 e2 e3 e4
theorem upR_fresh {b : Nat} : ∀ k, k ≠ n → ρ k = none → upR ρ n b k = none := fun k hk h => by
 unfold upR
 rw [if_neg hk]
 exact h
theorem OpOk.push {v : Value} {w' : World} {arr : Array Value} {t : TypeId} {e : Nat} {l : List V} (hH : HRep w (own B ρ H) ρ H) (hf : ρ n = none) (hr : (execOp a.eval o).run P w = .ok (.value v) w')
 (h1 : w'.heap = w.heap.push (.cells arr t)) (h2 : w'.os = w.os) (h3 : w'.tape = w.tape) (h4 : w'.output = w.output)
 (hw : ∀ y ∈ l, y.wid = e) (hl : (V.atomsL l).length ≤ arr.size) (hc : ∀ (j : Nat) (y : V) (u : Value), (V.atomsL l)[j]? = some y → arr[j]? = some u → RepA w (own B ρ H) ρ y u)
 (hx : ∀ O ρ', ρ' n = some w.heap.size → RepV w' O ρ' x v) : OpOk P B H w ρ n a o x [(n, some ⟨t, e, l⟩)] := by
 intro next Q h
 unfold Oper.wp
 rw [hr]
 exact h v w' (upR ρ n w.heap.size) (step_push hH hf h1 h2 h3 h4) (hrep_push hH hf h1 h2 h3 h4 hw hl hc) upR_fresh (hx _ _ (by simp [upR]))

theorem step_row {k b : Nat} {x : Blk} {arr arr' : Array Value} {y : Option Blk} (hH : HRep w (own B ρ H) ρ H) (hk : H k = some x) (hb : ρ k = some b) (ha : w.heap[b]? = some (.cells arr x.t (0, 0))) (hs : arr'.size = arr.size) :
 Step H w ρ (H.up k y) (w.setRow b arr') ρ := by
 refine ⟨fun _ _ e => e, fun c hc hn => setRow_other _ _ _ _ (fun e => hn k x hk (by rw [e]; exact hb)), fun j z c e1 e2 => ?_, by simp [World.setRow], fun c ar t fr e => ?_, rfl, rfl, rfl⟩
 ·by_cases e : j = k
  ·subst e; exact .inl ⟨j, x, hk, e2⟩
  ·simp only [Hp.up, if_neg e] at e1; exact .inl ⟨j, z, e1, e2⟩
 ·by_cases e' : c = b
  ·subst e'
   rw [ha] at e
   injection e with e
   injection e with e1 e2 e3
   exact ⟨arr', x.t, (0, 0), setRow_heap _ _ _ _ _ _ ha, by rw [hs, e1]⟩
  ·exact ⟨ar, t, fr, (setRow_other _ _ _ _ e').trans e, rfl⟩
theorem hrep_row {k b : Nat} {x y : Blk} {arr arr' : Array Value} (hH : HRep w (own B ρ H) ρ H) (hk : H k = some x) (hb : ρ k = some b) (ha : w.heap[b]? = some (.cells arr x.t (0, 0))) (hs : arr'.size = arr.size)
 (ht : y.t = x.t) (hw : ∀ z ∈ y.l, z.wid = y.e) (hl : (V.atomsL y.l).length ≤ arr'.size) (hc : ∀ (j : Nat) (z : V) (u : Value), (V.atomsL y.l)[j]? = some z → arr'[j]? = some u → RepA w (own B ρ H) ρ z u) :
 HRep (w.setRow b arr') (own B ρ (H.up k (some y))) ρ (H.up k (some y)) := by
 have hst := step_row (y := some y) hH hk hb ha hs
 have hx := hst.ext B
 refine ⟨fun j z hj => ?_, fun j j' z z' c e1 e2 e3 e4 => ?_⟩
 ·by_cases e : j = k
  ·subst e
   simp only [Hp.up, if_true, Option.some.injEq] at hj
   subst hj
   exact ⟨b, arr', hb, by rw [ht]; exact setRow_heap _ _ _ _ _ _ ha, hw, hl, fun i z u hz hu => (hc i z u hz hu).mono hx⟩
  ·simp only [Hp.up, if_neg e] at hj
   obtain ⟨c, ar, g1, g2, g3, g4, g5⟩ := hH.row j z hj
   refine ⟨c, ar, g1, (setRow_other _ _ _ _ ?_).trans g2, g3, g4, fun i z u hz hu => (g5 i z u hz hu).mono hx⟩
   intro e'
   subst e'
   exact e (hH.inj j k z x c hj hk g1 hb)
 ·have live : ∀ i q, (H.up k (some y)) i = some q → ∃ q', H i = some q' := fun i q hi => by
   by_cases e : i = k
   ·subst e; exact ⟨x, hk⟩
   ·simp only [Hp.up, if_neg e] at hi; exact ⟨q, hi⟩
  obtain ⟨q, hq⟩ := live j z e1
  obtain ⟨q', hq'⟩ := live j' z' e2
  exact hH.inj j j' q q' c hq hq' e3 e4
theorem OpOk.row {k b : Nat} {x0 y : Blk} {arr arr' : Array Value} {nx : Next} {v : Value} (hH : HRep w (own B ρ H) ρ H) (hf : ρ n = none) (hk : H k = some x0) (hb : ρ k = some b) (ha : w.heap[b]? = some (.cells arr x0.t (0, 0)))
 (hnx : nx = .value v ∨ (nx = .skip ∧ v = undef)) (hr : (execOp a.eval o).run P w = .ok nx (w.setRow b arr')) (hs : arr'.size = arr.size)
 (ht : y.t = x0.t) (hw : ∀ z ∈ y.l, z.wid = y.e) (hl : (V.atomsL y.l).length ≤ arr'.size) (hc : ∀ (j : Nat) (z : V) (u : Value), (V.atomsL y.l)[j]? = some z → arr'[j]? = some u → RepA w (own B ρ H) ρ z u)
 (hx : ∀ w' O, RepV w' O ρ x v) : OpOk P B H w ρ n a o x [(k, some y)] := by
 intro next Q h
 have h1 := h v (w.setRow b arr') ρ (step_row hH hk hb ha hs) (hrep_row hH hk hb ha hs ht hw hl hc) (fun _ _ h => h) (hx _ _)
 unfold Oper.wp
 rw [hr]
 rcases hnx with rfl | ⟨rfl, rfl⟩
 ·exact h1
 ·exact h1
end

def V.kids : V → List V
 | .agg l => l
 | .I z => V.atomsI z
 | .Q q => [.I q.num, .I q.den]
 | x => [x]
theorem V.atoms_kids (x : V) : V.atomsL x.kids = x.atoms := by
 cases x <;> simp [V.kids, V.atomsL, V.atoms, V.atomsI]
def pickL (g : V → Nat → Option V) : List V → Nat → Option V
 | [], _ => none
 | c :: cs, off => if off < c.wid then g c off else pickL g cs (off - c.wid)
def V.subF : Nat → V → Nat → Nat → Option V
 | 0, _, _, _ => none
 | f + 1, x, off, s => if off = 0 ∧ x.isAgg = true ∧ x.wid = s then some x else pickL (fun c o => V.subF f c o s) x.kids off
def V.sub (x : V) (off s : Nat) : V := (V.subF 4 x off s).getD (.agg ((x.atoms.drop off).take s))

theorem pickL_spec {g : V → Nat → Option V} {s : Nat} (hg : ∀ c o y, g c o = some y → y.isAgg = true ∧ y.atoms = (c.atoms.drop o).take s ∧ o + s ≤ c.wid) : ∀ (l : List V) (off : Nat) (y : V), pickL g l off = some y →
 y.isAgg = true ∧ y.atoms = ((V.atomsL l).drop off).take s ∧ off + s ≤ (V.atomsL l).length
 | [], _, _, h => by simp [pickL] at h
 | c :: cs, off, y, h => by
   unfold pickL at h
   by_cases hlt : off < c.wid
   ·rw [if_pos hlt] at h
    obtain ⟨h1, h2, h3⟩ := hg c off y h
    unfold V.wid at hlt h3
    refine ⟨h1, ?_, by simp [V.atomsL]; omega⟩
    rw [h2, V.atomsL, List.drop_append_of_le_length (by omega), List.take_append_of_le_length (by rw [List.length_drop]; omega)]
   ·rw [if_neg hlt] at h
    obtain ⟨h1, h2, h3⟩ := pickL_spec hg cs (off - c.wid) y h
    unfold V.wid at hlt h2 h3
    refine ⟨h1, ?_, by simp [V.atomsL]; omega⟩
    rw [h2, V.atomsL, List.drop_append, List.drop_eq_nil_of_le (by omega : c.atoms.length ≤ off), List.nil_append]
theorem V.subF_spec : ∀ (f : Nat) (x : V) (off s : Nat) (y : V), V.subF f x off s = some y → y.isAgg = true ∧ y.atoms = (x.atoms.drop off).take s ∧ off + s ≤ x.wid
 | 0, _, _, _, _, h => by simp [V.subF] at h
 | f + 1, x, off, s, y, h => by
   unfold V.subF at h
   by_cases hc : off = 0 ∧ x.isAgg = true ∧ x.wid = s
   ·rw [if_pos hc] at h
    injection h with h
    subst h
    obtain ⟨rfl, h2, rfl⟩ := hc
    exact ⟨h2, by simp [V.wid], by omega⟩
   ·rw [if_neg hc] at h
    have := pickL_spec (g := fun c o => V.subF f c o s) (fun c o y hy => V.subF_spec f c o s y hy) x.kids off y h
    rw [V.atoms_kids] at this
    exact this
theorem V.atomsL_flat {l : List V} (h : ∀ y ∈ l, y.isAgg = false) : V.atomsL l = l := by
 induction l with
 | nil => rfl
 | cons x l ih => rw [V.atomsL, V.atoms_single (h x (by simp)), ih fun y hy => h y (by simp [hy])]; rfl
mutual
theorem V.atoms_flat : ∀ (x : V), ∀ y ∈ x.atoms, y.isAgg = false
 | .agg l, y, h => V.atomsL_flat' l y h
 | .I z, y, h => by simp [V.atoms, V.atomsI] at h; rcases h with rfl | rfl <;> rfl
 | .Q q, y, h => by simp [V.atoms, V.atomsI] at h; rcases h with h | h | h | h <;> subst h <;> rfl
 | .any, y, h => by simp [V.atoms] at h; subst h; rfl
 | .raw v, y, h => by simp [V.atoms] at h; subst h; rfl
 | .tup l, y, h => by simp [V.atoms] at h; subst h; rfl
 | .lst l, y, h => by simp [V.atoms] at h; subst h; rfl
 | .emp, y, h => by simp [V.atoms] at h; subst h; rfl
 | .ptr .., y, h => by simp [V.atoms] at h; subst h; rfl
 | .sl .., y, h => by simp [V.atoms] at h; subst h; rfl
 | .pel x, y, h => by simp [V.atoms] at h; subst h; rfl
 | .clo .., y, h => by simp [V.atoms] at h; subst h; rfl
theorem V.atomsL_flat' : ∀ (l : List V), ∀ y ∈ V.atomsL l, y.isAgg = false
 | [], y, h => by simp [V.atomsL] at h
 | x :: l, y, h => by
   simp only [V.atomsL, List.mem_append] at h
   rcases h with h | h
   ·exact V.atoms_flat x y h
   ·exact V.atomsL_flat' l y h
end
theorem V.sub_spec (x : V) (off s : Nat) : (V.sub x off s).isAgg = true ∧ (V.sub x off s).atoms = (x.atoms.drop off).take s := by
 unfold V.sub
 cases h : V.subF 4 x off s with
 | some y => obtain ⟨h1, h2, _⟩ := V.subF_spec 4 x off s y h; exact ⟨h1, h2⟩
 | none =>
   refine ⟨rfl, ?_⟩
   show V.atomsL _ = _
   exact V.atomsL_flat fun y hy => V.atoms_flat x y (List.mem_of_mem_drop (List.mem_of_mem_take hy))

def putL (g : V → Nat → Option V) : List V → Nat → Option (List V)
 | [], _ => none
 | c :: cs, off => if off < c.wid then (g c off).map (· :: cs) else (putL g cs (off - c.wid)).map (c :: ·)
def V.putF : Nat → V → Nat → V → Option V
 | 0, _, _, _ => none
 | f + 1, x, off, y => if off = 0 ∧ x.wid = y.wid then some y else if x.isAgg = true then (putL (fun c o => V.putF f c o y) x.kids off).map .agg else none
def V.put (x : V) (off : Nat) (y : V) : V := (V.putF 4 x off y).getD (.agg (x.atoms.take off ++ y.atoms ++ x.atoms.drop (off + y.wid)))
theorem putL_spec {g : V → Nat → Option V} {y : V} (hg : ∀ c o z, g c o = some z → z.atoms = c.atoms.take o ++ y.atoms ++ c.atoms.drop (o + y.wid) ∧ o + y.wid ≤ c.wid) : ∀ (l : List V) (off : Nat) (m : List V), putL g l off = some m →
 V.atomsL m = (V.atomsL l).take off ++ y.atoms ++ (V.atomsL l).drop (off + y.wid) ∧ off + y.wid ≤ (V.atomsL l).length
 | [], _, _, h => by simp [putL] at h
 | c :: cs, off, m, h => by
   unfold putL at h
   by_cases hlt : off < c.wid
   ·rw [if_pos hlt] at h
    cases hz : g c off with
    | none => rw [hz] at h; simp at h
    | some z =>
      rw [hz] at h
      simp only [Option.map_some, Option.some.injEq] at h
      subst h
      obtain ⟨h2, h3⟩ := hg c off z hz
      unfold V.wid at hlt h3 h2 ⊢
      refine ⟨?_, by simp [V.atomsL]; omega⟩
      simp only [V.atomsL]
      rw [h2, List.take_append_of_le_length (by omega), List.drop_append_of_le_length (by omega)]
      simp only [List.append_assoc]
   ·rw [if_neg hlt] at h
    cases hz : putL g cs (off - c.wid) with
    | none => rw [hz] at h; simp at h
    | some z =>
      rw [hz] at h
      simp only [Option.map_some, Option.some.injEq] at h
      subst h
      obtain ⟨h2, h3⟩ := putL_spec hg cs (off - c.wid) z hz
      unfold V.wid at hlt h3 h2 ⊢
      refine ⟨?_, by simp [V.atomsL]; omega⟩
      simp only [V.atomsL]
      rw [h2, List.take_append, List.take_of_length_le (by omega : c.atoms.length ≤ off), List.drop_append, List.drop_eq_nil_of_le (by omega : c.atoms.length ≤ off + y.atoms.length)]
      simp only [List.nil_append, List.append_assoc]
      rw [show off + y.atoms.length - c.atoms.length = off - c.atoms.length + y.atoms.length from by omega]
theorem V.putF_spec : ∀ (f : Nat) (x : V) (off : Nat) (y z : V), V.putF f x off y = some z → z.atoms = x.atoms.take off ++ y.atoms ++ x.atoms.drop (off + y.wid) ∧ off + y.wid ≤ x.wid
 | 0, _, _, _, _, h => by simp [V.putF] at h
 | f + 1, x, off, y, z, h => by
   unfold V.putF at h
   by_cases hc : off = 0 ∧ x.wid = y.wid
   ·rw [if_pos hc] at h
    injection h with h
    subst h
    obtain ⟨rfl, h2⟩ := hc
    unfold V.wid at *
    exact ⟨by simp [← h2], by omega⟩
   ·rw [if_neg hc] at h
    by_cases ha : x.isAgg = true
    ·rw [if_pos ha] at h
     cases hm : putL (fun c o => V.putF f c o y) x.kids off with
     | none => rw [hm] at h; simp at h
     | some m =>
       rw [hm] at h
       simp only [Option.map_some, Option.some.injEq] at h
       subst h
       have := putL_spec (g := fun c o => V.putF f c o y) (fun c o z hz => V.putF_spec f c o y z hz) x.kids off m hm
       rw [V.atoms_kids] at this
       exact this
    ·rw [if_neg ha] at h; cases h
theorem V.put_atoms (x : V) (off : Nat) (y : V) (h : off + y.wid ≤ x.wid) : (V.put x off y).atoms = x.atoms.take off ++ y.atoms ++ x.atoms.drop (off + y.wid) := by
 unfold V.put
 cases hz : V.putF 4 x off y with
 | some z => exact (V.putF_spec 4 x off y z hz).1
 | none =>
   show V.atomsL _ = _
   refine V.atomsL_flat fun z hz => ?_
   simp only [List.mem_append] at hz
   rcases hz with (hz | hz) | hz
   ·exact V.atoms_flat x z (List.mem_of_mem_take hz)
   ·exact V.atoms_flat y z hz
   ·exact V.atoms_flat x z (List.mem_of_mem_drop hz)
theorem V.put_wid (x : V) (off : Nat) (y : V) (h : off + y.wid ≤ x.wid) : (V.put x off y).wid = x.wid := by
 unfold V.wid at *
 rw [V.put_atoms x off y h]
 simp [V.wid]
 omega
end Go.Proofs.YtfbogelmgdojgaaGreat


/- Abstract operations on memory: loads, stores, addresses, new variables. No program in sight. -/
namespace Go.Proofs.YtfbogelmgdojgaaGreat
set_option linter.unusedSimpArgs false
set_option linter.unusedVariables false
open Go.RowKit

def tySize (P : Program) (t : TypeId) : Option Nat := (P.info? t).map (·.size)
def descAgg : TypeDesc → Bool
 | .struct _ | .array _ _ => true
 | _ => false
def tyAgg (P : Program) (t : TypeId) : Option Bool := (P.underlying t).map descAgg
def tyField (P : Program) (t : TypeId) (f : Nat) : Option (Nat × Nat × Bool) :=
 match P.underlying t with
 | some (.struct fs) => match fs[f]? with
   | some fd => match tySize P fd.type, tyAgg P fd.type with
     | some s, some g => some (fd.offset, s, g)
     | _, _ => none
   | none => none
 | _ => none
def tyElem (P : Program) (t : TypeId) : Option (TypeId × Nat) :=
 match P.underlying t with
 | some (.slice e) => (tySize P e).map fun s => (e, s)
 | _ => none
def tyArr (P : Program) (t : TypeId) : Option (Nat × TypeId × Nat) :=
 match P.underlying t with
 | some (.array n e) => (tySize P e).map fun s => (n, e, s)
 | _ => none
def tyZero (P : Program) (t : TypeId) : Option V := (P.info? t).bind fun i => i.zero.map cst
def okStore : V → Bool
 | .any | .tup _ | .raw (.agg _) | .raw (.tuple _) => false
 | _ => true
def V.good (x : V) : Bool := x.atoms.all okStore

section
variable {P : Program} {w : World}
theorem run_size {t s} (h : tySize P t = some s) : (sizeOf t).run P w = .ok s w := by
 unfold tySize at h
 cases hi : P.info? t with
 | none => rw [hi] at h; cases h
 | some i =>
   rw [hi] at h
   simp only [Option.map_some, Option.some.injEq] at h
   simp [sizeOf, typeInfo, hi, h]
theorem run_isAgg {t g} (h : tyAgg P t = some g) : (isAgg t).run P w = .ok g w := by
 unfold tyAgg at h
 cases hd : P.underlying t with
 | none => rw [hd] at h; cases h
 | some d =>
   rw [hd] at h
   simp only [Option.map_some, Option.some.injEq] at h
   subst h
   simp only [isAgg, Sem.run_bind, run_underlying hd, Result.andThen_ok]
   cases d <;> rfl
theorem Stored.cells {b a : Nat} {vs : List Value} (h : Stored w b a vs) : ∀ j v, vs[j]? = some v → w.cell? ((⟨b, a, none⟩ : Addr).add j) = some v := by
 intro j v hj
 rw [Addr.add_lit]
 exact h j v hj
theorem run_loadAt {t s g b a} {vs : List Value} (hs : tySize P t = some s) (hg : tyAgg P t = some g) (h : Stored w b a vs) (hl : vs.length = s) (h1 : g = false → 0 < s) :
 (Instr.loadAt t (.pointer (some ⟨b, a, none⟩))).run P w = .ok (if g = true then .agg vs.toArray else vs.getD 0 undef) w := by
 simp only [Instr.loadAt, Instr.sureAddr, Sem.run_bind, Sem.run_pure, Result.andThen_ok, loadVar, run_isAgg hg]
 cases g with
 | true =>
   subst hl
   simp [run_size hs, run_loadCells_list w _ vs h.cells]
 | false =>
   have hp := h1 rfl
   have hc := h 0 vs[0] (List.getElem?_eq_getElem (by omega))
   simp only [Nat.add_zero] at hc
   simp [run_load, hc, List.getD_eq_getElem?_getD, List.getElem?_eq_getElem (show 0 < vs.length by omega)]
end

section
variable {w : World} {O : Nat → Prop} {ρ : Nat → Option Nat}
theorem RepA.one {x v} (h : RepA w O ρ x v) (ha : x.isAgg = false) (hk : okStore x = true) : v.oneCell' = true := by
 cases h with
 | raw _ v => cases v <;> first | rfl | simp [okStore] at hk
 | any => simp [okStore] at hk
 | _ => rfl
theorem RepA.toW {x v} (h : RepA w O ρ x v) (ha : x.isAgg = false) (hk : okStore x = true) : RepW w O ρ x v := by
 refine RepW.of_atom h ha (cells_single ?_)
 have := h.one ha hk
 rintro cs rfl
 simp [Value.oneCell'] at this
theorem row_part {b : Nat} {arr : Array Value} {t : TypeId} {fr} {l : List V} {e i off s : Nat} {x : V} (ha : w.heap[b]? = some (.cells arr t fr)) (hw : ∀ y ∈ l, y.wid = e) (hl : (V.atomsL l).length ≤ arr.size)
 (hr : ∀ (j : Nat) (y : V) (u : Value), (V.atomsL l)[j]? = some y → arr[j]? = some u → RepA w O ρ y u) (hi : l[i]? = some x) (hs : off + s ≤ e) :
 ∃ vs : List Value, vs.length = s ∧ Stored w b (i * e + off) vs ∧ ∀ (j : Nat) (y : V) (v : Value), ((x.atoms.drop off).take s)[j]? = some y → vs[j]? = some v → RepA w O ρ y v := by
 have hlen := V.atomsL_length hw
 have hil : i < l.length := (List.getElem?_eq_some_iff.1 hi).1
 have hbig : i * e + e ≤ l.length * e := by
  have := Nat.mul_le_mul_right e (show i + 1 ≤ l.length by omega)
  rw [Nat.add_mul] at this; omega
 refine ⟨(arr.toList.drop (i * e + off)).take s, ?_, ?_, ?_⟩
 ·rw [List.length_take, List.length_drop]; simp; omega
 ·intro j v hj
  rw [List.getElem?_take] at hj
  split at hj
  ·rw [List.getElem?_drop] at hj
   simp only [World.cell?, ha, Option.isSome_none, Bool.false_eq_true, if_false]
   simpa using hj
  ·cases hj
 ·intro j y v hy hv
  rw [List.getElem?_take] at hy hv
  split at hy
  ·rename_i hjs
   rw [if_pos hjs] at hv
   rw [List.getElem?_drop] at hy hv
   refine hr (i * e + off + j) y v ?_ (by simpa using hv)
   rw [Nat.add_assoc, V.atomsL_get hw hi (by omega), hy]
  ·cases hy
end

def ldV (P : Program) (t : TypeId) (x : V) (off : Nat) : Option V :=
 match tySize P t, tyAgg P t with
 | some s, some true => if off + s ≤ x.wid then some (x.sub off s) else none
 | some _, some false => match x.atoms[off]? with
   | some y => if okStore y = true then some y else none
   | none => none
 | _, _ => none

section
variable {P : Program} {w : World} {O : Nat → Prop} {ρ : Nat → Option Nat}
theorem load_ok {t b a} {x y : V} {off : Nat} (h : ldV P t x off = some y) (hp : ∀ s, off + s ≤ x.wid → ∃ vs : List Value, vs.length = s ∧ Stored w b a vs ∧ ∀ (j : Nat) (y : V) (v : Value), ((x.atoms.drop off).take s)[j]? = some y → vs[j]? = some v → RepA w O ρ y v) :
 (∀ l, y ≠ .tup l) ∧ ∃ v, (Instr.loadAt t (.pointer (some ⟨b, a, none⟩))).run P w = .ok v w ∧ RepW w O ρ y v := by
 unfold ldV at h
 cases hs : tySize P t with
 | none => rw [hs] at h; cases h
 | some s =>
   cases hg : tyAgg P t with
   | none => rw [hs, hg] at h; cases h
   | some g =>
     rw [hs, hg] at h
     cases g with
     | true =>
       simp only at h
       by_cases hc : off + s ≤ x.wid
       ·rw [if_pos hc] at h
        injection h with h
        subst h
        obtain ⟨vs, hl, hst, hr⟩ := hp s hc
        obtain ⟨g1, g2⟩ := V.sub_spec x off s
        refine ⟨fun l e => by rw [e] at g1; simp [V.isAgg] at g1, _, run_loadAt hs hg hst hl (by simp), ?_⟩
        refine (RepW.agg_iff g1).2 ⟨vs.toArray, rfl, ?_, ?_⟩
        ·rw [g2, List.length_take, List.length_drop]; unfold V.wid at hc; simp; omega
        ·intro i z u hz hu
         rw [g2] at hz
         exact hr i z u hz (by simpa using hu)
       ·rw [if_neg hc] at h; cases h
     | false =>
       simp only at h
       cases hy : x.atoms[off]? with
       | none => rw [hy] at h; cases h
       | some z =>
         rw [hy] at h
         simp only at h
         by_cases hk : okStore z = true
         ·rw [if_pos hk] at h
          injection h with h
          subst h
          have hlt : off < x.atoms.length := (List.getElem?_eq_some_iff.1 hy).1
          have hflat := V.atoms_flat x z (List.mem_of_getElem? hy)
          obtain ⟨vs, hl, hst, hr⟩ := hp 1 (by unfold V.wid; omega)
          have hv0 : vs[0]? = some (vs.getD 0 undef) := by
           rw [List.getD_eq_getElem?_getD, List.getElem?_eq_getElem (by omega)]; rfl
          have hra := hr 0 z _ (by rw [List.getElem?_take, if_pos (by omega), List.getElem?_drop]; exact hy) hv0
          refine ⟨fun l e => by subst e; simp [okStore] at hk, vs.getD 0 undef, ?_, hra.toW hflat hk⟩
          have hc := hst 0 _ hv0
          simp only [Nat.add_zero] at hc
          simp [Instr.loadAt, Instr.sureAddr, loadVar, run_isAgg hg, run_load, hc]
         ·rw [if_neg hk] at h; cases h
end

section
variable {P : Program} {B : Nat → Prop} {H : Hp} {w : World} {ρ : Nat → Option Nat} {n : Nat} {a : Act} {o : Oper}
def aLoad (P : Program) (H : Hp) (t : TypeId) (p : V) (k : V → List (Nat × Option Blk) → List Nat → Prop) : Prop :=
 match p with
 | .ptr b e i off => match H b with
   | some x => x.e = e ∧ (match x.l[i]? with
     | some y => (match ldV P t y off with
       | some z => k z [] [b]
       | none => False)
     | none => False)
   | none => False
 | .pel x => (match ldV P t x 0 with
   | some z => k z [] []
   | none => False)
 | _ => False
theorem aLoad_ok {t : TypeId} {p : V} {u : Value} {k} (hH : HRep w (own B ρ H) ρ H) (hp : RepV w (own B ρ H) ρ p u) (h : aLoad P H t p k) :
 ∃ z rs, k z [] rs ∧ ∃ v, (Instr.loadAt t u).run P w = .ok v w ∧ RepV w (own B ρ H) ρ z v := by
 unfold aLoad at h
 split at h
 ·rename_i b e i off
  have hpa := RepW.atom hp (by rfl)
  cases hpa with
  | ptr _ _ _ _ _ c hc =>
  split at h
  ·rename_i x hx
   obtain ⟨rfl, h⟩ := h
   split at h
   ·rename_i y hy
    split at h
    ·rename_i z hz
     obtain ⟨b', arr, g1, g2, g3, g4, g5⟩ := hH.row _ _ hx
     rw [hc] at g1
     injection g1 with g1
     subst g1
     have hwid : y.wid = x.e := g3 y (List.mem_of_getElem? hy)
     obtain ⟨hnt, v, hr, hv⟩ := load_ok (P := P) (w := w) (b := c) (a := i * x.e + off) hz fun s hs => row_part g2 g3 g4 g5 hy (by rw [hwid] at hs; exact hs)
     exact ⟨z, _, h, v, hr, RepV.of_W hv hnt⟩
    ·exact h.elim
   ·exact h.elim
  ·exact h.elim
 ·rename_i x
  split at h
  ·rename_i z hz
   have hpa := RepW.atom hp (by rfl)
   cases hpa with
   | pel _ _ c a' vs hb hO hs hl hr =>
   obtain ⟨hnt, v, hr', hv⟩ := load_ok (P := P) (w := w) (O := own B ρ H) (ρ := ρ) (b := c) (a := a') hz fun s hs' => by
    refine ⟨vs.take s, by rw [List.length_take, hl]; unfold V.wid at hs'; omega, fun j v hj => ?_, fun j y v hy hv => ?_⟩
    ·rw [List.getElem?_take] at hj
     split at hj
     ·exact hs j v hj
     ·cases hj
    ·rw [List.drop_zero, List.getElem?_take] at hy
     rw [List.getElem?_take] at hv
     split at hy
     ·rename_i hjs
      rw [if_pos hjs] at hv
      exact (hr j y v hy hv).mono ((Ext.refl _ _ _).into ρ)
     ·cases hy
   exact ⟨z, _, h, v, hr', RepV.of_W hv hnt⟩
  ·exact h.elim
 ·exact h.elim

theorem good_cells {O} {x : V} {v : Value} (hg : x.good = true) (hx : RepV w O ρ x v) : v.cells.size = x.wid ∧ (∀ (i : Nat) (y : V) (u : Value), x.atoms[i]? = some y → v.cells[i]? = some u → RepA w O ρ y u) ∧ ∀ u ∈ v.cells.toList, u.oneCell' = true := by
 have hW : RepW w O ρ x v := by
  cases x <;> first | exact hx | (simp [V.good, V.atoms, okStore] at hg)
 rcases hW with rfl | ⟨⟨_, _, h1⟩, h2⟩
 ·simp [V.good, V.atoms, okStore] at hg
 ·refine ⟨h1.symm, h2, fun u hu => ?_⟩
  obtain ⟨i, hi⟩ := List.getElem?_of_mem hu
  have hil : i < x.atoms.length := by rw [h1]; have := (List.getElem?_eq_some_iff.1 hi).1; simpa using this
  have hy := List.getElem?_eq_getElem hil
  refine (h2 i _ u hy (by simpa using hi)).one (V.atoms_flat x _ (List.getElem_mem hil)) ?_
  unfold V.good at hg
  exact List.all_eq_true.1 hg _ (List.getElem_mem hil)
def aStore (P : Program) (H : Hp) (t : TypeId) (p x : V) (k : V → List (Nat × Option Blk) → List Nat → Prop) : Prop :=
 match p with
 | .ptr b e i off => match H b with
   | some y => y.e = e ∧ (match y.l[i]? with
     | some z => tySize P t = some x.wid ∧ x.good = true ∧ off + x.wid ≤ z.wid ∧ k (.raw undef) [(b, some ⟨y.t, y.e, y.l.set i (z.put off x)⟩)] [b]
     | none => False)
   | none => False
 | _ => False
theorem aStore_ok {t : TypeId} {p x : V} {u v : Value} {k} (hH : HRep w (own B ρ H) ρ H) (hf : ρ n = none) (hp : RepV w (own B ρ H) ρ p u) (hx : RepV w (own B ρ H) ρ x v) (h : aStore P H t p x k)
 (he : ∀ w1, (Instr.storeAt t u v).run P w = .ok () w1 → (execOp a.eval o).run P w = .ok .skip w1) :
 ∃ z ws rs, k z ws rs ∧ OpOk P B H w ρ n a o z ws := by
 unfold aStore at h
 split at h
 ·rename_i b e i off
  have hpa := RepW.atom hp (by rfl)
  cases hpa with
  | ptr _ _ _ _ _ c hc =>
  split at h
  ·rename_i y hy
   obtain ⟨rfl, h⟩ := h
   split at h
   ·rename_i z hz
    obtain ⟨hsz, hg, hfit, h⟩ := h
    refine ⟨_, _, _, h, ?_⟩
    obtain ⟨b', arr, g1, g2, g3, g4, g5⟩ := hH.row _ _ hy
    rw [hc] at g1
    injection g1 with g1
    subst g1
    obtain ⟨c1, c2, c3⟩ := good_cells hg hx
    have hwid : z.wid = y.e := g3 z (List.mem_of_getElem? hz)
    have hil : i < y.l.length := (List.getElem?_eq_some_iff.1 hz).1
    have hlen := V.atomsL_length g3
    have hbig : i * y.e + y.e ≤ y.l.length * y.e := by
     have := Nat.mul_le_mul_right y.e (show i + 1 ≤ y.l.length by omega)
     rw [Nat.add_mul] at this; omega
    have hrun := run_storeCells_at P c (i * y.e + off) y.t v.cells.toList 0 arr w g2 (by simp only [Nat.add_zero, Array.length_toList, c1]; omega) c3
    simp only [Nat.add_zero, Array.length_toList, c1] at hrun
    have hput := V.put_atoms z off x hfit
    have hnew : ∀ q ∈ y.l.set i (z.put off x), q.wid = y.e := fun q hq => by
     rcases List.mem_or_eq_of_mem_set hq with hq | rfl
     ·exact g3 q hq
     ·rw [V.put_wid z off x hfit, hwid]
    have hlen' := V.atomsL_length hnew
    rw [List.length_set] at hlen'
    refine OpOk.row (arr' := (List.take (i * y.e + off) arr.toList ++ v.cells.toList ++ List.drop (i * y.e + off + x.wid) arr.toList).toArray) (y := ⟨y.t, y.e, y.l.set i (z.put off x)⟩) hH hf hy hc g2 (.inr ⟨rfl, rfl⟩) (he _ ?_) ?_ rfl hnew ?_ ?_ (fun _ _ => RepW.raw rfl)
    ·simp only [Instr.storeAt, Instr.sureAddr, Sem.run_bind, Sem.run_pure, Result.andThen_ok, storeVar, run_size hsz]
     rw [if_neg (by rw [c1]; simp)]
     exact hrun
    ·simp only [List.size_toArray, List.length_append, List.length_take, List.length_drop, Array.length_toList, c1]
     omega
    ·simp only [List.size_toArray, List.length_append, List.length_take, List.length_drop, Array.length_toList, c1]
     show (V.atomsL (y.l.set i (z.put off x))).length ≤ _
     omega
    ·intro j q u' hq hu'
     change (V.atomsL (y.l.set i (z.put off x)))[j]? = some q at hq
     have hjl : j < (V.atomsL (y.l.set i (z.put off x))).length := (List.getElem?_eq_some_iff.1 hq).1
     have hepos : 0 < y.e := by
      rcases Nat.eq_zero_or_pos y.e with e0 | e0
      ·rw [hlen', e0] at hjl; omega
      ·exact e0
     have hdm : j / y.e * y.e + j % y.e = j := by rw [Nat.mul_comm]; exact Nat.div_add_mod j y.e
     have hmod : j % y.e < y.e := Nat.mod_lt _ hepos
     have hdl : j / y.e < y.l.length := by
      rw [Nat.div_lt_iff_lt_mul hepos]; omega
     generalize hdj : j / y.e = d at *
     generalize hmj : j % y.e = m at *
     rw [← hdm] at hq hu'
     simp only [List.getElem?_toArray] at hu'
     by_cases hdi : d = i
     ·subst hdi
      rw [V.atomsL_get hnew (i := d) (x := z.put off x) (by rw [List.getElem?_set_self hil]) hmod, hput] at hq
      by_cases hm1 : m < off
      ·rw [List.append_assoc, List.getElem?_append_left (by rw [List.length_take]; unfold V.wid at hwid; omega), List.getElem?_take, if_pos hm1] at hq
       rw [List.append_assoc, List.getElem?_append_left (by rw [List.length_take]; simp; omega), List.getElem?_take, if_pos (by omega)] at hu'
       refine g5 (d * y.e + m) q u' ?_ (by simpa using hu')
       rw [V.atomsL_get g3 hz hmod]; exact hq
      ·by_cases hm2 : m < off + x.wid
       ·rw [List.getElem?_append_left (by simp only [List.length_append, List.length_take]; unfold V.wid at *; omega), List.getElem?_append_right (by rw [List.length_take]; omega), List.length_take] at hq
        rw [List.getElem?_append_left (by simp only [List.length_append, List.length_take, Array.length_toList, c1]; omega), List.getElem?_append_right (by rw [List.length_take]; omega), List.length_take] at hu'
        refine c2 (m - off) q u' ?_ ?_
        ·rw [← hq]; congr 1; unfold V.wid at hwid; omega
        ·rw [← hu']; simp only [Array.length_toList, Array.getElem?_toList]; congr 1; omega
       ·rw [List.getElem?_append_right (by simp only [List.length_append, List.length_take]; unfold V.wid at *; omega), List.getElem?_drop] at hq
        rw [List.getElem?_append_right (by simp only [List.length_append, List.length_take, Array.length_toList, c1]; omega), List.getElem?_drop] at hu'
        refine g5 (d * y.e + m) q u' ?_ ?_
        ·rw [V.atomsL_get g3 hz hmod, ← hq]; congr 1; simp only [List.length_append, List.length_take]; unfold V.wid at *; omega
        ·rw [← hu']; simp only [List.length_append, List.length_take, Array.length_toList, c1, Array.getElem?_toList]; congr 1; omega
     ·have hld : y.l[d]? = some y.l[d] := List.getElem?_eq_getElem hdl
      rw [V.atomsL_get hnew (i := d) (x := y.l[d]) (by rw [List.getElem?_set_ne (fun e => hdi e.symm)]; exact hld) hmod] at hq
      refine g5 (d * y.e + m) q u' ?_ ?_
      ·rw [V.atomsL_get g3 hld hmod]; exact hq
      ·rcases Nat.lt_or_ge d i with hlt | hge
       ·have hb1 : d * y.e + y.e ≤ i * y.e := by
         have := Nat.mul_le_mul_right y.e (show d + 1 ≤ i by omega)
         rw [Nat.add_mul] at this; omega
        rw [List.append_assoc, List.getElem?_append_left (by rw [List.length_take]; simp; omega), List.getElem?_take, if_pos (by omega)] at hu'
        simpa using hu'
       ·have hb1 : i * y.e + y.e ≤ d * y.e := by
         have := Nat.mul_le_mul_right y.e (show i + 1 ≤ d by omega)
         rw [Nat.add_mul] at this; omega
        rw [List.getElem?_append_right (by simp only [List.length_append, List.length_take, Array.length_toList, c1]; omega), List.getElem?_drop] at hu'
        rw [← hu']; simp only [List.length_append, List.length_take, Array.length_toList, c1, Array.getElem?_toList]; congr 1; omega
   ·exact h.elim
  ·exact h.elim
 ·exact h.elim
end
end Go.Proofs.YtfbogelmgdojgaaGreat

