/- Abstract operations on memory: what they give, and that the program's operations do so. -/
import Derived.Test.YtbnhnmpgbpejaaaA2
namespace Go.Proofs.Ytbnhnmpgbpejaaa
set_option linter.unusedSimpArgs false
set_option linter.unusedVariables false
open Go.RowKit

/-- What an operation gives: a value, and what it does to the abstract heap. -/
def OpOk (P : Program) (B : Nat → Prop) (H : Hp) (w : World) (ρ : Nat → Option Nat) (n : Nat) (a : Act) (o : Oper) (x : V) (ws : List (Nat × Option Blk)) : Prop :=
  ∀ (next : Act → World → Prop) (Q : Exit → Act → World → Prop),
    (∀ v w' ρ', Step H w ρ (H.puts ws) w' ρ' → HRep w' (own B ρ' (H.puts ws)) ρ' (H.puts ws) → (∀ k, k ≠ n → ρ k = none → ρ' k = none) → RepV w' (own B ρ' (H.puts ws)) ρ' x v → next (a.put o.dst v) w') → o.wp P a w next Q

section
variable {P : Program} {B : Nat → Prop} {H : Hp} {w : World} {ρ : Nat → Option Nat} {n : Nat} {a : Act} {o : Oper} {x : V}
theorem OpOk.value {v : Value} (hH : HRep w (own B ρ H) ρ H) (hf : ρ n = none) (hr : (execOp a.eval o).run P w = .ok (.value v) w) (hx : RepV w (own B ρ H) ρ x v) : OpOk P B H w ρ n a o x [] := by
  intro next Q h
  unfold Oper.wp
  rw [hr]
  exact h v w ρ (Step.refl _ _ _) hH (fun _ _ h => h) hx

/-- A new name. -/
def upR (ρ : Nat → Option Nat) (n b : Nat) : Nat → Option Nat := fun k => if k = n then some b else ρ k
theorem upR_old {b : Nat} (hn : ρ n = none) {k c : Nat} (h : ρ k = some c) : upR ρ n b k = some c := by
  unfold upR
  by_cases e : k = n
  · subst e; rw [hn] at h; cases h
  · rw [if_neg e]; exact h
theorem name_none {O} (hH : HRep w O ρ H) (hn : ρ n = none) : H n = none := by
  cases h : H n with
  | none => rfl
  | some x => obtain ⟨b, arr, h1, _⟩ := hH.row n x h; rw [hn] at h1; cases h1
theorem HRep.lt {O} (hH : HRep w O ρ H) {k x b} (h : H k = some x) (e : ρ k = some b) : b < w.heap.size := by
  obtain ⟨b', arr, h1, h2, _⟩ := hH.row k x h
  rw [e] at h1; injection h1 with h1; subst h1
  exact (Array.getElem?_eq_some_iff.1 h2).1
theorem step_push {w' : World} {obj : Obj} {y : Option Blk} (hH : HRep w (own B ρ H) ρ H) (hf : ρ n = none) (h1 : w'.heap = w.heap.push obj) (h2 : w'.os = w.os) (h3 : w'.tape = w.tape) (h4 : w'.output = w.output) :
    Step H w ρ (H.up n y) w' (upR ρ n w.heap.size) := by
  have old : ∀ b, b < w.heap.size → w'.heap[b]? = w.heap[b]? := fun b hb => by
    rw [h1, Array.getElem?_push, if_neg (by omega)]
  refine ⟨fun k b e => upR_old (hf) e, fun b hb _ => old b hb, fun k x b e1 e2 => ?_, by rw [h1]; simp, fun b arr t fr e => ⟨arr, t, fr, by rw [old b (Array.getElem?_eq_some_iff.1 e).1]; exact e, rfl⟩, h2, h3, h4⟩
  by_cases e : k = n
  · subst e
    simp only [upR, if_true] at e2
    injection e2 with e2
    exact .inr (by omega)
  · simp only [Hp.up, if_neg e] at e1
    simp only [upR, if_neg e] at e2
    exact .inl ⟨k, x, e1, e2⟩
theorem hrep_push {w' : World} {arr : Array Value} {t : TypeId} {e : Nat} {l : List V} (hH : HRep w (own B ρ H) ρ H) (hf : ρ n = none) (h1 : w'.heap = w.heap.push (.cells arr t)) (h2 : w'.os = w.os) (h3 : w'.tape = w.tape) (h4 : w'.output = w.output)
    (hw : ∀ y ∈ l, y.wid = e) (hl : (V.atomsL l).length ≤ arr.size) (hr : ∀ (j : Nat) (y : V) (u : Value), (V.atomsL l)[j]? = some y → arr[j]? = some u → RepA w (own B ρ H) ρ y u) :
    HRep w' (own B (upR ρ n w.heap.size) (H.up n (some ⟨t, e, l⟩))) (upR ρ n w.heap.size) (H.up n (some ⟨t, e, l⟩)) := by
  have hst := step_push (y := some ⟨t, e, l⟩) hH hf h1 h2 h3 h4
  have hx := hst.ext B
  refine ⟨fun k x hk => ?_, fun k k' x x' b e1 e2 e3 e4 => ?_⟩
  · by_cases ek : k = n
    · subst ek
      simp only [Hp.up, if_true, Option.some.injEq] at hk
      subst hk
      refine ⟨w.heap.size, arr, by simp [upR], by rw [h1]; simp, hw, hl, fun j y u hy hu => (hr j y u hy hu).mono hx⟩
    · simp only [Hp.up, if_neg ek] at hk
      obtain ⟨b, ar, g1, g2, g3, g4, g5⟩ := hH.row k x hk
      refine ⟨b, ar, upR_old (hf) g1, ?_, g3, g4, fun j y u hy hu => (g5 j y u hy hu).mono hx⟩
      rw [h1, Array.getElem?_push, if_neg (by have := (Array.getElem?_eq_some_iff.1 g2).1; omega)]
      exact g2
  · by_cases ek : k = n <;> by_cases ek' : k' = n
    · rw [ek, ek']
    · subst ek
      simp only [upR, if_true] at e3
      injection e3 with e3
      simp only [Hp.up, if_neg ek'] at e2
      simp only [upR, if_neg ek'] at e4
      have := hH.lt e2 e4
      omega
    · subst ek'
      simp only [upR, if_true] at e4
      injection e4 with e4
      simp only [Hp.up, if_neg ek] at e1
      simp only [upR, if_neg ek] at e3
      have := hH.lt e1 e3
      omega
    · simp only [Hp.up, if_neg ek] at e1
      simp only [Hp.up, if_neg ek'] at e2
      simp only [upR, if_neg ek] at e3
      simp only [upR, if_neg ek'] at e4
      exact hH.inj k k' x x' b e1 e2 e3 e4
theorem upR_fresh {b : Nat} : ∀ k, k ≠ n → ρ k = none → upR ρ n b k = none := fun k hk h => by
  unfold upR
  rw [if_neg hk]
  exact h
/-- A new row. -/
theorem OpOk.push {v : Value} {w' : World} {arr : Array Value} {t : TypeId} {e : Nat} {l : List V} (hH : HRep w (own B ρ H) ρ H) (hf : ρ n = none) (hr : (execOp a.eval o).run P w = .ok (.value v) w')
    (h1 : w'.heap = w.heap.push (.cells arr t)) (h2 : w'.os = w.os) (h3 : w'.tape = w.tape) (h4 : w'.output = w.output)
    (hw : ∀ y ∈ l, y.wid = e) (hl : (V.atomsL l).length ≤ arr.size) (hc : ∀ (j : Nat) (y : V) (u : Value), (V.atomsL l)[j]? = some y → arr[j]? = some u → RepA w (own B ρ H) ρ y u)
    (hx : ∀ O ρ', ρ' n = some w.heap.size → RepV w' O ρ' x v) : OpOk P B H w ρ n a o x [(n, some ⟨t, e, l⟩)] := by
  intro next Q h
  unfold Oper.wp
  rw [hr]
  exact h v w' (upR ρ n w.heap.size) (step_push hH hf h1 h2 h3 h4) (hrep_push hH hf h1 h2 h3 h4 hw hl hc) upR_fresh (hx _ _ (by simp [upR]))

/-- A row is written. -/
theorem step_row {k b : Nat} {x : Blk} {arr arr' : Array Value} {y : Option Blk} (hH : HRep w (own B ρ H) ρ H) (hk : H k = some x) (hb : ρ k = some b) (ha : w.heap[b]? = some (.cells arr x.t (0, 0))) (hs : arr'.size = arr.size) :
    Step H w ρ (H.up k y) (w.setRow b arr') ρ := by
  refine ⟨fun _ _ e => e, fun c hc hn => setRow_other _ _ _ _ (fun e => hn k x hk (by rw [e]; exact hb)), fun j z c e1 e2 => ?_, by simp [World.setRow], fun c ar t fr e => ?_, rfl, rfl, rfl⟩
  · by_cases e : j = k
    · subst e; exact .inl ⟨j, x, hk, e2⟩
    · simp only [Hp.up, if_neg e] at e1; exact .inl ⟨j, z, e1, e2⟩
  · by_cases e' : c = b
    · subst e'
      rw [ha] at e
      injection e with e
      injection e with e1 e2 e3
      exact ⟨arr', x.t, (0, 0), setRow_heap _ _ _ _ _ _ ha, by rw [hs, e1]⟩
    · exact ⟨ar, t, fr, (setRow_other _ _ _ _ e').trans e, rfl⟩
theorem hrep_row {k b : Nat} {x y : Blk} {arr arr' : Array Value} (hH : HRep w (own B ρ H) ρ H) (hk : H k = some x) (hb : ρ k = some b) (ha : w.heap[b]? = some (.cells arr x.t (0, 0))) (hs : arr'.size = arr.size)
    (ht : y.t = x.t) (hw : ∀ z ∈ y.l, z.wid = y.e) (hl : (V.atomsL y.l).length ≤ arr'.size) (hc : ∀ (j : Nat) (z : V) (u : Value), (V.atomsL y.l)[j]? = some z → arr'[j]? = some u → RepA w (own B ρ H) ρ z u) :
    HRep (w.setRow b arr') (own B ρ (H.up k (some y))) ρ (H.up k (some y)) := by
  have hst := step_row (y := some y) hH hk hb ha hs
  have hx := hst.ext B
  refine ⟨fun j z hj => ?_, fun j j' z z' c e1 e2 e3 e4 => ?_⟩
  · by_cases e : j = k
    · subst e
      simp only [Hp.up, if_true, Option.some.injEq] at hj
      subst hj
      exact ⟨b, arr', hb, by rw [ht]; exact setRow_heap _ _ _ _ _ _ ha, hw, hl, fun i z u hz hu => (hc i z u hz hu).mono hx⟩
    · simp only [Hp.up, if_neg e] at hj
      obtain ⟨c, ar, g1, g2, g3, g4, g5⟩ := hH.row j z hj
      refine ⟨c, ar, g1, (setRow_other _ _ _ _ ?_).trans g2, g3, g4, fun i z u hz hu => (g5 i z u hz hu).mono hx⟩
      intro e'
      subst e'
      exact e (hH.inj j k z x c hj hk g1 hb)
  · have live : ∀ i q, (H.up k (some y)) i = some q → ∃ q', H i = some q' := fun i q hi => by
      by_cases e : i = k
      · subst e; exact ⟨x, hk⟩
      · simp only [Hp.up, if_neg e] at hi; exact ⟨q, hi⟩
    obtain ⟨q, hq⟩ := live j z e1
    obtain ⟨q', hq'⟩ := live j' z' e2
    exact hH.inj j j' q q' c hq hq' e3 e4
theorem OpOk.row {k b : Nat} {x0 y : Blk} {arr arr' : Array Value} {nx : Next} {v : Value} (hH : HRep w (own B ρ H) ρ H) (hf : ρ n = none) (hk : H k = some x0) (hb : ρ k = some b) (ha : w.heap[b]? = some (.cells arr x0.t (0, 0)))
    (hnx : nx = .value v ∨ (nx = .skip ∧ v = undef)) (hr : (execOp a.eval o).run P w = .ok nx (w.setRow b arr')) (hs : arr'.size = arr.size)
    (ht : y.t = x0.t) (hw : ∀ z ∈ y.l, z.wid = y.e) (hl : (V.atomsL y.l).length ≤ arr'.size) (hc : ∀ (j : Nat) (z : V) (u : Value), (V.atomsL y.l)[j]? = some z → arr'[j]? = some u → RepA w (own B ρ H) ρ z u)
    (hx : ∀ w' O, RepV w' O ρ x v) : OpOk P B H w ρ n a o x [(k, some y)] := by
  intro next Q h
  have h1 := h v (w.setRow b arr') ρ (step_row hH hk hb ha hs) (hrep_row hH hk hb ha hs ht hw hl hc) (fun _ _ h => h) (hx _ _)
  unfold Oper.wp
  rw [hr]
  rcases hnx with rfl | ⟨rfl, rfl⟩
  · exact h1
  · exact h1
end

/-- The parts of a value. -/
def V.kids : V → List V
  | .agg l => l
  | .I z => V.atomsI z
  | .Q q => [.I q.num, .I q.den]
  | x => [x]
theorem V.atoms_kids (x : V) : V.atomsL x.kids = x.atoms := by
  cases x <;> simp [V.kids, V.atomsL, V.atoms, V.atomsI]
def pickL (g : V → Nat → Option V) : List V → Nat → Option V
  | [], _ => none
  | c :: cs, off => if off < c.wid then g c off else pickL g cs (off - c.wid)
/-- The struct or array of s cells at a place inside a value. -/
def V.subF : Nat → V → Nat → Nat → Option V
  | 0, _, _, _ => none
  | f + 1, x, off, s => if off = 0 ∧ x.isAgg = true ∧ x.wid = s then some x else pickL (fun c o => V.subF f c o s) x.kids off
def V.sub (x : V) (off s : Nat) : V := (V.subF 4 x off s).getD (.agg ((x.atoms.drop off).take s))

theorem pickL_spec {g : V → Nat → Option V} {s : Nat} (hg : ∀ c o y, g c o = some y → y.isAgg = true ∧ y.atoms = (c.atoms.drop o).take s ∧ o + s ≤ c.wid) : ∀ (l : List V) (off : Nat) (y : V), pickL g l off = some y →
    y.isAgg = true ∧ y.atoms = ((V.atomsL l).drop off).take s ∧ off + s ≤ (V.atomsL l).length
  | [], _, _, h => by simp [pickL] at h
  | c :: cs, off, y, h => by
    unfold pickL at h
    by_cases hlt : off < c.wid
    · rw [if_pos hlt] at h
      obtain ⟨h1, h2, h3⟩ := hg c off y h
      unfold V.wid at hlt h3
      refine ⟨h1, ?_, by simp [V.atomsL]; omega⟩
      rw [h2, V.atomsL, List.drop_append_of_le_length (by omega), List.take_append_of_le_length (by rw [List.length_drop]; omega)]
    · rw [if_neg hlt] at h
      obtain ⟨h1, h2, h3⟩ := pickL_spec hg cs (off - c.wid) y h
      unfold V.wid at hlt h2 h3
      refine ⟨h1, ?_, by simp [V.atomsL]; omega⟩
      rw [h2, V.atomsL, List.drop_append, List.drop_eq_nil_of_le (by omega : c.atoms.length ≤ off), List.nil_append]
theorem V.subF_spec : ∀ (f : Nat) (x : V) (off s : Nat) (y : V), V.subF f x off s = some y → y.isAgg = true ∧ y.atoms = (x.atoms.drop off).take s ∧ off + s ≤ x.wid
  | 0, _, _, _, _, h => by simp [V.subF] at h
  | f + 1, x, off, s, y, h => by
    unfold V.subF at h
    by_cases hc : off = 0 ∧ x.isAgg = true ∧ x.wid = s
    · rw [if_pos hc] at h
      injection h with h
      subst h
      obtain ⟨rfl, h2, rfl⟩ := hc
      exact ⟨h2, by simp [V.wid], by omega⟩
    · rw [if_neg hc] at h
      have := pickL_spec (g := fun c o => V.subF f c o s) (fun c o y hy => V.subF_spec f c o s y hy) x.kids off y h
      rw [V.atoms_kids] at this
      exact this
theorem V.atomsL_flat {l : List V} (h : ∀ y ∈ l, y.isAgg = false) : V.atomsL l = l := by
  induction l with
  | nil => rfl
  | cons x l ih => rw [V.atomsL, V.atoms_single (h x (by simp)), ih fun y hy => h y (by simp [hy])]; rfl
mutual
theorem V.atoms_flat : ∀ (x : V), ∀ y ∈ x.atoms, y.isAgg = false
  | .agg l, y, h => V.atomsL_flat' l y h
  | .I z, y, h => by simp [V.atoms, V.atomsI] at h; rcases h with rfl | rfl <;> rfl
  | .Q q, y, h => by simp [V.atoms, V.atomsI] at h; rcases h with h | h | h | h <;> subst h <;> rfl
  | .any, y, h => by simp [V.atoms] at h; subst h; rfl
  | .raw v, y, h => by simp [V.atoms] at h; subst h; rfl
  | .tup l, y, h => by simp [V.atoms] at h; subst h; rfl
  | .lst l, y, h => by simp [V.atoms] at h; subst h; rfl
  | .emp, y, h => by simp [V.atoms] at h; subst h; rfl
  | .ptr .., y, h => by simp [V.atoms] at h; subst h; rfl
  | .sl .., y, h => by simp [V.atoms] at h; subst h; rfl
  | .pel x, y, h => by simp [V.atoms] at h; subst h; rfl
  | .clo .., y, h => by simp [V.atoms] at h; subst h; rfl
theorem V.atomsL_flat' : ∀ (l : List V), ∀ y ∈ V.atomsL l, y.isAgg = false
  | [], y, h => by simp [V.atomsL] at h
  | x :: l, y, h => by
    simp only [V.atomsL, List.mem_append] at h
    rcases h with h | h
    · exact V.atoms_flat x y h
    · exact V.atomsL_flat' l y h
end
theorem V.sub_spec (x : V) (off s : Nat) : (V.sub x off s).isAgg = true ∧ (V.sub x off s).atoms = (x.atoms.drop off).take s := by
  unfold V.sub
  cases h : V.subF 4 x off s with
  | some y => obtain ⟨h1, h2, _⟩ := V.subF_spec 4 x off s y h; exact ⟨h1, h2⟩
  | none =>
    refine ⟨rfl, ?_⟩
    show V.atomsL _ = _
    exact V.atomsL_flat fun y hy => V.atoms_flat x y (List.mem_of_mem_drop (List.mem_of_mem_take hy))

def putL (g : V → Nat → Option V) : List V → Nat → Option (List V)
  | [], _ => none
  | c :: cs, off => if off < c.wid then (g c off).map (· :: cs) else (putL g cs (off - c.wid)).map (c :: ·)
def V.putF : Nat → V → Nat → V → Option V
  | 0, _, _, _ => none
  | f + 1, x, off, y => if off = 0 ∧ x.wid = y.wid then some y else if x.isAgg = true then (putL (fun c o => V.putF f c o y) x.kids off).map .agg else none
/-- A part of a value is replaced. -/
def V.put (x : V) (off : Nat) (y : V) : V := (V.putF 4 x off y).getD (.agg (x.atoms.take off ++ y.atoms ++ x.atoms.drop (off + y.wid)))
theorem putL_spec {g : V → Nat → Option V} {y : V} (hg : ∀ c o z, g c o = some z → z.atoms = c.atoms.take o ++ y.atoms ++ c.atoms.drop (o + y.wid) ∧ o + y.wid ≤ c.wid) : ∀ (l : List V) (off : Nat) (m : List V), putL g l off = some m →
    V.atomsL m = (V.atomsL l).take off ++ y.atoms ++ (V.atomsL l).drop (off + y.wid) ∧ off + y.wid ≤ (V.atomsL l).length
  | [], _, _, h => by simp [putL] at h
  | c :: cs, off, m, h => by
    unfold putL at h
    by_cases hlt : off < c.wid
    · rw [if_pos hlt] at h
      cases hz : g c off with
      | none => rw [hz] at h; simp at h
      | some z =>
        rw [hz] at h
        simp only [Option.map_some, Option.some.injEq] at h
        subst h
        obtain ⟨h2, h3⟩ := hg c off z hz
        unfold V.wid at hlt h3 h2 ⊢
        refine ⟨?_, by simp [V.atomsL]; omega⟩
        simp only [V.atomsL]
        rw [h2, List.take_append_of_le_length (by omega), List.drop_append_of_le_length (by omega)]
        simp only [List.append_assoc]
    · rw [if_neg hlt] at h
      cases hz : putL g cs (off - c.wid) with
      | none => rw [hz] at h; simp at h
      | some z =>
        rw [hz] at h
        simp only [Option.map_some, Option.some.injEq] at h
        subst h
        obtain ⟨h2, h3⟩ := putL_spec hg cs (off - c.wid) z hz
        unfold V.wid at hlt h3 h2 ⊢
        refine ⟨?_, by simp [V.atomsL]; omega⟩
        simp only [V.atomsL]
        rw [h2, List.take_append, List.take_of_length_le (by omega : c.atoms.length ≤ off), List.drop_append, List.drop_eq_nil_of_le (by omega : c.atoms.length ≤ off + y.atoms.length)]
        simp only [List.nil_append, List.append_assoc]
        rw [show off + y.atoms.length - c.atoms.length = off - c.atoms.length + y.atoms.length from by omega]
theorem V.putF_spec : ∀ (f : Nat) (x : V) (off : Nat) (y z : V), V.putF f x off y = some z → z.atoms = x.atoms.take off ++ y.atoms ++ x.atoms.drop (off + y.wid) ∧ off + y.wid ≤ x.wid
  | 0, _, _, _, _, h => by simp [V.putF] at h
  | f + 1, x, off, y, z, h => by
    unfold V.putF at h
    by_cases hc : off = 0 ∧ x.wid = y.wid
    · rw [if_pos hc] at h
      injection h with h
      subst h
      obtain ⟨rfl, h2⟩ := hc
      unfold V.wid at *
      exact ⟨by simp [← h2], by omega⟩
    · rw [if_neg hc] at h
      by_cases ha : x.isAgg = true
      · rw [if_pos ha] at h
        cases hm : putL (fun c o => V.putF f c o y) x.kids off with
        | none => rw [hm] at h; simp at h
        | some m =>
          rw [hm] at h
          simp only [Option.map_some, Option.some.injEq] at h
          subst h
          have := putL_spec (g := fun c o => V.putF f c o y) (fun c o z hz => V.putF_spec f c o y z hz) x.kids off m hm
          rw [V.atoms_kids] at this
          exact this
      · rw [if_neg ha] at h; cases h
theorem V.put_atoms (x : V) (off : Nat) (y : V) (h : off + y.wid ≤ x.wid) : (V.put x off y).atoms = x.atoms.take off ++ y.atoms ++ x.atoms.drop (off + y.wid) := by
  unfold V.put
  cases hz : V.putF 4 x off y with
  | some z => exact (V.putF_spec 4 x off y z hz).1
  | none =>
    show V.atomsL _ = _
    refine V.atomsL_flat fun z hz => ?_
    simp only [List.mem_append] at hz
    rcases hz with (hz | hz) | hz
    · exact V.atoms_flat x z (List.mem_of_mem_take hz)
    · exact V.atoms_flat y z hz
    · exact V.atoms_flat x z (List.mem_of_mem_drop hz)
theorem V.put_wid (x : V) (off : Nat) (y : V) (h : off + y.wid ≤ x.wid) : (V.put x off y).wid = x.wid := by
  unfold V.wid at *
  rw [V.put_atoms x off y h]
  simp [V.wid]
  omega
end Go.Proofs.Ytbnhnmpgbpejaaa
