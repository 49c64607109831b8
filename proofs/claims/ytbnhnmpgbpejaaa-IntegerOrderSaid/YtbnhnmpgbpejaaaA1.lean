/- Abstract values and what they stand for in a world. No program in sight. -/
import Derived.Test.YtbnhnmpgbpejaaaBase
import Derived.Handy
import Derived.Lib.Hide
namespace Go.Proofs.Ytbnhnmpgbpejaaa
set_option linter.unusedSimpArgs false
set_option linter.unusedVariables false
open Go.RowKit

/-- An abstract value. -/
inductive V where
  | any
  | raw (v : Value)
  | agg (l : List V)
  | tup (l : List V)
  | lst (l : List V)
  | emp
  | I (z : Int)
  | Q (q : Rat)
  | ptr (k e i off : Nat)
  | sl (k e o n : Nat)
  | pel (x : V)
  | clo (fn : Fn) (first caps : List V)

abbrev V.int (k : IntKind) (n : Int) : V := .raw (.int k n)
abbrev V.bool (b : Bool) : V := .raw (.bool b)
abbrev V.str (s : ByteArray) : V := .raw (.string s)
/-- Limbs. -/
def V.limbs (l : List Nat) : List V := l.map fun (x : Nat) => V.raw (.int .u32 (x : Int))

def V.atomsI (z : Int) : List V := [.raw (.bool (decide (z < 0))), .lst (V.limbs (dg z.natAbs))]
mutual
def V.atoms : V → List V
  | .agg l => V.atomsL l
  | .I z => V.atomsI z
  | .Q q => V.atomsI q.num ++ V.atomsI q.den
  | .any => [.any]
  | .raw v => [.raw v]
  | .tup l => [.tup l]
  | .lst l => [.lst l]
  | .emp => [.emp]
  | .ptr k e i off => [.ptr k e i off]
  | .sl k e o n => [.sl k e o n]
  | .pel x => [.pel x]
  | .clo f a b => [.clo f a b]
def V.atomsL : List V → List V
  | [] => []
  | x :: l => x.atoms ++ V.atomsL l
end
/-- Is it a struct or an array by value. -/
def V.isAgg : V → Bool
  | .agg _ | .I _ | .Q _ => true
  | _ => false
/-- How many cells it takes. -/
def V.wid (x : V) : Nat := x.atoms.length

theorem V.atomsL_append (l m : List V) : V.atomsL (l ++ m) = V.atomsL l ++ V.atomsL m := by
  induction l with
  | nil => rfl
  | cons x l ih => simp [V.atomsL, ih]
theorem V.atoms_single {x : V} (h : x.isAgg = false) : x.atoms = [x] := by
  cases x <;> first | rfl | (simp [V.isAgg] at h)
theorem V.atomsL_length {l : List V} {e : Nat} (h : ∀ x ∈ l, x.wid = e) : (V.atomsL l).length = l.length * e := by
  induction l with
  | nil => simp [V.atomsL]
  | cons x l ih =>
    have h1 := h x (by simp)
    have h2 := ih fun y hy => h y (by simp [hy])
    unfold V.wid at h1
    simp only [V.atomsL, List.length_append, h1, h2, List.length_cons, Nat.add_mul]; omega
theorem V.atomsL_get {l : List V} {e : Nat} (h : ∀ x ∈ l, x.wid = e) {i : Nat} {x : V} (hi : l[i]? = some x) {j : Nat} (hj : j < e) :
    (V.atomsL l)[i * e + j]? = x.atoms[j]? := by
  induction l generalizing i with
  | nil => simp at hi
  | cons y l ih =>
    have h1 : y.atoms.length = e := h y (by simp)
    cases i with
    | zero =>
      simp only [List.getElem?_cons_zero, Option.some.injEq] at hi
      subst hi
      simp only [V.atomsL, Nat.zero_mul, Nat.zero_add]
      rw [List.getElem?_append_left (by omega)]
    | succ i =>
      simp only [List.getElem?_cons_succ] at hi
      have := ih (fun z hz => h z (by simp [hz])) hi
      simp only [V.atomsL]
      rw [List.getElem?_append_right (by rw [h1, Nat.add_mul]; omega), h1, ← this]
      congr 1
      rw [Nat.add_mul]; omega

/-- The cells of a value, as the model has them. -/
def ShapeOk (x : V) (v : Value) : Prop := (x.isAgg = true → ∃ cs, v = .agg cs) ∧ (x.isAgg = false → v.cells = #[v]) ∧ x.atoms.length = v.cells.size

/-- The cells from a on in block b hold vs. -/
def Stored (w : World) (b a : Nat) (vs : List Value) : Prop := ∀ j v, vs[j]? = some v → w.cell? ⟨b, a + j, none⟩ = some v

inductive RepA (w : World) (O : Nat → Prop) : (Nat → Option Nat) → V → Value → Prop
  | any (ρ : Nat → Option Nat) (v : Value) : RepA w O ρ .any v
  | raw (ρ : Nat → Option Nat) (v : Value) : RepA w O ρ (.raw v) v
  | emp (ρ : Nat → Option Nat) (A : Option Addr) : RepA w O ρ .emp (.slice A 0 0)
  | ptr (ρ : Nat → Option Nat) (k e i off b : Nat) (h : ρ k = some b) : RepA w O ρ (.ptr k e i off) (.pointer (some ⟨b, i * e + off, none⟩))
  | sl (ρ : Nat → Option Nat) (k e o n b c : Nat) (arr : Array Value) (t : TypeId) (fr : Nat × Nat) (h : ρ k = some b) (hb : w.heap[b]? = some (.cells arr t fr)) (hn : n ≤ c) (hc : (o + c) * e ≤ arr.size) : RepA w O ρ (.sl k e o n) (.slice (some ⟨b, o * e, none⟩) n c)
  | nil (ρ : Nat → Option Nat) (A : Option Addr) (c : Nat) : RepA w O ρ (.lst []) (.slice A 0 c)
  | lst (ρ : Nat → Option Nat) (l : List V) (b a c : Nat) (vs : List Value) (h0 : l ≠ []) (hc : l.length ≤ c) (hb : b < w.heap.size) (hO : ¬ O b) (hu : ∃ e, ∀ x ∈ l, V.wid x = e) (hs : Stored w b a vs)
      (hl : vs.length = (V.atomsL l).length) (hr : ∀ (j : Nat) (x : V) (v : Value), (V.atomsL l)[j]? = some x → vs[j]? = some v → RepA w O (fun _ => none) x v) : RepA w O ρ (.lst l) (.slice (some ⟨b, a, none⟩) l.length c)
  | pel (ρ : Nat → Option Nat) (x : V) (b a : Nat) (vs : List Value) (hb : b < w.heap.size) (hO : ¬ O b) (hs : Stored w b a vs)
      (hl : vs.length = x.atoms.length) (hr : ∀ (j : Nat) (y : V) (v : Value), x.atoms[j]? = some y → vs[j]? = some v → RepA w O (fun _ => none) y v) : RepA w O ρ (.pel x) (.pointer (some ⟨b, a, none⟩))
  | clo (ρ : Nat → Option Nat) (fn : Fn) (first caps : List V) (vf vc : Array Value) (h1 : first.length = vf.size) (h2 : caps.length = vc.size)
      (s1 : ∀ (j : Nat) (x : V) (v : Value), first[j]? = some x → vf[j]? = some v → ShapeOk x v) (s2 : ∀ (j : Nat) (x : V) (v : Value), caps[j]? = some x → vc[j]? = some v → ShapeOk x v)
      (r1 : ∀ (j : Nat) (x : V) (v : Value), first[j]? = some x → vf[j]? = some v → ∀ (i : Nat) (y : V) (u : Value), x.atoms[i]? = some y → v.cells[i]? = some u → RepA w O ρ y u)
      (r2 : ∀ (j : Nat) (x : V) (v : Value), caps[j]? = some x → vc[j]? = some v → ∀ (i : Nat) (y : V) (u : Value), x.atoms[i]? = some y → v.cells[i]? = some u → RepA w O ρ y u) :
      RepA w O ρ (.clo fn first caps) (.func fn vf vc)

/-- A value that is no tuple. -/
def RepW (w : World) (O : Nat → Prop) (ρ : Nat → Option Nat) (x : V) (v : Value) : Prop :=
  x = .any ∨ (ShapeOk x v ∧ ∀ (i : Nat) (y : V) (u : Value), x.atoms[i]? = some y → v.cells[i]? = some u → RepA w O ρ y u)
def RepV (w : World) (O : Nat → Prop) (ρ : Nat → Option Nat) : V → Value → Prop
  | .tup l, v => ∃ vs : Array Value, v = .tuple vs ∧ l.length = vs.size ∧ ∀ (j : Nat) (y : V) (u : Value), l[j]? = some y → vs[j]? = some u → RepW w O ρ y u
  | x, v => RepW w O ρ x v

/-- What a step may do: names stay, what is not owned stays, rows keep their lengths. -/
structure Ext (w : World) (O : Nat → Prop) (ρ : Nat → Option Nat) (w' : World) (O' : Nat → Prop) (ρ' : Nat → Option Nat) : Prop where
  map : ∀ k b, ρ k = some b → ρ' k = some b
  kept : ∀ b, b < w.heap.size → ¬ O b → ¬ O' b ∧ w'.heap[b]? = w.heap[b]?
  size : w.heap.size ≤ w'.heap.size
  row : ∀ (b : Nat) (arr : Array Value) (t : TypeId) (fr : Nat × Nat), w.heap[b]? = some (.cells arr t fr) → ∃ (arr' : Array Value) (t' : TypeId) (fr' : Nat × Nat), w'.heap[b]? = some (.cells arr' t' fr') ∧ arr'.size = arr.size

theorem Ext.refl (w : World) (O : Nat → Prop) (ρ : Nat → Option Nat) : Ext w O ρ w O ρ :=
  ⟨fun _ _ h => h, fun _ _ h => ⟨h, rfl⟩, Nat.le_refl _, fun _ _ _ _ h => ⟨_, _, _, h, rfl⟩⟩
theorem Ext.trans {w O ρ w' O' ρ' w'' O'' ρ''} (h : Ext w O ρ w' O' ρ') (k : Ext w' O' ρ' w'' O'' ρ'') : Ext w O ρ w'' O'' ρ'' := by
  refine ⟨fun a b e => k.map _ _ (h.map _ _ e), fun b hb hO => ?_, Nat.le_trans h.size k.size, fun b arr t fr e => ?_⟩
  · obtain ⟨h1, h2⟩ := h.kept b hb hO
    obtain ⟨k1, k2⟩ := k.kept b (Nat.lt_of_lt_of_le hb h.size) h1
    exact ⟨k1, k2.trans h2⟩
  · obtain ⟨a1, t1, f1, e1, s1⟩ := h.row b arr t fr e
    obtain ⟨a2, t2, f2, e2, s2⟩ := k.row b a1 t1 f1 e1
    exact ⟨a2, t2, f2, e2, s2.trans s1⟩
/-- The names without any owned one. -/
theorem Ext.nones {w O ρ w' O' ρ'} (h : Ext w O ρ w' O' ρ') : Ext w O (fun _ => none) w' O' (fun _ => none) :=
  ⟨fun _ _ e => by simp at e, h.kept, h.size, h.row⟩
theorem Ext.into {w O w' O'} (h : Ext w O (fun _ => none) w' O' (fun _ => none)) (ρ) : Ext w O (fun _ => none) w' O' ρ :=
  ⟨fun _ _ e => by simp at e, h.kept, h.size, h.row⟩
theorem Stored.keep {w w' : World} {b a : Nat} {vs : List Value} (h : Stored w b a vs) (e : w'.heap[b]? = w.heap[b]?) : Stored w' b a vs := fun j v hj => by
  rw [← h j v hj]; unfold World.cell?; rw [e]
theorem RepA.mono {w O ρ x v} (h : RepA w O ρ x v) : ∀ {w' O' ρ'}, Ext w O ρ w' O' ρ' → RepA w' O' ρ' x v := by
  induction h with
  | any ρ v => intros; exact .any _ _
  | raw ρ v => intros; exact .raw _ _
  | emp ρ A => intros; exact .emp _ _
  | ptr ρ k e i off b h => intro w' O' ρ' hx; exact .ptr _ _ _ _ _ _ (hx.map _ _ h)
  | sl ρ k e o n b c arr t fr h hb hn hc =>
    intro w' O' ρ' hx
    obtain ⟨arr', t', fr', hb', hs⟩ := hx.row _ _ _ _ hb
    exact .sl _ _ _ _ _ _ _ arr' t' fr' (hx.map _ _ h) hb' hn (by omega)
  | nil ρ A c => intros; exact .nil _ _ _
  | lst ρ l b a c vs h0 hc hb hO hu hs hl hr ih =>
    intro w' O' ρ' hx
    obtain ⟨h1, h2⟩ := hx.kept b hb hO
    exact .lst _ _ _ _ _ vs h0 hc (Nat.lt_of_lt_of_le hb hx.size) h1 hu (hs.keep h2) hl fun j x v hj hv => ih j x v hj hv hx.nones
  | pel ρ x b a vs hb hO hs hl hr ih =>
    intro w' O' ρ' hx
    obtain ⟨h1, h2⟩ := hx.kept b hb hO
    exact .pel _ _ _ _ vs (Nat.lt_of_lt_of_le hb hx.size) h1 (hs.keep h2) hl fun j x v hj hv => ih j x v hj hv hx.nones
  | clo ρ fn first caps vf vc h1 h2 s1 s2 r1 r2 i1 i2 =>
    intro w' O' ρ' hx
    exact .clo _ _ _ _ _ _ h1 h2 s1 s2 (fun j x v hj hv i y u hy hu => i1 j x v hj hv i y u hy hu hx) (fun j x v hj hv i y u hy hu => i2 j x v hj hv i y u hy hu hx)
theorem RepW.mono {w O ρ x v w' O' ρ'} (h : RepW w O ρ x v) (hx : Ext w O ρ w' O' ρ') : RepW w' O' ρ' x v := by
  rcases h with h | ⟨h1, h2⟩
  · exact .inl h
  · exact .inr ⟨h1, fun i y u hy hu => (h2 i y u hy hu).mono hx⟩
theorem RepV.of_W {w O ρ x v} (h : RepW w O ρ x v) (ht : ∀ l, x ≠ .tup l) : RepV w O ρ x v := by
  cases x <;> first | exact h | exact absurd rfl (ht _)
theorem RepV.mono {w O ρ x v w' O' ρ'} (h : RepV w O ρ x v) (hx : Ext w O ρ w' O' ρ') : RepV w' O' ρ' x v := by
  cases x
  case tup l => obtain ⟨vs, e, hl, hr⟩ := h; exact ⟨vs, e, hl, fun j y u hy hu => (hr j y u hy hu).mono hx⟩
  all_goals exact RepW.mono h hx

/-- Of an atom. -/
theorem cells_single {v : Value} (h : ∀ cs, v ≠ .agg cs) : v.cells = #[v] := by
  cases v <;> first | rfl | exact absurd rfl (h _)
theorem RepA.notAgg {w O ρ x v} (h : RepA w O ρ x v) (hx : x ≠ .any) (hr : ∀ u, x ≠ .raw u) (ha : x.isAgg = false) : v.cells = #[v] := by
  cases h <;> first | rfl | exact absurd rfl hx | exact absurd rfl (hr _) | (simp [V.isAgg] at ha)
theorem RepW.atom {w O ρ x v} (h : RepW w O ρ x v) (ha : x.isAgg = false) : RepA w O ρ x v := by
  rcases h with rfl | ⟨⟨_, h1, h2⟩, h3⟩
  · exact .any _ _
  · have e := V.atoms_single ha
    refine h3 0 x v (by rw [e]; rfl) ?_
    rw [h1 ha]; rfl
theorem RepW.of_atom {w O ρ x v} (h : RepA w O ρ x v) (ha : x.isAgg = false) (hv : v.cells = #[v]) : RepW w O ρ x v := by
  have e := V.atoms_single ha
  refine .inr ⟨⟨fun h' => by rw [ha] at h'; simp at h', fun _ => hv, by rw [e, hv]; rfl⟩, fun i y u hy hu => ?_⟩
  rw [e] at hy
  rw [hv] at hu
  cases i with
  | zero => simp at hy hu; subst hy hu; exact h
  | succ i => simp at hy
theorem RepW.raw {w O ρ v} (hv : v.cells = #[v]) : RepW w O ρ (.raw v) v := RepW.of_atom (.raw _ _) rfl hv
theorem RepW.raw_inv {w O ρ u v} (h : RepW w O ρ (.raw u) v) : v = u := by
  have := h.atom rfl
  cases this; rfl
theorem RepW.rawOf {w O ρ u v} (h : RepA w O ρ (.raw u) v) : v = u := by cases h; rfl
/-- Of a struct or an array by value: only its atoms count. -/
theorem RepW.agg_iff {w O ρ x v} (ha : x.isAgg = true) : RepW w O ρ x v ↔ ∃ cs : Array Value, v = .agg cs ∧ x.atoms.length = cs.size ∧ ∀ (i : Nat) (y : V) (u : Value), x.atoms[i]? = some y → cs[i]? = some u → RepA w O ρ y u := by
  constructor
  · rintro (rfl | ⟨⟨h1, _, h2⟩, h3⟩)
    · simp [V.isAgg] at ha
    · obtain ⟨cs, rfl⟩ := h1 ha
      exact ⟨cs, rfl, h2, h3⟩
  · rintro ⟨cs, rfl, h2, h3⟩
    exact .inr ⟨⟨fun _ => ⟨_, rfl⟩, fun h => by rw [ha] at h; simp at h, h2⟩, h3⟩
theorem RepW.congr {w O ρ x y v} (h : RepW w O ρ x v) (hx : x.isAgg = true) (hy : y.isAgg = true) (e : x.atoms = y.atoms) : RepW w O ρ y v := by
  rw [RepW.agg_iff hx] at h
  rw [RepW.agg_iff hy, ← e]
  exact h
/-- Fewer owned blocks: it stands all the same. -/
theorem Ext.less {w O O' ρ} (h : ∀ b, O' b → O b) : Ext w O ρ w O' ρ :=
  ⟨fun _ _ e => e, fun b _ hO => ⟨fun h' => hO (h b h'), rfl⟩, Nat.le_refl _, fun _ _ _ _ h => ⟨_, _, _, h, rfl⟩⟩
end Go.Proofs.Ytbnhnmpgbpejaaa
