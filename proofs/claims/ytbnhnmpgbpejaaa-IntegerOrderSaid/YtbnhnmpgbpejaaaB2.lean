/- Contracts by the shape of the arguments. -/
import Derived.Test.YtbnhnmpgbpejaaaM1
import Derived.Test.YtbnhnmpgbpejaaaA23
namespace Go.Proofs.Ytbnhnmpgbpejaaa
set_option linter.unusedSimpArgs false
set_option linter.unusedVariables false
open Go.RowKit

@[go_sem] theorem out_refl (y : V) : OutEq y y = True := by simp [OutEq.refl]
@[go_sem ↓, go_sem] theorem map_some {α β : Type} (f : α → β) (x : α) : Option.map f (some x) = some (f x) := rfl
@[go_sem ↓, go_sem] theorem map_none {α β : Type} (f : α → β) : Option.map f none = none := rfl
@[go_sem ↓, go_sem] theorem bind_some {α β : Type} (f : α → Option β) (x : α) : Option.bind (some x) f = f x := rfl
@[go_sem ↓, go_sem] theorem bind_none {α β : Type} (f : α → Option β) : Option.bind none f = none := rfl
theorem out_II {a b : Int} (h : a = b) : OutEq (.I a) (.I b) := .inl (by rw [h])
structure Pat (α : Type) where
  p : V → Option (Prop × α)
  val : α → V
  ok : ∀ x c a, p x = some (c, a) → c → OutEq x (val a)
def con0 {R : Type} (f : Prop × R) : List V → Option (Prop × R)
  | [] => some f
  | _ => none
def con1 {R : Type} {α : Type} (A : Pat α) (f : α → Prop × R) : List V → Option (Prop × R)
  | [x] => (A.p x).map fun a => (a.1 ∧ (f a.2).1, (f a.2).2)
  | _ => none
def con2 {R : Type} {α β : Type} (A : Pat α) (B : Pat β) (f : α → β → Prop × R) : List V → Option (Prop × R)
  | [x, y] => (A.p x).bind fun a => (B.p y).map fun b => (a.1 ∧ b.1 ∧ (f a.2 b.2).1, (f a.2 b.2).2)
  | _ => none
def con3 {R : Type} {α β γ : Type} (A : Pat α) (B : Pat β) (C : Pat γ) (f : α → β → γ → Prop × R) : List V → Option (Prop × R)
  | [x, y, z] => (A.p x).bind fun a => (B.p y).bind fun b => (C.p z).map fun c => (a.1 ∧ b.1 ∧ c.1 ∧ (f a.2 b.2 c.2).1, (f a.2 b.2 c.2).2)
  | _ => none
def con4 {R : Type} {α β γ δ : Type} (A : Pat α) (B : Pat β) (C : Pat γ) (D : Pat δ) (f : α → β → γ → δ → Prop × R) : List V → Option (Prop × R)
  | [x, y, z, u] => (A.p x).bind fun a => (B.p y).bind fun b => (C.p z).bind fun c => (D.p u).map fun d => (a.1 ∧ b.1 ∧ c.1 ∧ d.1 ∧ (f a.2 b.2 c.2 d.2).1, (f a.2 b.2 c.2 d.2).2)
  | _ => none
@[go_sem ↓, go_sem] theorem ev_con0 {R : Type} {f : Prop × R} : con0 f [] = some f := rfl
@[go_sem ↓, go_sem] theorem ev_con1 {R : Type} {α : Type} {A : Pat α} {f : α → Prop × R} {x : V} : con1 A f [x] = (A.p x).map fun a => (a.1 ∧ (f a.2).1, (f a.2).2) := rfl
@[go_sem ↓, go_sem] theorem ev_con2 {R : Type} {α β : Type} {A : Pat α} {B : Pat β} {f : α → β → Prop × R} {x y : V} : con2 A B f [x, y] = (A.p x).bind fun a => (B.p y).map fun b => (a.1 ∧ b.1 ∧ (f a.2 b.2).1, (f a.2 b.2).2) := rfl
@[go_sem ↓, go_sem] theorem ev_con3 {R : Type} {α β γ : Type} {A : Pat α} {B : Pat β} {C : Pat γ} {f : α → β → γ → Prop × R} {x y z : V} : con3 A B C f [x, y, z] = (A.p x).bind fun a => (B.p y).bind fun b => (C.p z).map fun c => (a.1 ∧ b.1 ∧ c.1 ∧ (f a.2 b.2 c.2).1, (f a.2 b.2 c.2).2) := rfl
@[go_sem ↓, go_sem] theorem ev_con4 {R : Type} {α β γ δ : Type} {A : Pat α} {B : Pat β} {C : Pat γ} {D : Pat δ} {f : α → β → γ → δ → Prop × R} {x y z u : V} : con4 A B C D f [x, y, z, u] = (A.p x).bind fun a => (B.p y).bind fun b => (C.p z).bind fun c => (D.p u).map fun d => (a.1 ∧ b.1 ∧ c.1 ∧ d.1 ∧ (f a.2 b.2 c.2 d.2).1, (f a.2 b.2 c.2 d.2).2) := rfl
section
variable {P : Program} {g : FuncId} {α β γ δ : Type} {A : Pat α} {B : Pat β} {C : Pat γ} {D : Pat δ}
theorem Ctr.c0 {f : Prop × V} (hc : callable P g = true) (h : f.1 → PCall P g [] f.2) : Ctr P g (con0 f) := ⟨hc, fun args p r e hp => by
  unfold con0 at e
  split at e
  · injection e with e; subst e; exact h hp
  · cases e⟩
theorem Ctr.c1 {f : α → Prop × V} (hc : callable P g = true) (h : ∀ a, (f a).1 → PCall P g [A.val a] (f a).2) : Ctr P g (con1 A f) := ⟨hc, fun args p r e hp => by
  unfold con1 at e
  split at e
  · rename_i x
    rcases ha : A.p x with _ | ⟨c, a⟩ <;> rw [ha] at e
    · cases e
    · injection e with e; injection e with e1 e2; subst e1 e2
      exact (h a hp.2).le ⟨A.ok _ _ _ ha hp.1, trivial⟩
  · cases e⟩
theorem Ctr.c2 {f : α → β → Prop × V} (hc : callable P g = true) (h : ∀ a b, (f a b).1 → PCall P g [A.val a, B.val b] (f a b).2) : Ctr P g (con2 A B f) := ⟨hc, fun args p r e hp => by
  unfold con2 at e
  split at e
  · rename_i x y
    rcases ha : A.p x with _ | ⟨c, a⟩ <;> rw [ha] at e
    · cases e
    · rcases hb : B.p y with _ | ⟨d, b⟩ <;> simp only [hb, bind_some] at e
      · cases e
      · injection e with e; injection e with e1 e2; subst e1 e2
        exact (h a b hp.2.2).le ⟨A.ok _ _ _ ha hp.1, B.ok _ _ _ hb hp.2.1, trivial⟩
  · cases e⟩
theorem Ctr.c3 {f : α → β → γ → Prop × V} (hc : callable P g = true) (h : ∀ a b c, (f a b c).1 → PCall P g [A.val a, B.val b, C.val c] (f a b c).2) : Ctr P g (con3 A B C f) := ⟨hc, fun args p r e hp => by
  unfold con3 at e
  split at e
  · rename_i x y z
    rcases ha : A.p x with _ | ⟨c, a⟩ <;> rw [ha] at e
    · cases e
    · rcases hb : B.p y with _ | ⟨d, b⟩ <;> simp only [hb, bind_some] at e
      · cases e
      · rcases hz : C.p z with _ | ⟨q, t⟩ <;> simp only [hz] at e
        · cases e
        · injection e with e; injection e with e1 e2; subst e1 e2
          exact (h a b t hp.2.2.2).le ⟨A.ok _ _ _ ha hp.1, B.ok _ _ _ hb hp.2.1, C.ok _ _ _ hz hp.2.2.1, trivial⟩
  · cases e⟩
theorem Ctr.c4 {f : α → β → γ → δ → Prop × V} (hc : callable P g = true) (h : ∀ a b c d, (f a b c d).1 → PCall P g [A.val a, B.val b, C.val c, D.val d] (f a b c d).2) : Ctr P g (con4 A B C D f) := ⟨hc, fun args p r e hp => by
  unfold con4 at e
  split at e
  · rename_i x y z u
    rcases ha : A.p x with _ | ⟨c, a⟩ <;> rw [ha] at e
    · cases e
    · rcases hb : B.p y with _ | ⟨d, b⟩ <;> simp only [hb, bind_some] at e
      · cases e
      · rcases hz : C.p z with _ | ⟨q, t⟩ <;> simp only [hz, bind_some] at e
        · cases e
        · rcases hu : D.p u with _ | ⟨q', t'⟩ <;> simp only [hu] at e
          · cases e
          · injection e with e; injection e with e1 e2; subst e1 e2
            exact (h a b t t' hp.2.2.2.2).le ⟨A.ok _ _ _ ha hp.1, B.ok _ _ _ hb hp.2.1, C.ok _ _ _ hz hp.2.2.1, D.ok _ _ _ hu hp.2.2.2.1, trivial⟩
  · cases e⟩
theorem FCtr.c1 {f : α → Prop × FRes} (hc : callable P g = true) (h : ∀ a, (f a).1 → FCall P g [A.val a] (f a).2) : FCtr P g (con1 A f) := ⟨hc, fun args p r e hp => by
  unfold con1 at e
  split at e
  · rename_i x
    rcases ha : A.p x with _ | ⟨c, a⟩ <;> rw [ha] at e
    · cases e
    · injection e with e; injection e with e1 e2; subst e1 e2
      exact (h a hp.2).le ⟨A.ok _ _ _ ha hp.1, trivial⟩
  · cases e⟩
theorem FCtr.c2 {f : α → β → Prop × FRes} (hc : callable P g = true) (h : ∀ a b, (f a b).1 → FCall P g [A.val a, B.val b] (f a b).2) : FCtr P g (con2 A B f) := ⟨hc, fun args p r e hp => by
  unfold con2 at e
  split at e
  · rename_i x y
    rcases ha : A.p x with _ | ⟨c, a⟩ <;> rw [ha] at e
    · cases e
    · rcases hb : B.p y with _ | ⟨d, b⟩ <;> simp only [hb, bind_some] at e
      · cases e
      · injection e with e; injection e with e1 e2; subst e1 e2
        exact (h a b hp.2.2).le ⟨A.ok _ _ _ ha hp.1, B.ok _ _ _ hb hp.2.1, trivial⟩
  · cases e⟩
end
/- The shapes. -/
/-- The numbers of a row of limbs. -/
def unlimb : List V → Option (List Nat)
  | [] => some []
  | .raw (.int .u32 x) :: l => if 0 ≤ x then (unlimb l).map (x.toNat :: ·) else none
  | _ => none
theorem unlimb_ok : ∀ (l : List V) (m : List Nat), unlimb l = some m → l = V.limbs m
  | [], m, h => by injection h with h; subst h; rfl
  | .raw (.int .u32 x) :: l, m, h => by
    unfold unlimb at h
    split at h
    · rename_i hx
      rcases hm : unlimb l with _ | m' <;> rw [hm] at h
      · cases h
      · injection h with h
        subst h
        rw [unlimb_ok l m' hm]
        simp only [V.limbs, List.map_cons]
        rw [show ((x.toNat : Nat) : Int) = x from by omega]
    · cases h
@[go_sem] theorem unlimb_limbs (l : List Nat) : unlimb (V.limbs l) = some l := by
  induction l with
  | nil => rfl
  | cons x l ih =>
    simp only [V.limbs, List.map_cons] at ih ⊢
    unfold unlimb
    rw [if_pos (by omega), ih]
    simp
@[go_sem] theorem unlimb_nil : unlimb [] = some [] := rfl
/-- An integer. -/
def pI : Pat Int where
  p
    | .I z => some (True, z)
    | .agg [.raw (.bool false), .raw (.slice none 0 0)] => some (True, 0)
    | .agg [.raw (.bool false), .emp] => some (True, 0)
    | .agg [.raw (.bool s), .lst l] => (unlimb l).map fun m => (Canon m ∧ (s = true → m ≠ []), sv s m)
    | _ => none
  val := .I
  ok x c a h hc := by
    split at h
    · injection h with h; injection h with h1 h2; subst h2; exact .refl _
    · injection h with h; injection h with h1 h2; subst h2; exact out_In rfl
    · injection h with h; injection h with h1 h2; subst h2; exact out_I0 rfl
    · rename_i s l
      rcases hm : unlimb l with _ | m <;> rw [hm] at h
      · cases h
      · injection h with h; injection h with h1 h2; subst h1 h2
        rw [unlimb_ok l m hm]
        exact out_I hc.1 hc.2 rfl
    · cases h
@[go_sem ↓, go_sem] theorem ev_pI {z : Int} : pI.p (.I z) = some (True, z) := rfl
@[go_sem ↓, go_sem] theorem ev_pI_nil : pI.p (.agg [.raw (.bool false), .raw (.slice none 0 0)]) = some (True, 0) := rfl
@[go_sem ↓, go_sem] theorem ev_pI_emp : pI.p (.agg [.raw (.bool false), .emp]) = some (True, 0) := rfl
@[go_sem ↓, go_sem] theorem ev_pI_lst {s : Bool} {l : List V} : pI.p (.agg [.raw (.bool s), .lst l]) = (unlimb l).map fun m => (Canon m ∧ (s = true → m ≠ []), sv s m) := by
  cases s <;> rfl
@[go_sem ↓, go_sem] theorem ev_pI_mk {z : Int} : pI.val z = .I z := rfl
/-- Limbs. -/
def pL : Pat (List Nat) where
  p
    | .lst l => (unlimb l).map fun m => (True, m)
    | .raw (.slice none 0 0) => some (True, [])
    | .emp => some (True, [])
    | _ => none
  val l := .lst (V.limbs l)
  ok x c a h hc := by
    split at h
    · rename_i l
      rcases hm : unlimb l with _ | m <;> rw [hm] at h
      · cases h
      · injection h with h; injection h with h1 h2; subst h2
        rw [unlimb_ok l m hm]; exact .refl _
    · injection h with h; injection h with h1 h2; subst h2; exact .inr (.inr ⟨rfl, rfl, rfl, rfl⟩)
    · injection h with h; injection h with h1 h2; subst h2; exact .inr (.inr ⟨rfl, rfl, rfl⟩)
    · cases h
@[go_sem ↓, go_sem] theorem ev_pL {l : List V} : pL.p (.lst l) = (unlimb l).map fun m => (True, m) := rfl
@[go_sem ↓, go_sem] theorem ev_pL_mk {l : List Nat} : pL.val l = .lst (V.limbs l) := rfl
/-- Scalars. -/
def pB : Pat Bool where
  p
    | .raw (.bool b) => some (True, b)
    | _ => none
  val b := .raw (.bool b)
  ok x c a h hc := by
    split at h
    · injection h with h; injection h with h1 h2; subst h2; exact .refl _
    · cases h
@[go_sem ↓, go_sem] theorem ev_pB {b : Bool} : pB.p (.raw (.bool b)) = some (True, b) := rfl
@[go_sem ↓, go_sem] theorem ev_pB_mk {b : Bool} : pB.val b = .raw (.bool b) := rfl
def pN (k : IntKind) : Pat Int where
  p
    | .raw (.int k' n) => if k' = k then some (True, n) else none
    | _ => none
  val n := .raw (.int k n)
  ok x c a h hc := by
    split at h
    · split at h
      · rename_i e; subst e; injection h with h; injection h with h1 h2; subst h2; exact .refl _
      · cases h
    · cases h
@[go_sem ↓, go_sem] theorem ev_pN {k : IntKind} {n : Int} : (pN k).p (.raw (.int k n)) = some (True, n) := by simp [pN]
@[go_sem ↓, go_sem] theorem ev_pN_mk {k : IntKind} {n : Int} : (pN k).val n = .raw (.int k n) := rfl
def pS : Pat ByteArray where
  p
    | .raw (.string b) => some (True, b)
    | _ => none
  val b := .raw (.string b)
  ok x c a h hc := by
    split at h
    · injection h with h; injection h with h1 h2; subst h2; exact .refl _
    · cases h
@[go_sem ↓, go_sem] theorem ev_pS {b : ByteArray} : pS.p (.raw (.string b)) = some (True, b) := rfl
@[go_sem ↓, go_sem] theorem ev_pS_mk {b : ByteArray} : pS.val b = .raw (.string b) := rfl
end Go.Proofs.Ytbnhnmpgbpejaaa
