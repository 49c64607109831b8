/- Texts B2 C1 C2 C3 C4 C5 in one. -/
import Derived.Test.YtfbogelmgdojgaaGreatR12
/- Contracts by the shape of the arguments. -/
namespace Go.Proofs.YtfbogelmgdojgaaGreat
set_option linter.unusedSimpArgs false
set_option linter.unusedVariables false
open Go.RowKit

@[go_sem] theorem out_refl (y : V) : OutEq y y = True := by simp [OutEq.refl]
@[go_sem ↓, go_sem] theorem map_some {α β : Type} (f : α → β) (x : α) : Option.map f (some x) = some (f x) := rfl
@[go_sem ↓, go_sem] theorem map_none {α β : Type} (f : α → β) : Option.map f none = none := rfl
@[go_sem ↓, go_sem] theorem bind_some {α β : Type} (f : α → Option β) (x : α) : Option.bind (some x) f = f x := rfl
@[go_sem ↓, go_sem] theorem bind_none {α β : Type} (f : α → Option β) : Option.bind none f = none := rfl
theorem out_II {a b : Int} (h : a = b) : OutEq (.I a) (.I b) := .inl (by rw [h])
structure Pat (α : Type) where
 p : V → Option (Prop × α)
 val : α → V
 ok : ∀ x c a, p x = some (c, a) → c → OutEq x (val a)
def con0 {R : Type} (f : Prop × R) : List V → Option (Prop × R)
 | [] => some f
 | _ => none
def con1 {R : Type} {α : Type} (A : Pat α) (f : α → Prop × R) : List V → Option (Prop × R)
 | [x] => (A.p x).map fun a => (a.1 ∧ (f a.2).1, (f a.2).2)
 | _ => none
def con2 {R : Type} {α β : Type} (A : Pat α) (B : Pat β) (f : α → β → Prop × R) : List V → Option (Prop × R)
 | [x, y] => (A.p x).bind fun a => (B.p y).map fun b => (a.1 ∧ b.1 ∧ (f a.2 b.2).1, (f a.2 b.2).2)
 | _ => none
def con3 {R : Type} {α β γ : Type} (A : Pat α) (B : Pat β) (C : Pat γ) (f : α → β → γ → Prop × R) : List V → Option (Prop × R)
 | [x, y, z] => (A.p x).bind fun a => (B.p y).bind fun b => (C.p z).map fun c => (a.1 ∧ b.1 ∧ c.1 ∧ (f a.2 b.2 c.2).1, (f a.2 b.2 c.2).2)
 | _ => none
def con4 {R : Type} {α β γ δ : Type} (A : Pat α) (B : Pat β) (C : Pat γ) (D : Pat δ) (f : α → β → γ → δ → Prop × R) : List V → Option (Prop × R)
 | [x, y, z, u] => (A.p x).bind fun a => (B.p y).bind fun b => (C.p z).bind fun c => (D.p u).map fun d => (a.1 ∧ b.1 ∧ c.1 ∧ d.1 ∧ (f a.2 b.2 c.2 d.2).1, (f a.2 b.2 c.2 d.2).2)
 | _ => none
@[go_sem ↓, go_sem] theorem ev_con0 {R : Type} {f : Prop × R} : con0 f [] = some f := rfl
@[go_sem ↓, go_sem] theorem ev_con1 {R : Type} {α : Type} {A : Pat α} {f : α → Prop × R} {x : V} : con1 A f [x] = (A.p x).map fun a => (a.1 ∧ (f a.2).1, (f a.2).2) := rfl
@[go_sem ↓, go_sem] theorem ev_con2 {R : Type} {α β : Type} {A : Pat α} {B : Pat β} {f : α → β → Prop × R} {x y : V} : con2 A B f [x, y] = (A.p x).bind fun a => (B.p y).map fun b => (a.1 ∧ b.1 ∧ (f a.2 b.2).1, (f a.2 b.2).2) := rfl
@[go_sem ↓, go_sem] theorem ev_con3 {R : Type} {α β γ : Type} {A : Pat α} {B : Pat β} {C : Pat γ} {f : α → β → γ → Prop × R} {x y z : V} : con3 A B C f [x, y, z] = (A.p x).bind fun a => (B.p y).bind fun b => (C.p z).map fun c => (a.1 ∧ b.1 ∧ c.1 ∧ (f a.2 b.2 c.2).1, (f a.2 b.2 c.2).2) := rfl
@[go_sem ↓, go_sem] theorem ev_con4 {R : Type} {α β γ δ : Type} {A : Pat α} {B : Pat β} {C : Pat γ} {D : Pat δ} {f : α → β → γ → δ → Prop × R} {x y z u : V} : con4 A B C D f [x, y, z, u] = (A.p x).bind fun a => (B.p y).bind fun b => (C.p z).bind fun c => (D.p u).map fun d => (a.1 ∧ b.1 ∧ c.1 ∧ d.1 ∧ (f a.2 b.2 c.2 d.2).1, (f a.2 b.2 c.2 d.2).2) := rfl
section
variable {P : Program} {g : FuncId} {α β γ δ : Type} {A : Pat α} {B : Pat β} {C : Pat γ} {D : Pat δ}
theorem Ctr.c0 {f : Prop × V} (hc : callable P g = true) (h : f.1 → PCall P g [] f.2) : Ctr P g (con0 f) := ⟨hc, fun args p r e hp => by
 unfold con0 at e
 split at e
 ·injection e with e; subst e; exact h hp
 ·cases e⟩
theorem Ctr.c1 {f : α → Prop × V} (hc : callable P g = true) (h : ∀ a, (f a).1 → PCall P g [A.val a] (f a).2) : Ctr P g (con1 A f) := ⟨hc, fun args p r e hp => by
 unfold con1 at e
 split at e
 ·rename_i x
  rcases ha : A.p x with _ | ⟨c, a⟩ <;> rw [ha] at e
  ·cases e
  ·injection e with e; injection e with e1 e2; subst e1 e2
   exact (h a hp.2).le ⟨A.ok _ _ _ ha hp.1, trivial⟩
 ·cases e⟩
theorem Ctr.c2 {f : α → β → Prop × V} (hc : callable P g = true) (h : ∀ a b, (f a b).1 → PCall P g [A.val a, B.val b] (f a b).2) : Ctr P g (con2 A B f) := ⟨hc, fun args p r e hp => by
 unfold con2 at e
 split at e
 ·rename_i x y
  rcases ha : A.p x with _ | ⟨c, a⟩ <;> rw [ha] at e
  ·cases e
  ·rcases hb : B.p y with _ | ⟨d, b⟩ <;> simp only [hb, bind_some] at e
   ·cases e
   ·injection e with e; injection e with e1 e2; subst e1 e2
    exact (h a b hp.2.2).le ⟨A.ok _ _ _ ha hp.1, B.ok _ _ _ hb hp.2.1, trivial⟩
 ·cases e⟩
theorem Ctr.c3 {f : α → β → γ → Prop × V} (hc : callable P g = true) (h : ∀ a b c, (f a b c).1 → PCall P g [A.val a, B.val b, C.val c] (f a b c).2) : Ctr P g (con3 A B C f) := ⟨hc, fun args p r e hp => by
 unfold con3 at e
 split at e
 ·rename_i x y z
  rcases ha : A.p x with _ | ⟨c, a⟩ <;> rw [ha] at e
  ·cases e
  ·rcases hb : B.p y with _ | ⟨d, b⟩ <;> simp only [hb, bind_some] at e
   ·cases e
   ·rcases hz : C.p z with _ | ⟨q, t⟩ <;> simp only [hz] at e
    ·cases e
    ·injection e with e; injection e with e1 e2; subst e1 e2
     exact (h a b t hp.2.2.2).le ⟨A.ok _ _ _ ha hp.1, B.ok _ _ _ hb hp.2.1, C.ok _ _ _ hz hp.2.2.1, trivial⟩
 ·cases e⟩
theorem Ctr.c4 {f : α → β → γ → δ → Prop × V} (hc : callable P g = true) (h : ∀ a b c d, (f a b c d).1 → PCall P g [A.val a, B.val b, C.val c, D.val d] (f a b c d).2) : Ctr P g (con4 A B C D f) := ⟨hc, fun args p r e hp => by
 unfold con4 at e
 split at e
 ·rename_i x y z u
  rcases ha : A.p x with _ | ⟨c, a⟩ <;> rw [ha] at e
  ·cases e
  ·rcases hb : B.p y with _ | ⟨d, b⟩ <;> simp only [hb, bind_some] at e
   ·cases e
   ·rcases hz : C.p z with _ | ⟨q, t⟩ <;> simp only [hz, bind_some] at e
    ·cases e
    ·rcases hu : D.p u with _ | ⟨q', t'⟩ <;> simp only [hu] at e
     ·cases e
     ·injection e with e; injection e with e1 e2; subst e1 e2
      exact (h a b t t' hp.2.2.2.2).le ⟨A.ok _ _ _ ha hp.1, B.ok _ _ _ hb hp.2.1, C.ok _ _ _ hz hp.2.2.1, D.ok _ _ _ hu hp.2.2.2.1, trivial⟩
 ·cases e⟩
theorem FCtr.c1 {f : α → Prop × FRes} (hc : callable P g = true) (h : ∀ a, (f a).1 → FCall P g [A.val a] (f a).2) : FCtr P g (con1 A f) := ⟨hc, fun args p r e hp => by
 unfold con1 at e
 split at e
 ·rename_i x
  rcases ha : A.p x with _ | ⟨c, a⟩ <;> rw [ha] at e
  ·cases e
  ·injection e with e; injection e with e1 e2; subst e1 e2
   exact (h a hp.2).le ⟨A.ok _ _ _ ha hp.1, trivial⟩
 ·cases e⟩
theorem FCtr.c2 {f : α → β → Prop × FRes} (hc : callable P g = true) (h : ∀ a b, (f a b).1 → FCall P g [A.val a, B.val b] (f a b).2) : FCtr P g (con2 A B f) := ⟨hc, fun args p r e hp => by
 unfold con2 at e
 split at e
 ·rename_i x y
  rcases ha : A.p x with _ | ⟨c, a⟩ <;> rw [ha] at e
  ·cases e
  ·rcases hb : B.p y with _ | ⟨d, b⟩ <;> simp only [hb, bind_some] at e
   ·cases e
   ·injection e with e; injection e with e1 e2; subst e1 e2
    exact (h a b hp.2.2).le ⟨A.ok _ _ _ ha hp.1, B.ok _ _ _ hb hp.2.1, trivial⟩
 ·cases e⟩
end
/- The shapes. -/
def unlimb : List V → Option (List Nat)
 | [] => some []
 | .raw (.int .u32 x) :: l => if 0 ≤ x then (unlimb l).map (x.toNat :: ·) else none
 | _ => none
theorem unlimb_ok : ∀ (l : List V) (m : List Nat), unlimb l = some m → l = V.limbs m
 | [], m, h => by injection h with h; subst h; rfl
 | .raw (.int .u32 x) :: l, m, h => by
   unfold unlimb at h
   split at h
   ·rename_i hx
    rcases hm : unlimb l with _ | m' <;> rw [hm] at h
    ·cases h
    ·injection h with h
     subst h
     rw [unlimb_ok l m' hm]
     simp only [V.limbs, List.map_cons]
     rw [show ((x.toNat : Nat) : Int) = x from by omega]
   ·cases h
@[go_sem] theorem unlimb_limbs (l : List Nat) : unlimb (V.limbs l) = some l := by
  induction l with
  | nil => rfl
  | cons x l ih =>
    simp only [V.limbs, List.map_cons] at ih ⊢
    unfold unlimb
    rw [if_pos (by omega), ih]
    simp
@[go_sem] theorem unlimb_nil : unlimb [] = some [] := rfl
def pI : Pat Int where
 p
  | .I z => some (True, z)
  | .agg [.raw (.bool false), .raw (.slice none 0 0)] => some (True, 0)
  | .agg [.raw (.bool false), .emp] => some (True, 0)
  | .agg [.raw (.bool s), .lst l] => (unlimb l).map fun m => (Canon m ∧ (s = true → m ≠ []), sv s m)
  | _ => none
 val := .I
 ok x c a h hc := by
  split at h
  ·injection h with h; injection h with h1 h2; subst h2; exact .refl _
  ·injection h with h; injection h with h1 h2; subst h2; exact out_In rfl
  ·injection h with h; injection h with h1 h2; subst h2; exact out_I0 rfl
  ·rename_i s l
   rcases hm : unlimb l with _ | m <;> rw [hm] at h
   ·cases h
   ·injection h with h; injection h with h1 h2; subst h1 h2
    rw [unlimb_ok l m hm]
    exact out_I hc.1 hc.2 rfl
  ·cases h
@[go_sem ↓, go_sem] theorem ev_pI {z : Int} : pI.p (.I z) = some (True, z) := rfl
@[go_sem ↓, go_sem] theorem ev_pI_nil : pI.p (.agg [.raw (.bool false), .raw (.slice none 0 0)]) = some (True, 0) := rfl
@[go_sem ↓, go_sem] theorem ev_pI_emp : pI.p (.agg [.raw (.bool false), .emp]) = some (True, 0) := rfl
@[go_sem ↓, go_sem] theorem ev_pI_lst {s : Bool} {l : List V} : pI.p (.agg [.raw (.bool s), .lst l]) = (unlimb l).map fun m => (Canon m ∧ (s = true → m ≠ []), sv s m) := by
  cases s <;> rfl
@[go_sem ↓, go_sem] theorem ev_pI_mk {z : Int} : pI.val z = .I z := rfl
def pL : Pat (List Nat) where
 p
  | .lst l => (unlimb l).map fun m => (True, m)
  | .raw (.slice none 0 0) => some (True, [])
  | .emp => some (True, [])
  | _ => none
 val l := .lst (V.limbs l)
 ok x c a h hc := by
  split at h
  ·rename_i l
   rcases hm : unlimb l with _ | m <;> rw [hm] at h
   ·cases h
   ·injection h with h; injection h with h1 h2; subst h2
    rw [unlimb_ok l m hm]; exact .refl _
  ·injection h with h; injection h with h1 h2; subst h2; exact .inr (.inr ⟨rfl, rfl, rfl, rfl⟩)
  ·injection h with h; injection h with h1 h2; subst h2; exact .inr (.inr ⟨rfl, rfl, rfl⟩)
  ·cases h
@[go_sem ↓, go_sem] theorem ev_pL {l : List V} : pL.p (.lst l) = (unlimb l).map fun m => (True, m) := rfl
@[go_sem ↓, go_sem] theorem ev_pL_mk {l : List Nat} : pL.val l = .lst (V.limbs l) := rfl
def pB : Pat Bool where
 p
  | .raw (.bool b) => some (True, b)
  | _ => none
 val b := .raw (.bool b)
 ok x c a h hc := by
  split at h
  ·injection h with h; injection h with h1 h2; subst h2; exact .refl _
  ·cases h
@[go_sem ↓, go_sem] theorem ev_pB {b : Bool} : pB.p (.raw (.bool b)) = some (True, b) := rfl
@[go_sem ↓, go_sem] theorem ev_pB_mk {b : Bool} : pB.val b = .raw (.bool b) := rfl
def pN (k : IntKind) : Pat Int where
 p
  | .raw (.int k' n) => if k' = k then some (True, n) else none
  | _ => none
 val n := .raw (.int k n)
 ok x c a h hc := by
  split at h
  ·split at h
   ·rename_i e; subst e; injection h with h; injection h with h1 h2; subst h2; exact .refl _
   ·cases h
  ·cases h
@[go_sem ↓, go_sem] theorem ev_pN {k : IntKind} {n : Int} : (pN k).p (.raw (.int k n)) = some (True, n) := by simp [pN]
@[go_sem ↓, go_sem] theorem ev_pN_mk {k : IntKind} {n : Int} : (pN k).val n = .raw (.int k n) := rfl
def pS : Pat ByteArray where
 p
  | .raw (.string b) => some (True, b)
  | _ => none
 val b := .raw (.string b)
 ok x c a h hc := by
  split at h
  ·injection h with h; injection h with h1 h2; subst h2; exact .refl _
  ·cases h
@[go_sem ↓, go_sem] theorem ev_pS {b : ByteArray} : pS.p (.raw (.string b)) = some (True, b) := rfl
@[go_sem ↓, go_sem] theorem ev_pS_mk {b : ByteArray} : pS.val b = .raw (.string b) := rfl
end Go.Proofs.YtfbogelmgdojgaaGreat


/- Contracts: integer.norm, Sign, Neg. -/
namespace Go.Proofs.YtfbogelmgdojgaaGreat
set_option linter.unusedSimpArgs false
set_option linter.unusedVariables false
open Go.RowKit

theorem norm_V (l : List Nat) (neg : Bool) (hl : Lim l) (hm : l.length ≤ 30000000000000) : PCall Tryz.prog 124 [.lst (V.limbs l), .raw (.bool neg)] (.I (sv neg l)) := by
 refine PCall.of_vc (tabs mixed tbl_nil) Tryz.func124 rfl Tryz.ntmps124 Tryz.results124 (by simp) ?_
 simp only [go_sem]
 refine AWp.loops (X := { k : Nat // k ≤ l.length ∧ nlen l k = nlen l l.length }) (fun k => mkSt [(0, .lst (V.limbs l)), (1, .raw (.bool neg)), (4, .ptr 0 2 0 0), (5, .raw (.int .i64 (k.1 : Nat)))] [(0, true, ⟨43, 2, [.agg [.raw (.bool false), .raw (.slice none 0 0)]]⟩)] 1 28) (fun k => k.1) ⟨l.length, Nat.le_refl _, rfl⟩ (Wk.of [0] (by decide) ?_) ?_
 ·simp only [go_sem]
 ·rintro ⟨k, hk, hv⟩
  refine vc_at (tabs mixed tbl_nil) ?_
  have hcan := nlen_take_canon hl l.length (Nat.le_refl _)
  rw [List.take_length] at hcan
  rcases k with _ | k
  ·have hz : lv l = 0 := by rw [← hcan.2, ← hv]; rfl
   have e : sv neg l = 0 := by cases neg <;> simp [sv, hz]
   cases neg <;> simp only [go_sem, e] <;> and_intros <;> first | omega | exact out_I0 rfl
  ·have e1 : ((k + 1 : Nat) : Int) - 1 = k := by omega
   have e2 : decide ((0 : Int) < ((k + 1 : Nat) : Int)) = true := by simp <;> omega
   have e4 : decide (((k + 1 : Nat) : Int) = 0) = false := by simp <;> omega
   by_cases hz : at0 l k = 0
   ·simp only [go_sem, e1, e2, hz]
    and_intros
    any_goals omega
    refine ⟨⟨k, by omega, by rw [← hv, nlen_succ_zero hz]⟩, Wk.of [0] (by decide) ?_, Nat.lt_succ_self k⟩
    simp only [go_sem]
   ·have e3 : (((at0 l k : Nat) : Int) != 0) = true := by simp <;> omega
    have hn : nlen l l.length = k + 1 := by rw [← hv, nlen_succ_pos hz]
    rw [hn] at hcan
    have hn0 : l.take (k + 1) ≠ [] := by intro h; have := congrArg List.length h; simp only [List.length_take, List.length_nil] at this; omega
    cases neg <;> simp only [go_sem, e1, e2, e3, e4] <;> and_intros
    any_goals omega
    all_goals exact out_I hcan.1 (fun _ => hn0) (by simp [sv, hcan.2])
def kNorm : Con := con2 pL pB fun l neg => (Lim l ∧ l.length ≤ 30000000000000, .I (sv neg l))
attribute [go_sem ↓, go_sem] kNorm
theorem norm_C : Ctr Tryz.prog 124 kNorm := Ctr.c2 (by kernel_rfl) fun l neg h => norm_V l neg h.1 h.2
end Go.Proofs.YtfbogelmgdojgaaGreat


/- Contracts: cmp.Compare, integer.compare, Sign, Cmp, Neg, Valid. -/
namespace Go.Proofs.YtfbogelmgdojgaaGreat
set_option linter.unusedSimpArgs false
set_option linter.unusedVariables false
open Go.RowKit

def kNan (k : IntKind) : Con := con1 (pN k) fun _ => (True, .raw (.bool false))
attribute [go_sem ↓, go_sem] kNan
theorem nan32_C : Ctr Tryz.prog 154 (kNan .u32) := Ctr.c1 (by kernel_rfl) fun x _ => by
 refine PCall.of_vc (tabs mixed tbl_nil) Tryz.func154 rfl Tryz.ntmps154 Tryz.results154 (by simp) ?_
 have e : (x != x) = false := by simp
 simp only [go_sem, e]
theorem nanI_C : Ctr Tryz.prog 153 (kNan .i64) := Ctr.c1 (by kernel_rfl) fun x _ => by
 refine PCall.of_vc (tabs mixed tbl_nil) Tryz.func153 rfl Tryz.ntmps153 Tryz.results153 (by simp) ?_
 have e : (x != x) = false := by simp
 simp only [go_sem, e]
def kCmp (k : IntKind) : Con := con2 (pN k) (pN k) fun x y => (True, .raw (.int .i64 (cmpI x y)))
attribute [go_sem ↓, go_sem] kCmp
theorem cmp32_C : Ctr Tryz.prog 146 (kCmp .u32) := Ctr.c2 (by kernel_rfl) fun x y _ => by
 refine PCall.of_vc (tabs mixed (tbl_cons nan32_C tbl_nil)) Tryz.func146 rfl Tryz.ntmps146 Tryz.results146 (by simp) ?_
 rcases Int.lt_trichotomy x y with h | h | h
 ·have e1 : decide (x < y) = true := by simpa using h
  simp only [go_sem, e1, cmpI_lt h]
 ·subst h
  have e1 : decide (x < x) = false := by simp
  simp only [go_sem, e1, cmpI_eq rfl]
 ·have e1 : decide (x < y) = false := by simp; omega
  have e2 : decide (y < x) = true := by simpa using h
  simp only [go_sem, e1, e2, cmpI_gt h]
theorem cmpI_C : Ctr Tryz.prog 145 (kCmp .i64) := Ctr.c2 (by kernel_rfl) fun x y _ => by
 refine PCall.of_vc (tabs mixed (tbl_cons nanI_C tbl_nil)) Tryz.func145 rfl Tryz.ntmps145 Tryz.results145 (by simp) ?_
 rcases Int.lt_trichotomy x y with h | h | h
 ·have e1 : decide (x < y) = true := by simpa using h
  simp only [go_sem, e1, cmpI_lt h]
 ·subst h
  have e1 : decide (x < x) = false := by simp
  simp only [go_sem, e1, cmpI_eq rfl]
 ·have e1 : decide (x < y) = false := by simp; omega
  have e2 : decide (y < x) = true := by simpa using h
  simp only [go_sem, e1, e2, cmpI_gt h]
end Go.Proofs.YtfbogelmgdojgaaGreat


/- Contracts: integer.compare, Sign, Cmp, Neg, Valid. -/
namespace Go.Proofs.YtfbogelmgdojgaaGreat
set_option linter.unusedSimpArgs false
set_option linter.unusedVariables false
open Go.RowKit

theorem compare_V (l m : List Nat) (hl : Canon l) (hm : Canon m) (h1 : l.length ≤ 30000000000000) (h2 : m.length ≤ 30000000000000) :
 PCall Tryz.prog 130 [.lst (V.limbs l), .lst (V.limbs m)] (.raw (.int .i64 (cmpI (lv l) (lv m)))) := by
 refine PCall.of_vc (tabs mixed (tbl_cons cmpI_C tbl_nil)) Tryz.func130 rfl Tryz.ntmps130 Tryz.results130 (by simp) ?_
 rcases Int.lt_trichotomy (l.length : Int) (m.length : Int) with h | h | h
 ·have := lv_lt_of_len hl.1 hm (by omega)
  simp only [go_sem, cmpI_lt h]
  rw [cmpI_lt (by omega)]; exact .refl _
 ·simp only [go_sem, cmpI_eq h]
  refine ⟨⟨by omega, by omega⟩, ?_⟩
  have h' : l.length = m.length := by omega
  refine AWp.loops (X := { k : Nat // k ≤ l.length ∧ ∀ j, k ≤ j → at0 l j = at0 m j }) (fun k => mkSt [(0, .lst (V.limbs l)), (1, .lst (V.limbs m)), (4, .raw (.int .i64 0)), (6, .raw (.int .i64 ((k.1 : Nat) - 1)))] [] 0 35) (fun k => k.1) ⟨l.length, Nat.le_refl _, fun j hj => by rw [at0_beyond hj, at0_beyond (by omega)]⟩ (Wk.of [] (by decide) ?_) ?_
  ·simp only [go_sem]
  ·rintro ⟨k, hk, hv⟩
   refine vc_at (tabs mixed (tbl_cons cmp32_C tbl_nil)) ?_
   rcases k with _ | k
   ·have e : lv l = lv m := by rw [eq_of_at0 h' fun j => hv j (Nat.zero_le j)]
    simp only [go_sem]
    rw [cmpI_eq (by omega)]; exact .refl _
   ·have e1 : ((k + 1 : Nat) : Int) - 1 = k := by omega
    have e2 : (0 : Int) ≤ k := by omega
    rcases Nat.lt_trichotomy (at0 l k) (at0 m k) with g | g | g
    ·have := lv_lt_of_top hl.1 hm.1 _ rfl h'.symm k (by omega) g fun j hj => hv j hj
     have g' : ((at0 l k : Nat) : Int) < at0 m k := by omega
     simp only [go_sem, e1, e2, cmpI_lt g']
     rw [cmpI_lt (by omega)]
     and_intros
     all_goals first | omega | rfl | exact .refl _
    ·have g' : ((at0 l k : Nat) : Int) = at0 m k := by omega
     simp only [go_sem, e1, e2, cmpI_eq g']
     and_intros
     any_goals first | omega | rfl
     refine ⟨⟨k, by omega, fun j hj => ?_⟩, Wk.of [] (by decide) ?_, Nat.lt_succ_self k⟩
     ·by_cases e : j = k
      ·subst e; exact g
      ·exact hv j (by omega)
     ·simp only [go_sem]
    ·have := lv_lt_of_top hm.1 hl.1 _ rfl h' k (by omega) g fun j hj => (hv j hj).symm
     have g' : ((at0 m k : Nat) : Int) < at0 l k := by omega
     simp only [go_sem, e1, e2, cmpI_gt g']
     rw [cmpI_gt (by omega)]
     and_intros
     all_goals first | omega | rfl | exact .refl _
 ·have := lv_lt_of_len hm.1 hl (by omega)
  simp only [go_sem, cmpI_gt h]
  rw [cmpI_gt (by omega)]; exact .refl _
def kCompare : Con := con2 pL pL fun l m => ((Canon l ∧ Canon m) ∧ l.length ≤ 30000000000000 ∧ m.length ≤ 30000000000000, .raw (.int .i64 (cmpI (lv l) (lv m))))
attribute [go_sem ↓, go_sem] kCompare
theorem compare_C : Ctr Tryz.prog 130 kCompare := Ctr.c2 (by kernel_rfl) fun l m h => compare_V l m h.1.1 h.1.2 h.2.1 h.2.2
def kSign : Con := con1 pI fun z => (True, .raw (.int .i64 (sgI z)))
attribute [go_sem ↓, go_sem] kSign
theorem sign_C : Ctr Tryz.prog 125 kSign := Ctr.c1 (by kernel_rfl) fun z h => by
 obtain ⟨s, l, hz, hl, hs, e1, e2, e3⟩ := sv_open z
 refine PCall.of_vc (tabs mixed tbl_nil) Tryz.func125 rfl Tryz.ntmps125 Tryz.results125 (by simp) ?_
 have hg : sgI z = if l = [] then 0 else if s = true then -1 else 1 := by rw [hz]; exact sgI_sv hl hs
 rcases l with _ | ⟨x, l⟩
 ·have e4 : (((List.length ([] : List Nat) : Nat) : Int) == 0) = true := rfl
  rw [if_pos rfl] at hg
  simp only [go_sem, e1, e2, e4, hg]
 ·have e4 : (((List.length (x :: l) : Nat) : Int) == 0) = false := by simp; omega
  rw [if_neg (by simp)] at hg
  cases s
  ·rw [if_neg (by simp)] at hg
   simp only [go_sem] at e4
   simp only [go_sem, e1, e2, e4, hg]
  ·rw [if_pos rfl] at hg
   simp only [go_sem] at e4
   simp only [go_sem, e1, e2, e4, hg]
def kNeg : Con := con1 pI fun z => (True, .I (-z))
attribute [go_sem ↓, go_sem] kNeg
theorem neg_C : Ctr Tryz.prog 105 kNeg := Ctr.c1 (by kernel_rfl) fun z h => by
 obtain ⟨s, l, hz, hl, hs, e1, e2, e3⟩ := sv_open z
 refine PCall.of_vc (tabs mixed tbl_nil) Tryz.func105 rfl Tryz.ntmps105 Tryz.results105 (by simp) ?_
 have hz' : -z = sv (!s && decide (l ≠ [])) l := by
  subst hz
  rcases l with _ | ⟨x, l⟩
  ·cases s <;> rfl
  ·cases s <;> simp [sv]
 rw [hz']
 cases s
 ·by_cases h0 : l = []
  ·have e4 : ¬ (0 < (l.length : Int)) := by simp [h0]
   simp only [go_sem, e1, e2, e4]
   subst h0
   exact out_I Canon.nil (by simp) rfl
  ·have e4 : 0 < (l.length : Int) := by have := List.length_pos_iff.2 h0; omega
   simp only [go_sem, e1, e2, e4]
   exact out_I hl (fun _ => h0) (by simp [h0])
 ·simp only [go_sem, e1, e2]
  exact out_I hl (by simp) (by simp)
theorem valid_V (s : Bool) (l : List Nat) (h : l.length ≤ 9223372036854775807) : PCall Tryz.prog 135 [.agg [.raw (.bool s), .lst (V.limbs l)]] (.raw (.bool (validB s l))) := by
 refine PCall.of_vc (tabs mixed tbl_nil) Tryz.func135 rfl Tryz.ntmps135 Tryz.results135 (by simp) ?_
 by_cases h0 : l = []
 ·subst h0
  cases s <;> simp only [go_sem, validB]
 ·have e4 : 0 < (l.length : Int) := by have := List.length_pos_iff.2 h0; omega
  have e5 : ((l.length : Int) == 0) = false := by simp; exact h0
  have hp := List.length_pos_iff.2 h0
  have e6 : ((l.length : Int) - 1).toNat = l.length - 1 := by omega
  simp only [go_sem, e4, e5, e6, validB]
  rw [if_neg h0]
  and_intros
  any_goals omega
  exact out_bool (by by_cases g : at0 l (l.length - 1) = 0 <;> simp [g] <;> omega)
def pRaw : Pat (Bool × List Nat) where
 p
  | .agg [.raw (.bool s), .lst l] => (unlimb l).map fun m => (True, s, m)
  | .agg [.raw (.bool s), .raw (.slice none 0 0)] => some (True, s, [])
  | .agg [.raw (.bool s), .emp] => some (True, s, [])
  | .I z => some (True, decide (z < 0), dg z.natAbs)
  | _ => none
 val a := .agg [.raw (.bool a.1), .lst (V.limbs a.2)]
 ok x c a h hc := by
  split at h
  ·rename_i s l
   rcases hm : unlimb l with _ | m <;> rw [hm] at h
   ·cases h
   ·injection h with h; injection h with h1 h2; subst h1 h2
    rw [unlimb_ok l m hm]
    exact .refl _
  ·injection h with h; injection h with h1 h2; subst h2; exact .inr (.inl ⟨rfl, rfl, rfl, ⟨rfl, rfl⟩, trivial⟩)
  ·injection h with h; injection h with h1 h2; subst h2; exact .inr (.inl ⟨rfl, rfl, rfl, rfl, trivial⟩)
  ·injection h with h; injection h with h1 h2; subst h2; exact .atoms rfl rfl rfl
  ·cases h
@[go_sem ↓, go_sem] theorem ev_pRaw {s : Bool} {l : List V} : pRaw.p (.agg [.raw (.bool s), .lst l]) = (unlimb l).map fun m => (True, s, m) := rfl
@[go_sem ↓, go_sem] theorem ev_pRaw_n {s : Bool} : pRaw.p (.agg [.raw (.bool s), .raw (.slice none 0 0)]) = some (True, s, []) := rfl
@[go_sem ↓, go_sem] theorem ev_pRaw_e {s : Bool} : pRaw.p (.agg [.raw (.bool s), .emp]) = some (True, s, []) := rfl
@[go_sem ↓, go_sem] theorem ev_pRaw_I {z : Int} : pRaw.p (.I z) = some (True, decide (z < 0), dg z.natAbs) := rfl
@[go_sem ↓, go_sem] theorem ev_pRaw_val {a : Bool × List Nat} : pRaw.val a = .agg [.raw (.bool a.1), .lst (V.limbs a.2)] := rfl
theorem validB_I (z : Int) : validB (decide (z < 0)) (dg z.natAbs) = true := by
 unfold validB
 by_cases h : dg z.natAbs = []
 ·rw [if_pos h]; rw [dg_eq_nil] at h; simp; omega
 ·rw [if_neg h]; simpa using (dg_canon z.natAbs).2 h
def kValid : Con := con1 pRaw fun a => (a.2.length ≤ 9223372036854775807, .raw (.bool (validB a.1 a.2)))
attribute [go_sem ↓, go_sem] kValid
theorem valid_C : Ctr Tryz.prog 135 kValid := Ctr.c1 (by kernel_rfl) fun a h => valid_V a.1 a.2 h
def kCmpZ : Con := con2 pI pI fun x y => (dl x.natAbs ≤ 30000000000000 ∧ dl y.natAbs ≤ 30000000000000, .raw (.int .i64 (cmpI x y)))
attribute [go_sem ↓, go_sem] kCmpZ
theorem cmpZ_C : Ctr Tryz.prog 127 kCmpZ := Ctr.c2 (by kernel_rfl) fun x y h => by
 obtain ⟨h1, h2⟩ := h
 obtain ⟨s, l, hz, hl, hs, e1, e2, e3⟩ := sv_open x
 obtain ⟨t, m, hz', hm, ht, f1, f2, f3⟩ := sv_open y
 refine PCall.of_vc (tabs mixed (tbl_cons compare_C tbl_nil)) Tryz.func127 rfl Tryz.ntmps127 Tryz.results127 (by simp) ?_
 cases s <;> cases t <;> simp only [go_sem, e1, e2, f1, f2]
 ·refine ⟨⟨⟨hl, hm⟩, by omega, by omega⟩, ?_⟩
  subst hz hz'; exact .refl _
 ·have := lv_pos hm (ht rfl)
  rw [hz, hz', sv_false, sv_true, cmpI_gt (by omega)]; exact .refl _
 ·have := lv_pos hl (hs rfl)
  rw [hz, hz', sv_false, sv_true, cmpI_lt (by omega)]; exact .refl _
 ·refine ⟨⟨⟨hm, hl⟩, by omega, by omega⟩, ?_⟩
  refine out_int ?_
  rw [hz, hz', sv_true, sv_true]; unfold cmpI; split <;> split <;> (try split) <;> (try split) <;> omega
end Go.Proofs.YtfbogelmgdojgaaGreat


/- Contracts: bits.Add32, Sub32, plus, minus, Add, Sub. -/
namespace Go.Proofs.YtfbogelmgdojgaaGreat
set_option linter.unusedSimpArgs false
set_option linter.unusedVariables false
open Go.RowKit

def kAdd32 : Con := con3 (pN .u32) (pN .u32) (pN .u32) fun x y c => ((0 ≤ x ∧ x < 4294967296) ∧ (0 ≤ y ∧ y < 4294967296) ∧ 0 ≤ c ∧ c ≤ 1, .tup [.raw (.int .u32 ((x + y + c) % 4294967296)), .raw (.int .u32 ((x + y + c) / 4294967296))])
attribute [go_sem ↓, go_sem] kAdd32
theorem add32_C : Ctr Tryz.prog 144 kAdd32 := Ctr.c3 (by kernel_rfl) fun x y c h => by
 obtain ⟨⟨h1, h2⟩, ⟨h3, h4⟩, h5, h6⟩ := h
 refine PCall.of_vc (tabs mixed tbl_nil) Tryz.func144 rfl Tryz.ntmps144 Tryz.results144 (by simp) ?_
 have a1 : x % 18446744073709551616 = x := by omega
 have a2 : y % 18446744073709551616 = y := by omega
 have a3 : c % 18446744073709551616 = c := by omega
 have a4 : (x + y + c) / 4294967296 % 4294967296 = (x + y + c) / 4294967296 := by omega
 simp only [go_sem, a1, a2, a3, a4]
 omega
def kSub32 : Con := con3 (pN .u32) (pN .u32) (pN .u32) fun x y c => ((0 ≤ x ∧ x < 4294967296) ∧ (0 ≤ y ∧ y < 4294967296) ∧ 0 ≤ c ∧ c ≤ 1, .tup [.raw (.int .u32 ((x - y - c) % 4294967296)), .raw (.int .u32 (bor x y c))])
attribute [go_sem ↓, go_sem] kSub32
theorem sub32_C : Ctr Tryz.prog 147 kSub32 := Ctr.c3 (by kernel_rfl) fun x y c h => by
 obtain ⟨⟨h1, h2⟩, ⟨h3, h4⟩, h5, h6⟩ := h
 refine PCall.of_vc (tabs mixed tbl_nil) Tryz.func147 rfl Tryz.ntmps147 Tryz.results147 (by simp) ?_
 have hs : ¬ IntKind.u32.signed = true := by decide
 have a1 : ((x - y) % 4294967296 - c) % 4294967296 = (x - y - c) % 4294967296 := by omega
 have a2 := sub32_bits x y c h1 h2 h3 h4 h5 h6
 simp only [go_sem, hs, a1, a2]
theorem plus_V (l m : List Nat) (hl : Lim l) (hm : Lim m) (h1 : l.length ≤ 30000000000000) (h2 : m.length ≤ 30000000000000) :
 PCall Tryz.prog 129 [.lst (V.limbs l), .lst (V.limbs m)] (.lst (V.limbs (nl (max l.length m.length + 1) (lv l + lv m)))) := by
 refine PCall.of_vc (tabs mixed (tbl_cons add32_C tbl_nil)) Tryz.func129 rfl Tryz.ntmps129 Tryz.results129 (by simp) ?_
 by_cases h : l.length < m.length
 ·have e1 : (l.length : Int) < m.length := by omega
  have hA : Lim m := by assumption
  have hB : Lim l := by assumption
  have hAB : l.length ≤ m.length := by omega
  have hmax : max l.length m.length = m.length := by omega
  have hsum : lv l + lv m = lv m + lv l := by omega
  have e2 : ((m.length : Nat) : Int) + 1 = ((m.length + 1 : Nat) : Int) := by omega
  have e5 : min m.length (m.length + 1) = m.length := by omega
  simp only [go_sem, e1, e2]
  and_intros
  any_goals first | omega | (simp only [limbs_len, List.length_replicate]; omega)
  refine AWp.loops (X := { x : Nat × List Nat × Nat // x.1 ≤ m.length ∧ Lim x.2.1 ∧ x.2.1.length = m.length + 1 ∧ x.2.2 ≤ 1 ∧ lv (x.2.1.take x.1) + 4294967296 ^ x.1 * x.2.2 = lv (m.take x.1) + lv (l.take x.1) })
   (fun x => mkSt [(0, .lst (V.limbs m)), (1, .lst (V.limbs l)), (5, .sl 0 1 0 (m.length + 1)), (6, .raw (.int .u32 (x.1.2.2 : Nat))), (24, .raw (.int .i64 (m.length : Nat))), (25, .raw (.int .i64 (x.1.1 : Nat)))] [(0, true, ⟨110, 1, V.limbs x.1.2.1⟩)] 1 56)
   (fun x => m.length - x.1.1) ⟨(0, m ++ [0], 0), Nat.zero_le _, hA.append (Lim.cons (by omega) Lim.nil), by simp, Nat.zero_le _, by simp [lv]⟩ (Wk.of [13] (by decide) ?_) ?_
  ·simp only [go_sem, e2, e5, List.take_length, List.drop_replicate, Nat.add_sub_cancel_left]
  ·rintro ⟨⟨k, r, c⟩, hk, hr, hrl, hc, hv⟩
   simp only at hk hr hrl hc hv
   refine vc_at (tabs mixed (tbl_cons add32_C tbl_nil)) ?_
   have e6 : (k : Int) + 1 = ((k + 1 : Nat) : Int) := by omega
   by_cases h : k < m.length
   ·have e3 : (k : Int) < m.length := by omega
    have hA1 := hA.at0 k
    have hB1 := hB.at0 k
    have es : ((at0 m k : Int) + at0 l k + c) % 4294967296 = (((at0 m k + at0 l k + c) % 4294967296 : Nat) : Int) := by omega
    have ed : ((at0 m k : Int) + at0 l k + c) / 4294967296 = (((at0 m k + at0 l k + c) / 4294967296 : Nat) : Int) := by omega
    have step : k + 1 ≤ m.length ∧ Lim (r.set k ((at0 m k + at0 l k + c) % 4294967296)) ∧ (r.set k ((at0 m k + at0 l k + c) % 4294967296)).length = m.length + 1 ∧ (at0 m k + at0 l k + c) / 4294967296 ≤ 1 ∧
     lv ((r.set k ((at0 m k + at0 l k + c) % 4294967296)).take (k + 1)) + 4294967296 ^ (k + 1) * ((at0 m k + at0 l k + c) / 4294967296) = lv (m.take (k + 1)) + lv (l.take (k + 1)) := by
     refine ⟨h, hr.set k (Nat.mod_lt _ (by decide)), by simp [hrl], by omega, ?_⟩
     rw [lv_take_set _ (by omega), lv_take_succ', lv_take_succ', Nat.pow_succ]
     exact add_step hv rfl
    by_cases hb : k < l.length
    ·have e4 : (k : Int) < l.length := by omega
     simp only [go_sem, e3, e4, e6, es, ed, hrl]
     and_intros
     any_goals omega
     refine ⟨⟨(k + 1, r.set k ((at0 m k + at0 l k + c) % 4294967296), (at0 m k + at0 l k + c) / 4294967296), step⟩, Wk.of [0] (by decide) ?_, by simp only; omega⟩
     simp only [go_sem, hrl]
    ·have e4 : ¬ (k : Int) < l.length := by omega
     have e0 : at0 l k = 0 := at0_beyond (by omega)
     rw [e0] at es ed step
     simp only [go_sem, Int.cast_ofNat_Int] at es ed
     simp only [go_sem, e3, e4, e6, es, ed, hrl]
     and_intros
     any_goals omega
     refine ⟨⟨(k + 1, r.set k ((at0 m k + 0 + c) % 4294967296), (at0 m k + 0 + c) / 4294967296), step⟩, Wk.of [0] (by decide) ?_, by simp only; omega⟩
     simp only [go_sem, hrl]
   ·have e3 : ¬ (k : Int) < m.length := by omega
    have hk' : k = m.length := by omega
    subst hk'
    simp only [go_sem, e3, hrl]
    and_intros
    any_goals omega
    have e7 : List.take (m.length + 1) (r.set m.length c) = nl (max l.length m.length + 1) (lv l + lv m) := by
     rw [List.take_of_length_le (by simp [hrl])]
     refine nl_of (hr.set _ (by omega)) (by simp [hrl, hmax]) ?_
     have := lv_take_set c (l := r) (i := m.length) (by omega)
     rw [List.take_of_length_le (by simp [hrl])] at this
     rw [this, hv, List.take_length, List.take_of_length_le hAB, hsum]
    rw [e7]; exact .refl _
 ·have e1 : ¬ (l.length : Int) < m.length := by omega
  have hA : Lim l := by assumption
  have hB : Lim m := by assumption
  have hAB : m.length ≤ l.length := by omega
  have hmax : max l.length m.length = l.length := by omega
  have hsum : lv l + lv m = lv l + lv m := by omega
  have e2 : ((l.length : Nat) : Int) + 1 = ((l.length + 1 : Nat) : Int) := by omega
  have e5 : min l.length (l.length + 1) = l.length := by omega
  simp only [go_sem, e1, e2]
  and_intros
  any_goals first | omega | (simp only [limbs_len, List.length_replicate]; omega)
  refine AWp.loops (X := { x : Nat × List Nat × Nat // x.1 ≤ l.length ∧ Lim x.2.1 ∧ x.2.1.length = l.length + 1 ∧ x.2.2 ≤ 1 ∧ lv (x.2.1.take x.1) + 4294967296 ^ x.1 * x.2.2 = lv (l.take x.1) + lv (m.take x.1) })
   (fun x => mkSt [(0, .lst (V.limbs l)), (1, .lst (V.limbs m)), (5, .sl 0 1 0 (l.length + 1)), (6, .raw (.int .u32 (x.1.2.2 : Nat))), (24, .raw (.int .i64 (l.length : Nat))), (25, .raw (.int .i64 (x.1.1 : Nat)))] [(0, true, ⟨110, 1, V.limbs x.1.2.1⟩)] 1 56)
   (fun x => l.length - x.1.1) ⟨(0, l ++ [0], 0), Nat.zero_le _, hA.append (Lim.cons (by omega) Lim.nil), by simp, Nat.zero_le _, by simp [lv]⟩ (Wk.of [9] (by decide) ?_) ?_
  ·simp only [go_sem, e2, e5, List.take_length, List.drop_replicate, Nat.add_sub_cancel_left]
  ·rintro ⟨⟨k, r, c⟩, hk, hr, hrl, hc, hv⟩
   simp only at hk hr hrl hc hv
   refine vc_at (tabs mixed (tbl_cons add32_C tbl_nil)) ?_
   have e6 : (k : Int) + 1 = ((k + 1 : Nat) : Int) := by omega
   by_cases h : k < l.length
   ·have e3 : (k : Int) < l.length := by omega
    have hA1 := hA.at0 k
    have hB1 := hB.at0 k
    have es : ((at0 l k : Int) + at0 m k + c) % 4294967296 = (((at0 l k + at0 m k + c) % 4294967296 : Nat) : Int) := by omega
    have ed : ((at0 l k : Int) + at0 m k + c) / 4294967296 = (((at0 l k + at0 m k + c) / 4294967296 : Nat) : Int) := by omega
    have step : k + 1 ≤ l.length ∧ Lim (r.set k ((at0 l k + at0 m k + c) % 4294967296)) ∧ (r.set k ((at0 l k + at0 m k + c) % 4294967296)).length = l.length + 1 ∧ (at0 l k + at0 m k + c) / 4294967296 ≤ 1 ∧
     lv ((r.set k ((at0 l k + at0 m k + c) % 4294967296)).take (k + 1)) + 4294967296 ^ (k + 1) * ((at0 l k + at0 m k + c) / 4294967296) = lv (l.take (k + 1)) + lv (m.take (k + 1)) := by
     refine ⟨h, hr.set k (Nat.mod_lt _ (by decide)), by simp [hrl], by omega, ?_⟩
     rw [lv_take_set _ (by omega), lv_take_succ', lv_take_succ', Nat.pow_succ]
     exact add_step hv rfl
    by_cases hb : k < m.length
    ·have e4 : (k : Int) < m.length := by omega
     simp only [go_sem, e3, e4, e6, es, ed, hrl]
     and_intros
     any_goals omega
     refine ⟨⟨(k + 1, r.set k ((at0 l k + at0 m k + c) % 4294967296), (at0 l k + at0 m k + c) / 4294967296), step⟩, Wk.of [0] (by decide) ?_, by simp only; omega⟩
     simp only [go_sem, hrl]
    ·have e4 : ¬ (k : Int) < m.length := by omega
     have e0 : at0 m k = 0 := at0_beyond (by omega)
     rw [e0] at es ed step
     simp only [go_sem, Int.cast_ofNat_Int] at es ed
     simp only [go_sem, e3, e4, e6, es, ed, hrl]
     and_intros
     any_goals omega
     refine ⟨⟨(k + 1, r.set k ((at0 l k + 0 + c) % 4294967296), (at0 l k + 0 + c) / 4294967296), step⟩, Wk.of [0] (by decide) ?_, by simp only; omega⟩
     simp only [go_sem, hrl]
   ·have e3 : ¬ (k : Int) < l.length := by omega
    have hk' : k = l.length := by omega
    subst hk'
    simp only [go_sem, e3, hrl]
    and_intros
    any_goals omega
    have e7 : List.take (l.length + 1) (r.set l.length c) = nl (max l.length m.length + 1) (lv l + lv m) := by
     rw [List.take_of_length_le (by simp [hrl])]
     refine nl_of (hr.set _ (by omega)) (by simp [hrl, hmax]) ?_
     have := lv_take_set c (l := r) (i := l.length) (by omega)
     rw [List.take_of_length_le (by simp [hrl])] at this
     rw [this, hv, List.take_length, List.take_of_length_le hAB, hsum]
    rw [e7]; exact .refl _
def kPlus : Con := con2 pL pL fun l m => ((Lim l ∧ Lim m) ∧ l.length ≤ 30000000000000 ∧ m.length ≤ 30000000000000, .lst (V.limbs (nl (max l.length m.length + 1) (lv l + lv m))))
attribute [go_sem ↓, go_sem] kPlus
theorem plus_C : Ctr Tryz.prog 129 kPlus := Ctr.c2 (by kernel_rfl) fun l m h => plus_V l m h.1.1 h.1.2 h.2.1 h.2.2
end Go.Proofs.YtfbogelmgdojgaaGreat


/- Contracts: minus, Add, Sub. -/
namespace Go.Proofs.YtfbogelmgdojgaaGreat
set_option linter.unusedSimpArgs false
set_option linter.unusedVariables false
open Go.RowKit

theorem minus_V (l m : List Nat) (hl : Lim l) (hm : Lim m) (h1 : l.length ≤ 30000000000000) (hml : m.length ≤ l.length) (hle : lv m ≤ lv l) :
 PCall Tryz.prog 131 [.lst (V.limbs l), .lst (V.limbs m)] (.lst (V.limbs (nl l.length (lv l - lv m)))) := by
 refine PCall.of_vc (tabs mixed (tbl_cons sub32_C tbl_nil)) Tryz.func131 rfl Tryz.ntmps131 Tryz.results131 (by simp) ?_
 simp only [go_sem]
 and_intros
 any_goals omega
 refine AWp.loops (X := { x : Nat × List Nat × Nat // x.1 ≤ l.length ∧ Lim x.2.1 ∧ x.2.1.length = l.length ∧ x.2.2 ≤ 1 ∧ lv (x.2.1.take x.1) + lv (m.take x.1) = lv (l.take x.1) + 4294967296 ^ x.1 * x.2.2 })
  (fun x => mkSt [(0, .lst (V.limbs l)), (1, .lst (V.limbs m)), (5, .sl 0 1 0 l.length), (6, .raw (.int .u32 (x.1.2.2 : Nat))), (13, .raw (.int .i64 (l.length : Nat))), (14, .raw (.int .i64 (x.1.1 : Nat)))] [(0, true, ⟨110, 1, V.limbs x.1.2.1⟩)] 1 40)
  (fun x => l.length - x.1.1) ⟨(0, List.replicate l.length 0, 0), Nat.zero_le _, Lim.replicate _, by simp, Nat.zero_le _, by simp [lv]⟩ (Wk.of [3] (by decide) ?_) ?_
 ·simp only [go_sem]
 ·rintro ⟨⟨k, r, c⟩, hk, hr, hrl, hc, hv⟩
  simp only at hk hr hrl hc hv
  refine vc_at (tabs mixed (tbl_cons sub32_C tbl_nil)) ?_
  have e6 : (k : Int) + 1 = ((k + 1 : Nat) : Int) := by omega
  by_cases h : k < l.length
  ·have e3 : (k : Int) < l.length := by omega
   have hA1 := hl.at0 k
   have hB1 := hm.at0 k
   obtain ⟨d, es⟩ : ∃ d : Nat, ((at0 l k : Int) - at0 m k - c) % 4294967296 = d := ⟨(((at0 l k : Int) - at0 m k - c) % 4294967296).toNat, by omega⟩
   obtain ⟨t, ed⟩ : ∃ t : Nat, bor (at0 l k) (at0 m k) c = t := ⟨(bor (at0 l k) (at0 m k) c).toNat, by have := bor_range (at0 l k) (at0 m k) c; omega⟩
   have ht1 : t ≤ 1 := by have := bor_range (at0 l k) (at0 m k) c; omega
   have hd1 : d < 4294967296 := by omega
   have hdt : d + at0 m k + c = at0 l k + 4294967296 * t := by unfold bor at ed; split at ed <;> omega
   have step : k + 1 ≤ l.length ∧ Lim (r.set k d) ∧ (r.set k d).length = l.length ∧ t ≤ 1 ∧ lv ((r.set k d).take (k + 1)) + lv (m.take (k + 1)) = lv (l.take (k + 1)) + 4294967296 ^ (k + 1) * t := by
    refine ⟨h, hr.set k hd1, by simp [hrl], ht1, ?_⟩
    rw [lv_take_set _ (by omega), lv_take_succ', lv_take_succ', Nat.pow_succ]
    exact sub_step hv hdt
   by_cases hb : k < m.length
   ·have e4 : (k : Int) < m.length := by omega
    simp only [go_sem, e3, e4, e6, es, ed, hrl]
    and_intros
    any_goals omega
    refine ⟨⟨(k + 1, r.set k d, t), step⟩, Wk.of [0] (by decide) ?_, by simp only; omega⟩
    simp only [go_sem, hrl]
   ·have e4 : ¬ (k : Int) < m.length := by omega
    have e0 : at0 m k = 0 := at0_beyond (by omega)
    rw [e0] at es ed
    simp only [go_sem, Int.cast_ofNat_Int] at es ed
    simp only [go_sem, e3, e4, e6, es, ed, hrl]
    and_intros
    any_goals omega
    refine ⟨⟨(k + 1, r.set k d, t), step⟩, Wk.of [0] (by decide) ?_, by simp only; omega⟩
    simp only [go_sem, hrl]
  ·have e3 : ¬ (k : Int) < l.length := by omega
   have hk' : k = l.length := by omega
   subst hk'
   simp only [go_sem, e3, hrl]
   have e7 : List.take l.length r = nl l.length (lv l - lv m) := by
    rw [List.take_of_length_le (by simp [hrl])]
    refine nl_of hr hrl ?_
    have h4 := lv_lt hr
    rw [hrl] at h4
    rw [List.take_length, List.take_of_length_le hml, List.take_of_length_le (by rw [hrl]; exact Nat.le_refl _)] at hv
    have h5 : c = 0 := by
     rcases Nat.eq_zero_or_pos c with h | h
     ·exact h
     ·have : c = 1 := by omega
      rw [this, Nat.mul_one] at hv
      omega
    rw [h5] at hv
    omega
   rw [e7]; exact .refl _
def kMinus : Con := con2 pL pL fun l m => ((Lim l ∧ Lim m) ∧ l.length ≤ 30000000000000 ∧ m.length ≤ l.length ∧ lv m ≤ lv l, .lst (V.limbs (nl l.length (lv l - lv m))))
attribute [go_sem ↓, go_sem] kMinus
theorem minus_C : Ctr Tryz.prog 131 kMinus := Ctr.c2 (by kernel_rfl) fun l m h => minus_V l m h.1.1 h.1.2 h.2.1 h.2.2.1 h.2.2.2
theorem nl_sv (s : Bool) {n v : Nat} (h : v < 4294967296 ^ n) : sv s (nl n v) = if s = true then -(v : Int) else v := by
 unfold sv; rw [lv_nl n v h]
theorem len_of_lt {l m : List Nat} (hl : Canon l) (hm : Canon m) (h : lv l ≤ lv m) : l.length ≤ m.length := by
 rcases Nat.lt_or_ge m.length l.length with g | g
 ·have := lv_lt_of_len hm.1 hl g; omega
 ·exact g
def kAdd : Con := con2 pI pI fun x y => (dl x.natAbs ≤ 14000000000000 ∧ dl y.natAbs ≤ 14000000000000, .I (x + y))
attribute [go_sem ↓, go_sem] kAdd
theorem add_C : Ctr Tryz.prog 100 kAdd := Ctr.c2 (by kernel_rfl) fun x y h => by
 obtain ⟨h1, h2⟩ := h
 obtain ⟨s, l, hz, hl, hs, e1, e2, e3⟩ := sv_open x
 obtain ⟨t, m, hz', hm, ht, f1, f2, f3⟩ := sv_open y
 refine PCall.of_vc (tabs mixed (tbl_cons compare_C (tbl_cons plus_C (tbl_cons minus_C (tbl_cons norm_C tbl_nil))))) Tryz.func100 rfl Tryz.ntmps100 Tryz.results100 (by simp) ?_
 have hc := hl.1
 have hcm := hm.1
 by_cases hst : s = t
 ·subst hst
  have e4 : (s == s) = true := by simp
  simp only [go_sem, e1, e2, f1, f2, e4, nl_length]
  refine ⟨⟨⟨hc, hcm⟩, by omega, by omega⟩, ⟨nl_lim _ _, by omega⟩, by rfl, out_II ?_⟩
  rw [nl_sv s (sum_lt hc hcm (Nat.le_max_left _ _) (Nat.le_max_right _ _)), hz, hz']
  cases s <;> simp [sv] <;> omega
 ·have e4 : (s == t) = false := by simpa using hst
  by_cases hlt : lv l < lv m
  ·have e5 : cmpI (lv l : Int) (lv m) = -1 := cmpI_lt (by omega)
   simp only [go_sem, e1, e2, f1, f2, e4, e5, nl_length]
   refine ⟨⟨⟨hl, hm⟩, by omega, by omega⟩, ⟨⟨hcm, hc⟩, by omega, len_of_lt hl hm (by omega), by omega⟩, ⟨nl_lim _ _, by omega⟩, by rfl, out_II ?_⟩
   rw [nl_sv t (Nat.lt_of_le_of_lt (Nat.sub_le _ _) (lv_lt hcm)), hz, hz']
   cases s <;> cases t <;> simp [sv] at hst ⊢ <;> omega
  ·have hge : ¬ cmpI (lv l : Int) (lv m) < 0 := by unfold cmpI; split <;> (try split) <;> omega
   simp only [go_sem, e1, e2, f1, f2, e4, hge, nl_length]
   refine ⟨⟨⟨hl, hm⟩, by omega, by omega⟩, ⟨⟨hc, hcm⟩, by omega, len_of_lt hm hl (by omega), by omega⟩, ⟨nl_lim _ _, by omega⟩, by rfl, out_II ?_⟩
   rw [nl_sv s (Nat.lt_of_le_of_lt (Nat.sub_le _ _) (lv_lt hc)), hz, hz']
   cases s <;> cases t <;> simp [sv] at hst ⊢ <;> omega
def kSub : Con := con2 pI pI fun x y => (dl x.natAbs ≤ 14000000000000 ∧ dl y.natAbs ≤ 14000000000000, .I (x - y))
attribute [go_sem ↓, go_sem] kSub
theorem sub_C : Ctr Tryz.prog 122 kSub := Ctr.c2 (by kernel_rfl) fun x y h => by
 obtain ⟨h1, h2⟩ := h
 refine PCall.of_vc (tabs mixed (tbl_cons neg_C (tbl_cons add_C tbl_nil))) Tryz.func122 rfl Tryz.ntmps122 Tryz.results122 (by simp) ?_
 simp only [go_sem, Int.natAbs_neg]
 exact ⟨⟨h1, h2⟩, by rfl, out_II (by omega)⟩
end Go.Proofs.YtfbogelmgdojgaaGreat

