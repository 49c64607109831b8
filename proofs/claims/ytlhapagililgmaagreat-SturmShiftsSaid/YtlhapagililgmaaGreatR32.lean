/- Texts A36 A38 A41 in one. -/
import Derived.Test.YtlhapagililgmaaGreatR24
/- Heaps with a matrix and other rows; weakening without new names. No program in sight. -/
namespace Go.Proofs.YtlhapagililgmaaGreat
set_option linter.unusedSimpArgs false
set_option linter.unusedVariables false
open Go.RowKit

mutual
theorem atoms_single_mem : ∀ {x z : V}, z ∈ x.atoms → z.isAgg = false
 | .agg l, z, h => atomsL_single_mem (l := l) h
 | .I n, z, h => by
   simp only [V.atoms, V.atomsI, List.mem_cons, List.not_mem_nil, or_false] at h
   rcases h with rfl | rfl <;> rfl
 | .Q q, z, h => by
   simp only [V.atoms, V.atomsI, List.mem_append, List.mem_cons, List.not_mem_nil, or_false] at h
   rcases h with (rfl | rfl) | (rfl | rfl) <;> rfl
 | .any, z, h => by simp [V.atoms] at h; subst h; rfl
 | .raw v, z, h => by simp [V.atoms] at h; subst h; rfl
 | .tup l, z, h => by simp [V.atoms] at h; subst h; rfl
 | .lst l, z, h => by simp [V.atoms] at h; subst h; rfl
 | .emp, z, h => by simp [V.atoms] at h; subst h; rfl
 | .ptr .., z, h => by simp [V.atoms] at h; subst h; rfl
 | .sl .., z, h => by simp [V.atoms] at h; subst h; rfl
 | .pel x, z, h => by simp [V.atoms] at h; subst h; rfl
 | .clo .., z, h => by simp [V.atoms] at h; subst h; rfl
theorem atomsL_single_mem : ∀ {l : List V} {z : V}, z ∈ V.atomsL l → z.isAgg = false
 | [], z, h => by simp [V.atomsL] at h
 | x :: l, z, h => by
   simp only [V.atomsL, List.mem_append] at h
   rcases h with h | h
   ·exact atoms_single_mem h
   ·exact atomsL_single_mem h
end
def RenE (θ : List Nat) (x y : V) : Prop := x.atoms.length = y.atoms.length ∧ ∀ (i : Nat) (z u : V), x.atoms[i]? = some z → y.atoms[i]? = some u → RenV θ z u
def RenLE (θ : List Nat) (l' l : List V) : Prop := l'.length = l.length ∧ ∀ (i : Nat) (x y : V), l'[i]? = some x → l[i]? = some y → RenE θ x y
def RenBE (θ : List Nat) (k : Nat) (x : Blk) (H : Hp) : Prop := ∃ k0 y, θ[k]? = some k0 ∧ H k0 = some y ∧ x.t = y.t ∧ x.e = y.e ∧ RenLE θ x.l y.l
def RenHE (θ : List Nat) (H' H : Hp) : Prop := ∀ k x, H' k = some x → RenBE θ k x H
theorem RenE.of {θ : List Nat} {x y : V} (h : RenV θ x y) (h2 : x = .any → y.isAgg = false) : RenE θ x y := by
 have single : ∀ {x y : V}, x.isAgg = false → y.isAgg = false → RenV θ x y → RenE θ x y := fun hx hy h => by
  refine ⟨by rw [V.atoms_single hx, V.atoms_single hy]; rfl, fun i z u hz hu => ?_⟩
  rw [V.atoms_single hx] at hz
  rw [V.atoms_single hy] at hu
  cases i with
  | zero => simp at hz hu; subst hz hu; exact h
  | succ i => simp at hz
 have same : ∀ {x y : V}, x.atoms = y.atoms → x.pure = true → RenE θ x y := fun he hp => by
  refine ⟨by rw [he], fun i z u hz hu => ?_⟩
  rw [← he, hz] at hu
  injection hu with hu
  subst hu
  refine renV_pure ?_
  have hz2 := List.mem_of_getElem? hz
  have : pureA z = true := List.all_eq_true.1 hp z hz2
  unfold V.pure
  rw [V.atoms_single (atoms_single_mem hz2)]
  simpa using this
 unfold RenV at h
 split at h
 ·exact single rfl (h2 rfl) trivial
 ·exact single rfl rfl h
 ·exact single rfl rfl h
 ·exact single rfl rfl h
 ·obtain ⟨hp, rfl | ⟨_, _, h3⟩⟩ := h
  ·exact same rfl hp
  ·exact same h3 hp
theorem RenLE.of {θ : List Nat} {l' l : List V} (h : RenL θ l' l) : RenLE θ l' l := ⟨h.1, fun i x y hx hy => (RenE.of (h.2 i x y hx hy).1 (h.2 i x y hx hy).2.2)⟩
section
theorem Wk.mkE {σ σ' : St} (θ : List Nat) (hN : σ'.N = σ.N) (hm : σ'.m = σ.m) (hq : σ'.q = σ.q) (hid : ∀ k, k < σ.m → θ[k]? = some k) (hn : σ'.n = θ.length) (hs : RenS θ σ'.s σ.s) (hH : RenHE θ σ'.H σ.H) (hnd : θ.Nodup) (ht : ∀ t l, σ'.s t ≠ .tup l) : Wk σ σ' := by
 intro B A W a w ρ h
 have hlive : ∀ k x b, σ'.H k = some x → renR θ ρ k = some b → ∃ k0 y, θ[k]? = some k0 ∧ σ.H k0 = some y ∧ ρ k0 = some b := fun k x b h1 h2 => by
  obtain ⟨k0, y, e1, e2, _⟩ := hH k x h1
  refine ⟨k0, y, e1, e2, ?_⟩
  simpa [renR, e1] using h2
 have hO : Ext w (own B ρ σ.H) ρ w (own B (renR θ ρ) σ'.H) ρ := Ext.less fun b hb => by
  rcases hb with hb | ⟨k, x, h1, h2⟩
  ·exact .inl hb
  ·obtain ⟨k0, y, _, e2, e3⟩ := hlive k x b h1 h2
   exact .inr ⟨k0, y, e2, e3⟩
 refine ⟨renR θ ρ, fun e => h.defers (by rw [← hq]; exact e), by rw [hN]; exact h.size, fun t => RepV.of_W (ren_atomic (hs t) (ht t) (h.slots t) hO) (ht t), ⟨fun k x hk => ?_, fun k k' x x' b h1 h2 h3 h4 => ?_⟩, fun k hk => ?_, fun k x b h1 h2 => ?_, h.os, h.tape, h.output, h.grow, h.same, h.row, fun k b e => ⟨by rw [hm]; exact (h.pins k b e).1, by simp [renR, hid k (h.pins k b e).1, (h.pins k b e).2]⟩, h.marks⟩
 ·obtain ⟨k0, y, e1, e2, e3, e4, e5, e6⟩ := hH k x hk
  obtain ⟨b, arr, g1, g2, g3, g4, g5⟩ := h.heap.row k0 y e2
  have hall : ∀ z ∈ x.l, z.wid = x.e := fun z hz => by
   obtain ⟨i, hi⟩ := List.getElem?_of_mem hz
   have hil : i < y.l.length := by rw [← e5]; exact (List.getElem?_eq_some_iff.1 hi).1
   have h1 := e6 i z _ hi (List.getElem?_eq_getElem hil)
   show z.atoms.length = x.e
   rw [h1.1, e4]
   exact g3 _ (List.getElem_mem hil)
  have hlx := V.atomsL_length hall
  have hly := V.atomsL_length g3
  refine ⟨b, arr, by simp [renR, e1, g1], by rw [e3]; exact g2, hall, by rw [hlx, e5, e4, ← hly]; exact g4, fun j z u hz hu => ?_⟩
  have hjl : j < x.l.length * x.e := by rw [← hlx]; exact (List.getElem?_eq_some_iff.1 hz).1
  have hpos : 0 < x.e := by
   rcases Nat.eq_zero_or_pos x.e with e0 | e0
   ·rw [e0] at hjl; omega
   ·exact e0
  have hdm : j / x.e * x.e + j % x.e = j := by rw [Nat.mul_comm]; exact Nat.div_add_mod j x.e
  have hmod : j % x.e < x.e := Nat.mod_lt _ hpos
  have hdl : j / x.e < x.l.length := by rw [Nat.div_lt_iff_lt_mul hpos]; omega
  have hix : x.l[j / x.e]? = some x.l[j / x.e] := List.getElem?_eq_getElem hdl
  have hiy : y.l[j / x.e]? = some (y.l[j / x.e]'(by omega)) := List.getElem?_eq_getElem (by omega)
  have hz' := V.atomsL_get hall hix hmod
  rw [hdm, hz] at hz'
  obtain ⟨r0, r1⟩ := e6 _ _ _ hix hiy
  have hjy : j % x.e < (y.l[j / x.e]'(by omega)).atoms.length := by
   have := (List.getElem?_eq_some_iff.1 hz'.symm).1
   omega
  have r1 := r1 (j % x.e) z _ hz'.symm (List.getElem?_eq_getElem hjy)
  generalize hyy : ((y.l[j / x.e]'(by omega)).atoms[j % x.e]'hjy) = q at r1
  have hq : RepA w (own B ρ σ.H) ρ q u := by
   refine g5 j q u ?_ hu
   have := V.atomsL_get g3 hiy (j := j % x.e) (by rw [← e4]; exact hmod)
   rw [← e4, hdm] at this
   rw [this, ← hyy]
   exact List.getElem?_eq_getElem hjy
  have hz1 : z.isAgg = false := atoms_single_mem (List.mem_of_getElem? hz'.symm)
  unfold RenV at r1
  split at r1
  ·exact .any _ _
  ·obtain ⟨rfl, c1, c2⟩ := r1
   exact ren_clo c1 c2 hq hO
  ·rename_i k1 q1 i1 o1 k2 q2 i2 o2
   obtain ⟨a1, rfl, rfl, rfl⟩ := r1
   cases hq with
   | ptr _ _ _ _ _ b' hb' => exact .ptr _ _ _ _ _ _ (by simp [renR, a1, hb'])
  ·rename_i k1 q1 i1 o1 k2 q2 i2 o2
   obtain ⟨a1, rfl, rfl, rfl⟩ := r1
   cases hq with
   | sl _ _ _ _ _ b' c arr' t fr c1 c2 c3 c4 => exact .sl _ _ _ _ _ _ _ arr' t fr (by simp [renR, a1, c1]) c2 c3 c4
  ·obtain ⟨hp, heq⟩ := r1
   have heq : z = q := by
    rcases heq with h | ⟨h, _, _⟩
    ·exact h
    ·rw [hz1] at h; cases h
   rw [← heq] at hq
   have hzp : pureA z = true := by
    unfold V.pure at hp
    rw [V.atoms_single hz1] at hp
    simpa using hp
   exact ((hq.mono hO).pureA hzp).mono ((Ext.refl _ _ _).into _)
 ·obtain ⟨k0, y, e1, e2, e3⟩ := hlive k x b h1 h3
  obtain ⟨k0', y', e1', e2', e3'⟩ := hlive k' x' b h2 h4
  have hk0 := h.heap.inj k0 k0' y y' b e2 e2' e3 e3'
  subst hk0
  obtain ⟨hk, hv⟩ := List.getElem?_eq_some_iff.1 e1
  obtain ⟨hk', hv'⟩ := List.getElem?_eq_some_iff.1 e1'
  have hpw := List.pairwise_iff_getElem.1 hnd
  rcases Nat.lt_trichotomy k k' with hlt | rfl | hlt
  ·exact absurd (hv.trans hv'.symm) (hpw k k' hk hk' hlt)
  ·rfl
  ·exact absurd (hv'.trans hv.symm) (hpw k' k hk' hk hlt)
 ·unfold renR
  rw [List.getElem?_eq_none (by omega)]
  rfl
 ·obtain ⟨k0, y, e1, e2, e3⟩ := hlive k x b h1 h2
  exact h.mine k0 y b e2 e3
end
def ClosedH (n : Nat) (H : Hp) : Prop := ∀ k x, H k = some x → k < n ∧ RenLE (List.range n) x.l x.l
theorem Wk.low (n0 : Nat) {σ σ' : St} (hN : σ'.N = σ.N) (hm : σ'.m = σ.m) (hq : σ'.q = σ.q) (hmn : σ.m ≤ n0) (hn : σ'.n = n0) (hs : RenS (List.range n0) σ'.s σ.s) (ht : ∀ t l, σ'.s t ≠ .tup l) (hc : ClosedH n0 σ'.H) (hH : ∀ k, k < n0 → σ.H k = σ'.H k) : Wk σ σ' := by
 refine Wk.mkE (List.range n0) hN hm hq (fun k hk => List.getElem?_range (by omega)) (by rw [List.length_range, hn]) hs (fun k x hk => ?_) List.nodup_range ht
 obtain ⟨h1, h2⟩ := hc k x hk
 exact ⟨k, x, List.getElem?_range h1, by rw [hH k h1]; exact hk, rfl, rfl, h2⟩
theorem wkS_ren {θ : List Nat} {s : Nat → V} : ∀ (l : List (Nat × V)), wkS θ s l → RenS θ (mkS l) s ∧ ∀ t m, mkS l t ≠ .tup m
 | [], _ => ⟨fun t => trivial, fun t m h => by simp [mkS] at h⟩
 | p :: l, hl => by
   obtain ⟨⟨q1, q2⟩, q3⟩ := hl
   obtain ⟨i1, i2⟩ := wkS_ren l q3
   refine ⟨fun t => ?_, fun t m => ?_⟩
   ·simp only [mkS, upS]
    split
    ·rename_i e; subst e; exact q2
    ·exact i1 t
   ·simp only [mkS, upS]
    split
    ·intro e; rw [e] at q1; simp [V.noTup] at q1
    ·exact i2 t m
theorem Wk.lowS (n0 : Nat) {σ : St} {ss : List (Nat × V)} {H : Hp} {N m : Nat} (hN : N = σ.N) (hm : m = σ.m) (hq : σ.q = false) (hmn : m ≤ n0) (hs : wkS (List.range n0) σ.s ss) (hc : ClosedH n0 H) (hH : ∀ k, k < n0 → σ.H k = H k) : Wk σ { s := mkS ss, H := H, n := n0, N := N, m := m } :=
 Wk.low n0 hN hm hq.symm (by rw [← hm]; exact hmn) rfl (wkS_ren ss hs).1 (wkS_ren ss hs).2 hc hH
@[go_sem ↓, go_sem] theorem ev_arg_ptr {H : Hp} {b e i off : Nat} {kA : V → List Nat → Prop} : arg1 H (.ptr b e i off) kA = argA H (.ptr b e i off) kA := rfl
theorem PCall.pel {P : Program} {f : FuncId} {args : List V} {x y : V} (h : PCall P f args (.pel x)) (e : atsLe x.atoms y.atoms) : PCall P f args (.pel y) := by
 intro B w vs hl hr hB
 refine (h B w vs hl hr hB).mono ?_
 rintro e' w' ⟨v, rfl, hv, hb⟩
 have hA := RepW.atom (show RepW w' B (fun _ => none) (.pel x) v from hv) rfl
 refine ⟨v, rfl, ?_, hb⟩
 cases hA with
 | pel _ _ b a us g1 g2 g3 g4 g5 => 
   obtain ⟨e1, e2⟩ := e.get
   refine RepW.of_atom (.pel _ y b a us g1 g2 g3 (by omega) fun j r u hj hu => ?_) rfl rfl
   obtain ⟨q, k1, k2⟩ := e2 j r hj
   exact k2.rep (g5 j q u k1 hu)
def frzU (t : Nat) (Q : Exit → St → Prop) : Exit → St → Prop
 | .normal, τ => match τ.s t with
   | .sl k _ _ _ => optC (τ.H k) fun y => frzs (frzE (argN τ.H 3)) y.l fun l' rs => (rs.all fun i => !(i == k)) = true ∧ Q .normal { τ with H := (τ.H.drops rs).up k (some ⟨y.t, y.e, l'⟩) }
   | _ => Q .normal τ
 | e, τ => Q e τ
@[go_sem ↓, go_sem] theorem ev_frzU_e {t : Nat} {Q : Exit → St → Prop} {σ : St} : frzU t Q .ret σ = Q .ret σ := rfl
@[go_sem ↓, go_sem] theorem ev_frzU_x {t id : Nat} {Q : Exit → St → Prop} {σ : St} : frzU t Q (.exit id) σ = Q (.exit id) σ := rfl
@[go_sem] theorem renV_Q {θ : List Nat} {q : Rat} : RenV θ (.Q q) (.Q q) = True := eq_true (renV_pure rfl)
@[go_sem] theorem range_get {n k : Nat} (h : k < n) : (List.range n)[k]? = some k := List.getElem?_range h
theorem closed_up {n k : Nat} {H : Hp} {x : Blk} (h : ClosedH n H) (hk : k < n) (hx : RenLE (List.range n) x.l x.l) : ClosedH n (H.up k (some x)) := fun j y hy => by
 unfold Hp.up at hy
 split at hy
 ·rename_i e; subst e; injection hy with hy; subst hy; exact ⟨hk, hx⟩
 ·exact h j y hy
theorem renV_mono {n m : Nat} (hm : n ≤ m) {x y : V} (h : RenV (List.range n) x y) : RenV (List.range m) x y := by
 have sub : ∀ k k0, (List.range n)[k]? = some k0 → (List.range m)[k]? = some k0 := fun k k0 e => by
  have hk : k < n := by have := (List.getElem?_eq_some_iff.1 e).1; simpa using this
  rw [List.getElem?_range hk] at e
  rw [List.getElem?_range (by omega)]; exact e
 have cs : ∀ (a b : List V), RenCs (List.range n) a b → RenCs (List.range m) a b := fun a => by
  induction a with
  | nil => intro b hb; cases b <;> exact hb
  | cons p a ih =>
    intro b hb
    cases b with
    | nil => exact hb
    | cons q b =>
      refine ⟨?_, ih b hb.2⟩
      have := hb.1
      unfold RenC at this ⊢
      split at this
      ·exact ⟨sub _ _ this.1, this.2⟩
      ·exact this
 unfold RenV at h ⊢
 split at h
 ·trivial
 ·exact ⟨h.1, cs _ _ h.2.1, cs _ _ h.2.2⟩
 ·exact ⟨sub _ _ h.1, h.2⟩
 ·exact ⟨sub _ _ h.1, h.2⟩
 ·exact h
theorem closed_mono {n m : Nat} {H : Hp} (h : ClosedH n H) (hm : n ≤ m) : ClosedH m H := fun k x hk => by
 obtain ⟨h1, h2, h3⟩ := h k x hk
 refine ⟨by omega, h2, fun i x y hx hy => ?_⟩
 obtain ⟨g1, g2⟩ := h3 i x y hx hy
 exact ⟨g1, fun i z u hz hu => renV_mono hm (g2 i z u hz hu)⟩
section
variable {o b : Nat} {tO t : TypeId} {w : Nat} {M : List (List Rat)} {H : Hp}
end
def mkHb (base : Hp) : List (Nat × Bool × Blk) → Hp
 | [] => base
 | (k, _, x) :: l => (mkHb base l).up k (some x)
attribute [go_sem] mkHb.eq_1 mkHb.eq_2
theorem liveTo_of {H : Hp} : ∀ {m : Nat}, (∀ k, k < m → (H k).isSome = true) → liveTo H m
 | 0, _ => trivial
 | m + 1, h => ⟨h m (by omega), liveTo_of fun k hk => h k (by omega)⟩
theorem AWp.block {P : Program} {id : Nat} {c : Code} {Q : Exit → St → Prop} {σ : St} (h : AWp P c (blkE id Q) σ) : AWp P (.block id c) Q σ := by
 intro B A W st a w ρ hs r _
 refine wpIn_block (wpIn_mono (h B A W st a w ρ hs (r := r)) ?_)
 rintro e a' w' ⟨σ', ρ', h1, h2⟩
 cases e with
 | exit id' =>
   simp only [blkE] at h1
   simp only [Exit.inBlock]
   split
   ·rename_i e; rw [if_pos e] at h1; exact ⟨σ', ρ', h1, h2⟩
   ·rename_i e; rw [if_neg e] at h1; exact ⟨σ', ρ', h1, h2⟩
 | normal => exact ⟨σ', ρ', h1, h2⟩
 | goto l => exact ⟨σ', ρ', h1, h2⟩
 | ret => exact ⟨σ', ρ', h1, h2⟩
 | panic c => exact ⟨σ', ρ', h1, h2⟩
 | outgrown => exact ⟨σ', ρ', h1, h2⟩
theorem AWp.cond {P : Program} {c : Operand} {x y : Code} {Q : Exit → St → Prop} {σ : St} {t : Bool} (hc : σ.ev c = .raw (.bool t)) (h : (t = true → AWp P x Q σ) ∧ (t = false → AWp P y Q σ)) : AWp P (.cond c x y) Q σ := by
 intro B A W st a w ρ hs r _
 have hv := hs.ev c
 rw [hc] at hv
 have hv := RepW.raw_inv hv
 refine wpIn_cond hv ?_
 cases t with
 | true => exact h.1 rfl B A W st a w ρ hs
 | false => exact h.2 rfl B A W st a w ρ hs
def hbk (k : Nat) (pb : Option Blk) : Hp := fun j => if j = k then pb else none
@[go_sem] theorem hbk_eq (k : Nat) (pb : Option Blk) (j : Nat) : hbk k pb j = if j = k then pb else none := rfl
end Go.Proofs.YtlhapagililgmaaGreat


/- Rules for what is handed over, with proofs that are no plain unfolding: the kernel compares less. -/
namespace Go.Proofs.YtlhapagililgmaaGreat
set_option linter.unusedSimpArgs false
set_option linter.unusedVariables false
open Go.RowKit

section
variable {H : Hp} {m : Nat} {F : V → (V → List Nat → Prop) → Prop} {kA : V → List Nat → Prop} {kL : List V → List Nat → Prop}
theorem viaT {p : Prop} (h : p) : p := by
 by_cases t : True
 ·exact h
 ·exact h
@[go_sem ↓ high, go_sem high] theorem frzs_cons' {x : V} {xs : List V} : frzs F (x :: xs) kL = F x fun y r => frzs F xs fun ys rs => kL (y :: ys) (r ++ rs) := viaT rfl
@[go_sem ↓ high, go_sem high] theorem frzs_nil' : frzs F [] kL = kL [] [] := viaT rfl
@[go_sem ↓ high, go_sem high] theorem frzE_I' {z : Int} : frzE F (.I z) kA = kA (.I z) [] := viaT rfl
@[go_sem ↓ high, go_sem high] theorem frzE_Q' {z : Rat} : frzE F (.Q z) kA = kA (.Q z) [] := viaT rfl
@[go_sem ↓ high, go_sem high] theorem frzE_agg' {l : List V} : frzE F (.agg l) kA = if (V.agg l).pure = true then kA (.agg l) [] else (V.agg l).good = true ∧ frzs F (V.agg l).atoms fun ys rs => kA (.agg ys) rs := viaT rfl
@[go_sem ↓ high, go_sem high] theorem frzE_raw' {v : Value} : frzE F (.raw v) kA = F (.raw v) kA := viaT rfl
@[go_sem ↓ high, go_sem high] theorem frzE_lst' {l : List V} : frzE F (.lst l) kA = F (.lst l) kA := viaT rfl
@[go_sem ↓ high, go_sem high] theorem frzE_sl' {b e o n : Nat} : frzE F (.sl b e o n) kA = F (.sl b e o n) kA := viaT rfl
@[go_sem ↓ high, go_sem high] theorem frzE_ptr' {b e o n : Nat} : frzE F (.ptr b e o n) kA = F (.ptr b e o n) kA := viaT rfl
@[go_sem ↓ high, go_sem high] theorem frzE_emp' : frzE F .emp kA = F .emp kA := viaT rfl
@[go_sem ↓ high, go_sem high] theorem frzE_pel' {x : V} : frzE F (.pel x) kA = F (.pel x) kA := viaT rfl
@[go_sem ↓ high, go_sem high] theorem argN_nil' : argN H (m + 1) (.raw (.slice none 0 0)) kA = kA (.lst []) [] := viaT rfl
@[go_sem ↓ high, go_sem high] theorem argN_emp' : argN H (m + 1) .emp kA = kA (.lst []) [] := viaT rfl
@[go_sem ↓ high, go_sem high] theorem arg_ptr' {b e i off : Nat} : arg1 H (.ptr b e i off) kA = argA H (.ptr b e i off) kA := viaT rfl
end
end Go.Proofs.YtlhapagililgmaaGreat


/- A statement whose order is open, of which the last operation works on the caller's rows. No program in sight. -/
namespace Go.Proofs.YtlhapagililgmaaGreat
set_option linter.unusedSimpArgs false
set_option linter.unusedVariables false
open Go.RowKit

section
variable {F : Fence} {n : Nat} {P : Program} {ops : Array Oper} {o : Oper} {Q : Exit → Act → World → Prop}
def lastQ (F : Fence) (n : Nat) (P : Program) (ops : Array Oper) (o : Oper) (Q : Exit → Act → World → Prop) : Exit → Act → World → Prop
 | .normal, a, w => wpOpIn F n P (ops.push o) Q ops.size (fun a w => Q .normal a w) a w
 | e, a, w => Q e a w
def ClosedL (ops : Array Oper) (E : Nat → Bool) : Prop := ∀ j x, ops[j]? = some x → E j = true → ∀ e ∈ x.after.toList, Region.binds .any e = true → E e.on = true
theorem push_get {j : Nat} (h : j < ops.size) : (ops.push o)[j]? = ops[j]? := by
 rw [Array.getElem?_push, if_neg (by omega)]
theorem wpOp_last {i : Nat} {K K' : Act → World → Prop} {a : Act} {w : World} (hi : i < ops.size) (hg : ∀ x, ops[i]? = some x → x.guard = none) (hK : ∀ a w, K a w → K' a w)
 (h : wpOpIn F n P ops (lastQ F n P ops o Q) i K a w) : wpOpIn F n P (ops.push o) Q i K' a w := by
 unfold wpOpIn at h ⊢
 rw [push_get hi]
 cases hx : ops[i]? with
 | none => rw [hx] at h; exact hK _ _ h
 | some x =>
   rw [hx] at h
   simp only at h ⊢
   have w1 : ∀ y, Region.wanted x y = true := fun y => by simp [Region.wanted, hg x hx]
   rw [if_pos (w1 _)] at h ⊢
   unfold Oper.wpIn at h ⊢
   refine ⟨h.1, ?_⟩
   have hh := h.2
   generalize (x.semAt F.round a.eval).run P w = r at *
   cases r with
   | ok y w' =>
     cases y <;> simp only [Oper.uponIn] at hh ⊢ <;>
      first
       | exact hK _ _ hh
       | exact ⟨hh.1, CallsIn.mono hh.2 (fun e w'' he => by cases e <;> first | exact hK _ _ he | exact he)⟩
       | exact ⟨hh.1, RowsIn.mono hh.2 (fun _ _ he => hK _ _ he)⟩
       | exact ⟨hh.1, RoundIn.mono hh.2 (fun e w'' he => by cases e <;> first | exact hK _ _ he | exact he)⟩
   | halt y w' => cases y <;> simp only [Oper.uponIn] at hh ⊢ <;> exact hh
theorem pg_lt {l : Array Bool} {b d : Bool} {i : Nat} (h : i < l.size) : (l.push b).getD i d = l.getD i d := by
 rw [Array.getD_eq_getD_getElem?, Array.getD_eq_getD_getElem?, Array.getElem?_push, if_neg (by omega)]
theorem pg_eq {l : Array Bool} {b d : Bool} {i : Nat} (h : i = l.size) : (l.push b).getD i d = b := by
 rw [Array.getD_eq_getD_getElem?, Array.getElem?_push, if_pos h]; rfl
theorem gd_dflt {l : Array Bool} {i : Nat} (h : i < l.size) : l.getD i true = l.getD i false := by
 rw [Array.getD_eq_getD_getElem?, Array.getD_eq_getD_getElem?, Array.getElem?_eq_getElem h]; rfl
theorem all_listed (hlow : ∀ j x, ops[j]? = some x → ∀ e ∈ x.after.toList, Region.binds .any e = true → e.on < j) {listed : Array Bool} (hs : listed.size = ops.size) (hr : Region.ready .any ops listed = []) : ∀ m i, i ≤ m → i < ops.size → listed.getD i false = true := by
 intro m
 induction m with
 | zero =>
   intro i hi hil
   cases hE : listed.getD i false with
   | true => rfl
   | false =>
     have hmem : i ∈ Region.ready .any ops listed := mem_ready.2 ⟨by rw [gd_dflt (by omega)]; exact hE, ops[i], Array.getElem?_eq_getElem hil, fun e he hb => by
      have := hlow i _ (Array.getElem?_eq_getElem hil) e (by simpa using he) hb
      omega⟩
     rw [hr] at hmem; cases hmem
 | succ m ih =>
   intro i hi hil
   cases hE : listed.getD i false with
   | true => rfl
   | false =>
     have hmem : i ∈ Region.ready .any ops listed := mem_ready.2 ⟨by rw [gd_dflt (by omega)]; exact hE, ops[i], Array.getElem?_eq_getElem hil, fun e he hb => by
      have := hlow i _ (Array.getElem?_eq_getElem hil) e (by simpa using he) hb
      exact ih e.on (by omega) (by omega)⟩
     rw [hr] at hmem; cases hmem
theorem any_push (hg : ∀ (j : Nat) (x : Oper), ops[j]? = some x → x.guard = none) (hlow : ∀ j x, ops[j]? = some x → ∀ e ∈ x.after.toList, Region.binds .any e = true → e.on < j) (hanc : ∀ i, i < ops.size → ancB (ops.push o).toList ops.size i = true)
 (hlo : ∀ e ∈ o.after.toList, Region.binds .any e = true → e.on < ops.size) : ∀ (fuel : Nat) (listed : Array Bool) (a : Act) (w : World), listed.size = ops.size → ClosedL ops (fun i => listed.getD i false) → wpAnyIn F n P .any ops (lastQ F n P ops o Q) fuel listed a w →
  wpAnyIn F n P .any (ops.push o) Q (fuel + 1) (listed.push false) a w := by
 have hok : (ops.push o)[ops.size]? = some o := by rw [Array.getElem?_push, if_pos rfl]
 -- once the last one may come up, all the others have
 have full : ∀ listed : Array Bool, listed.size = ops.size → ClosedL ops (fun i => listed.getD i false) → ops.size ∈ Region.ready .any (ops.push o) (listed.push false) → ∀ i, i < ops.size → listed.getD i false = true := by
  intro listed hs hc hk i hi
  obtain ⟨h0, x, hx, hall⟩ := mem_ready.1 hk
  rw [hok] at hx
  injection hx with hx
  subst hx
  refine anc_closed (os := (ops.push o).toList) (E := fun i => listed.getD i false) (fun j y hy hE e he hb => ?_) _ ops.size o (Nat.le_refl _) (by simp) (fun e he hb => ?_) i (hanc i hi)
  ·have hj : j < ops.size := by
    by_cases h : j < ops.size
    ·exact h
    ·have hE : listed.getD j false = true := hE
     rw [Array.getD_eq_getD_getElem?, Array.getElem?_eq_none (by omega)] at hE
     cases hE
   refine hc j y ?_ hE e he hb
   rw [Array.getElem?_toList, push_get hj] at hy
   exact hy
  ·have := hall e (by simpa using he) hb
   rwa [pg_lt (by rw [hs]; exact hlo e he hb)] at this
 have back : ∀ (listed : Array Bool) (i : Nat), listed.size = ops.size → i < ops.size → i ∈ Region.ready .any (ops.push o) (listed.push false) → i ∈ Region.ready .any ops listed := by
  intro listed i hs hi hm
  obtain ⟨h0, x, hx, hall⟩ := mem_ready.1 hm
  rw [push_get hi] at hx
  refine mem_ready.2 ⟨by rw [← h0, pg_lt (by omega)], x, hx, fun e he hb => ?_⟩
  have h1 := hall e he hb
  have h2 := hlow i x hx e (by simpa using he) hb
  rwa [pg_lt (by omega)] at h1
 have forth : ∀ (listed : Array Bool) (i : Nat), listed.size = ops.size → i ∈ Region.ready .any ops listed → i ∈ Region.ready .any (ops.push o) (listed.push false) := by
  intro listed i hs hm
  obtain ⟨h0, x, hx, hall⟩ := mem_ready.1 hm
  have hi : i < ops.size := (Array.getElem?_eq_some_iff.1 hx).1
  refine mem_ready.2 ⟨by rw [pg_lt (by omega)]; exact h0, x, by rw [push_get hi]; exact hx, fun e he hb => ?_⟩
  have h1 := hall e he hb
  have h2 := hlow i x hx e (by simpa using he) hb
  rwa [pg_lt (by omega)]
 have nil_of_full : ∀ listed : Array Bool, listed.size = ops.size → (∀ i, i < ops.size → listed.getD i false = true) → Region.ready .any ops listed = [] := by
  intro listed hs hf
  rw [List.eq_nil_iff_forall_not_mem]
  intro i hi
  obtain ⟨h0, x, hx, _⟩ := mem_ready.1 hi
  have hil : i < ops.size := (Array.getElem?_eq_some_iff.1 hx).1
  rw [gd_dflt (by omega), hf i hil] at h0
  cases h0
 have lastly : ∀ (fuel : Nat) (listed : Array Bool) (a : Act) (w : World), listed.size = ops.size → (∀ i, i < ops.size → listed.getD i false = true) → lastQ F n P ops o Q .normal a w → wpOpIn F n P (ops.push o) Q ops.size (wpAnyIn F n P .any (ops.push o) Q fuel ((listed.push false).setIfInBounds ops.size true)) a w := by
  intro fuel listed a w hs hf h
  have e : Region.ready .any (ops.push o) ((listed.push false).setIfInBounds ops.size true) = [] := by
   rw [List.eq_nil_iff_forall_not_mem]
   intro i hi
   obtain ⟨h0, x, hx, _⟩ := mem_ready.1 hi
   have hil : i < (ops.push o).size := (Array.getElem?_eq_some_iff.1 hx).1
   rw [Array.size_push] at hil
   by_cases e : i = ops.size
   ·subst e
    rw [Array.getD_eq_getD_getElem?, Array.getElem?_setIfInBounds_self_of_lt (by rw [Array.size_push]; omega)] at h0
    cases h0
   ·rw [Array.getD_eq_getD_getElem?, Array.getElem?_setIfInBounds_ne (fun e' => e e'.symm), ← Array.getD_eq_getD_getElem?, pg_lt (by omega), gd_dflt (by omega), hf i (by omega)] at h0
    cases h0
  refine wpOpIn_mono (fun a' w' hq => ?_) h
  cases fuel with
  | zero => exact ⟨e, hq⟩
  | succ fuel => exact ⟨fun _ => hq, fun i hi => by rw [e] at hi; cases hi⟩
 intro fuel
 induction fuel with
 | zero =>
   intro listed a w hs hc h
   obtain ⟨h1, h2⟩ := h
   have hf := fun i hi => all_listed hlow hs h1 i i (Nat.le_refl _) hi
   have hk : ops.size ∈ Region.ready .any (ops.push o) (listed.push false) := mem_ready.2 ⟨pg_eq (by omega), o, hok, fun e he hb => by
    have := hlo e (by simpa using he) hb
    rw [pg_lt (by omega)]; exact hf _ this⟩
   refine ⟨fun hr => (by rw [hr] at hk; cases hk), fun i hi => ?_⟩
   by_cases e : i = ops.size
   ·subst e; exact lastly 0 listed a w hs hf h2
   ·obtain ⟨_, x, hx, _⟩ := mem_ready.1 hi
    have hil : i < (ops.push o).size := (Array.getElem?_eq_some_iff.1 hx).1
    rw [Array.size_push] at hil
    have := back listed i hs (by omega) hi
    rw [h1] at this; cases this
 | succ fuel ih =>
   intro listed a w hs hc h
   obtain ⟨h1, h2⟩ := h
   refine ⟨fun hr => ?_, fun i hi => ?_⟩
   ·have hrn : Region.ready .any ops listed = [] := by
     rw [List.eq_nil_iff_forall_not_mem]
     intro i hi
     have := forth listed i hs hi
     rw [hr] at this; cases this
    have hf := fun i hi => all_listed hlow hs hrn i i (Nat.le_refl _) hi
    have hk : ops.size ∈ Region.ready .any (ops.push o) (listed.push false) := mem_ready.2 ⟨pg_eq (by omega), o, hok, fun e he hb => by
     have := hlo e (by simpa using he) hb
     rw [pg_lt (by omega)]; exact hf _ this⟩
    rw [hr] at hk; cases hk
   ·by_cases eik : i = ops.size
    ·subst eik
     have hf := full listed hs hc hi
     exact lastly (fuel + 1) listed a w hs hf (h1 (nil_of_full listed hs hf))
    ·obtain ⟨_, x, hx, _⟩ := mem_ready.1 hi
     have hil : i < (ops.push o).size := (Array.getElem?_eq_some_iff.1 hx).1
     rw [Array.size_push] at hil
     have hik : i < ops.size := by omega
     have hm := back listed i hs hik hi
     have hset : (listed.push false).setIfInBounds i true = (listed.setIfInBounds i true).push false := by
      apply Array.ext'
      rw [Array.toList_setIfInBounds, Array.toList_push, Array.toList_push, Array.toList_setIfInBounds, List.set_append_left _ _ (by simpa using (show i < listed.size by omega))]
     rw [hset]
     refine wpOp_last hik (hg i) (fun a' w' hk => ih _ a' w' (by simp [hs]) ?_ hk) (h2 i hm)
     intro j y hy hE e he hb
     have hil2 : i < listed.size := by omega
     have hE : (listed.setIfInBounds i true).getD j false = true := hE
     show (listed.setIfInBounds i true).getD e.on false = true
     rw [getD_set hil2] at hE ⊢
     simp only [Bool.or_eq_true] at hE ⊢
     rcases hE with hE | hE
     ·exact .inl (hc j y hy hE e he hb)
     ·have ej : j = i := by simpa using hE
      subst ej
      obtain ⟨_, z, hz, hall⟩ := mem_ready.1 hm
      rw [hy] at hz
      injection hz with hz
      subst hz
      exact .inl (hall e (by simpa using he) hb)
theorem AWp.last {Γ : Tab} {Δ : Gab} {Q : Exit → St → Prop} {σ : St} (T : Tabs P Γ Δ) {id : Nat} {opsA : Array Oper} (hops : opsA = ops.push o) (hg : (ops.toList.all fun x => x.guard.isNone) = true) (hlo : (o.after.toList.all fun e => decide (e.on < ops.size)) = true) (hanc : ((List.range ops.size).all fun i => ancB opsA.toList ops.size i) = true)
 (h : vcDraw P Γ Δ ops σ fun σ1 => ∃ τ, Wk σ1 τ ∧ RegI P opsA ops.size Q τ) : AWp P (.region id opsA true) Q σ := by
 subst hops
 intro B A W st a w ρ hs r hr
 refine wpIn_region_any T.mixed ?_
 obtain ⟨tr, h1, h2, h3, τ, h4, h5⟩ := vcTr_trace T.loc ops.toList σ [] _ h
 have hchk := chk_ok (by simpa using h3)
 have hrep : Array.replicate (ops.push o).size false = (Array.replicate ops.size false).push false := by
  rw [Array.size_push]
  apply Array.ext'
  simp [List.replicate_succ']
 rw [hrep, Array.size_push]
 refine any_push (fun j x hx => ?_) (fun j x hx e he hb => ?_) (fun i hi => List.all_eq_true.1 hanc i (List.mem_range.2 hi)) (fun e he _ => by simpa using List.all_eq_true.1 hlo e he) ops.size _ a _ (by simp) (fun j x hx hE => ?_) ?_
 ·have := List.all_eq_true.1 hg x (List.mem_of_getElem? (by simpa using hx))
  cases hgx : x.guard with
  | none => rfl
  | some y => rw [hgx] at this; cases this
 ·have hx' : ops.toList[j]? = some x := by simpa using hx
  have hj : j < ops.toList.length := (List.getElem?_eq_some_iff.1 hx').1
  exact hchk.low j e.on hj ((ancB_iff hx' _).2 ⟨e, he, hb, .inl rfl⟩)
 ·have hE : (Array.replicate ops.size false).getD j false = true := hE
  by_cases hj : j < ops.size <;> simp [hj] at hE
 refine wpAny_inv T.tab T.gab st h1 h2 hchk (fun a w ρ hs' => ?_) ops.size _ a _ ρ ⟨?_, fun i _ _ => hs.fresh _ (by omega), fun j o _ hE => ?_, by simp⟩ (by rw [falses_rep]; exact Nat.le_refl _)
 ·obtain ⟨ρ2, h6⟩ := h4 _ _ _ _ _ _ hs'
  have := h5 B A W st a w ρ2 h6 (r := r)
  have hd : ((ops.push o).toList.drop ops.size).length = 1 := by simp
  rw [hd] at this
  rw [show List.range' ops.size 1 = ops.size :: [] from rfl, wpOpsIn_cons] at this
  exact this
 ·have e : stE σ ops.toList tr (fun i => (Array.replicate ops.size false).getD i false) = { σ with n := σ.n + ops.toList.length } := by
   have hE : (fun i => (Array.replicate ops.size false).getD i false) = fun _ => false := by
    funext i
    by_cases hi : i < ops.size <;> simp [hi]
   rw [hE]
   unfold stE
   simp only [runB_false]
  rw [e]
  have hd := hs.drew (w.drawn + 1)
  exact ⟨hd.defers, hd.size, hd.slots, hd.heap, fun k hk => hd.fresh k (by simp only at hk; omega), hd.mine, hd.os, hd.tape, hd.output, hd.grow, hd.same, hd.row, hd.pins, hd.marks⟩
 ·exfalso
  by_cases hj : j < ops.size <;> simp [hj] at hE
theorem AWp.lastL {Γ : Tab} {Δ : Gab} {Q : Exit → St → Prop} {σ : St} (T : Tabs P Γ Δ) {id : Nat} {opsA : Array Oper} (k : Nat) {os : List Oper} {o : Oper} (hos : opsA.toList.take k = os) (ho : opsA[k]? = some o) (hl : opsA.size = k + 1) (hg : (os.all fun x => x.guard.isNone) = true) (hlo : (o.after.toList.all fun e => decide (e.on < k)) = true) (hanc : ((List.range k).all fun i => ancB opsA.toList k i) = true)
 (h : vcDraw P Γ Δ os.toArray σ fun σ1 => ∃ τ, Wk σ1 τ ∧ RegI P opsA k Q τ) : AWp P (.region id opsA true) Q σ := by
 have hsz : os.toArray.size = k := by rw [← hos]; simp; omega
 have hk : opsA = os.toArray.push o := by
  apply Array.ext'
  rw [Array.toList_push, ← hos]
  show opsA.toList = opsA.toList.take k ++ [o]
  have h1 : opsA.toList[k]? = some o := by simpa using ho
  have h2 : opsA.toList.length = k + 1 := by simpa using hl
  have h3 : opsA.toList.drop k = [o] := by
   rw [List.drop_eq_getElem_cons (by omega), List.drop_of_length_le (by omega)]
   rw [List.getElem?_eq_getElem (by omega)] at h1
   injection h1 with h1
   rw [h1]
  have h4 := List.take_append_drop k opsA.toList
  rw [h3] at h4
  exact h4.symm
 subst hsz
 exact AWp.last T hk (by simpa using hg) hlo hanc h
end
end Go.Proofs.YtlhapagililgmaaGreat

