/- Texts A34 A34a A42 in one. -/
import Derived.Test.YtfbogelmgdojgaaGreatR35
/- Matrices as plain values; rows let go at the end of a round. No program in sight. -/
namespace Go.Proofs.YtfbogelmgdojgaaGreat
set_option linter.unusedSimpArgs false
set_option linter.unusedVariables false
open Go.RowKit

def V.mat (M : List (List Rat)) : List V := M.map fun p => .lst (V.rats p)
@[go_sem] theorem mat_len (l : List (List Rat)) : (V.mat l).length = l.length := by simp [V.mat]
@[go_sem ↓, go_sem] theorem ev_mat_get {l : List (List Rat)} {i : Nat} {k : V → Prop} : optC (V.mat l)[i]? k = (i < l.length ∧ k (.lst (V.rats (l.getD i [])))) := by
  unfold V.mat
  rw [List.getElem?_map, List.getD_eq_getElem?_getD]
  by_cases h : i < l.length
  ·simp [List.getElem?_eq_getElem h, optC, h]
  ·simp [List.getElem?_eq_none (Nat.le_of_not_lt h), optC, h]
@[go_sem] theorem mat_frz (l : List (List Rat)) : frzOk (V.mat l) = True := eq_true (frzOk_map (fun a => ⟨rfl, by simp, by simp⟩) l)
@[go_sem] theorem mat_pure (l : List (List Rat)) : allPure (V.mat l) = True := eq_true fun y hy => by
  obtain ⟨p, _, rfl⟩ := List.mem_map.1 hy
  rfl
@[go_sem] theorem mat_take (l : List (List Rat)) (n : Nat) : (V.mat l).take n = V.mat (l.take n) := by simp [V.mat]
theorem mat_snoc (l : List (List Rat)) (p : List Rat) : V.mat l ++ [.lst (V.rats p)] = V.mat (l ++ [p]) := by simp [V.mat]
def unmat : List V → Option (List (List Rat))
 | [] => some []
 | .lst l :: t => (unrat l).bind fun r => (unmat t).map fun s => r :: s
 | _ => none
theorem unmat_ok : ∀ (l : List V) (m : List (List Rat)), unmat l = some m → l = V.mat m
 | [], m, h => by injection h with h; subst h; rfl
 | x :: t, m, h => by
   cases x with
   | lst l =>
     rw [unmat] at h
     rcases hr : unrat l with _ | r
     ·rw [hr] at h; cases h
     ·rw [hr] at h
      have h : ((unmat t).map fun s => r :: s) = some m := h
      rcases ht : unmat t with _ | s
      ·rw [ht] at h; cases h
      ·rw [ht] at h
       injection h with h
       subst h
       rw [unmat_ok t s ht, unrat_ok l r hr]; rfl
   | _ => cases h
@[go_sem ↓, go_sem] theorem unmat_mat : ∀ m : List (List Rat), unmat (V.mat m) = some m
  | [] => rfl
  | r :: m => by
    show unmat (.lst (V.rats r) :: V.mat m) = _
    rw [unmat, unrat_rats, unmat_mat m]; rfl
def pMt : Pat (List (List Rat)) where
 p
  | .lst l => (unmat l).map fun m => (True, m)
  | .raw (.slice none 0 0) => some (True, [])
  | .emp => some (True, [])
  | _ => none
 val l := .lst (V.mat l)
 ok x c a h hc := by
  split at h
  ·rename_i l
   rcases hm : unmat l with _ | m <;> rw [hm] at h
   ·cases h
   ·injection h with h; injection h with h1 h2; subst h2
    rw [unmat_ok l m hm]; exact .refl _
  ·injection h with h; injection h with h1 h2; subst h2; exact .inr (.inr ⟨rfl, rfl, rfl, rfl⟩)
  ·injection h with h; injection h with h1 h2; subst h2; exact .inr (.inr ⟨rfl, rfl, rfl⟩)
  ·cases h
@[go_sem ↓, go_sem] theorem ev_pMt {l : List V} : pMt.p (.lst l) = (unmat l).map fun m => (True, m) := rfl
@[go_sem ↓, go_sem] theorem ev_pMt_nil : pMt.p (.raw (.slice none 0 0)) = some (True, []) := rfl
@[go_sem ↓, go_sem] theorem ev_pMt_emp : pMt.p .emp = some (True, []) := rfl
@[go_sem ↓, go_sem] theorem ev_pMt_mk {l : List (List Rat)} : pMt.val l = .lst (V.mat l) := rfl
def frzT (t : Nat) (Q : Exit → St → Prop) : Exit → St → Prop
 | .normal, τ => match τ.s t with
   | .sl k _ _ _ => optC (τ.H k) fun y => frzs (frzE (argN τ.H 3)) y.l fun l' rs => (rs.all fun i => !(i == k)) = true ∧ Q .normal { τ with H := (τ.H.drops rs).up k (some ⟨y.t, y.e, l'⟩) }
   | _ => False
 | e, τ => Q e τ
theorem Sim.frz {B A W σ a w ρ} (hs : Sim B A W σ a w ρ) (st : Stat B A W) (k : Nat) {K : St → Prop} (h : optC (σ.H k) fun y => frzs (frzE (argN σ.H 3)) y.l fun l' rs => (rs.all fun i => !(i == k)) = true ∧ K { σ with H := (σ.H.drops rs).up k (some ⟨y.t, y.e, l'⟩) }) :
 ∃ σ', K σ' ∧ Sim B A W σ' a w ρ := by
 rcases hk : σ.H k with _ | y
 ·rw [hk] at h; exact h.elim
 ·rw [hk] at h
  obtain ⟨b, arr, g1, g2, g3, g4, g5⟩ := hs.heap.row k y hk
  have hH := hs.heap
  obtain ⟨L', rs, ⟨h1, h2⟩, e1, e2, e3, e4⟩ := frzL_ok (argN_ok hH (hs.hfar st) 3) y.l (arr.toList.take (V.atomsL y.l).length) _ (by rw [List.length_take]; simp; omega) (fun j x u hj hu => by
   rw [List.getElem?_take] at hu
   split at hu
   ·exact g5 j x u hj (by simpa using hu)
   ·cases hu) h
  have hid : k ∉ rs := fun hm => by
   have := List.all_eq_true.1 h1 k hm
   simp at this
  have live : ∀ i q, (σ.H.drops rs) i = some q → σ.H i = some q := fun i q hi => by
   unfold Hp.drops at hi
   split at hi
   ·cases hi
   ·exact hi
  obtain ⟨hD, _⟩ := hH.drops rs
  have hown : own B ρ ((σ.H.drops rs).up k (some ⟨y.t, y.e, L'⟩)) = own B ρ (σ.H.drops rs) := by
   funext b'
   exact propext (drops_up_own hk hid b')
  have hx := drops_ext (w := w) (B := B) (ρ := ρ) σ.H rs
  have back : ∀ i q, ((σ.H.drops rs).up k (some ⟨y.t, y.e, L'⟩)) i = some q → ∃ q0, σ.H i = some q0 := fun i q hi => by
   unfold Hp.up at hi
   split at hi
   ·rename_i e; subst e; exact ⟨y, hk⟩
   ·exact ⟨q, live i q hi⟩
  refine ⟨_, h2, ⟨hs.defers, hs.size, fun t => ?_, ⟨fun i q hi => ?_, fun i i' q q' b' h3 h4 h5 h6 => ?_⟩, hs.fresh, fun i q b' h3 h4 => ?_, hs.os, hs.tape, hs.output, hs.grow, hs.same, hs.row, hs.pins, hs.marks⟩⟩
  ·show RepV w (own B ρ ((σ.H.drops rs).up k (some ⟨y.t, y.e, L'⟩))) ρ _ _
   rw [hown]
   exact (hs.slots t).mono hx
  ·show ∃ (b : Nat) (arr : Array Value), _ ∧ _ ∧ _ ∧ _ ∧ ∀ (j : Nat) (y_1 : V) (u : Value), _ → _ → RepA w (own B ρ ((σ.H.drops rs).up k (some ⟨y.t, y.e, L'⟩))) ρ y_1 u
   rw [hown]
   have hi : (σ.H.drops rs).up k (some ⟨y.t, y.e, L'⟩) i = some q := hi
   by_cases e : i = k
   ·subst e
    have hq : q = ⟨y.t, y.e, L'⟩ := by
     have : (some (⟨y.t, y.e, L'⟩ : Blk)) = some q := by
      rw [← hi]; unfold Hp.up; rw [if_pos rfl]
     injection this with this; exact this.symm
    subst hq
    refine ⟨b, arr, g1, g2, fun z hz => ?_, by simp only; rw [e3]; exact g4, fun j z u hz hu => ?_⟩
    ·obtain ⟨n, hn⟩ := List.getElem?_of_mem hz
     have hl : n < y.l.length := by rw [← e1]; exact (List.getElem?_eq_some_iff.1 hn).1
     rw [(e2 n z _ hn (List.getElem?_eq_getElem hl)).1]
     exact g3 _ (List.getElem_mem hl)
    ·have hj := (List.getElem?_eq_some_iff.1 hz).1
     refine (e4 rs (fun _ h => h) j z u hz ?_).mono ((Ext.refl _ _ _).into _)
     simp only at hj
     rw [List.getElem?_take, if_pos (by omega)]
     simpa using hu
   ·exact hD.row i q (by unfold Hp.up at hi; rw [if_neg e] at hi; exact hi)
  ·obtain ⟨q0, h0⟩ := back i q h3
   obtain ⟨q1, h1'⟩ := back i' q' h4
   exact hH.inj i i' q0 q1 b' h0 h1' h5 h6
  ·obtain ⟨q0, h0⟩ := back i q h3
   exact hs.mine i q0 b' h0 h4
theorem AWp.endFrz (t : Nat) {P : Program} {c : Code} {Q : Exit → St → Prop} {σ : St} (h : AWp P c (frzT t Q) σ) : AWp P c Q σ := by
 intro B A W st a w ρ hs r _
 refine wpIn_mono (h B A W st a w ρ hs) fun e a' w' hq => ?_
 obtain ⟨τ, ρ', hq, hs'⟩ := hq
 cases e with
 | normal =>
   unfold frzT at hq
   simp only at hq
   split at hq
   ·rename_i k _ _ _ _
    obtain ⟨σ', h1, h2⟩ := hs'.frz st k hq
    exact ⟨σ', ρ', h1, h2⟩
   ·exact hq.elim
 | _ => exact ⟨τ, ρ', hq, hs'⟩
@[go_sem ↓, go_sem] theorem ev_frzT_e {t : Nat} {Q : Exit → St → Prop} {σ : St} : frzT t Q .ret σ = Q .ret σ := rfl
@[go_sem ↓, go_sem] theorem ev_frzT_x {t id : Nat} {Q : Exit → St → Prop} {σ : St} : frzT t Q (.exit id) σ = Q (.exit id) σ := rfl
theorem ev_frzT_n {t : Nat} {Q : Exit → St → Prop} {σ : St} : frzT t Q .normal σ = (match σ.s t with
 | .sl k _ _ _ => optC (σ.H k) fun y => frzs (frzE (argN σ.H 3)) y.l fun l' rs => (rs.all fun i => !(i == k)) = true ∧ Q .normal { σ with H := (σ.H.drops rs).up k (some ⟨y.t, y.e, l'⟩) }
 | _ => False) := rfl
end Go.Proofs.YtfbogelmgdojgaaGreat


/- Names of rows: exchanged, and one more. No program in sight. -/
namespace Go.Proofs.YtfbogelmgdojgaaGreat
set_option linter.unusedSimpArgs false
set_option linter.unusedVariables false
open Go.RowKit

def rhoX (b k p j : Nat) : Nat := if j = k then rid b p else if j = p then rid b k else rid b j
theorem rwI_swap {b w n k p : Nat} (hk : k < n) (hp : p < n) (hne : p ≠ k) : ((V.rwI b w n).set p (.sl (rid b k) 4 0 w)).set k (.sl (rid b p) 4 0 w) = V.rwG (rhoX b k p) w n := by
 refine List.ext_getElem? fun j => ?_
 rw [List.getElem?_set, List.getElem?_set, List.length_set, rwI_len]
 by_cases hj : j < n
 ·rw [rwG_get hj]
  unfold rhoX
  by_cases h1 : k = j
  ·have e1 : j = k := h1.symm
   rw [if_pos h1, if_pos hk, if_pos e1]
  ·have e1 : ¬ j = k := fun e => h1 e.symm
   rw [if_neg h1, if_neg e1]
   by_cases h2 : p = j
   ·have e2 : j = p := h2.symm
    rw [if_pos h2, if_pos hp, if_pos e2]
   ·have e2 : ¬ j = p := fun e => h2 e.symm
    rw [if_neg h2, if_neg e2]
    exact rwG_get hj
 ·rw [if_neg (show ¬ k = j by omega), if_neg (show ¬ p = j by omega), List.getElem?_eq_none (by rw [rwI_len]; omega), List.getElem?_eq_none (by rw [rwG_len]; omega)]
def rhoS (b i k : Nat) (j : Nat) : Nat := if j < i then rid b j else k
theorem rwI_snoc (b w i k : Nat) : V.rwI b w i ++ [.sl k 4 0 w] = V.rwG (rhoS b i k) w (i + 1) := by
 unfold V.rwI V.rwG
 rw [List.range_succ, List.map_append]
 congr 1
 ·refine List.map_congr_left fun j hj => ?_
  rw [List.mem_range] at hj
  unfold rhoS
  rw [if_pos hj]
 ·show _ = [V.sl (rhoS b i k i) 4 0 w]
  unfold rhoS
  rw [if_neg (Nat.lt_irrefl i)]
theorem thR_nodup {θ : List Nat} {ρ : Nat → Nat} {n : Nat} (h1 : θ.Nodup) (h2 : ∀ i j, i < n → j < n → ρ i = ρ j → i = j) (h3 : ∀ x ∈ θ, ∀ i, i < n → x ≠ ρ i) : (thR θ ρ n).Nodup := by
 unfold thR
 rw [List.nodup_append]
 refine ⟨h1, ?_, fun a ha b hb => ?_⟩
 ·unfold List.Nodup
  rw [List.pairwise_map]
  refine List.Pairwise.imp_of_mem ?_ (List.nodup_range (n := n))
  intro a b ha hb hne he
  exact hne (h2 a b (List.mem_range.1 ha) (List.mem_range.1 hb) he)
 ·obtain ⟨i, hi, rfl⟩ := List.mem_map.1 hb
  exact h3 a ha i (List.mem_range.1 hi)
end Go.Proofs.YtfbogelmgdojgaaGreat


/- Matrices whose rows are owned and hold any values. No program in sight. -/
namespace Go.Proofs.YtfbogelmgdojgaaGreat
set_option linter.unusedSimpArgs false
set_option linter.unusedVariables false
open Go.RowKit

def matV (o b : Nat) (tO t : TypeId) (w : Nat) (M : List (List V)) (H : Hp) : Hp := fun j =>
 if j = o then some ⟨tO, 1, V.rwI b w M.length⟩ else if b ≤ j ∧ j < b + M.length then some ⟨t, 4, M.getD (j - b) []⟩ else H j
section
variable {o b : Nat} {tO t : TypeId} {w : Nat} {M : List (List V)} {H : Hp}
@[go_sem] theorem matV_o : matV o b tO t w M H o = some ⟨tO, 1, V.rwI b w M.length⟩ := if_pos rfl
theorem matV_row {i : Nat} (ho : o < b) (hi : i < M.length) : matV o b tO t w M H (rid b i) = some ⟨t, 4, M.getD i []⟩ := by
 unfold matV rid
 rw [if_neg (by omega), if_pos (by omega), Nat.add_sub_cancel_left]
theorem matV_lo {k : Nat} (ho : ¬ k = o) (hk : k < b) : matV o b tO t w M H k = H k := by
 unfold matV
 rw [if_neg ho, if_neg (by omega)]
theorem matV_up {i : Nat} (ho : o < b) (hi : i < M.length) (l : List V) : (matV o b tO t w M H).up (rid b i) (some ⟨t, 4, l⟩) = matV o b tO t w (M.set i l) H := by
 funext j
 unfold Hp.up matV rid
 rw [List.length_set]
 by_cases e : j = b + i
 ·subst e
  rw [if_pos rfl, if_neg (by omega), if_pos (by omega), Nat.add_sub_cancel_left, List.getD_eq_getElem?_getD, List.getElem?_set_self hi]; rfl
 ·rw [if_neg e]
  by_cases h1 : j = o
  ·rw [if_pos h1, if_pos h1]
  ·rw [if_neg h1, if_neg h1]
   by_cases h2 : b ≤ j ∧ j < b + M.length
   ·rw [if_pos h2, if_pos h2, List.getD_eq_getElem?_getD, List.getD_eq_getElem?_getD, List.getElem?_set_ne (by omega)]
   ·rw [if_neg h2, if_neg h2]
end
def mkW (o b : Nat) (tO t : TypeId) (w : Nat) (ss : List (Nat × V)) (hs : List (Nat × Bool × Blk)) (M : List (List V)) (N : Nat) : St := { s := mkS ss, H := matV o b tO t w M (mkH hs), n := rid b M.length, N := N }
theorem vc_atW {P : Program} {Γ : Tab} {Δ : Gab} (T : Tabs P Γ Δ) {c : Code} {Q : Exit → St → Prop} {o b : Nat} {tO t : TypeId} {w : Nat} {ss : List (Nat × V)} {hs : List (Nat × Bool × Blk)} {M : List (List V)} {N : Nat}
 (h : vc P Γ Δ c Q { s := mkS ss, H := matV o b tO t w M (mkH hs), n := rid b M.length, N := N }) : AWp P c Q (mkW o b tO t w ss hs M N) := vc_ok T _ _ _ h
theorem Wk.ofW (θ : List Nat) (ρ : Nat → Nat) {o b : Nat} {tO t : TypeId} {w : Nat} {σ : St} {ss : List (Nat × V)} {hs : List (Nat × Bool × Blk)} {M : List (List V)} {N : Nat} (hb : b = θ.length) (ho : o < b) (hhs : ∀ x ∈ hs, x.1 < b)
 (hnd : (thR θ ρ M.length).Nodup) (h0 : N = σ.N ∧ σ.m = 0 ∧ σ.q = false) (hss : wkS (thR θ ρ M.length) σ.s ss) (hH : wkH (thR θ ρ M.length) σ.H hs)
 (hO : optC θ[o]? fun k0 => σ.H k0 = some ⟨tO, 1, V.rwG ρ w M.length⟩) (hP : ∀ i, i < M.length → allPure (M.getD i [])) (hR : ∀ i, i < M.length → σ.H (ρ i) = some ⟨t, 4, M.getD i []⟩) : Wk σ (mkW o b tO t w ss hs M N) := by
 obtain ⟨h1, h2, h3⟩ := h0
 have hS : ∀ (l : List (Nat × V)), wkS (thR θ ρ M.length) σ.s l → RenS (thR θ ρ M.length) (mkS l) σ.s ∧ ∀ t m, mkS l t ≠ .tup m := by
  intro l
  induction l with
  | nil => intro _; exact ⟨fun t => trivial, fun t m h => by simp [mkS] at h⟩
  | cons p l ih =>
    intro hl
    obtain ⟨⟨q1, q2⟩, q3⟩ := hl
    obtain ⟨i1, i2⟩ := ih q3
    refine ⟨fun t => ?_, fun t m => ?_⟩
    ·simp only [mkS, upS]
     split
     ·rename_i e; subst e; exact q2
     ·exact i1 t
    ·simp only [mkS, upS]
     split
     ·intro e; rw [e] at q1; simp [V.noTup] at q1
     ·exact i2 t m
 have hHH : ∀ (l : List (Nat × Bool × Blk)), wkH (thR θ ρ M.length) σ.H l → RenH (thR θ ρ M.length) (mkH l) σ.H := by
  intro l
  induction l with
  | nil => intro _ k x hk; simp [mkH] at hk
  | cons p l ih =>
    intro hl k x hk
    obtain ⟨q1, q2⟩ := hl
    simp only [mkH, Hp.up] at hk
    split at hk
    ·rename_i e
     subst e
     injection hk with hk
     subst hk
     unfold optC at q1
     split at q1
     ·rename_i k0 hk0
      split at q1
      ·rename_i y hy
       obtain ⟨r1, r2, r3⟩ := q1
       refine ⟨k0, y, hk0, hy, r1, r2, ?_⟩
       split at r3
       ·rw [← r3.1]; exact renL_refl r3.2
       ·exact renL_of _ _ r3
      ·exact q1.elim
     ·exact q1.elim
    ·exact ih q2 k x hk
 refine Wk.mk (thR θ ρ M.length) h1 h2.symm h3.symm (fun k hk => by omega) (by show rid b M.length = _; unfold thR rid; rw [List.length_append, List.length_map, List.length_range, hb]) (hS ss hss).1 ?_ hnd (hS ss hss).2
 intro k x hk
 have hk : matV o b tO t w M (mkH hs) k = some x := hk
 unfold matV at hk
 by_cases ek : k = o
 ·rw [if_pos ek] at hk
  injection hk with hk
  subst hk ek
  rcases hθ : θ[k]? with _ | k0
  ·rw [hθ] at hO; exact hO.elim
  ·rw [hθ] at hO
   have hO : σ.H k0 = some ⟨tO, 1, V.rwG ρ w M.length⟩ := hO
   refine ⟨k0, _, by rw [thR_lo (by omega)]; exact hθ, hO, rfl, rfl, by simp only [rwI_len, rwG_len], fun i x y hx hy => ?_⟩
   have hi : i < M.length := by have := (List.getElem?_eq_some_iff.1 hx).1; rw [rwI_len] at this; exact this
   have hx : (V.rwI b w M.length)[i]? = some x := hx
   have hy : (V.rwG ρ w M.length)[i]? = some y := hy
   unfold V.rwI at hx
   rw [rwG_get hi] at hx hy
   injection hx with hx
   injection hy with hy
   subst hx hy
   exact ⟨⟨by rw [hb]; exact thR_row hi, rfl, rfl, rfl⟩, rfl, fun h => by cases h⟩
 ·rw [if_neg ek] at hk
  by_cases hr : b ≤ k ∧ k < b + M.length
  ·rw [if_pos hr] at hk
   injection hk with hk
   subst hk
   have hi : k - b < M.length := by omega
   refine ⟨ρ (k - b), _, ?_, hR _ hi, rfl, rfl, renL_refl ?_⟩
   ·have := thR_row (θ := θ) (ρ := ρ) hi
    rw [← hb] at this
    unfold rid at this
    rw [show b + (k - b) = k from by omega] at this
    exact this
   ·exact hP _ hi
  ·rw [if_neg hr] at hk
   exact hHH hs hH k x hk
theorem frzs_rowW {H : Hp} {t : TypeId} {w m : Nat} {ρ : Nat → Nat} {M : List (List Rat)} {k : List V → List Nat → Prop} : ∀ (n i : Nat), i + n = M.length → (∀ j, j < M.length → H (ρ j) = some ⟨t, 4, V.rats (M.getD j [])⟩ ∧ (M.getD j []).length = w) →
 frzs (frzE (argN H (m + 1))) ((List.range' i n).map fun j => .sl (ρ j) 4 0 w) k = k (V.mat (M.drop i)) ((List.range' i n).map ρ)
 | 0, i, hi, _ => by
   rw [List.drop_of_length_le (by omega)]; rfl
 | n + 1, i, hi, h => by
   obtain ⟨h1, h2⟩ := h i (by omega)
   rw [List.range'_succ, List.map_cons, List.map_cons, frzs]
   have e : frzE (argN H (m + 1)) (.sl (ρ i) 4 0 w) = fun kA => kA (.lst (V.rats (M.getD i []))) [ρ i] := by
    funext kA
    unfold frzE
    rw [if_neg (show ¬ (V.sl (ρ i) 4 0 w).isAgg = true from fun h => by cases h), ev_argN_sl]
    have e1 : aElems H (.sl (ρ i) 4 0 w) = some (V.rats (M.getD i []), [ρ i]) := by
     show (match H (ρ i) with | some x => (if x.e = 4 ∧ 0 + w ≤ x.l.length then some ((x.l.drop 0).take w, [ρ i]) else none) | none => none) = _
     rw [h1]
     show (if (4 : Nat) = 4 ∧ 0 + w ≤ (V.rats (M.getD i [])).length then _ else _) = _
     rw [if_pos ⟨rfl, by rw [rats_len, h2]; omega⟩, List.drop_zero, List.take_of_length_le (by rw [rats_len, h2]; exact Nat.le_refl _)]
    rw [e1]
    show frzs (frzE (argN H m)) (V.rats (M.getD i [])) _ = _
    have e2 : frzOk (V.rats (M.getD i [])) := frzOk_map (fun a => ⟨rfl, by simp, by simp⟩) (M.getD i [])
    rw [frzs_same e2]
    rfl
   rw [e]
   show frzs _ _ _ = _
   rw [frzs_rowW n (i + 1) (by omega) h]
   have e2 : M.drop i = M.getD i [] :: M.drop (i + 1) := by
    rw [List.drop_eq_getElem_cons (by omega), List.getD_eq_getElem?_getD, List.getElem?_eq_getElem (by omega)]; rfl
   rw [e2]
   rfl
theorem frzs_rwW {H : Hp} {t : TypeId} {w m n : Nat} {ρ : Nat → Nat} {M : List (List Rat)} {k : List V → List Nat → Prop} (hn : M.length = n) (h : ∀ j, j < M.length → H (ρ j) = some ⟨t, 4, V.rats (M.getD j [])⟩ ∧ (M.getD j []).length = w) :
 frzs (frzE (argN H (m + 1))) (V.rwG ρ w n) k = k (V.mat M) ((List.range n).map ρ) := by
 have := frzs_rowW (m := m) (k := k) (ρ := ρ) n 0 (by omega) h
 rw [List.drop_zero, ← List.range_eq_range'] at this
 exact this
end Go.Proofs.YtfbogelmgdojgaaGreat

