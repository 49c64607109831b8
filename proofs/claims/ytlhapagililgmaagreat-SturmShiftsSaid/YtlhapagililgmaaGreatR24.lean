/- Texts A33 A34 A34a A35 A39 A40 G5 in one. -/
import Derived.Test.YtlhapagililgmaaGreatR20
import Derived.Test.YtlhapagililgmaaGreatR23
import Derived.Test.YtlhapagililgmaaGreatR19
/- Matrices whose rows are owned: heaps with any number of rows. No program in sight. -/
namespace Go.Proofs.YtlhapagililgmaaGreat
set_option linter.unusedSimpArgs false
set_option linter.unusedVariables false
open Go.RowKit

def rid (b i : Nat) : Nat := b + i
def V.rwG (ρ : Nat → Nat) (w n : Nat) : List V := (List.range n).map fun i => .sl (ρ i) 4 0 w
def V.rwI (b w n : Nat) : List V := V.rwG (rid b) w n
def matH (o b : Nat) (tO t : TypeId) (w : Nat) (M : List (List Rat)) (H : Hp) : Hp := fun j =>
 if j = o then some ⟨tO, 1, V.rwI b w M.length⟩ else if b ≤ j ∧ j < b + M.length then some ⟨t, 4, V.rats (M.getD (j - b) [])⟩ else H j
section
variable {o b : Nat} {tO t : TypeId} {w : Nat} {M : List (List Rat)} {H : Hp}
@[go_sem] theorem rid_s (b n k : Nat) : rid b n + k + 1 = rid b n + (k + 1) := rfl
@[go_sem] theorem rwG_len (ρ : Nat → Nat) (w n : Nat) : (V.rwG ρ w n).length = n := by simp [V.rwG]
@[go_sem] theorem rwI_len (b w n : Nat) : (V.rwI b w n).length = n := rwG_len _ _ _
theorem rwG_get {ρ : Nat → Nat} {w n i : Nat} (h : i < n) : (V.rwG ρ w n)[i]? = some (.sl (ρ i) 4 0 w) := by
 unfold V.rwG
 rw [List.getElem?_map, List.getElem?_range h]; rfl
@[go_sem ↓, go_sem] theorem ev_rwI_get {b w n i : Nat} {k : V → Prop} : optC (V.rwI b w n)[i]? k = (i < n ∧ k (.sl (rid b i) 4 0 w)) := by
 unfold V.rwI
 by_cases h : i < n
 ·rw [rwG_get h]; simp [optC, h]
 ·rw [List.getElem?_eq_none (by rw [rwG_len]; omega)]; simp [optC, h]
@[go_sem ↓, go_sem] theorem ev_rwG_get {ρ : Nat → Nat} {w n i : Nat} {k : V → Prop} : optC (V.rwG ρ w n)[i]? k = (i < n ∧ k (.sl (ρ i) 4 0 w)) := by
 by_cases h : i < n
 ·rw [rwG_get h]; simp [optC, h]
 ·rw [List.getElem?_eq_none (by rw [rwG_len]; omega)]; simp [optC, h]
@[go_sem] theorem matH_o : matH o b tO t w M H o = some ⟨tO, 1, V.rwI b w M.length⟩ := if_pos rfl
end
def mapF (φ : Nat → Nat) (f : Foot) : Foot := (f.1.map φ, f.2.map φ)
theorem meets_map (φ : Nat → Nat) {x y : List Nat} (h : meets x y = true) : meets (x.map φ) (y.map φ) = true := by
 unfold meets at h ⊢
 rw [List.any_eq_true] at h ⊢
 obtain ⟨a, h1, h2⟩ := h
 refine ⟨φ a, List.mem_map_of_mem h1, ?_⟩
 rw [List.contains_eq_mem] at h2 ⊢
 exact decide_eq_true (List.mem_map_of_mem (of_decide_eq_true h2))
theorem noConf_map (φ : Nat → Nat) {f g : Foot} (h : noConf (mapF φ f) (mapF φ g) = true) : noConf f g = true := by
 unfold noConf mapF at *
 simp only [Bool.and_eq_true, Bool.not_eq_true'] at h ⊢
 refine ⟨?_, ?_⟩
 ·rcases hm : meets f.2 (g.1 ++ g.2) with _ | _
  ·rfl
  ·have := meets_map φ hm
   rw [List.map_append] at this
   rw [this] at h; exact absurd h.1 (by decide)
 ·rcases hm : meets g.2 f.1 with _ | _
  ·rfl
  ·have := meets_map φ hm
   rw [this] at h; exact absurd h.2 (by decide)
theorem chk_map (φ : Nat → Nat) {ops : Array Oper} {tr : List Foot} (h : chk ops (tr.map (mapF φ)) = true) : chk ops tr = true := by
 unfold chk at h ⊢
 simp only [Bool.and_eq_true] at h ⊢
 refine ⟨h.1, ?_⟩
 have h2 := h.2
 rw [List.all_eq_true] at h2 ⊢
 intro p hp
 have mem : ∀ q ∈ tr.zipIdx, (mapF φ q.1, q.2) ∈ (tr.map (mapF φ)).zipIdx := fun q hq => by
  rw [List.zipIdx_map]
  exact List.mem_map.2 ⟨q, hq, rfl⟩
 have h3 := h2 _ (mem p hp)
 simp only [Bool.or_eq_true, Bool.and_eq_true] at h3 ⊢
 rcases h3 with ⟨h3, h4⟩ | h3
 ·left
  refine ⟨?_, ?_⟩
  ·have : (p.1.1.map φ) = [] := eq_of_beq h3
   rw [List.map_eq_nil_iff.1 this]; rfl
  ·have : (p.1.2.map φ) = [] := eq_of_beq h4
   rw [List.map_eq_nil_iff.1 this]; rfl
 ·right
  rw [List.all_eq_true] at h3 ⊢
  intro q hq
  have h4 := h3 _ (mem q hq)
  unfold chkPair at h4 ⊢
  simp only [Bool.or_eq_true] at h4 ⊢
  rcases h4 with h4 | h4
  ·exact .inl h4
  ·exact .inr (noConf_map φ h4)
def mkR (o b : Nat) (tO t : TypeId) (w : Nat) (ss : List (Nat × V)) (hs : List (Nat × Bool × Blk)) (M : List (List Rat)) (N : Nat) : St := { s := mkS ss, H := matH o b tO t w M (mkH hs), n := rid b M.length, N := N }
def thR (θ : List Nat) (ρ : Nat → Nat) (n : Nat) : List Nat := θ ++ (List.range n).map ρ
@[go_sem] theorem thR_lo {θ : List Nat} {ρ : Nat → Nat} {n k : Nat} (h : k < θ.length) : (thR θ ρ n)[k]? = θ[k]? := by
 unfold thR
 rw [List.getElem?_append_left h]
theorem thR_row {θ : List Nat} {ρ : Nat → Nat} {n i : Nat} (h : i < n) : (thR θ ρ n)[rid θ.length i]? = some (ρ i) := by
 unfold thR rid
 rw [List.getElem?_append_right (by omega), Nat.add_sub_cancel_left, List.getElem?_map, List.getElem?_range h]; rfl
theorem Wk.ofR (θ : List Nat) (ρ : Nat → Nat) {o b : Nat} {tO t : TypeId} {w : Nat} {σ : St} {ss : List (Nat × V)} {hs : List (Nat × Bool × Blk)} {M : List (List Rat)} {N : Nat} (hb : b = θ.length) (ho : o < b) (hhs : ∀ x ∈ hs, x.1 < b)
 (hnd : (thR θ ρ M.length).Nodup) (h0 : N = σ.N ∧ σ.m = 0 ∧ σ.q = false) (hss : wkS (thR θ ρ M.length) σ.s ss) (hH : wkH (thR θ ρ M.length) σ.H hs)
 (hO : optC θ[o]? fun k0 => σ.H k0 = some ⟨tO, 1, V.rwG ρ w M.length⟩) (hR : ∀ i, i < M.length → σ.H (ρ i) = some ⟨t, 4, V.rats (M.getD i [])⟩) : Wk σ (mkR o b tO t w ss hs M N) := by
 obtain ⟨h1, h2, h3⟩ := h0
 have hS : ∀ (l : List (Nat × V)), wkS (thR θ ρ M.length) σ.s l → RenS (thR θ ρ M.length) (mkS l) σ.s ∧ ∀ t m, mkS l t ≠ .tup m := by
  intro l
  induction l with
  | nil => intro _; exact ⟨fun t => trivial, fun t m h => by simp [mkS] at h⟩
  | cons p l ih =>
    intro hl
    obtain ⟨⟨q1, q2⟩, q3⟩ := hl
    obtain ⟨i1, i2⟩ := ih q3
    refine ⟨fun t => ?_, fun t m => ?_⟩
    ·simp only [mkS, upS]
     split
     ·rename_i e; subst e; exact q2
     ·exact i1 t
    ·simp only [mkS, upS]
     split
     ·intro e; rw [e] at q1; simp [V.noTup] at q1
     ·exact i2 t m
 have hHH : ∀ (l : List (Nat × Bool × Blk)), wkH (thR θ ρ M.length) σ.H l → RenH (thR θ ρ M.length) (mkH l) σ.H := by
  intro l
  induction l with
  | nil => intro _ k x hk; simp [mkH] at hk
  | cons p l ih =>
    intro hl k x hk
    obtain ⟨q1, q2⟩ := hl
    simp only [mkH, Hp.up] at hk
    split at hk
    ·rename_i e
     subst e
     injection hk with hk
     subst hk
     unfold optC at q1
     split at q1
     ·rename_i k0 hk0
      split at q1
      ·rename_i y hy
       obtain ⟨r1, r2, r3⟩ := q1
       refine ⟨k0, y, hk0, hy, r1, r2, ?_⟩
       split at r3
       ·rw [← r3.1]; exact renL_refl r3.2
       ·exact renL_of _ _ r3
      ·exact q1.elim
     ·exact q1.elim
    ·exact ih q2 k x hk
 refine Wk.mk (thR θ ρ M.length) h1 h2.symm h3.symm (fun k hk => by omega) (by show rid b M.length = _; unfold thR rid; rw [List.length_append, List.length_map, List.length_range, hb]) (hS ss hss).1 ?_ hnd (hS ss hss).2
 intro k x hk
 have hk : matH o b tO t w M (mkH hs) k = some x := hk
 unfold matH at hk
 by_cases ek : k = o
 ·rw [if_pos ek] at hk
  injection hk with hk
  subst hk ek
  rcases hθ : θ[k]? with _ | k0
  ·rw [hθ] at hO; exact hO.elim
  ·rw [hθ] at hO
   have hO : σ.H k0 = some ⟨tO, 1, V.rwG ρ w M.length⟩ := hO
   refine ⟨k0, _, by rw [thR_lo (by omega)]; exact hθ, hO, rfl, rfl, by simp only [rwI_len, rwG_len], fun i x y hx hy => ?_⟩
   have hi : i < M.length := by have := (List.getElem?_eq_some_iff.1 hx).1; rw [rwI_len] at this; exact this
   have hx : (V.rwI b w M.length)[i]? = some x := hx
   have hy : (V.rwG ρ w M.length)[i]? = some y := hy
   unfold V.rwI at hx
   rw [rwG_get hi] at hx hy
   injection hx with hx
   injection hy with hy
   subst hx hy
   exact ⟨⟨by rw [hb]; exact thR_row hi, rfl, rfl, rfl⟩, rfl, fun h => by cases h⟩
 ·rw [if_neg ek] at hk
  by_cases hr : b ≤ k ∧ k < b + M.length
  ·rw [if_pos hr] at hk
   injection hk with hk
   subst hk
   have hi : k - b < M.length := by omega
   refine ⟨ρ (k - b), _, ?_, hR _ hi, rfl, rfl, renL_refl ?_⟩
   ·have := thR_row (θ := θ) (ρ := ρ) hi
    rw [← hb] at this
    unfold rid at this
    rw [show b + (k - b) = k from by omega] at this
    exact this
   ·exact of_eq_true (rats_pure _)
  ·rw [if_neg hr] at hk
   exact hHH hs hH k x hk
end Go.Proofs.YtlhapagililgmaaGreat


/- Matrices as plain values; rows let go at the end of a round. No program in sight. -/
namespace Go.Proofs.YtlhapagililgmaaGreat
set_option linter.unusedSimpArgs false
set_option linter.unusedVariables false
open Go.RowKit

def V.mat (M : List (List Rat)) : List V := M.map fun p => .lst (V.rats p)
@[go_sem] theorem mat_len (l : List (List Rat)) : (V.mat l).length = l.length := by simp [V.mat]
@[go_sem ↓, go_sem] theorem ev_mat_get {l : List (List Rat)} {i : Nat} {k : V → Prop} : optC (V.mat l)[i]? k = (i < l.length ∧ k (.lst (V.rats (l.getD i [])))) := by
 unfold V.mat
 rw [List.getElem?_map, List.getD_eq_getElem?_getD]
 by_cases h : i < l.length
 ·simp [List.getElem?_eq_getElem h, optC, h]
 ·simp [List.getElem?_eq_none (Nat.le_of_not_lt h), optC, h]
@[go_sem] theorem mat_frz (l : List (List Rat)) : frzOk (V.mat l) = True := eq_true (frzOk_map (fun a => ⟨rfl, by simp, by simp⟩) l)
@[go_sem] theorem mat_wid (l : List (List Rat)) : allWid (V.mat l) 1 = True := eq_true fun y hy => by
 obtain ⟨p, _, rfl⟩ := List.mem_map.1 hy
 rfl
@[go_sem] theorem mat_pure (l : List (List Rat)) : allPure (V.mat l) = True := eq_true fun y hy => by
 obtain ⟨p, _, rfl⟩ := List.mem_map.1 hy
 rfl
@[go_sem] theorem mat_take (l : List (List Rat)) (n : Nat) : (V.mat l).take n = V.mat (l.take n) := by simp [V.mat]
theorem mat_snoc (l : List (List Rat)) (p : List Rat) : V.mat l ++ [.lst (V.rats p)] = V.mat (l ++ [p]) := by simp [V.mat]
def unmat : List V → Option (List (List Rat))
 | [] => some []
 | .lst l :: t => (unrat l).bind fun r => (unmat t).map fun s => r :: s
 | _ => none
theorem unmat_ok : ∀ (l : List V) (m : List (List Rat)), unmat l = some m → l = V.mat m
 | [], m, h => by injection h with h; subst h; rfl
 | x :: t, m, h => by
   cases x with
   | lst l =>
     rw [unmat] at h
     rcases hr : unrat l with _ | r
     ·rw [hr] at h; cases h
     ·rw [hr] at h
      have h : ((unmat t).map fun s => r :: s) = some m := h
      rcases ht : unmat t with _ | s
      ·rw [ht] at h; cases h
      ·rw [ht] at h
       injection h with h
       subst h
       rw [unmat_ok t s ht, unrat_ok l r hr]; rfl
   | _ => cases h
@[go_sem ↓, go_sem] theorem unmat_mat : ∀ m : List (List Rat), unmat (V.mat m) = some m
 | [] => rfl
 | r :: m => by
   show unmat (.lst (V.rats r) :: V.mat m) = _
   rw [unmat, unrat_rats, unmat_mat m]; rfl
def pMt : Pat (List (List Rat)) where
 p
  | .lst l => (unmat l).map fun m => (True, m)
  | .raw (.slice none 0 0) => some (True, [])
  | .emp => some (True, [])
  | _ => none
 val l := .lst (V.mat l)
 ok x c a h hc := by
  split at h
  ·rename_i l
   rcases hm : unmat l with _ | m <;> rw [hm] at h
   ·cases h
   ·injection h with h; injection h with h1 h2; subst h2
    rw [unmat_ok l m hm]; exact .refl _
  ·injection h with h; injection h with h1 h2; subst h2; exact .inr (.inr ⟨rfl, rfl, rfl, rfl⟩)
  ·injection h with h; injection h with h1 h2; subst h2; exact .inr (.inr ⟨rfl, rfl, rfl⟩)
  ·cases h
@[go_sem ↓, go_sem] theorem ev_pMt {l : List V} : pMt.p (.lst l) = (unmat l).map fun m => (True, m) := rfl
@[go_sem ↓, go_sem] theorem ev_pMt_nil : pMt.p (.raw (.slice none 0 0)) = some (True, []) := rfl
@[go_sem ↓, go_sem] theorem ev_pMt_emp : pMt.p .emp = some (True, []) := rfl
@[go_sem ↓, go_sem] theorem ev_pMt_mk {l : List (List Rat)} : pMt.val l = .lst (V.mat l) := rfl
def frzT (t : Nat) (Q : Exit → St → Prop) : Exit → St → Prop
 | .normal, τ => match τ.s t with
   | .sl k _ _ _ => optC (τ.H k) fun y => frzs (frzE (argN τ.H 3)) y.l fun l' rs => (rs.all fun i => !(i == k)) = true ∧ Q .normal { τ with H := (τ.H.drops rs).up k (some ⟨y.t, y.e, l'⟩) }
   | _ => False
 | e, τ => Q e τ
@[go_sem ↓, go_sem] theorem ev_frzT_e {t : Nat} {Q : Exit → St → Prop} {σ : St} : frzT t Q .ret σ = Q .ret σ := rfl
@[go_sem ↓, go_sem] theorem ev_frzT_x {t id : Nat} {Q : Exit → St → Prop} {σ : St} : frzT t Q (.exit id) σ = Q (.exit id) σ := rfl
end Go.Proofs.YtlhapagililgmaaGreat


/- Names of rows: exchanged, and one more. No program in sight. -/
namespace Go.Proofs.YtlhapagililgmaaGreat
set_option linter.unusedSimpArgs false
set_option linter.unusedVariables false
open Go.RowKit

end Go.Proofs.YtlhapagililgmaaGreat


/- Calls of functions that write what their caller owns. No program in sight. -/
namespace Go.Proofs.YtlhapagililgmaaGreat
set_option linter.unusedSimpArgs false
set_option linter.unusedVariables false
open Go.RowKit

def retH1 (P : Program) (m : Nat) (r : V) (H' : Hp) (n' : Nat) : List ResultVar → St → Prop
 | [], σ => r = .any ∧ Wk σ { s := fun _ => .any, H := H', n := n', N := σ.N, m := m }
 | [x], σ => 0 < σ.N ∧ aResL P σ [x] fun xs => optC xs[0]? fun y => xs.length = 1 ∧ Wk (σ.put (some 0) y []) { s := upS (fun _ => .any) 0 r, H := H', n := n', N := σ.N, m := m }
 | _, _ => False
def retH (P : Program) (l : List ResultVar) (m : Nat) (r : V) (H' : Hp) (n' : Nat) : Exit → St → Prop
 | .normal, σ => retH1 P m r H' n' l σ
 | .ret, σ => retH1 P m r H' n' l σ
 | _, _ => False
@[go_sem ↓, go_sem] theorem ev_retH_n {P : Program} {l : List ResultVar} {m : Nat} {r : V} {H' : Hp} {n' : Nat} {σ : St} : retH P l m r H' n' .normal σ = retH1 P m r H' n' l σ := rfl
@[go_sem ↓, go_sem] theorem ev_retH_r {P : Program} {l : List ResultVar} {m : Nat} {r : V} {H' : Hp} {n' : Nat} {σ : St} : retH P l m r H' n' .ret σ = retH1 P m r H' n' l σ := rfl
@[go_sem ↓, go_sem] theorem ev_retH_0 {P : Program} {m : Nat} {r : V} {H' : Hp} {n' : Nat} {σ : St} : retH1 P m r H' n' [] σ = (r = .any ∧ Wk σ { s := fun _ => .any, H := H', n := n', N := σ.N, m := m }) := rfl
@[go_sem ↓, go_sem] theorem ev_retH_1 {P : Program} {m : Nat} {r : V} {H' : Hp} {n' : Nat} {x : ResultVar} {σ : St} : retH1 P m r H' n' [x] σ = (0 < σ.N ∧ aResL P σ [x] fun xs => optC xs[0]? fun y => xs.length = 1 ∧ Wk (σ.put (some 0) y []) { s := upS (fun _ => .any) 0 r, H := H', n := n', N := σ.N, m := m }) := rfl
theorem dfl_results {P : Program} {fn : Func} {tmps : Array Value} {w : World} (h : fn.results = #[]) : (results fn tmps).run P w = .ok (.tuple #[]) w := by
 simp [results, h, Sem.run_bind, Sem.run_pure]
def lvT (m : Nat) (H : Hp) (n : Nat) : List Nat := (List.range m).map fun k => if (H k).isSome = true then k else n
theorem lvT_get {m : Nat} {H : Hp} {n k : Nat} (h : k < m) (h2 : (H k).isSome = true) : (lvT m H n)[k]? = some k := by
 unfold lvT
 rw [List.getElem?_map, List.getElem?_range h]
 show some (if (H k).isSome = true then k else n) = some k
 rw [if_pos h2]
theorem RegI.call {P : Program} {ops : Array Oper} {Q : Exit → St → Prop} {σ : St} (i : Nat) {o : Oper} (ho : ops[i]? = some o) (hg : o.guard = none) {f : Operand} {args : Array Operand} {tys : Array TypeId} (hop : o.op = .call { callee := .value f, args := args, argTypes := tys })
 {g : FuncId} {first caps : List V} (hf : σ.ev f = .clo (.func g) first caps) {fn : Func} {c : Code} (hfn : P.funcs[g]? = some fn) (hb : fn.body = some c) (hcal : callable P g = true) {N : Nat} (hn : fn.ntmps = N) {rs : Array ResultVar} (hrs : fn.results = rs)
 {xs : List V} (hxs : first ++ args.toList.map σ.ev ++ caps = xs) (htup : xs.all V.noTup = true) (hN : xs.length ≤ N) (m : Nat) (hm : σ.m ≤ m) (hlive : liveTo σ.H σ.m)
 (s1 : Nat → V) (hs1 : RenS (lvT m σ.H σ.n) s1 σ.s) (ht : ∀ t l, s1 t ≠ .tup l) {r : V} {H' : Hp} {n' : Nat} (hdst : dstOk o σ.N)
 (h : AWp P c (retH P rs.toList m r H' n') { s := argS xs 0 fun _ => .any, H := σ.H, n := σ.n, N := N, m := m })
 (hk : RegI P ops (i + 1) Q { s := (match o.dst with | some d => upS s1 d r | none => s1), H := H', n := n', N := σ.N, m := σ.m, q := σ.q }) : RegI P ops i Q σ := by
 intro B A W st a w ρ hs r0 hr0
 have hil : i < ops.toList.length := by
  have := (Array.getElem?_eq_some_iff.1 ho).1
  simpa using this
 have hlen : (ops.toList.drop i).length = (ops.toList.drop (i + 1)).length + 1 := by
  rw [List.length_drop, List.length_drop]; omega
 rw [hlen, List.range'_succ]
 simp only [wpOpsIn, ho]
 rw [if_pos (by simp [Region.wanted, hg])]
 have hx := hs.ev f
 rw [hf] at hx
 have hA := RepW.atom hx rfl
 generalize hfv : a.eval f = fv at hA
 cases hA with
 | clo _ _ _ _ vf vc h1 h2 q1 q2 r1 r2 =>
 obtain ⟨vs, hvs⟩ : ∃ vs : List Value, vs = vf.toList ++ args.toList.map a.eval ++ vc.toList := ⟨_, rfl⟩
 have hvl : vs.length = xs.length := by rw [hvs, ← hxs]; simp [h1, h2]
 have hrep : ∀ (j : Nat) (x : V) (v : Value), xs[j]? = some x → vs[j]? = some v → RepW w (own B ρ σ.H) ρ x v := by
  intro j x v hj hv
  have key : RepV w (own B ρ σ.H) ρ x v := by
   rw [← hxs] at hj
   rw [hvs] at hv
   have Wc : ∀ (l : List V) (vv : Array Value), (∀ (j : Nat) (x : V) (v : Value), l[j]? = some x → vv[j]? = some v → ShapeOk x v) → (∀ (j : Nat) (x : V) (v : Value), l[j]? = some x → vv[j]? = some v → ∀ (i : Nat) (y : V) (u : Value), x.atoms[i]? = some y → v.cells[i]? = some u → RepA w (own B ρ σ.H) ρ y u) → ∀ (j : Nat) (x : V) (v : Value), l[j]? = some x → vv[j]? = some v → RepV w (own B ρ σ.H) ρ x v := by
    intro l vv hs hr j x v q1 q2
    have hsx := hs j x v q1 q2
    have hW : RepW w (own B ρ σ.H) ρ x v := .inr ⟨hsx, hr j x v q1 q2⟩
    refine RepV.of_W hW ?_
    rintro m rfl
    have h5 : 0 < v.cells.size := by have := hsx.2.2; simp [V.atoms] at this; omega
    have := hr j _ v q1 q2 0 _ _ rfl (Array.getElem?_eq_getElem h5)
    cases this
   have hf1 : first.length = vf.toList.length := by simp [h1]
   by_cases j1 : j < first.length
   ·rw [List.append_assoc, List.getElem?_append_left j1] at hj
    rw [List.append_assoc, List.getElem?_append_left (by omega)] at hv
    exact Wc first vf q1 r1 j x v hj (by simpa using hv)
   ·rw [List.append_assoc, List.getElem?_append_right (by omega)] at hj
    rw [List.append_assoc, List.getElem?_append_right (by omega), ← hf1] at hv
    by_cases j2 : j - first.length < args.toList.length
    ·rw [List.getElem?_append_left (by simpa using j2)] at hj hv
     exact map_rep hs.ev args.toList _ x v hj hv
    ·rw [List.getElem?_append_right (by simpa using j2)] at hj hv
     simp only [List.length_map] at hj hv
     exact Wc caps vc q2 r2 _ x v hj (by simpa using hv)
  have h3 := List.all_eq_true.1 htup x (List.mem_of_getElem? hj)
  cases x <;> first | exact key | (simp [V.noTup] at h3)
 have harr : vs.toArray = vf ++ args.map a.eval ++ vc := by rw [hvs]; apply Array.ext'; simp
 have he : (execOp a.eval o).run P w = .ok (.enter g vs.toArray) w := by
  rw [harr]
  simp only [execOp, hop, resolve, hfv, Deferred.ofValue, Sem.run_bind, Sem.run_pure, Result.andThen_ok, invoke]
  exact run_callFunc hcal
 -- the callee
 have hA0 : ∀ j b, aR m σ.H ρ j = some b → tof σ.H ρ b := fun j b => aR_tof
 have hAt : ∀ b, tof σ.H ρ b → ∃ j, aR m σ.H ρ j = some b := fun b => tof_aR
 have st' : Stat B (aR m σ.H ρ) w := ⟨hs.hB st, fun j b hj hB => by
  obtain ⟨k, x, e1, e2⟩ := hA0 j b hj
  exact hs.hfar st k x b e1 e2 hB⟩
 have hgoal : Calls P g vs.toArray w fun e w' => ∃ v a' σ' ρ', e = .returned v ∧ RepV w' (own B ρ' H') ρ' r v ∧ Sim B (aR m σ.H ρ) w σ' a' w' ρ' ∧ σ'.H = H' ∧ σ'.n = n' := by
  refine callsIn_wide.1 (callsIn_of_wp_marks (F := Fence.wide) (n := 0) hfn hb trivial ?_)
  subst hn hrs
  have hs0 : Sim B (aR m σ.H ρ) w { s := argS xs 0 fun _ => .any, H := σ.H, n := σ.n, N := fn.ntmps, m := m } { tmps := vs.toArray ++ Array.replicate (fn.ntmps - vs.toArray.size) undef, defers := [] } w ρ := by
   refine ⟨fun _ => rfl, by simp [hvl]; omega, fun t => ?_, hs.heap, hs.fresh, fun k x b e1 e2 => .inl (hAt b ⟨k, x, e1, e2⟩), rfl, rfl, rfl, Nat.le_refl _, fun _ _ _ => rfl, fun b arr t fr e => ⟨_, _, _, e, rfl⟩, fun k b e => aR_pin e, Marks.nil _ _⟩
   simp only [argS_get, Nat.zero_le, true_and, Nat.zero_add, Nat.sub_zero]
   by_cases htl : t < xs.length
   ·rw [if_pos htl]
    have e1 : xs[t]? = some xs[t] := List.getElem?_eq_getElem htl
    have e2 : vs[t]? = some (vs[t]'(by omega)) := List.getElem?_eq_getElem (by omega)
    have h1 := hrep t _ _ e1 e2
    have e3 : (vs.toArray ++ Array.replicate (fn.ntmps - vs.toArray.size) undef).getD t undef = vs[t]'(by omega) := by
     rw [Array.getD_eq_getD_getElem?, Array.getElem?_append_left (by simp; omega)]
     simp [e2]
    rw [e3]
    have e4 : xs.getD t .any = xs[t] := by simp [List.getD_eq_getElem?_getD, e1]
    rw [e4]
    exact RepV.of_W h1 h1.notTup
   ·rw [if_neg htl]
    exact .inl rfl
  refine wpIn_mono (h B (aR m σ.H ρ) w st' _ w ρ hs0 (r := none)) fun e a' w' hq => ?_
  obtain ⟨σ', ρ', hq, hs'⟩ := hq
  have fin : retH1 P m r H' n' fn.results.toList σ' → LeavesInM Fence.wide 0 P fn a'.tmps (fun e w' => ∃ v a' σ' ρ', e = .returned v ∧ RepV w' (own B ρ' H') ρ' r v ∧ Sim B (aR m σ.H ρ) w σ' a' w' ρ' ∧ σ'.H = H' ∧ σ'.n = n') a'.defers .returning w' := fun hq => leaves_of _ _ hs' fun w' hs' => by
   rcases hres : fn.results.toList with _ | ⟨x, _ | ⟨x2, l2⟩⟩ <;> rw [hres] at hq
   ·obtain ⟨rfl, hw⟩ := hq
    obtain ⟨ρ2, h2⟩ := hw _ _ _ _ _ _ hs'
    have hres' : fn.results = #[] := by apply Array.ext'; simpa using hres
    exact ⟨_, dfl_results hres', _, _, _, ρ2, rfl, .inl rfl, h2, rfl, rfl⟩
   ·obtain ⟨h0N, hq⟩ := hq
    obtain ⟨ys, us, k1, k2, k3, k4⟩ := res_ok (P := P) hs' _ _ hq
    rcases ys with _ | ⟨y, ys⟩
    ·exact k1.elim
    ·obtain ⟨k1, k5⟩ := k1
     have hys : ys = [] := by simpa using k1
     subst hys
     match us, k3 with
     | [u], _ =>
     have k4' := k4 0 y u rfl rfl
     have hput := hs'.put (dst := some 0) (fun d hd => by cases hd; exact h0N) (v := u) (x := y) (ws := []) (Step.refl _ _ _) hs'.heap (fun _ _ e => e) k4'
     obtain ⟨ρ2, h2⟩ := k5 _ _ _ _ _ _ hput
     have h3 := h2.slots 0
     have h4 : (a'.tmps.setIfInBounds 0 u).getD 0 undef = u := by
      rw [Array.getD_eq_getD_getElem?, Array.getElem?_setIfInBounds_self_of_lt (by rw [show a'.tmps.size = σ'.N from hs'.size]; exact h0N)]; rfl
     refine ⟨_, results_run (vs := [u]) (by rw [hres]; exact k2), _, _, _, ρ2, rfl, ?_, h2, rfl, rfl⟩
     have h5 : RepV w' (own B ρ2 H') ρ2 r ((a'.tmps.setIfInBounds 0 u).getD 0 undef) := h3
     rw [h4] at h5
     exact h5
   ·exact hq.elim
  cases e with
  | normal => exact fin hq
  | ret => exact fin hq
  | exit id => exact hq.elim
  | goto l => exact hq.elim
  | panic c => exact hq.elim
  | outgrown => exact hq.elim
 refine wp_rd (fun c e => by rw [hop] at e; cases e) ?_
 unfold Oper.wp
 rw [he]
 refine hgoal.mono ?_
 rintro e w' ⟨v, a', σ', ρ', rfl, hrv, hs', hH', hn'⟩
 have hown : ∀ b, own B ρ' H' b → b < w.heap.size → own B ρ σ.H b := by
  rintro b (hb | ⟨k, x, e1, e2⟩) hlt
  ·exact .inl hb
  ·rw [← hH'] at e1
   rcases hs'.mine k x b e1 e2 with ⟨j, hj⟩ | hj
   ·exact .inr (hA0 j b hj)
   ·omega
 have hpin : ∀ k b, k < m → (σ.H k).isSome = true → ρ k = some b → ρ' k = some b := fun k b hkm hl e => (hs'.pins k b (aR_live hkm hl e)).2
 have hsame : ∀ b, b < w.heap.size → ¬ tof σ.H ρ b → w'.heap[b]? = w.heap[b]? := fun b hb hnt => hs'.same b hb fun j e => hnt (hA0 j b e)
 have hext : Ext w (own B ρ σ.H) (renR (lvT m σ.H σ.n) ρ) w' (own B ρ' H') ρ' := by
  refine ⟨fun k b e => ?_, fun b hb hO => ⟨fun h3 => hO (hown b h3 hb), .of (hsame b hb fun h3 => hO (.inr h3))⟩, hs'.grow, hs'.row⟩
  unfold renR lvT at e
  rw [List.getElem?_map] at e
  by_cases hkm : k < m
  ·rw [List.getElem?_range hkm] at e
   have e : ρ (if (σ.H k).isSome = true then k else σ.n) = some b := e
   by_cases hl : (σ.H k).isSome = true
   ·rw [if_pos hl] at e
    exact hpin k b hkm hl e
   ·rw [if_neg hl, hs.fresh _ (Nat.le_refl _)] at e
    cases e
  ·rw [List.getElem?_eq_none (by simp; omega)] at e
   cases e
 have hsl : ∀ t, RepV w' (own B ρ' H') ρ' (s1 t) (a.tmps.getD t undef) := fun t => by
  have h3 := (ren_atomic (hs1 t) (ht t) (hs.slots t) (Ext.refl _ _ _)).mono hext
  exact RepV.of_W h3 (ht t)
 have hsim : Sim B A W { s := (match o.dst with | some d => upS s1 d r | none => s1), H := H', n := n', N := σ.N, m := σ.m, q := σ.q } (a.put o.dst v) w' ρ' := by
  have hfresh : ∀ k, n' ≤ k → ρ' k = none := by rw [← hn']; exact hs'.fresh
  have hheap : HRep w' (own B ρ' H') ρ' H' := by have := hs'.heap; rwa [hH'] at this
  refine ⟨?_, ?_, fun t => ?_, hheap, hfresh, fun k x b e1 e2 => ?_, hs'.os.trans hs.os, hs'.tape.trans hs.tape, hs'.output.trans hs.output, Nat.le_trans hs.grow hs'.grow, fun b hb hA => ?_, fun b arr t fr e => ?_, fun k b e => ⟨(hs.pins k b e).1, hpin k b (Nat.lt_of_lt_of_le (hs.pins k b e).1 hm) (hlive.get (hs.pins k b e).1) (hs.pins k b e).2⟩, ?_⟩
  ·intro e
   have := hs.defers e
   rcases o.dst with _ | d <;> exact this
  ·rcases o.dst with _ | d <;> simp [Act.put, hs.size]
  ·rcases hd : o.dst with _ | d
   ·exact hsl t
   ·show RepV w' (own B ρ' H') ρ' (upS s1 d r t) _
    have hdN : d < a.tmps.size := by rw [hs.size]; exact dstOk_lt hdst d hd
    by_cases e : t = d
    ·subst e
     simp only [upS, if_true, Act.put]
     rw [Array.getD_eq_getD_getElem?, Array.getElem?_setIfInBounds_self_of_lt hdN]
     exact hrv
    ·simp only [upS, if_neg e, Act.put]
     rw [Array.getD_eq_getD_getElem?, Array.getElem?_setIfInBounds_ne (fun e' => e e'.symm), ← Array.getD_eq_getD_getElem?]
     exact hsl t
  ·rw [← hH'] at e1
   rcases hs'.mine k x b e1 e2 with ⟨j, hj⟩ | hj
   ·obtain ⟨k0, x0, e3, e4⟩ := hA0 j b hj
    exact hs.mine k0 x0 b e3 e4
   ·exact .inr (Nat.le_trans hs.grow hj)
  ·refine (hsame b (Nat.lt_of_lt_of_le hb hs.grow) ?_).trans (hs.same b hb hA)
   rintro ⟨k, x, e1, e2⟩
   rcases hs.mine k x b e1 e2 with ⟨j, hj⟩ | hj
   ·exact hA j hj
   ·omega
  ·obtain ⟨b1, t1, f1, e1, s1⟩ := hs.row b arr t fr e
   obtain ⟨b2, t2, f2, e2, s2⟩ := hs'.row b b1 t1 f1 e1
   exact ⟨b2, t2, f2, e2, s2.trans s1⟩
  ·have hmk := hs.marks.keep (w' := w') fun D hD => hsame D (Array.getElem?_eq_some_iff.1 hD).1 fun htof => by
    obtain ⟨_, _, _, e⟩ := tof_cells hs.heap htof
    rw [hD] at e; cases e
   rcases o.dst with _ | d <;> exact hmk
 exact hk B A W st _ w' ρ' hsim (r := r0)
def putD (s : Nat → V) (d : Option Tmp) (r : V) : Nat → V := match d with
 | some d => upS s d r
 | none => s
@[go_sem ↓, go_sem] theorem putD_some {s : Nat → V} {d : Tmp} {r : V} : putD s (some d) r = upS s d r := rfl
@[go_sem ↓, go_sem] theorem putD_none {s : Nat → V} {r : V} : putD s none r = s := rfl
def HCall (P : Program) (g : FuncId) (xs : List V) (H : Hp) (n m : Nat) (r : V) (H' : Hp) (n' : Nat) : Prop :=
 ∃ (fn : Func) (c : Code), P.funcs[g]? = some fn ∧ fn.body = some c ∧ callable P g = true ∧ xs.length ≤ fn.ntmps ∧ AWp P c (retH P fn.results.toList m r H' n') { s := argS xs 0 fun _ => .any, H := H, n := n, N := fn.ntmps, m := m }
theorem HCall.of {P : Program} {g : FuncId} {fn : Func} {c : Code} {xs : List V} {H : Hp} {n m : Nat} {r : V} {H' : Hp} {n' : Nat} (hfn : P.funcs[g]? = some fn) (hb : fn.body = some c) (hcal : callable P g = true) {N : Nat} (hn : fn.ntmps = N) {rs : Array ResultVar} (hrs : fn.results = rs) (hN : xs.length ≤ N)
 (h : AWp P c (retH P rs.toList m r H' n') { s := argS xs 0 fun _ => .any, H := H, n := n, N := N, m := m }) : HCall P g xs H n m r H' n' := by
 subst hn hrs
 exact ⟨fn, c, hfn, hb, hcal, hN, h⟩
theorem RegI.callH {P : Program} {ops : Array Oper} {Q : Exit → St → Prop} {σ : St} (i : Nat) {o : Oper} (ho : ops[i]? = some o) (hg : o.guard = none) {f : Operand} {args : Array Operand} {tys : Array TypeId} (hop : o.op = .call { callee := .value f, args := args, argTypes := tys })
 {g : FuncId} {first caps : List V} (hf : σ.ev f = .clo (.func g) first caps) {xs : List V} (hxs : first ++ args.toList.map σ.ev ++ caps = xs) (htup : xs.all V.noTup = true) (m : Nat) (hm : σ.m ≤ m) (hlive : liveTo σ.H σ.m)
 (ss : List (Nat × V)) (hss : wkS (lvT m σ.H σ.n) σ.s ss) {r : V} {H' : Hp} {n' : Nat} {dst : Option Tmp} (hd : o.dst = dst) (hdst : dstOk o σ.N) (h : HCall P g xs σ.H σ.n m r H' n')
 (hk : RegI P ops (i + 1) Q { s := putD (mkS ss) dst r, H := H', n := n', N := σ.N, m := σ.m, q := σ.q }) : RegI P ops i Q σ := by
 subst hd
 obtain ⟨fn, c, h1, h2, h3, h4, h5⟩ := h
 have hr : ∀ (l : List (Nat × V)), wkS (lvT m σ.H σ.n) σ.s l → RenS (lvT m σ.H σ.n) (mkS l) σ.s ∧ ∀ t m, mkS l t ≠ .tup m := by
  intro l
  induction l with
  | nil => intro _; exact ⟨fun t => trivial, fun t m h => by simp [mkS] at h⟩
  | cons p l ih =>
    intro hl
    obtain ⟨⟨q1, q2⟩, q3⟩ := hl
    obtain ⟨i1, i2⟩ := ih q3
    refine ⟨fun t => ?_, fun t m => ?_⟩
    ·simp only [mkS, upS]
     split
     ·rename_i e; subst e; exact q2
     ·exact i1 t
    ·simp only [mkS, upS]
     split
     ·intro e; rw [e] at q1; simp [V.noTup] at q1
     ·exact i2 t m
 exact RegI.call i ho hg hop hf h1 h2 h3 rfl rfl hxs htup h4 m hm hlive (mkS ss) (hr ss hss).1 (hr ss hss).2 hdst h5 hk
end Go.Proofs.YtlhapagililgmaaGreat


/- Loops over functions: a function that yields only if a guard holds. No program in sight. -/
namespace Go.Proofs.YtlhapagililgmaaGreat
set_option linter.unusedSimpArgs false
set_option linter.unusedVariables false
open Go.RowKit

section
variable {P : Program} {Γ : Tab} {Δ : Gab} {l N : Nat} {xs : Nat → Option (List V)} {J : Option Nat → (Nat → Prop) → (Nat → Prop) → World → Prop}
theorem AIt.yieldG (T : Tabs P Γ Δ) (hJ : JOk P l N xs J) {id : Nat} {ops : Array Oper} (pre post : List Oper) (o : Oper) (hops : ops.toList = pre ++ o :: post) {jg dg : Nat} (hg : o.guard = some (jg, true)) (hdg : (ops[jg]?).bind (·.dst) = some dg) {f : Operand} {args : Array Operand} {tys : Array TypeId} (hop : o.op = .call { callee := .value f, args := args, argTypes := tys })
 {Q : Exit → Option Nat → St → Prop} {n : Nat} {σ : St}
 (h : vcOps P Γ Δ ops pre σ fun σ1 => (σ1.q = false ∧ dstOk o σ1.N) ∧ (dg < σ1.N ∧ σ1.s dg = .raw (.bool true)) ∧ σ1.ev f = .raw (.func (.yield l) #[] #[]) ∧ (xs n = some (args.toList.map σ1.ev) ∧ (args.toList.map σ1.ev).all V.pure = true ∧ (args.toList.map σ1.ev).all V.noTup = true) ∧
  vcOps P Γ Δ ops post (σ1.put o.dst (.raw (.bool true)) []) (fun σ2 => σ2.q = false ∧ Q .normal (some (n + 1)) σ2) ∧ vcOps P Γ Δ ops post (σ1.put o.dst (.raw (.bool false)) []) (fun σ2 => σ2.q = false ∧ Q .normal none σ2)) :
 AIt P J (.region id ops false) Q (some n) σ := by
 rintro a w ⟨C, ρ, hs, hj, hq⟩
 refine wpIn_region ?_
 have hlen : ops.size = pre.length + (post.length + 1) := by
  have := congrArg List.length hops
  simpa using this
 have hrange : List.range ops.size = List.range' 0 pre.length ++ (pre.length :: List.range' (pre.length + 1) post.length) := by
  rw [List.range_eq_range', hlen, ← List.range'_append_1 (s := 0) (m := pre.length) (n := post.length + 1), Nat.zero_add, List.range'_succ]
 rw [hrange]
 refine vcOps_pre T.tab T.gab (stat_it hJ hj) (r := none) _ ?_ pre 0 σ a w ρ (by rw [hops]; simp) hs h
 rintro σ1 a1 w1 ρ1 ⟨⟨hq1, hd⟩, ⟨hgl, hgs⟩, hf, ⟨hx, hp, ht⟩, h1, h2⟩ hs1
 have ho : ops[pre.length]? = some o := by
  have : ops.toList[pre.length]? = some o := by rw [hops]; simp
  simpa using this
 simp only [wpOpsIn, ho]
 rw [if_pos (by simp [Region.wanted, hg, yielded, hdg, slot_val hs1 hgl hgs])]
 have hj1 : J (some n) C (tof σ1.H ρ1) w1 := hJ.move _ _ _ _ _ _ hj hs1.moves fun _ hb => tof_cells hs1.heap hb
 have hfv := hs1.ev f
 rw [hf] at hfv
 have hfv := RepW.raw_inv hfv
 obtain ⟨fn, tmps, x, y, hy, hR⟩ := hJ.yield n C _ w1 (args.toList.map σ1.ev) (args.toList.map a1.eval) hj1 hx (by simp) fun j z v hz hv => by
  simp only [List.getElem?_map] at hz hv
  rcases hxj : args.toList[j]? with _ | q
  ·rw [hxj] at hz; simp at hz
  ·rw [hxj] at hz hv
   simp at hz hv
   subst hz hv
   have hmem : σ1.ev q ∈ args.toList.map σ1.ev := List.mem_map_of_mem (List.mem_of_getElem? hxj)
   have h3 := hs1.ev q
   have h4 : RepW w1 (own C ρ1 σ1.H) ρ1 (σ1.ev q) (a1.eval q) := by
    have := List.all_eq_true.1 ht _ hmem
    generalize σ1.ev q = z at *
    cases z <;> first | exact h3 | (simp [V.noTup] at this)
   exact h4.pure (List.all_eq_true.1 hp _ hmem)
 refine ⟨fun _ _ => trivial, ?_⟩
 rw [Oper.semAt_eq _ _ _ (fun c e => by rw [hop] at e; cases e)]
 have harr : (args.toList.map a1.eval).toArray = args.map a1.eval := by apply Array.ext'; simp
 rw [harr] at hy
 rw [run_yieldCall hop hfv hy]
 refine ⟨fun e => (by cases e), RoundIn.mono hR ?_⟩
 rintro e w2 ⟨C', b, rfl, hj2, mv⟩
 have hs2 := (hs1.rebase hq1 (Nat.zero_le _)).other hq1 mv (hJ.old _ _ _ _ hj1).2
 have hs3 := hs2.put (dst := o.dst) (dstOk_lt hd) (v := .bool b) (x := .raw (.bool b)) (ws := []) (Step.refl _ _ _) hs2.heap (fun _ _ e => e) (RepW.raw rfl)
 have hst := stat_it (H := σ1.H) (ρ := ρ1) hJ hj2
 have fin : ∀ (i' : Option Nat), J i' C' (tof σ1.H ρ1) w2 → vcOps P Γ Δ ops post (σ1.put o.dst (.raw (.bool b)) []) (fun σ2 => σ2.q = false ∧ Q .normal i' σ2) →
  wpOpsIn (rd none) 0 P ops (fun e a' w' => ∃ i' σ', Q e i' σ' ∧ ItS J i' σ' a' w') (List.range' (pre.length + 1) post.length) (a1.put o.dst (.bool b)) w2 := fun i' hj3 h3 => by
  have := vcOps_pre T.tab T.gab hst (r := none) (ops := ops) (Q := fun e a' w' => ∃ i' σ', Q e i' σ' ∧ ItS J i' σ' a' w') (K := fun σ2 => σ2.q = false ∧ Q .normal i' σ2) [] (fun σ2 a2 w3 ρ2 hk hs4 => ⟨i', σ2, hk.2, ItS.step hJ hj3 hs4 hk.1⟩) post (pre.length + 1) _ _ w2 ρ1 (by rw [hops]; simp) hs3 h3
  simpa using this
 cases b with
 | true => exact fin _ hj2 h1
 | false => exact fin _ hj2 h2
end
end Go.Proofs.YtlhapagililgmaaGreat


/- Rows of integers, and rows of these, in the abstract run. -/
namespace Go.Proofs.YtlhapagililgmaaGreat
set_option linter.unusedSimpArgs false
set_option linter.unusedVariables false
open Go.RowKit

def V.zs (l : List Int) : List V := l.map .I
@[go_sem] theorem zs_len (l : List Int) : (V.zs l).length = l.length := by simp [V.zs]
def zz (l : List Int) (i : Nat) : Int := l.getD i 0
theorem zs_get {l : List Int} {i : Nat} (h : i < l.length) : (V.zs l)[i]? = some (.I (zz l i)) := by
 unfold zz
 rw [List.getD_eq_getElem?_getD]
 simp [V.zs, List.getElem?_eq_getElem h]
@[go_sem ↓, go_sem] theorem ev_zs_get {l : List Int} {i : Nat} {k : V → Prop} : optC (V.zs l)[i]? k = (i < l.length ∧ k (.I (zz l i))) := by
 by_cases h : i < l.length
 ·rw [zs_get h]; simp [optC, h]
 ·have : (V.zs l)[i]? = none := by rw [List.getElem?_eq_none]; rw [zs_len]; omega
  rw [this]; simp [optC, h]
@[go_sem] theorem zs_take (l : List Int) (n : Nat) : (V.zs l).take n = V.zs (l.take n) := by simp [V.zs]
@[go_sem] theorem zs_drop (l : List Int) (n : Nat) : (V.zs l).drop n = V.zs (l.drop n) := by simp [V.zs]
@[go_sem] theorem zs_append (l m : List Int) : V.zs l ++ V.zs m = V.zs (l ++ m) := by simp [V.zs]
@[go_sem] theorem zs_snoc (l : List Int) (q : Int) : V.zs l ++ [V.I q] = V.zs (l ++ [q]) := by simp [V.zs]
@[go_sem] theorem zs_wid (l : List Int) : allWid (V.zs l) 2 = True := by
 simp only [eq_iff_iff, iff_true]
 intro y hy
 obtain ⟨x, _, rfl⟩ := List.mem_map.1 hy
 rfl
@[go_sem] theorem zs_good (l : List Int) : allGood (V.zs l) = True := by
 simp only [eq_iff_iff, iff_true]
 intro y hy
 obtain ⟨x, _, rfl⟩ := List.mem_map.1 hy
 rfl
@[go_sem] theorem zs_pure (l : List Int) : allPure (V.zs l) = True := by
 simp only [eq_iff_iff, iff_true]
 intro y hy
 obtain ⟨x, _, rfl⟩ := List.mem_map.1 hy
 rfl
@[go_sem] theorem frzOk_zs (l : List Int) : frzOk (V.zs l) = True := eq_true (frzOk_map (fun a => ⟨rfl, by simp, by simp⟩) l)
@[go_sem] theorem zs_set (l : List Int) (i : Nat) (q : Int) : (V.zs l).set i (.I q) = V.zs (l.set i q) := by simp [V.zs, List.map_set]
@[go_sem] theorem zs_rep (n : Nat) (q : Int) : List.replicate n (V.I q) = V.zs (List.replicate n q) := by simp [V.zs]
def unzs : List V → Option (List Int)
 | [] => some []
 | .I q :: l => (unzs l).map (q :: ·)
 | _ => none
theorem unzs_ok : ∀ (l : List V) (m : List Int), unzs l = some m → l = V.zs m
 | [], m, h => by injection h with h; subst h; rfl
 | .I q :: l, m, h => by
   unfold unzs at h
   rcases hm : unzs l with _ | m' <;> rw [hm] at h
   ·cases h
   ·injection h with h
    subst h
    rw [unzs_ok l m' hm]
    rfl
@[go_sem ↓, go_sem] theorem unzs_zs (l : List Int) : unzs (V.zs l) = some l := by
 induction l with
 | nil => rfl
 | cons x l ih =>
   show (unzs (V.zs l)).map (x :: ·) = _
   rw [ih]; rfl
@[go_sem ↓, go_sem] theorem unzs_nil : unzs [] = some [] := rfl
@[go_sem ↓, go_sem] theorem unzs_cons (q : Int) (l : List V) : unzs (.I q :: l) = (unzs l).map (q :: ·) := rfl
def pZs : Pat (List Int) where
 p
  | .lst l => (unzs l).map fun m => (True, m)
  | .raw (.slice none 0 0) => some (True, [])
  | .emp => some (True, [])
  | _ => none
 val l := .lst (V.zs l)
 ok x c a h hc := by
  split at h
  ·rename_i l
   rcases hm : unzs l with _ | m <;> rw [hm] at h
   ·cases h
   ·injection h with h; injection h with h1 h2; subst h2
    rw [unzs_ok l m hm]; exact .refl _
  ·injection h with h; injection h with h1 h2; subst h2; exact .inr (.inr ⟨rfl, rfl, rfl, rfl⟩)
  ·injection h with h; injection h with h1 h2; subst h2; exact .inr (.inr ⟨rfl, rfl, rfl⟩)
  ·cases h
@[go_sem ↓, go_sem] theorem ev_pZs {l : List V} : pZs.p (.lst l) = (unzs l).map fun m => (True, m) := rfl
@[go_sem ↓, go_sem] theorem ev_pZs_nil : pZs.p (.raw (.slice none 0 0)) = some (True, []) := rfl
@[go_sem ↓, go_sem] theorem ev_pZs_emp : pZs.p .emp = some (True, []) := rfl
@[go_sem ↓, go_sem] theorem ev_pZs_mk {l : List Int} : pZs.val l = .lst (V.zs l) := rfl
def V.zss (M : List (List Int)) : List V := M.map fun p => .lst (V.zs p)
@[go_sem] theorem zss_len (l : List (List Int)) : (V.zss l).length = l.length := by simp [V.zss]
@[go_sem ↓, go_sem] theorem ev_zss_get {l : List (List Int)} {i : Nat} {k : V → Prop} : optC (V.zss l)[i]? k = (i < l.length ∧ k (.lst (V.zs (l.getD i [])))) := by
 unfold V.zss
 rw [List.getElem?_map, List.getD_eq_getElem?_getD]
 by_cases h : i < l.length
 ·simp [List.getElem?_eq_getElem h, optC, h]
 ·simp [List.getElem?_eq_none (Nat.le_of_not_lt h), optC, h]
@[go_sem] theorem zss_frz (l : List (List Int)) : frzOk (V.zss l) = True := eq_true (frzOk_map (fun a => ⟨rfl, by simp, by simp⟩) l)
@[go_sem] theorem zss_wid (l : List (List Int)) : allWid (V.zss l) 1 = True := eq_true fun y hy => by
 obtain ⟨p, _, rfl⟩ := List.mem_map.1 hy
 rfl
@[go_sem] theorem zss_pure (l : List (List Int)) : allPure (V.zss l) = True := eq_true fun y hy => by
 obtain ⟨p, _, rfl⟩ := List.mem_map.1 hy
 rfl
@[go_sem] theorem zss_take (l : List (List Int)) (n : Nat) : (V.zss l).take n = V.zss (l.take n) := by simp [V.zss]
theorem zss_snoc (l : List (List Int)) (p : List Int) : V.zss l ++ [.lst (V.zs p)] = V.zss (l ++ [p]) := by simp [V.zss]
def unzss : List V → Option (List (List Int))
 | [] => some []
 | .lst l :: t => (unzs l).bind fun r => (unzss t).map fun s => r :: s
 | _ => none
theorem unzss_ok : ∀ (l : List V) (m : List (List Int)), unzss l = some m → l = V.zss m
 | [], m, h => by injection h with h; subst h; rfl
 | x :: t, m, h => by
   cases x with
   | lst l =>
     rw [unzss] at h
     rcases hr : unzs l with _ | r
     ·rw [hr] at h; cases h
     ·rw [hr] at h
      have h : ((unzss t).map fun s => r :: s) = some m := h
      rcases ht : unzss t with _ | s
      ·rw [ht] at h; cases h
      ·rw [ht] at h
       injection h with h
       subst h
       rw [unzss_ok t s ht, unzs_ok l r hr]; rfl
   | _ => cases h
@[go_sem ↓, go_sem] theorem unzss_zss : ∀ m : List (List Int), unzss (V.zss m) = some m
 | [] => rfl
 | r :: m => by
   show unzss (.lst (V.zs r) :: V.zss m) = _
   rw [unzss, unzs_zs, unzss_zss m]; rfl
def pZss : Pat (List (List Int)) where
 p
  | .lst l => (unzss l).map fun m => (True, m)
  | .raw (.slice none 0 0) => some (True, [])
  | .emp => some (True, [])
  | _ => none
 val l := .lst (V.zss l)
 ok x c a h hc := by
  split at h
  ·rename_i l
   rcases hm : unzss l with _ | m <;> rw [hm] at h
   ·cases h
   ·injection h with h; injection h with h1 h2; subst h2
    rw [unzss_ok l m hm]; exact .refl _
  ·injection h with h; injection h with h1 h2; subst h2; exact .inr (.inr ⟨rfl, rfl, rfl, rfl⟩)
  ·injection h with h; injection h with h1 h2; subst h2; exact .inr (.inr ⟨rfl, rfl, rfl⟩)
  ·cases h
@[go_sem ↓, go_sem] theorem ev_pZss {l : List V} : pZss.p (.lst l) = (unzss l).map fun m => (True, m) := rfl
@[go_sem ↓, go_sem] theorem ev_pZss_nil : pZss.p (.raw (.slice none 0 0)) = some (True, []) := rfl
@[go_sem ↓, go_sem] theorem ev_pZss_emp : pZss.p .emp = some (True, []) := rfl
@[go_sem ↓, go_sem] theorem ev_pZss_mk {l : List (List Int)} : pZss.val l = .lst (V.zss l) := rfl
end Go.Proofs.YtlhapagililgmaaGreat


/- Contracts: products of polynomials. -/
namespace Go.Proofs.YtlhapagililgmaaGreat
set_option linter.unusedSimpArgs false
set_option linter.unusedVariables false
open Go.RowKit

theorem mulL_PB {b : List Rat} {j k : Nat} (hb : PB b k) : ∀ {a : List Rat}, PB a j → PB (mulL a b) (a.length * (j + k + 1) + 1)
 | [], _ => fun i => by rw [show mulL [] b = [] from rfl, cf_nil]; exact Nat.le_trans qs_0 (by omega)
 | x :: a, ha => fun i => by
   have hx : qs x ≤ j := ha 0
   have ih := mulL_PB (a := a) hb fun i => ha (i + 1)
   simp only [mulL, cf_addL, cf_scL, List.length_cons]
   have h1 : qs (x * cf b i) ≤ j + k := qsM hx (hb i)
   have h2 : qs (cf (0 :: mulL a b) i) ≤ a.length * (j + k + 1) + 1 := by
    cases i with
    | zero => exact Nat.le_trans qs_0 (by omega)
    | succ i => exact ih i
   have h3 := qsA h1 h2
   have : (a.length + 1) * (j + k + 1) = a.length * (j + k + 1) + (j + k + 1) := by rw [Nat.add_mul, Nat.one_mul]
   omega
end Go.Proofs.YtlhapagililgmaaGreat

