/- Texts A34 A34a A35 in one. -/
import Derived.Test.YtjjebokgckmnjaaR23
import Derived.Test.YtjjebokgckmnjaaR20
/- Matrices as plain values; rows let go at the end of a round. No program in sight. -/
namespace Go.Proofs.Ytjjebokgckmnjaa
set_option linter.unusedSimpArgs false
set_option linter.unusedVariables false
open Go.RowKit

def V.mat (M : List (List Rat)) : List V := M.map fun p => .lst (V.rats p)
@[go_sem] theorem mat_len (l : List (List Rat)) : (V.mat l).length = l.length := by simp [V.mat]
@[go_sem ↓, go_sem] theorem ev_mat_get {l : List (List Rat)} {i : Nat} {k : V → Prop} : optC (V.mat l)[i]? k = (i < l.length ∧ k (.lst (V.rats (l.getD i [])))) := by
  unfold V.mat
  rw [List.getElem?_map, List.getD_eq_getElem?_getD]
  by_cases h : i < l.length
  · simp [List.getElem?_eq_getElem h, optC, h]
  · simp [List.getElem?_eq_none (Nat.le_of_not_lt h), optC, h]
@[go_sem] theorem mat_frz (l : List (List Rat)) : frzOk (V.mat l) = True := eq_true (frzOk_map (fun a => ⟨rfl, by simp, by simp⟩) l)
@[go_sem] theorem mat_wid (l : List (List Rat)) : allWid (V.mat l) 1 = True := eq_true fun y hy => by
  obtain ⟨p, _, rfl⟩ := List.mem_map.1 hy
  rfl
@[go_sem] theorem mat_pure (l : List (List Rat)) : allPure (V.mat l) = True := eq_true fun y hy => by
  obtain ⟨p, _, rfl⟩ := List.mem_map.1 hy
  rfl
@[go_sem] theorem mat_take (l : List (List Rat)) (n : Nat) : (V.mat l).take n = V.mat (l.take n) := by simp [V.mat]
theorem mat_snoc (l : List (List Rat)) (p : List Rat) : V.mat l ++ [.lst (V.rats p)] = V.mat (l ++ [p]) := by simp [V.mat]
def unmat : List V → Option (List (List Rat))
  | [] => some []
  | .lst l :: t => (unrat l).bind fun r => (unmat t).map fun s => r :: s
  | _ => none
theorem unmat_ok : ∀ (l : List V) (m : List (List Rat)), unmat l = some m → l = V.mat m
  | [], m, h => by injection h with h; subst h; rfl
  | x :: t, m, h => by
    cases x with
    | lst l =>
      rw [unmat] at h
      rcases hr : unrat l with _ | r
      · rw [hr] at h; cases h
      · rw [hr] at h
        have h : ((unmat t).map fun s => r :: s) = some m := h
        rcases ht : unmat t with _ | s
        · rw [ht] at h; cases h
        · rw [ht] at h
          injection h with h
          subst h
          rw [unmat_ok t s ht, unrat_ok l r hr]; rfl
    | _ => cases h
@[go_sem ↓, go_sem] theorem unmat_mat : ∀ m : List (List Rat), unmat (V.mat m) = some m
  | [] => rfl
  | r :: m => by
    show unmat (.lst (V.rats r) :: V.mat m) = _
    rw [unmat, unrat_rats, unmat_mat m]; rfl
/-- A matrix. -/
def pMt : Pat (List (List Rat)) where
  p
    | .lst l => (unmat l).map fun m => (True, m)
    | .raw (.slice none 0 0) => some (True, [])
    | .emp => some (True, [])
    | _ => none
  val l := .lst (V.mat l)
  ok x c a h hc := by
    split at h
    · rename_i l
      rcases hm : unmat l with _ | m <;> rw [hm] at h
      · cases h
      · injection h with h; injection h with h1 h2; subst h2
        rw [unmat_ok l m hm]; exact .refl _
    · injection h with h; injection h with h1 h2; subst h2; exact .inr (.inr ⟨rfl, rfl, rfl, rfl⟩)
    · injection h with h; injection h with h1 h2; subst h2; exact .inr (.inr ⟨rfl, rfl, rfl⟩)
    · cases h
@[go_sem ↓, go_sem] theorem ev_pMt {l : List V} : pMt.p (.lst l) = (unmat l).map fun m => (True, m) := rfl
@[go_sem ↓, go_sem] theorem ev_pMt_nil : pMt.p (.raw (.slice none 0 0)) = some (True, []) := rfl
@[go_sem ↓, go_sem] theorem ev_pMt_emp : pMt.p .emp = some (True, []) := rfl
@[go_sem ↓, go_sem] theorem ev_pMt_mk {l : List (List Rat)} : pMt.val l = .lst (V.mat l) := rfl
/-- A matrix of owned rows is let go. -/
theorem frzs_rows {H : Hp} {t : TypeId} {w m : Nat} {ρ : Nat → Nat} {M : List (List Rat)} {k : List V → List Nat → Prop} : ∀ (n i : Nat), i + n = M.length → (∀ j, j < M.length → H (ρ j) = some ⟨t, 4, V.rats (M.getD j [])⟩ ∧ (M.getD j []).length = w) →
    frzs (frzE (argN H (m + 2))) ((List.range' i n).map fun j => .sl (ρ j) 4 0 w) k = k (V.mat (M.drop i)) ((List.range' i n).map ρ)
  | 0, i, hi, _ => by
    rw [List.drop_of_length_le (by omega)]; rfl
  | n + 1, i, hi, h => by
    obtain ⟨h1, h2⟩ := h i (by omega)
    rw [List.range'_succ, List.map_cons, List.map_cons, frzs]
    have e : frzE (argN H (m + 2)) (.sl (ρ i) 4 0 w) = fun kA => kA (.lst (V.rats (M.getD i []))) [ρ i] := by
      funext kA
      unfold frzE
      rw [if_neg (show ¬ (V.sl (ρ i) 4 0 w).isAgg = true from fun h => by cases h), ev_argN_sl]
      have e1 : aElems H (.sl (ρ i) 4 0 w) = some (V.rats (M.getD i []), [ρ i]) := by
        show (match H (ρ i) with | some x => (if x.e = 4 ∧ 0 + w ≤ x.l.length then some ((x.l.drop 0).take w, [ρ i]) else none) | none => none) = _
        rw [h1]
        show (if (4 : Nat) = 4 ∧ 0 + w ≤ (V.rats (M.getD i [])).length then _ else _) = _
        rw [if_pos ⟨rfl, by rw [rats_len, h2]; omega⟩, List.drop_zero, List.take_of_length_le (by rw [rats_len, h2]; exact Nat.le_refl _)]
      rw [e1]
      show frzs (frzE (argN H (m + 1))) (V.rats (M.getD i [])) _ = _
      have e2 : frzOk (V.rats (M.getD i [])) := frzOk_map (fun a => ⟨rfl, by simp, by simp⟩) (M.getD i [])
      rw [frzs_same e2]
      rfl
    rw [e]
    show frzs _ _ _ = _
    rw [frzs_rows n (i + 1) (by omega) h]
    have e2 : M.drop i = M.getD i [] :: M.drop (i + 1) := by
      rw [List.drop_eq_getElem_cons (by omega), List.getD_eq_getElem?_getD, List.getElem?_eq_getElem (by omega)]; rfl
    rw [e2]
    rfl
theorem frzs_rwG {H : Hp} {t : TypeId} {w m n : Nat} {ρ : Nat → Nat} {M : List (List Rat)} {k : List V → List Nat → Prop} (hn : M.length = n) (h : ∀ j, j < M.length → H (ρ j) = some ⟨t, 4, V.rats (M.getD j [])⟩ ∧ (M.getD j []).length = w) :
    frzs (frzE (argN H (m + 2))) (V.rwG ρ w n) k = k (V.mat M) ((List.range n).map ρ) := by
  have := frzs_rows (m := m) (k := k) (ρ := ρ) n 0 (by omega) h
  rw [List.drop_zero, ← List.range_eq_range'] at this
  exact this
/-- At the end of a round, what the slice in slot t holds is let go. -/
def frzT (t : Nat) (Q : Exit → St → Prop) : Exit → St → Prop
  | .normal, τ => match τ.s t with
    | .sl k _ _ _ => optC (τ.H k) fun y => frzs (frzE (argN τ.H 3)) y.l fun l' rs => (rs.all fun i => !(i == k)) = true ∧ Q .normal { τ with H := (τ.H.drops rs).up k (some ⟨y.t, y.e, l'⟩) }
    | _ => False
  | e, τ => Q e τ
/-- The state after a block's cells are let go. -/
theorem Sim.frz {B A W σ a w ρ} (hs : Sim B A W σ a w ρ) (st : Stat B A W) (k : Nat) {K : St → Prop} (h : optC (σ.H k) fun y => frzs (frzE (argN σ.H 3)) y.l fun l' rs => (rs.all fun i => !(i == k)) = true ∧ K { σ with H := (σ.H.drops rs).up k (some ⟨y.t, y.e, l'⟩) }) :
    ∃ σ', K σ' ∧ Sim B A W σ' a w ρ := by
  rcases hk : σ.H k with _ | y
  · rw [hk] at h; exact h.elim
  · rw [hk] at h
    obtain ⟨b, arr, g1, g2, g3, g4, g5⟩ := hs.heap.row k y hk
    have hH := hs.heap
    obtain ⟨L', rs, ⟨h1, h2⟩, e1, e2, e3, e4⟩ := frzL_ok (argN_ok hH (hs.hfar st) 3) y.l (arr.toList.take (V.atomsL y.l).length) _ (by rw [List.length_take]; simp; omega) (fun j x u hj hu => by
      rw [List.getElem?_take] at hu
      split at hu
      · exact g5 j x u hj (by simpa using hu)
      · cases hu) h
    have hid : k ∉ rs := fun hm => by
      have := List.all_eq_true.1 h1 k hm
      simp at this
    have live : ∀ i q, (σ.H.drops rs) i = some q → σ.H i = some q := fun i q hi => by
      unfold Hp.drops at hi
      split at hi
      · cases hi
      · exact hi
    obtain ⟨hD, _⟩ := hH.drops rs
    have hown : own B ρ ((σ.H.drops rs).up k (some ⟨y.t, y.e, L'⟩)) = own B ρ (σ.H.drops rs) := by
      funext b'
      exact propext (drops_up_own hk hid b')
    have hx := drops_ext (w := w) (B := B) (ρ := ρ) σ.H rs
    have back : ∀ i q, ((σ.H.drops rs).up k (some ⟨y.t, y.e, L'⟩)) i = some q → ∃ q0, σ.H i = some q0 := fun i q hi => by
      unfold Hp.up at hi
      split at hi
      · rename_i e; subst e; exact ⟨y, hk⟩
      · exact ⟨q, live i q hi⟩
    refine ⟨_, h2, ⟨hs.defers, hs.size, fun t => ?_, ⟨fun i q hi => ?_, fun i i' q q' b' h3 h4 h5 h6 => ?_⟩, hs.fresh, fun i q b' h3 h4 => ?_, hs.os, hs.tape, hs.output, hs.grow, hs.same, hs.row, hs.pins, hs.marks⟩⟩
    · show RepV w (own B ρ ((σ.H.drops rs).up k (some ⟨y.t, y.e, L'⟩))) ρ _ _
      rw [hown]
      exact (hs.slots t).mono hx
    · show ∃ (b : Nat) (arr : Array Value), _ ∧ _ ∧ _ ∧ _ ∧ ∀ (j : Nat) (y_1 : V) (u : Value), _ → _ → RepA w (own B ρ ((σ.H.drops rs).up k (some ⟨y.t, y.e, L'⟩))) ρ y_1 u
      rw [hown]
      have hi : (σ.H.drops rs).up k (some ⟨y.t, y.e, L'⟩) i = some q := hi
      by_cases e : i = k
      · subst e
        have hq : q = ⟨y.t, y.e, L'⟩ := by
          have : (some (⟨y.t, y.e, L'⟩ : Blk)) = some q := by
            rw [← hi]; unfold Hp.up; rw [if_pos rfl]
          injection this with this; exact this.symm
        subst hq
        refine ⟨b, arr, g1, g2, fun z hz => ?_, by simp only; rw [e3]; exact g4, fun j z u hz hu => ?_⟩
        · obtain ⟨n, hn⟩ := List.getElem?_of_mem hz
          have hl : n < y.l.length := by rw [← e1]; exact (List.getElem?_eq_some_iff.1 hn).1
          rw [(e2 n z _ hn (List.getElem?_eq_getElem hl)).1]
          exact g3 _ (List.getElem_mem hl)
        · have hj := (List.getElem?_eq_some_iff.1 hz).1
          refine (e4 rs (fun _ h => h) j z u hz ?_).mono ((Ext.refl _ _ _).into _)
          simp only at hj
          rw [List.getElem?_take, if_pos (by omega)]
          simpa using hu
      · exact hD.row i q (by unfold Hp.up at hi; rw [if_neg e] at hi; exact hi)
    · obtain ⟨q0, h0⟩ := back i q h3
      obtain ⟨q1, h1'⟩ := back i' q' h4
      exact hH.inj i i' q0 q1 b' h0 h1' h5 h6
    · obtain ⟨q0, h0⟩ := back i q h3
      exact hs.mine i q0 b' h0 h4
theorem AWp.endFrz (t : Nat) {P : Program} {c : Code} {Q : Exit → St → Prop} {σ : St} (h : AWp P c (frzT t Q) σ) : AWp P c Q σ := by
  intro B A W st a w ρ hs r _
  refine wpIn_mono (h B A W st a w ρ hs) fun e a' w' hq => ?_
  obtain ⟨τ, ρ', hq, hs'⟩ := hq
  cases e with
  | normal =>
    unfold frzT at hq
    simp only at hq
    split at hq
    · rename_i k _ _ _ _
      obtain ⟨σ', h1, h2⟩ := hs'.frz st k hq
      exact ⟨σ', ρ', h1, h2⟩
    · exact hq.elim
  | _ => exact ⟨τ, ρ', hq, hs'⟩
@[go_sem ↓, go_sem] theorem ev_frzT_e {t : Nat} {Q : Exit → St → Prop} {σ : St} : frzT t Q .ret σ = Q .ret σ := rfl
@[go_sem ↓, go_sem] theorem ev_frzT_x {t id : Nat} {Q : Exit → St → Prop} {σ : St} : frzT t Q (.exit id) σ = Q (.exit id) σ := rfl
theorem ev_frzT_n {t : Nat} {Q : Exit → St → Prop} {σ : St} : frzT t Q .normal σ = (match σ.s t with
    | .sl k _ _ _ => optC (σ.H k) fun y => frzs (frzE (argN σ.H 3)) y.l fun l' rs => (rs.all fun i => !(i == k)) = true ∧ Q .normal { σ with H := (σ.H.drops rs).up k (some ⟨y.t, y.e, l'⟩) }
    | _ => False) := rfl
end Go.Proofs.Ytjjebokgckmnjaa


/- Names of rows: exchanged, and one more. No program in sight. -/
namespace Go.Proofs.Ytjjebokgckmnjaa
set_option linter.unusedSimpArgs false
set_option linter.unusedVariables false
open Go.RowKit

def rhoX (b k p j : Nat) : Nat := if j = k then rid b p else if j = p then rid b k else rid b j
theorem rwI_swap {b w n k p : Nat} (hk : k < n) (hp : p < n) (hne : p ≠ k) : ((V.rwI b w n).set p (.sl (rid b k) 4 0 w)).set k (.sl (rid b p) 4 0 w) = V.rwG (rhoX b k p) w n := by
  refine List.ext_getElem? fun j => ?_
  rw [List.getElem?_set, List.getElem?_set, List.length_set, rwI_len]
  by_cases hj : j < n
  · rw [rwG_get hj]
    unfold rhoX
    by_cases h1 : k = j
    · have e1 : j = k := h1.symm
      rw [if_pos h1, if_pos hk, if_pos e1]
    · have e1 : ¬ j = k := fun e => h1 e.symm
      rw [if_neg h1, if_neg e1]
      by_cases h2 : p = j
      · have e2 : j = p := h2.symm
        rw [if_pos h2, if_pos hp, if_pos e2]
      · have e2 : ¬ j = p := fun e => h2 e.symm
        rw [if_neg h2, if_neg e2]
        exact rwG_get hj
  · rw [if_neg (show ¬ k = j by omega), if_neg (show ¬ p = j by omega), List.getElem?_eq_none (by rw [rwI_len]; omega), List.getElem?_eq_none (by rw [rwG_len]; omega)]
/-- New names for rows of which the last is k. -/
def rhoS (b i k : Nat) (j : Nat) : Nat := if j < i then rid b j else k
theorem rwI_snoc (b w i k : Nat) : V.rwI b w i ++ [.sl k 4 0 w] = V.rwG (rhoS b i k) w (i + 1) := by
  unfold V.rwI V.rwG
  rw [List.range_succ, List.map_append]
  congr 1
  · refine List.map_congr_left fun j hj => ?_
    rw [List.mem_range] at hj
    unfold rhoS
    rw [if_pos hj]
  · show _ = [V.sl (rhoS b i k i) 4 0 w]
    unfold rhoS
    rw [if_neg (Nat.lt_irrefl i)]
theorem thR_nodup {θ : List Nat} {ρ : Nat → Nat} {n : Nat} (h1 : θ.Nodup) (h2 : ∀ i j, i < n → j < n → ρ i = ρ j → i = j) (h3 : ∀ x ∈ θ, ∀ i, i < n → x ≠ ρ i) : (thR θ ρ n).Nodup := by
  unfold thR
  rw [List.nodup_append]
  refine ⟨h1, ?_, fun a ha b hb => ?_⟩
  · unfold List.Nodup
    rw [List.pairwise_map]
    refine List.Pairwise.imp_of_mem ?_ (List.nodup_range (n := n))
    intro a b ha hb hne he
    exact hne (h2 a b (List.mem_range.1 ha) (List.mem_range.1 hb) he)
  · obtain ⟨i, hi, rfl⟩ := List.mem_map.1 hb
    exact h3 a ha i (List.mem_range.1 hi)
end Go.Proofs.Ytjjebokgckmnjaa


/- Calls of functions that write what their caller owns. No program in sight. -/
namespace Go.Proofs.Ytjjebokgckmnjaa
set_option linter.unusedSimpArgs false
set_option linter.unusedVariables false
open Go.RowKit

/-- How a function ends that has worked on its caller's rows: the names below m stay, the heap is H'. -/
def retH1 (P : Program) (m : Nat) (r : V) (H' : Hp) (n' : Nat) : List ResultVar → St → Prop
  | [], σ => r = .any ∧ Wk σ { s := fun _ => .any, H := H', n := n', N := σ.N, m := m }
  | [x], σ => 0 < σ.N ∧ aResL P σ [x] fun xs => optC xs[0]? fun y => xs.length = 1 ∧ Wk (σ.put (some 0) y []) { s := upS (fun _ => .any) 0 r, H := H', n := n', N := σ.N, m := m }
  | _, _ => False
def retH (P : Program) (l : List ResultVar) (m : Nat) (r : V) (H' : Hp) (n' : Nat) : Exit → St → Prop
  | .normal, σ => retH1 P m r H' n' l σ
  | .ret, σ => retH1 P m r H' n' l σ
  | _, _ => False
@[go_sem ↓, go_sem] theorem ev_retH_n {P : Program} {l : List ResultVar} {m : Nat} {r : V} {H' : Hp} {n' : Nat} {σ : St} : retH P l m r H' n' .normal σ = retH1 P m r H' n' l σ := rfl
@[go_sem ↓, go_sem] theorem ev_retH_r {P : Program} {l : List ResultVar} {m : Nat} {r : V} {H' : Hp} {n' : Nat} {σ : St} : retH P l m r H' n' .ret σ = retH1 P m r H' n' l σ := rfl
@[go_sem ↓, go_sem] theorem ev_retH_0 {P : Program} {m : Nat} {r : V} {H' : Hp} {n' : Nat} {σ : St} : retH1 P m r H' n' [] σ = (r = .any ∧ Wk σ { s := fun _ => .any, H := H', n := n', N := σ.N, m := m }) := rfl
@[go_sem ↓, go_sem] theorem ev_retH_1 {P : Program} {m : Nat} {r : V} {H' : Hp} {n' : Nat} {x : ResultVar} {σ : St} : retH1 P m r H' n' [x] σ = (0 < σ.N ∧ aResL P σ [x] fun xs => optC xs[0]? fun y => xs.length = 1 ∧ Wk (σ.put (some 0) y []) { s := upS (fun _ => .any) 0 r, H := H', n := n', N := σ.N, m := m }) := rfl
theorem dfl_results {P : Program} {fn : Func} {tmps : Array Value} {w : World} (h : fn.results = #[]) : (results fn tmps).run P w = .ok (.tuple #[]) w := by
  simp [results, h, Sem.run_bind, Sem.run_pure]
/-- Names that are live. -/
def lvT (m : Nat) (H : Hp) (n : Nat) : List Nat := (List.range m).map fun k => if (H k).isSome = true then k else n
theorem lvT_get {m : Nat} {H : Hp} {n k : Nat} (h : k < m) (h2 : (H k).isSome = true) : (lvT m H n)[k]? = some k := by
  unfold lvT
  rw [List.getElem?_map, List.getElem?_range h]
  show some (if (H k).isSome = true then k else n) = some k
  rw [if_pos h2]
theorem RegI.call {P : Program} {ops : Array Oper} {Q : Exit → St → Prop} {σ : St} (i : Nat) {o : Oper} (ho : ops[i]? = some o) (hg : o.guard = none) {f : Operand} {args : Array Operand} {tys : Array TypeId} (hop : o.op = .call { callee := .value f, args := args, argTypes := tys })
    {g : FuncId} {first caps : List V} (hf : σ.ev f = .clo (.func g) first caps) {fn : Func} {c : Code} (hfn : P.funcs[g]? = some fn) (hb : fn.body = some c) (hcal : callable P g = true) {N : Nat} (hn : fn.ntmps = N) {rs : Array ResultVar} (hrs : fn.results = rs)
    {xs : List V} (hxs : first ++ args.toList.map σ.ev ++ caps = xs) (htup : xs.all V.noTup = true) (hN : xs.length ≤ N) (m : Nat) (hm : σ.m ≤ m) (hlive : liveTo σ.H σ.m)
    (s1 : Nat → V) (hs1 : RenS (lvT m σ.H σ.n) s1 σ.s) (ht : ∀ t l, s1 t ≠ .tup l) {r : V} {H' : Hp} {n' : Nat} (hdst : dstOk o σ.N)
    (h : AWp P c (retH P rs.toList m r H' n') { s := argS xs 0 fun _ => .any, H := σ.H, n := σ.n, N := N, m := m })
    (hk : RegI P ops (i + 1) Q { s := (match o.dst with | some d => upS s1 d r | none => s1), H := H', n := n', N := σ.N, m := σ.m, q := σ.q }) : RegI P ops i Q σ := by
  intro B A W st a w ρ hs r0 hr0
  have hil : i < ops.toList.length := by
    have := (Array.getElem?_eq_some_iff.1 ho).1
    simpa using this
  have hlen : (ops.toList.drop i).length = (ops.toList.drop (i + 1)).length + 1 := by
    rw [List.length_drop, List.length_drop]; omega
  rw [hlen, List.range'_succ]
  simp only [wpOpsIn, ho]
  rw [if_pos (by simp [Region.wanted, hg])]
  have hx := hs.ev f
  rw [hf] at hx
  have hA := RepW.atom hx rfl
  generalize hfv : a.eval f = fv at hA
  cases hA with
  | clo _ _ _ _ vf vc h1 h2 q1 q2 r1 r2 =>
  obtain ⟨vs, hvs⟩ : ∃ vs : List Value, vs = vf.toList ++ args.toList.map a.eval ++ vc.toList := ⟨_, rfl⟩
  have hvl : vs.length = xs.length := by rw [hvs, ← hxs]; simp [h1, h2]
  have hrep : ∀ (j : Nat) (x : V) (v : Value), xs[j]? = some x → vs[j]? = some v → RepW w (own B ρ σ.H) ρ x v := by
    intro j x v hj hv
    have key : RepV w (own B ρ σ.H) ρ x v := by
      rw [← hxs] at hj
      rw [hvs] at hv
      have Wc : ∀ (l : List V) (vv : Array Value), (∀ (j : Nat) (x : V) (v : Value), l[j]? = some x → vv[j]? = some v → ShapeOk x v) → (∀ (j : Nat) (x : V) (v : Value), l[j]? = some x → vv[j]? = some v → ∀ (i : Nat) (y : V) (u : Value), x.atoms[i]? = some y → v.cells[i]? = some u → RepA w (own B ρ σ.H) ρ y u) → ∀ (j : Nat) (x : V) (v : Value), l[j]? = some x → vv[j]? = some v → RepV w (own B ρ σ.H) ρ x v := by
        intro l vv hs hr j x v q1 q2
        have hsx := hs j x v q1 q2
        have hW : RepW w (own B ρ σ.H) ρ x v := .inr ⟨hsx, hr j x v q1 q2⟩
        refine RepV.of_W hW ?_
        rintro m rfl
        have h5 : 0 < v.cells.size := by have := hsx.2.2; simp [V.atoms] at this; omega
        have := hr j _ v q1 q2 0 _ _ rfl (Array.getElem?_eq_getElem h5)
        cases this
      have hf1 : first.length = vf.toList.length := by simp [h1]
      by_cases j1 : j < first.length
      · rw [List.append_assoc, List.getElem?_append_left j1] at hj
        rw [List.append_assoc, List.getElem?_append_left (by omega)] at hv
        exact Wc first vf q1 r1 j x v hj (by simpa using hv)
      · rw [List.append_assoc, List.getElem?_append_right (by omega)] at hj
        rw [List.append_assoc, List.getElem?_append_right (by omega), ← hf1] at hv
        by_cases j2 : j - first.length < args.toList.length
        · rw [List.getElem?_append_left (by simpa using j2)] at hj hv
          exact map_rep hs.ev args.toList _ x v hj hv
        · rw [List.getElem?_append_right (by simpa using j2)] at hj hv
          simp only [List.length_map] at hj hv
          exact Wc caps vc q2 r2 _ x v hj (by simpa using hv)
    have h3 := List.all_eq_true.1 htup x (List.mem_of_getElem? hj)
    cases x <;> first | exact key | (simp [V.noTup] at h3)
  have harr : vs.toArray = vf ++ args.map a.eval ++ vc := by rw [hvs]; apply Array.ext'; simp
  have he : (execOp a.eval o).run P w = .ok (.enter g vs.toArray) w := by
    rw [harr]
    simp only [execOp, hop, resolve, hfv, Deferred.ofValue, Sem.run_bind, Sem.run_pure, Result.andThen_ok, invoke]
    exact run_callFunc hcal
  -- the callee
  have hA0 : ∀ j b, aR m σ.H ρ j = some b → tof σ.H ρ b := fun j b => aR_tof
  have hAt : ∀ b, tof σ.H ρ b → ∃ j, aR m σ.H ρ j = some b := fun b => tof_aR
  have st' : Stat B (aR m σ.H ρ) w := ⟨hs.hB st, fun j b hj hB => by
    obtain ⟨k, x, e1, e2⟩ := hA0 j b hj
    exact hs.hfar st k x b e1 e2 hB⟩
  have hgoal : Calls P g vs.toArray w fun e w' => ∃ v a' σ' ρ', e = .returned v ∧ RepV w' (own B ρ' H') ρ' r v ∧ Sim B (aR m σ.H ρ) w σ' a' w' ρ' ∧ σ'.H = H' ∧ σ'.n = n' := by
    refine callsIn_wide.1 (callsIn_of_wp_marks (F := Fence.wide) (n := 0) hfn hb trivial ?_)
    subst hn hrs
    have hs0 : Sim B (aR m σ.H ρ) w { s := argS xs 0 fun _ => .any, H := σ.H, n := σ.n, N := fn.ntmps, m := m } { tmps := vs.toArray ++ Array.replicate (fn.ntmps - vs.toArray.size) undef, defers := [] } w ρ := by
      refine ⟨fun _ => rfl, by simp [hvl]; omega, fun t => ?_, hs.heap, hs.fresh, fun k x b e1 e2 => .inl (hAt b ⟨k, x, e1, e2⟩), rfl, rfl, rfl, Nat.le_refl _, fun _ _ _ => rfl, fun b arr t fr e => ⟨_, _, _, e, rfl⟩, fun k b e => aR_pin e, Marks.nil _ _⟩
      simp only [argS_get, Nat.zero_le, true_and, Nat.zero_add, Nat.sub_zero]
      by_cases htl : t < xs.length
      · rw [if_pos htl]
        have e1 : xs[t]? = some xs[t] := List.getElem?_eq_getElem htl
        have e2 : vs[t]? = some (vs[t]'(by omega)) := List.getElem?_eq_getElem (by omega)
        have h1 := hrep t _ _ e1 e2
        have e3 : (vs.toArray ++ Array.replicate (fn.ntmps - vs.toArray.size) undef).getD t undef = vs[t]'(by omega) := by
          rw [Array.getD_eq_getD_getElem?, Array.getElem?_append_left (by simp; omega)]
          simp [e2]
        rw [e3]
        have e4 : xs.getD t .any = xs[t] := by simp [List.getD_eq_getElem?_getD, e1]
        rw [e4]
        exact RepV.of_W h1 h1.notTup
      · rw [if_neg htl]
        exact .inl rfl
    refine wpIn_mono (h B (aR m σ.H ρ) w st' _ w ρ hs0 (r := none)) fun e a' w' hq => ?_
    obtain ⟨σ', ρ', hq, hs'⟩ := hq
    have fin : retH1 P m r H' n' fn.results.toList σ' → LeavesInM Fence.wide 0 P fn a'.tmps (fun e w' => ∃ v a' σ' ρ', e = .returned v ∧ RepV w' (own B ρ' H') ρ' r v ∧ Sim B (aR m σ.H ρ) w σ' a' w' ρ' ∧ σ'.H = H' ∧ σ'.n = n') a'.defers .returning w' := fun hq => leaves_of _ _ hs' fun w' hs' => by
      rcases hres : fn.results.toList with _ | ⟨x, _ | ⟨x2, l2⟩⟩ <;> rw [hres] at hq
      · obtain ⟨rfl, hw⟩ := hq
        obtain ⟨ρ2, h2⟩ := hw _ _ _ _ _ _ hs'
        have hres' : fn.results = #[] := by apply Array.ext'; simpa using hres
        exact ⟨_, dfl_results hres', _, _, _, ρ2, rfl, .inl rfl, h2, rfl, rfl⟩
      · obtain ⟨h0N, hq⟩ := hq
        obtain ⟨ys, us, k1, k2, k3, k4⟩ := res_ok (P := P) hs' _ _ hq
        rcases ys with _ | ⟨y, ys⟩
        · exact k1.elim
        · obtain ⟨k1, k5⟩ := k1
          have hys : ys = [] := by simpa using k1
          subst hys
          match us, k3 with
          | [u], _ =>
          have k4' := k4 0 y u rfl rfl
          have hput := hs'.put (dst := some 0) (fun d hd => by cases hd; exact h0N) (v := u) (x := y) (ws := []) (Step.refl _ _ _) hs'.heap (fun _ _ e => e) k4'
          obtain ⟨ρ2, h2⟩ := k5 _ _ _ _ _ _ hput
          have h3 := h2.slots 0
          have h4 : (a'.tmps.setIfInBounds 0 u).getD 0 undef = u := by
            rw [Array.getD_eq_getD_getElem?, Array.getElem?_setIfInBounds_self_of_lt (by rw [show a'.tmps.size = σ'.N from hs'.size]; exact h0N)]; rfl
          refine ⟨_, results_run (vs := [u]) (by rw [hres]; exact k2), _, _, _, ρ2, rfl, ?_, h2, rfl, rfl⟩
          have h5 : RepV w' (own B ρ2 H') ρ2 r ((a'.tmps.setIfInBounds 0 u).getD 0 undef) := h3
          rw [h4] at h5
          exact h5
      · exact hq.elim
    cases e with
    | normal => exact fin hq
    | ret => exact fin hq
    | exit id => exact hq.elim
    | goto l => exact hq.elim
    | panic c => exact hq.elim
    | outgrown => exact hq.elim
  refine wp_rd (fun c e => by rw [hop] at e; cases e) ?_
  unfold Oper.wp
  rw [he]
  refine hgoal.mono ?_
  rintro e w' ⟨v, a', σ', ρ', rfl, hrv, hs', hH', hn'⟩
  have hown : ∀ b, own B ρ' H' b → b < w.heap.size → own B ρ σ.H b := by
    rintro b (hb | ⟨k, x, e1, e2⟩) hlt
    · exact .inl hb
    · rw [← hH'] at e1
      rcases hs'.mine k x b e1 e2 with ⟨j, hj⟩ | hj
      · exact .inr (hA0 j b hj)
      · omega
  have hpin : ∀ k b, k < m → (σ.H k).isSome = true → ρ k = some b → ρ' k = some b := fun k b hkm hl e => (hs'.pins k b (aR_live hkm hl e)).2
  have hsame : ∀ b, b < w.heap.size → ¬ tof σ.H ρ b → w'.heap[b]? = w.heap[b]? := fun b hb hnt => hs'.same b hb fun j e => hnt (hA0 j b e)
  have hext : Ext w (own B ρ σ.H) (renR (lvT m σ.H σ.n) ρ) w' (own B ρ' H') ρ' := by
    refine ⟨fun k b e => ?_, fun b hb hO => ⟨fun h3 => hO (hown b h3 hb), .of (hsame b hb fun h3 => hO (.inr h3))⟩, hs'.grow, hs'.row⟩
    unfold renR lvT at e
    rw [List.getElem?_map] at e
    by_cases hkm : k < m
    · rw [List.getElem?_range hkm] at e
      have e : ρ (if (σ.H k).isSome = true then k else σ.n) = some b := e
      by_cases hl : (σ.H k).isSome = true
      · rw [if_pos hl] at e
        exact hpin k b hkm hl e
      · rw [if_neg hl, hs.fresh _ (Nat.le_refl _)] at e
        cases e
    · rw [List.getElem?_eq_none (by simp; omega)] at e
      cases e
  have hsl : ∀ t, RepV w' (own B ρ' H') ρ' (s1 t) (a.tmps.getD t undef) := fun t => by
    have h3 := (ren_atomic (hs1 t) (ht t) (hs.slots t) (Ext.refl _ _ _)).mono hext
    exact RepV.of_W h3 (ht t)
  have hsim : Sim B A W { s := (match o.dst with | some d => upS s1 d r | none => s1), H := H', n := n', N := σ.N, m := σ.m, q := σ.q } (a.put o.dst v) w' ρ' := by
    have hfresh : ∀ k, n' ≤ k → ρ' k = none := by rw [← hn']; exact hs'.fresh
    have hheap : HRep w' (own B ρ' H') ρ' H' := by have := hs'.heap; rwa [hH'] at this
    refine ⟨?_, ?_, fun t => ?_, hheap, hfresh, fun k x b e1 e2 => ?_, hs'.os.trans hs.os, hs'.tape.trans hs.tape, hs'.output.trans hs.output, Nat.le_trans hs.grow hs'.grow, fun b hb hA => ?_, fun b arr t fr e => ?_, fun k b e => ⟨(hs.pins k b e).1, hpin k b (Nat.lt_of_lt_of_le (hs.pins k b e).1 hm) (hlive.get (hs.pins k b e).1) (hs.pins k b e).2⟩, ?_⟩
    · intro e
      have := hs.defers e
      rcases o.dst with _ | d <;> exact this
    · rcases o.dst with _ | d <;> simp [Act.put, hs.size]
    · rcases hd : o.dst with _ | d
      · exact hsl t
      · show RepV w' (own B ρ' H') ρ' (upS s1 d r t) _
        have hdN : d < a.tmps.size := by rw [hs.size]; exact dstOk_lt hdst d hd
        by_cases e : t = d
        · subst e
          simp only [upS, if_true, Act.put]
          rw [Array.getD_eq_getD_getElem?, Array.getElem?_setIfInBounds_self_of_lt hdN]
          exact hrv
        · simp only [upS, if_neg e, Act.put]
          rw [Array.getD_eq_getD_getElem?, Array.getElem?_setIfInBounds_ne (fun e' => e e'.symm), ← Array.getD_eq_getD_getElem?]
          exact hsl t
    · rw [← hH'] at e1
      rcases hs'.mine k x b e1 e2 with ⟨j, hj⟩ | hj
      · obtain ⟨k0, x0, e3, e4⟩ := hA0 j b hj
        exact hs.mine k0 x0 b e3 e4
      · exact .inr (Nat.le_trans hs.grow hj)
    · refine (hsame b (Nat.lt_of_lt_of_le hb hs.grow) ?_).trans (hs.same b hb hA)
      rintro ⟨k, x, e1, e2⟩
      rcases hs.mine k x b e1 e2 with ⟨j, hj⟩ | hj
      · exact hA j hj
      · omega
    · obtain ⟨b1, t1, f1, e1, s1⟩ := hs.row b arr t fr e
      obtain ⟨b2, t2, f2, e2, s2⟩ := hs'.row b b1 t1 f1 e1
      exact ⟨b2, t2, f2, e2, s2.trans s1⟩
    · have hmk := hs.marks.keep (w' := w') fun D hD => hsame D (Array.getElem?_eq_some_iff.1 hD).1 fun htof => by
        obtain ⟨_, _, _, e⟩ := tof_cells hs.heap htof
        rw [hD] at e; cases e
      rcases o.dst with _ | d <;> exact hmk
  exact hk B A W st _ w' ρ' hsim (r := r0)
def putD (s : Nat → V) (d : Option Tmp) (r : V) : Nat → V := match d with
  | some d => upS s d r
  | none => s
@[go_sem ↓, go_sem] theorem putD_some {s : Nat → V} {d : Tmp} {r : V} : putD s (some d) r = upS s d r := rfl
@[go_sem ↓, go_sem] theorem putD_none {s : Nat → V} {r : V} : putD s none r = s := rfl
/-- A call that works on the caller's rows. -/
def HCall (P : Program) (g : FuncId) (xs : List V) (H : Hp) (n m : Nat) (r : V) (H' : Hp) (n' : Nat) : Prop :=
  ∃ (fn : Func) (c : Code), P.funcs[g]? = some fn ∧ fn.body = some c ∧ callable P g = true ∧ xs.length ≤ fn.ntmps ∧ AWp P c (retH P fn.results.toList m r H' n') { s := argS xs 0 fun _ => .any, H := H, n := n, N := fn.ntmps, m := m }
theorem HCall.of {P : Program} {g : FuncId} {fn : Func} {c : Code} {xs : List V} {H : Hp} {n m : Nat} {r : V} {H' : Hp} {n' : Nat} (hfn : P.funcs[g]? = some fn) (hb : fn.body = some c) (hcal : callable P g = true) {N : Nat} (hn : fn.ntmps = N) {rs : Array ResultVar} (hrs : fn.results = rs) (hN : xs.length ≤ N)
    (h : AWp P c (retH P rs.toList m r H' n') { s := argS xs 0 fun _ => .any, H := H, n := n, N := N, m := m }) : HCall P g xs H n m r H' n' := by
  subst hn hrs
  exact ⟨fn, c, hfn, hb, hcal, hN, h⟩
theorem RegI.callH {P : Program} {ops : Array Oper} {Q : Exit → St → Prop} {σ : St} (i : Nat) {o : Oper} (ho : ops[i]? = some o) (hg : o.guard = none) {f : Operand} {args : Array Operand} {tys : Array TypeId} (hop : o.op = .call { callee := .value f, args := args, argTypes := tys })
    {g : FuncId} {first caps : List V} (hf : σ.ev f = .clo (.func g) first caps) {xs : List V} (hxs : first ++ args.toList.map σ.ev ++ caps = xs) (htup : xs.all V.noTup = true) (m : Nat) (hm : σ.m ≤ m) (hlive : liveTo σ.H σ.m)
    (ss : List (Nat × V)) (hss : wkS (lvT m σ.H σ.n) σ.s ss) {r : V} {H' : Hp} {n' : Nat} {dst : Option Tmp} (hd : o.dst = dst) (hdst : dstOk o σ.N) (h : HCall P g xs σ.H σ.n m r H' n')
    (hk : RegI P ops (i + 1) Q { s := putD (mkS ss) dst r, H := H', n := n', N := σ.N, m := σ.m, q := σ.q }) : RegI P ops i Q σ := by
  subst hd
  obtain ⟨fn, c, h1, h2, h3, h4, h5⟩ := h
  have hr : ∀ (l : List (Nat × V)), wkS (lvT m σ.H σ.n) σ.s l → RenS (lvT m σ.H σ.n) (mkS l) σ.s ∧ ∀ t m, mkS l t ≠ .tup m := by
    intro l
    induction l with
    | nil => intro _; exact ⟨fun t => trivial, fun t m h => by simp [mkS] at h⟩
    | cons p l ih =>
      intro hl
      obtain ⟨⟨q1, q2⟩, q3⟩ := hl
      obtain ⟨i1, i2⟩ := ih q3
      refine ⟨fun t => ?_, fun t m => ?_⟩
      · simp only [mkS, upS]
        split
        · rename_i e; subst e; exact q2
        · exact i1 t
      · simp only [mkS, upS]
        split
        · intro e; rw [e] at q1; simp [V.noTup] at q1
        · exact i2 t m
  exact RegI.call i ho hg hop hf h1 h2 h3 rfl rfl hxs htup h4 m hm hlive (mkS ss) (hr ss hss).1 (hr ss hss).2 hdst h5 hk
end Go.Proofs.Ytjjebokgckmnjaa

