/- Texts A36 in one. -/
import Derived.Test.YtjjebokgckmnjaaR24
/- Heaps with a matrix and other rows; weakening without new names. No program in sight. -/
namespace Go.Proofs.Ytjjebokgckmnjaa
set_option linter.unusedSimpArgs false
set_option linter.unusedVariables false
open Go.RowKit

mutual
theorem atoms_single_mem : ∀ {x z : V}, z ∈ x.atoms → z.isAgg = false
  | .agg l, z, h => atomsL_single_mem (l := l) h
  | .I n, z, h => by
    simp only [V.atoms, V.atomsI, List.mem_cons, List.not_mem_nil, or_false] at h
    rcases h with rfl | rfl <;> rfl
  | .Q q, z, h => by
    simp only [V.atoms, V.atomsI, List.mem_append, List.mem_cons, List.not_mem_nil, or_false] at h
    rcases h with (rfl | rfl) | (rfl | rfl) <;> rfl
  | .any, z, h => by simp [V.atoms] at h; subst h; rfl
  | .raw v, z, h => by simp [V.atoms] at h; subst h; rfl
  | .tup l, z, h => by simp [V.atoms] at h; subst h; rfl
  | .lst l, z, h => by simp [V.atoms] at h; subst h; rfl
  | .emp, z, h => by simp [V.atoms] at h; subst h; rfl
  | .ptr .., z, h => by simp [V.atoms] at h; subst h; rfl
  | .sl .., z, h => by simp [V.atoms] at h; subst h; rfl
  | .pel x, z, h => by simp [V.atoms] at h; subst h; rfl
  | .clo .., z, h => by simp [V.atoms] at h; subst h; rfl
theorem atomsL_single_mem : ∀ {l : List V} {z : V}, z ∈ V.atomsL l → z.isAgg = false
  | [], z, h => by simp [V.atomsL] at h
  | x :: l, z, h => by
    simp only [V.atomsL, List.mem_append] at h
    rcases h with h | h
    · exact atoms_single_mem h
    · exact atomsL_single_mem h
end
/-- Weakening where structures hold names. -/
def RenE (θ : List Nat) (x y : V) : Prop := x.atoms.length = y.atoms.length ∧ ∀ (i : Nat) (z u : V), x.atoms[i]? = some z → y.atoms[i]? = some u → RenV θ z u
def RenLE (θ : List Nat) (l' l : List V) : Prop := l'.length = l.length ∧ ∀ (i : Nat) (x y : V), l'[i]? = some x → l[i]? = some y → RenE θ x y
def RenBE (θ : List Nat) (k : Nat) (x : Blk) (H : Hp) : Prop := ∃ k0 y, θ[k]? = some k0 ∧ H k0 = some y ∧ x.t = y.t ∧ x.e = y.e ∧ RenLE θ x.l y.l
def RenHE (θ : List Nat) (H' H : Hp) : Prop := ∀ k x, H' k = some x → RenBE θ k x H
theorem RenE.of {θ : List Nat} {x y : V} (h : RenV θ x y) (h2 : x = .any → y.isAgg = false) : RenE θ x y := by
  have single : ∀ {x y : V}, x.isAgg = false → y.isAgg = false → RenV θ x y → RenE θ x y := fun hx hy h => by
    refine ⟨by rw [V.atoms_single hx, V.atoms_single hy]; rfl, fun i z u hz hu => ?_⟩
    rw [V.atoms_single hx] at hz
    rw [V.atoms_single hy] at hu
    cases i with
    | zero => simp at hz hu; subst hz hu; exact h
    | succ i => simp at hz
  have same : ∀ {x y : V}, x.atoms = y.atoms → x.pure = true → RenE θ x y := fun he hp => by
    refine ⟨by rw [he], fun i z u hz hu => ?_⟩
    rw [← he, hz] at hu
    injection hu with hu
    subst hu
    refine renV_pure ?_
    have hz2 := List.mem_of_getElem? hz
    have : pureA z = true := List.all_eq_true.1 hp z hz2
    unfold V.pure
    rw [V.atoms_single (atoms_single_mem hz2)]
    simpa using this
  unfold RenV at h
  split at h
  · exact single rfl (h2 rfl) trivial
  · exact single rfl rfl h
  · exact single rfl rfl h
  · exact single rfl rfl h
  · obtain ⟨hp, rfl | ⟨_, _, h3⟩⟩ := h
    · exact same rfl hp
    · exact same h3 hp
theorem RenLE.of {θ : List Nat} {l' l : List V} (h : RenL θ l' l) : RenLE θ l' l := ⟨h.1, fun i x y hx hy => (RenE.of (h.2 i x y hx hy).1 (h.2 i x y hx hy).2.2)⟩
section
theorem Wk.mkE {σ σ' : St} (θ : List Nat) (hN : σ'.N = σ.N) (hm : σ'.m = σ.m) (hq : σ'.q = σ.q) (hid : ∀ k, k < σ.m → θ[k]? = some k) (hn : σ'.n = θ.length) (hs : RenS θ σ'.s σ.s) (hH : RenHE θ σ'.H σ.H) (hnd : θ.Nodup) (ht : ∀ t l, σ'.s t ≠ .tup l) : Wk σ σ' := by
  intro B A W a w ρ h
  have hlive : ∀ k x b, σ'.H k = some x → renR θ ρ k = some b → ∃ k0 y, θ[k]? = some k0 ∧ σ.H k0 = some y ∧ ρ k0 = some b := fun k x b h1 h2 => by
    obtain ⟨k0, y, e1, e2, _⟩ := hH k x h1
    refine ⟨k0, y, e1, e2, ?_⟩
    simpa [renR, e1] using h2
  have hO : Ext w (own B ρ σ.H) ρ w (own B (renR θ ρ) σ'.H) ρ := Ext.less fun b hb => by
    rcases hb with hb | ⟨k, x, h1, h2⟩
    · exact .inl hb
    · obtain ⟨k0, y, _, e2, e3⟩ := hlive k x b h1 h2
      exact .inr ⟨k0, y, e2, e3⟩
  refine ⟨renR θ ρ, fun e => h.defers (by rw [← hq]; exact e), by rw [hN]; exact h.size, fun t => RepV.of_W (ren_atomic (hs t) (ht t) (h.slots t) hO) (ht t), ⟨fun k x hk => ?_, fun k k' x x' b h1 h2 h3 h4 => ?_⟩, fun k hk => ?_, fun k x b h1 h2 => ?_, h.os, h.tape, h.output, h.grow, h.same, h.row, fun k b e => ⟨by rw [hm]; exact (h.pins k b e).1, by simp [renR, hid k (h.pins k b e).1, (h.pins k b e).2]⟩, h.marks⟩
  · obtain ⟨k0, y, e1, e2, e3, e4, e5, e6⟩ := hH k x hk
    obtain ⟨b, arr, g1, g2, g3, g4, g5⟩ := h.heap.row k0 y e2
    have hall : ∀ z ∈ x.l, z.wid = x.e := fun z hz => by
      obtain ⟨i, hi⟩ := List.getElem?_of_mem hz
      have hil : i < y.l.length := by rw [← e5]; exact (List.getElem?_eq_some_iff.1 hi).1
      have h1 := e6 i z _ hi (List.getElem?_eq_getElem hil)
      show z.atoms.length = x.e
      rw [h1.1, e4]
      exact g3 _ (List.getElem_mem hil)
    have hlx := V.atomsL_length hall
    have hly := V.atomsL_length g3
    refine ⟨b, arr, by simp [renR, e1, g1], by rw [e3]; exact g2, hall, by rw [hlx, e5, e4, ← hly]; exact g4, fun j z u hz hu => ?_⟩
    have hjl : j < x.l.length * x.e := by rw [← hlx]; exact (List.getElem?_eq_some_iff.1 hz).1
    have hpos : 0 < x.e := by
      rcases Nat.eq_zero_or_pos x.e with e0 | e0
      · rw [e0] at hjl; omega
      · exact e0
    have hdm : j / x.e * x.e + j % x.e = j := by rw [Nat.mul_comm]; exact Nat.div_add_mod j x.e
    have hmod : j % x.e < x.e := Nat.mod_lt _ hpos
    have hdl : j / x.e < x.l.length := by rw [Nat.div_lt_iff_lt_mul hpos]; omega
    have hix : x.l[j / x.e]? = some x.l[j / x.e] := List.getElem?_eq_getElem hdl
    have hiy : y.l[j / x.e]? = some (y.l[j / x.e]'(by omega)) := List.getElem?_eq_getElem (by omega)
    have hz' := V.atomsL_get hall hix hmod
    rw [hdm, hz] at hz'
    obtain ⟨r0, r1⟩ := e6 _ _ _ hix hiy
    have hjy : j % x.e < (y.l[j / x.e]'(by omega)).atoms.length := by
      have := (List.getElem?_eq_some_iff.1 hz'.symm).1
      omega
    have r1 := r1 (j % x.e) z _ hz'.symm (List.getElem?_eq_getElem hjy)
    generalize hyy : ((y.l[j / x.e]'(by omega)).atoms[j % x.e]'hjy) = q at r1
    have hq : RepA w (own B ρ σ.H) ρ q u := by
      refine g5 j q u ?_ hu
      have := V.atomsL_get g3 hiy (j := j % x.e) (by rw [← e4]; exact hmod)
      rw [← e4, hdm] at this
      rw [this, ← hyy]
      exact List.getElem?_eq_getElem hjy
    have hz1 : z.isAgg = false := atoms_single_mem (List.mem_of_getElem? hz'.symm)
    unfold RenV at r1
    split at r1
    · exact .any _ _
    · obtain ⟨rfl, c1, c2⟩ := r1
      exact ren_clo c1 c2 hq hO
    · rename_i k1 q1 i1 o1 k2 q2 i2 o2
      obtain ⟨a1, rfl, rfl, rfl⟩ := r1
      cases hq with
      | ptr _ _ _ _ _ b' hb' => exact .ptr _ _ _ _ _ _ (by simp [renR, a1, hb'])
    · rename_i k1 q1 i1 o1 k2 q2 i2 o2
      obtain ⟨a1, rfl, rfl, rfl⟩ := r1
      cases hq with
      | sl _ _ _ _ _ b' c arr' t fr c1 c2 c3 c4 => exact .sl _ _ _ _ _ _ _ arr' t fr (by simp [renR, a1, c1]) c2 c3 c4
    · obtain ⟨hp, heq⟩ := r1
      have heq : z = q := by
        rcases heq with h | ⟨h, _, _⟩
        · exact h
        · rw [hz1] at h; cases h
      rw [← heq] at hq
      have hzp : pureA z = true := by
        unfold V.pure at hp
        rw [V.atoms_single hz1] at hp
        simpa using hp
      exact ((hq.mono hO).pureA hzp).mono ((Ext.refl _ _ _).into _)
  · obtain ⟨k0, y, e1, e2, e3⟩ := hlive k x b h1 h3
    obtain ⟨k0', y', e1', e2', e3'⟩ := hlive k' x' b h2 h4
    have hk0 := h.heap.inj k0 k0' y y' b e2 e2' e3 e3'
    subst hk0
    obtain ⟨hk, hv⟩ := List.getElem?_eq_some_iff.1 e1
    obtain ⟨hk', hv'⟩ := List.getElem?_eq_some_iff.1 e1'
    have hpw := List.pairwise_iff_getElem.1 hnd
    rcases Nat.lt_trichotomy k k' with hlt | rfl | hlt
    · exact absurd (hv.trans hv'.symm) (hpw k k' hk hk' hlt)
    · rfl
    · exact absurd (hv'.trans hv.symm) (hpw k' k hk' hk hlt)
  · unfold renR
    rw [List.getElem?_eq_none (by omega)]
    rfl
  · obtain ⟨k0, y, e1, e2, e3⟩ := hlive k x b h1 h2
    exact h.mine k0 y b e2 e3
end
/-- A heap that names nothing from n on. -/
def ClosedH (n : Nat) (H : Hp) : Prop := ∀ k x, H k = some x → k < n ∧ RenLE (List.range n) x.l x.l
theorem Wk.low (n0 : Nat) {σ σ' : St} (hN : σ'.N = σ.N) (hm : σ'.m = σ.m) (hq : σ'.q = σ.q) (hmn : σ.m ≤ n0) (hn : σ'.n = n0) (hs : RenS (List.range n0) σ'.s σ.s) (ht : ∀ t l, σ'.s t ≠ .tup l) (hc : ClosedH n0 σ'.H) (hH : ∀ k, k < n0 → σ.H k = σ'.H k) : Wk σ σ' := by
  refine Wk.mkE (List.range n0) hN hm hq (fun k hk => List.getElem?_range (by omega)) (by rw [List.length_range, hn]) hs (fun k x hk => ?_) List.nodup_range ht
  obtain ⟨h1, h2⟩ := hc k x hk
  exact ⟨k, x, List.getElem?_range h1, by rw [hH k h1]; exact hk, rfl, rfl, h2⟩
theorem wkS_ren {θ : List Nat} {s : Nat → V} : ∀ (l : List (Nat × V)), wkS θ s l → RenS θ (mkS l) s ∧ ∀ t m, mkS l t ≠ .tup m
  | [], _ => ⟨fun t => trivial, fun t m h => by simp [mkS] at h⟩
  | p :: l, hl => by
    obtain ⟨⟨q1, q2⟩, q3⟩ := hl
    obtain ⟨i1, i2⟩ := wkS_ren l q3
    refine ⟨fun t => ?_, fun t m => ?_⟩
    · simp only [mkS, upS]
      split
      · rename_i e; subst e; exact q2
      · exact i1 t
    · simp only [mkS, upS]
      split
      · intro e; rw [e] at q1; simp [V.noTup] at q1
      · exact i2 t m
theorem mkS_noTup : ∀ (l : List (Nat × V)), (l.all fun p => p.2.noTup) = true → ∀ t m, mkS l t ≠ .tup m
  | [], _, t, m => by simp [mkS]
  | p :: l, h, t, m => by
    simp only [List.all_cons, Bool.and_eq_true] at h
    simp only [mkS, upS]
    split
    · intro e; rw [e] at h; simp [V.noTup] at h
    · exact mkS_noTup l h.2 t m
theorem Wk.lowS (n0 : Nat) {σ : St} {ss : List (Nat × V)} {H : Hp} {N m : Nat} (hN : N = σ.N) (hm : m = σ.m) (hq : σ.q = false) (hmn : m ≤ n0) (hs : wkS (List.range n0) σ.s ss) (hc : ClosedH n0 H) (hH : ∀ k, k < n0 → σ.H k = H k) : Wk σ { s := mkS ss, H := H, n := n0, N := N, m := m } :=
  Wk.low n0 hN hm hq.symm (by rw [← hm]; exact hmn) rfl (wkS_ren ss hs).1 (wkS_ren ss hs).2 hc hH
@[go_sem ↓, go_sem] theorem ev_arg_ptr {H : Hp} {b e i off : Nat} {kA : V → List Nat → Prop} : arg1 H (.ptr b e i off) kA = argA H (.ptr b e i off) kA := rfl
theorem PCall.pel {P : Program} {f : FuncId} {args : List V} {x y : V} (h : PCall P f args (.pel x)) (e : atsLe x.atoms y.atoms) : PCall P f args (.pel y) := by
  intro B w vs hl hr hB
  refine (h B w vs hl hr hB).mono ?_
  rintro e' w' ⟨v, rfl, hv, hb⟩
  have hA := RepW.atom (show RepW w' B (fun _ => none) (.pel x) v from hv) rfl
  refine ⟨v, rfl, ?_, hb⟩
  cases hA with
  | pel _ _ b a us g1 g2 g3 g4 g5 => 
    obtain ⟨e1, e2⟩ := e.get
    refine RepW.of_atom (.pel _ y b a us g1 g2 g3 (by omega) fun j r u hj hu => ?_) rfl rfl
    obtain ⟨q, k1, k2⟩ := e2 j r hj
    exact k2.rep (g5 j q u k1 hu)
theorem frzs_row1 {H : Hp} {t : TypeId} {w m : Nat} {ρ : Nat → Nat} {M : List (List Rat)} {k : List V → List Nat → Prop} : ∀ (n i : Nat), i + n = M.length → (∀ j, j < M.length → H (ρ j) = some ⟨t, 4, V.rats (M.getD j [])⟩ ∧ (M.getD j []).length = w) →
    frzs (frzE (argN H (m + 1))) ((List.range' i n).map fun j => .sl (ρ j) 4 0 w) k = k (V.mat (M.drop i)) ((List.range' i n).map ρ)
  | 0, i, hi, _ => by
    rw [List.drop_of_length_le (by omega)]; rfl
  | n + 1, i, hi, h => by
    obtain ⟨h1, h2⟩ := h i (by omega)
    rw [List.range'_succ, List.map_cons, List.map_cons, frzs]
    have e : frzE (argN H (m + 1)) (.sl (ρ i) 4 0 w) = fun kA => kA (.lst (V.rats (M.getD i []))) [ρ i] := by
      funext kA
      unfold frzE
      rw [if_neg (show ¬ (V.sl (ρ i) 4 0 w).isAgg = true from fun h => by cases h), ev_argN_sl]
      have e1 : aElems H (.sl (ρ i) 4 0 w) = some (V.rats (M.getD i []), [ρ i]) := by
        show (match H (ρ i) with | some x => (if x.e = 4 ∧ 0 + w ≤ x.l.length then some ((x.l.drop 0).take w, [ρ i]) else none) | none => none) = _
        rw [h1]
        show (if (4 : Nat) = 4 ∧ 0 + w ≤ (V.rats (M.getD i [])).length then _ else _) = _
        rw [if_pos ⟨rfl, by rw [rats_len, h2]; omega⟩, List.drop_zero, List.take_of_length_le (by rw [rats_len, h2]; exact Nat.le_refl _)]
      rw [e1]
      show frzs (frzE (argN H m)) (V.rats (M.getD i [])) _ = _
      have e2 : frzOk (V.rats (M.getD i [])) := frzOk_map (fun a => ⟨rfl, by simp, by simp⟩) (M.getD i [])
      rw [frzs_same e2]
      rfl
    rw [e]
    show frzs _ _ _ = _
    rw [frzs_row1 n (i + 1) (by omega) h]
    have e2 : M.drop i = M.getD i [] :: M.drop (i + 1) := by
      rw [List.drop_eq_getElem_cons (by omega), List.getD_eq_getElem?_getD, List.getElem?_eq_getElem (by omega)]; rfl
    rw [e2]
    rfl
theorem frzs_rwG1 {H : Hp} {t : TypeId} {w m n : Nat} {ρ : Nat → Nat} {M : List (List Rat)} {k : List V → List Nat → Prop} (hn : M.length = n) (h : ∀ j, j < M.length → H (ρ j) = some ⟨t, 4, V.rats (M.getD j [])⟩ ∧ (M.getD j []).length = w) :
    frzs (frzE (argN H (m + 1))) (V.rwG ρ w n) k = k (V.mat M) ((List.range n).map ρ) := by
  have := frzs_row1 (m := m) (k := k) (ρ := ρ) n 0 (by omega) h
  rw [List.drop_zero, ← List.range_eq_range'] at this
  exact this
theorem frzs_snocA {H : Hp} {m : Nat} {x : V} : ∀ {L : List V} {kL : List V → List Nat → Prop}, frzOk L → frzs (frzE (argN H m)) (L ++ [x]) kL = frzs (frzE (argN H m)) [x] fun ys rs => kL (L ++ ys) rs
  | [], _, _ => rfl
  | y :: L, kL, h => by
    obtain ⟨h1, h2, h3⟩ := h y (by simp)
    have e : ∀ k, frzE (argN H m) y k = k y [] := fun k => by
      unfold frzE
      by_cases ha : y.isAgg = true
      · rw [if_pos ha, if_pos h1]
      · rw [if_neg ha]; exact argN_pure (by simpa using ha) h1 h2 h3
    show frzs _ (y :: (L ++ [x])) kL = _
    rw [frzs, e, frzs_snocA fun z hz => h z (by simp [hz])]
    rfl
theorem frz_mat_snocA {H : Hp} {m : Nat} {x : V} {l : List (List Rat)} {kL : List V → List Nat → Prop} : frzs (frzE (argN H m)) (V.mat l ++ [x]) kL = frzs (frzE (argN H m)) [x] fun ys rs => kL (V.mat l ++ ys) rs := frzs_snocA (of_eq_true (mat_frz l))
/-- As endFrz, where the slice may still be nil. -/
def frzU (t : Nat) (Q : Exit → St → Prop) : Exit → St → Prop
  | .normal, τ => match τ.s t with
    | .sl k _ _ _ => optC (τ.H k) fun y => frzs (frzE (argN τ.H 3)) y.l fun l' rs => (rs.all fun i => !(i == k)) = true ∧ Q .normal { τ with H := (τ.H.drops rs).up k (some ⟨y.t, y.e, l'⟩) }
    | _ => Q .normal τ
  | e, τ => Q e τ
theorem AWp.endFrzU (t : Nat) {P : Program} {c : Code} {Q : Exit → St → Prop} {σ : St} (h : AWp P c (frzU t Q) σ) : AWp P c Q σ := by
  intro B A W st a w ρ hs r _
  refine wpIn_mono (h B A W st a w ρ hs) fun e a' w' hq => ?_
  obtain ⟨τ, ρ', hq, hs'⟩ := hq
  cases e with
  | normal =>
    unfold frzU at hq
    simp only at hq
    split at hq
    · rename_i k _ _ _ _
      obtain ⟨σ', h1, h2⟩ := hs'.frz st k hq
      exact ⟨σ', ρ', h1, h2⟩
    · exact ⟨τ, ρ', hq, hs'⟩
  | _ => exact ⟨τ, ρ', hq, hs'⟩
@[go_sem ↓, go_sem] theorem ev_frzU_e {t : Nat} {Q : Exit → St → Prop} {σ : St} : frzU t Q .ret σ = Q .ret σ := rfl
@[go_sem ↓, go_sem] theorem ev_frzU_x {t id : Nat} {Q : Exit → St → Prop} {σ : St} : frzU t Q (.exit id) σ = Q (.exit id) σ := rfl
theorem ev_frzU_n {t : Nat} {Q : Exit → St → Prop} {σ : St} : frzU t Q .normal σ = (match σ.s t with
    | .sl k _ _ _ => optC (σ.H k) fun y => frzs (frzE (argN σ.H 3)) y.l fun l' rs => (rs.all fun i => !(i == k)) = true ∧ Q .normal { σ with H := (σ.H.drops rs).up k (some ⟨y.t, y.e, l'⟩) }
    | _ => Q .normal σ) := rfl
theorem up_up (H : Hp) (k : Nat) (x y : Option Blk) : (H.up k x).up k y = H.up k y := by
  funext j
  unfold Hp.up
  by_cases h : j = k
  · rw [if_pos h, if_pos h]
  · rw [if_neg h, if_neg h, if_neg h]
@[go_sem] theorem renV_Q {θ : List Nat} {q : Rat} : RenV θ (.Q q) (.Q q) = True := eq_true (renV_pure rfl)
@[go_sem] theorem range_get {n k : Nat} (h : k < n) : (List.range n)[k]? = some k := List.getElem?_range h
theorem closed_up {n k : Nat} {H : Hp} {x : Blk} (h : ClosedH n H) (hk : k < n) (hx : RenLE (List.range n) x.l x.l) : ClosedH n (H.up k (some x)) := fun j y hy => by
  unfold Hp.up at hy
  split at hy
  · rename_i e; subst e; injection hy with hy; subst hy; exact ⟨hk, hx⟩
  · exact h j y hy
theorem renV_mono {n m : Nat} (hm : n ≤ m) {x y : V} (h : RenV (List.range n) x y) : RenV (List.range m) x y := by
  have sub : ∀ k k0, (List.range n)[k]? = some k0 → (List.range m)[k]? = some k0 := fun k k0 e => by
    have hk : k < n := by have := (List.getElem?_eq_some_iff.1 e).1; simpa using this
    rw [List.getElem?_range hk] at e
    rw [List.getElem?_range (by omega)]; exact e
  have cs : ∀ (a b : List V), RenCs (List.range n) a b → RenCs (List.range m) a b := fun a => by
    induction a with
    | nil => intro b hb; cases b <;> exact hb
    | cons p a ih =>
      intro b hb
      cases b with
      | nil => exact hb
      | cons q b =>
        refine ⟨?_, ih b hb.2⟩
        have := hb.1
        unfold RenC at this ⊢
        split at this
        · exact ⟨sub _ _ this.1, this.2⟩
        · exact this
  unfold RenV at h ⊢
  split at h
  · trivial
  · exact ⟨h.1, cs _ _ h.2.1, cs _ _ h.2.2⟩
  · exact ⟨sub _ _ h.1, h.2⟩
  · exact ⟨sub _ _ h.1, h.2⟩
  · exact h
theorem closed_mono {n m : Nat} {H : Hp} (h : ClosedH n H) (hm : n ≤ m) : ClosedH m H := fun k x hk => by
  obtain ⟨h1, h2, h3⟩ := h k x hk
  refine ⟨by omega, h2, fun i x y hx hy => ?_⟩
  obtain ⟨g1, g2⟩ := h3 i x y hx hy
  exact ⟨g1, fun i z u hz hu => renV_mono hm (g2 i z u hz hu)⟩
section
variable {o b : Nat} {tO t : TypeId} {w : Nat} {M : List (List Rat)} {H : Hp}
theorem matH_out {k : Nat} (h1 : k ≠ o) (h2 : ¬ (b ≤ k ∧ k < b + M.length)) (x : Option Blk) : (matH o b tO t w M H).up k x = matH o b tO t w M (H.up k x) := by
  funext j
  unfold Hp.up matH
  by_cases e : j = k
  · subst e
    rw [if_pos rfl, if_neg h1, if_neg h2]
    exact (if_pos rfl).symm
  · rw [if_neg e]
    by_cases e1 : j = o
    · rw [if_pos e1, if_pos e1]
    · rw [if_neg e1, if_neg e1]
      by_cases e2 : b ≤ j ∧ j < b + M.length
      · rw [if_pos e2, if_pos e2]
      · rw [if_neg e2, if_neg e2]
        exact (if_neg e).symm
theorem matH_hi {k : Nat} (h1 : k ≠ o) (h2 : b + M.length ≤ k) : matH o b tO t w M H k = H k := by
  unfold matH
  rw [if_neg h1, if_neg (by omega)]
theorem renL_pure {θ : List Nat} {l : List V} (h : allPure l) : RenL θ l l := renL_refl h
theorem renL_rwI {n0 w n : Nat} (h : b + n ≤ n0) : RenL (List.range n0) (V.rwI b w n) (V.rwI b w n) := ⟨rfl, fun i x y hx hy => by
  have hi : i < n := by have := (List.getElem?_eq_some_iff.1 hx).1; rw [rwI_len] at this; exact this
  have hx' : (V.rwI b w n)[i]? = some (.sl (rid b i) 4 0 w) := rwG_get hi
  rw [hx'] at hx hy
  injection hx with hx; injection hy with hy
  subst hx hy
  exact ⟨⟨List.getElem?_range (by unfold rid; omega), rfl, rfl, rfl⟩, rfl, fun h => by cases h⟩⟩
theorem closed_mat {n0 : Nat} (ho : o < n0) (hb : b + M.length ≤ n0) (hH : ClosedH n0 H) : ClosedH n0 (matH o b tO t w M H) := fun k x hk => by
  unfold matH at hk
  split at hk
  · rename_i e; subst e; injection hk with hk; subst hk
    exact ⟨ho, .of (renL_rwI hb)⟩
  · split at hk
    · rename_i e; injection hk with hk; subst hk
      exact ⟨by omega, .of (renL_refl (of_eq_true (rats_pure _)))⟩
    · exact hH k x hk
end
/-- A heap over another one. -/
def mkHb (base : Hp) : List (Nat × Bool × Blk) → Hp
  | [] => base
  | (k, _, x) :: l => (mkHb base l).up k (some x)
attribute [go_sem] mkHb.eq_1 mkHb.eq_2
def mkRB (m o b : Nat) (tO t : TypeId) (w : Nat) (ss : List (Nat × V)) (hs : List (Nat × Bool × Blk)) (base : Hp) (M : List (List Rat)) (N : Nat) : St := { s := mkS ss, H := matH o b tO t w M (mkHb base hs), n := rid b M.length, N := N, m := m }
theorem vc_atRB {P : Program} {Γ : Tab} {Δ : Gab} (T : Tabs P Γ Δ) {c : Code} {Q : Exit → St → Prop} {m o b : Nat} {tO t : TypeId} {w : Nat} {ss : List (Nat × V)} {hs : List (Nat × Bool × Blk)} {base : Hp} {M : List (List Rat)} {N : Nat}
    (h : vc P Γ Δ c Q { s := mkS ss, H := matH o b tO t w M (mkHb base hs), n := rid b M.length, N := N, m := m }) : AWp P c Q (mkRB m o b tO t w ss hs base M N) := vc_ok T _ _ _ h
theorem Wk.ofRB (m : Nat) (θ : List Nat) (ρ : Nat → Nat) {o b : Nat} {tO t : TypeId} {w : Nat} {σ : St} {ss : List (Nat × V)} {hs : List (Nat × Bool × Blk)} {base : Hp} {M : List (List Rat)} {N : Nat} (hb : b = θ.length) (ho : o < b) (hid : ∀ k, k < m → θ[k]? = some k)
    (hnd : (thR θ ρ M.length).Nodup) (h0 : N = σ.N ∧ σ.m = m ∧ σ.q = false) (hss : wkS (thR θ ρ M.length) σ.s ss) (hH : wkH (thR θ ρ M.length) σ.H hs) (hbase : ∀ k x, base k = some x → RenBE (thR θ ρ M.length) k x σ.H)
    (hO : optC θ[o]? fun k0 => σ.H k0 = some ⟨tO, 1, V.rwG ρ w M.length⟩) (hR : ∀ i, i < M.length → σ.H (ρ i) = some ⟨t, 4, V.rats (M.getD i [])⟩) : Wk σ (mkRB m o b tO t w ss hs base M N) := by
  obtain ⟨h1, h2, h3⟩ := h0
  have hHH : ∀ (l : List (Nat × Bool × Blk)), wkH (thR θ ρ M.length) σ.H l → RenHE (thR θ ρ M.length) (mkHb base l) σ.H := by
    intro l
    induction l with
    | nil => exact fun _ k x hk => hbase k x hk
    | cons p l ih =>
      intro hl k x hk
      obtain ⟨q1, q2⟩ := hl
      simp only [mkHb, Hp.up] at hk
      split at hk
      · rename_i e
        subst e
        injection hk with hk
        subst hk
        unfold optC at q1
        split at q1
        · rename_i k0 hk0
          split at q1
          · rename_i y hy
            obtain ⟨r1, r2, r3⟩ := q1
            refine ⟨k0, y, hk0, hy, r1, r2, ?_⟩
            split at r3
            · rw [← r3.1]; exact .of (renL_refl r3.2)
            · exact .of (renL_of _ _ r3)
          · exact q1.elim
        · exact q1.elim
      · exact ih q2 k x hk
  refine Wk.mkE (thR θ ρ M.length) h1 h2.symm h3.symm (fun k hk => ?_) (by show rid b M.length = _; unfold thR rid; rw [List.length_append, List.length_map, List.length_range, hb]) (wkS_ren ss hss).1 ?_ hnd (wkS_ren ss hss).2
  · have := hid k (by omega)
    rw [thR_lo (List.getElem?_eq_some_iff.1 this).1]; exact this
  intro k x hk
  have hk : matH o b tO t w M (mkHb base hs) k = some x := hk
  unfold matH at hk
  by_cases ek : k = o
  · rw [if_pos ek] at hk
    injection hk with hk
    subst hk ek
    rcases hθ : θ[k]? with _ | k0
    · rw [hθ] at hO; exact hO.elim
    · rw [hθ] at hO
      have hO : σ.H k0 = some ⟨tO, 1, V.rwG ρ w M.length⟩ := hO
      refine ⟨k0, _, by rw [thR_lo (by omega)]; exact hθ, hO, rfl, rfl, .of ⟨by simp only [rwI_len, rwG_len], fun i x y hx hy => ?_⟩⟩
      have hi : i < M.length := by have := (List.getElem?_eq_some_iff.1 hx).1; rw [rwI_len] at this; exact this
      have hx : (V.rwI b w M.length)[i]? = some x := hx
      have hy : (V.rwG ρ w M.length)[i]? = some y := hy
      unfold V.rwI at hx
      rw [rwG_get hi] at hx hy
      injection hx with hx
      injection hy with hy
      subst hx hy
      exact ⟨⟨by rw [hb]; exact thR_row hi, rfl, rfl, rfl⟩, rfl, fun h => by cases h⟩
  · rw [if_neg ek] at hk
    by_cases hr : b ≤ k ∧ k < b + M.length
    · rw [if_pos hr] at hk
      injection hk with hk
      subst hk
      have hi : k - b < M.length := by omega
      refine ⟨ρ (k - b), _, ?_, hR _ hi, rfl, rfl, .of (renL_refl ?_)⟩
      · have := thR_row (θ := θ) (ρ := ρ) hi
        rw [← hb] at this
        unfold rid at this
        rw [show b + (k - b) = k from by omega] at this
        exact this
      · exact of_eq_true (rats_pure _)
    · rw [if_neg hr] at hk
      exact hHH hs hH k x hk
theorem liveTo_of {H : Hp} : ∀ {m : Nat}, (∀ k, k < m → (H k).isSome = true) → liveTo H m
  | 0, _ => trivial
  | m + 1, h => ⟨h m (by omega), liveTo_of fun k hk => h k (by omega)⟩
theorem AWp.block {P : Program} {id : Nat} {c : Code} {Q : Exit → St → Prop} {σ : St} (h : AWp P c (blkE id Q) σ) : AWp P (.block id c) Q σ := by
  intro B A W st a w ρ hs r _
  refine wpIn_block (wpIn_mono (h B A W st a w ρ hs (r := r)) ?_)
  rintro e a' w' ⟨σ', ρ', h1, h2⟩
  cases e with
  | exit id' =>
    simp only [blkE] at h1
    simp only [Exit.inBlock]
    split
    · rename_i e; rw [if_pos e] at h1; exact ⟨σ', ρ', h1, h2⟩
    · rename_i e; rw [if_neg e] at h1; exact ⟨σ', ρ', h1, h2⟩
  | normal => exact ⟨σ', ρ', h1, h2⟩
  | goto l => exact ⟨σ', ρ', h1, h2⟩
  | ret => exact ⟨σ', ρ', h1, h2⟩
  | panic c => exact ⟨σ', ρ', h1, h2⟩
  | outgrown => exact ⟨σ', ρ', h1, h2⟩
theorem AWp.cond {P : Program} {c : Operand} {x y : Code} {Q : Exit → St → Prop} {σ : St} {t : Bool} (hc : σ.ev c = .raw (.bool t)) (h : (t = true → AWp P x Q σ) ∧ (t = false → AWp P y Q σ)) : AWp P (.cond c x y) Q σ := by
  intro B A W st a w ρ hs r _
  have hv := hs.ev c
  rw [hc] at hv
  have hv := RepW.raw_inv hv
  refine wpIn_cond hv ?_
  cases t with
  | true => exact h.1 rfl B A W st a w ρ hs
  | false => exact h.2 rfl B A W st a w ρ hs
theorem Wk.ofB (m : Nat) (θ : List Nat) {σ : St} {ss : List (Nat × V)} {hs : List (Nat × Bool × Blk)} {base : Hp} {N : Nat} (hid : ∀ k, k < m → θ[k]? = some k) (hnd : θ.Nodup) (h0 : N = σ.N ∧ σ.m = m ∧ σ.q = false) (hss : wkS θ σ.s ss) (hH : wkH θ σ.H hs)
    (hbase : ∀ k x, base k = some x → RenBE θ k x σ.H) : Wk σ { s := mkS ss, H := mkHb base hs, n := θ.length, N := N, m := m } := by
  obtain ⟨h1, h2, h3⟩ := h0
  have hHH : ∀ (l : List (Nat × Bool × Blk)), wkH θ σ.H l → RenHE θ (mkHb base l) σ.H := by
    intro l
    induction l with
    | nil => exact fun _ k x hk => hbase k x hk
    | cons p l ih =>
      intro hl k x hk
      obtain ⟨q1, q2⟩ := hl
      simp only [mkHb, Hp.up] at hk
      split at hk
      · rename_i e
        subst e
        injection hk with hk
        subst hk
        unfold optC at q1
        split at q1
        · rename_i k0 hk0
          split at q1
          · rename_i y hy
            obtain ⟨r1, r2, r3⟩ := q1
            refine ⟨k0, y, hk0, hy, r1, r2, ?_⟩
            split at r3
            · rw [← r3.1]; exact .of (renL_refl r3.2)
            · exact .of (renL_of _ _ r3)
          · exact q1.elim
        · exact q1.elim
      · exact ih q2 k x hk
  exact Wk.mkE θ h1 h2.symm h3.symm (fun k hk => hid k (by omega)) rfl (wkS_ren ss hss).1 (hHH hs hH) hnd (wkS_ren ss hss).2
/-- A block that may not be there. -/
def hbk (k : Nat) (pb : Option Blk) : Hp := fun j => if j = k then pb else none
@[go_sem] theorem hbk_eq (k : Nat) (pb : Option Blk) (j : Nat) : hbk k pb j = if j = k then pb else none := rfl
/-- Names as far as the checks of a region need them: what is old is one. -/
def rnn (n x : Nat) : Nat := if x < n then 0 else x - n + 1
theorem rnn_lo {n x : Nat} (h : x < n) : rnn n x = 0 := if_pos h
theorem rnn_hi (n c : Nat) : rnn n (n + c) = c + 1 := by unfold rnn; rw [if_neg (by omega)]; omega
theorem rnn_n (n : Nat) : rnn n n = 1 := rnn_hi n 0
end Go.Proofs.Ytjjebokgckmnjaa

