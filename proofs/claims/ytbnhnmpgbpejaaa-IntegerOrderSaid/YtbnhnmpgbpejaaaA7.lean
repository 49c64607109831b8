/- Abstract operations: new variables, slices, lengths, structs. No program in sight. -/
import Derived.Test.YtbnhnmpgbpejaaaA6
namespace Go.Proofs.Ytbnhnmpgbpejaaa
set_option linter.unusedSimpArgs false
set_option linter.unusedVariables false
open Go.RowKit

/-- The atoms of raw values. -/
theorem atomsL_raws (l : List Value) : V.atomsL (l.map .raw) = l.map .raw := by
  induction l with
  | nil => rfl
  | cons x l ih => simp [V.atomsL, V.atoms, ih]
theorem cst_atoms (v : Value) : (cst v).atoms = v.cells.toList.map .raw := by
  cases v with
  | agg cs => exact atomsL_raws _
  | _ => rfl
theorem cst_wid (v : Value) : (cst v).wid = v.cells.size := by
  unfold V.wid; rw [cst_atoms]; simp
theorem tyZero_inv {P : Program} {t z} (h : tyZero P t = some z) : ∃ i v, P.info? t = some i ∧ i.zero = some v ∧ z = cst v := by
  unfold tyZero at h
  cases hi : P.info? t with
  | none => rw [hi] at h; cases h
  | some i =>
    rw [hi] at h
    simp only [Option.bind_some] at h
    cases hz : i.zero with
    | none => rw [hz] at h; cases h
    | some v => rw [hz] at h; injection h with h; exact ⟨i, v, rfl, hz, h.symm⟩

def tyBytes (P : Program) (t : TypeId) : Option Nat := (P.info? t).map (·.bytes)
def aAlloc (P : Program) (t : TypeId) (n : Nat) (k : Kt) : Prop :=
  match tyZero P t with
  | some z => z.good = true ∧ k (.ptr n z.wid 0 0) [(n, some ⟨t, z.wid, [z]⟩)] []
  | none => False
def aBox (t : TypeId) (x : V) (n : Nat) (k : Kt) : Prop := x.good = true ∧ k (.ptr n x.wid 0 0) [(n, some ⟨t, x.wid, [x]⟩)] []

section
variable {P : Program} {B : Nat → Prop} {H : Hp} {w : World} {ρ : Nat → Option Nat} {n : Nat} {a : Act} {o : Oper}
theorem ok_newVar {t : TypeId} {x : V} {v : Value} (hH : HRep w (own B ρ H) ρ H) (hf : ρ n = none) (hg : x.good = true) (hx : RepV w (own B ρ H) ρ x v)
    (hr : (execOp a.eval o).run P w = .ok (.value (.pointer (some ⟨w.heap.size, 0, none⟩))) (w.alloc (.cells v.cells t))) : OpOk P B H w ρ n a o (.ptr n x.wid 0 0) [(n, some ⟨t, x.wid, [x]⟩)] := by
  obtain ⟨c1, c2, c3⟩ := good_cells hg hx
  have e1 : V.atomsL [x] = x.atoms := by simp [V.atomsL]
  refine OpOk.push hH hf hr rfl rfl rfl rfl (by simp) (by rw [e1, c1]; exact Nat.le_refl _) (fun j y u hy hu => c2 j y u (by rw [e1] at hy; exact hy) hu) fun O ρ' hn => RepW.of_atom ?_ rfl rfl
  have := RepA.ptr (w := w.alloc (.cells v.cells t)) (O := O) ρ' n x.wid 0 0 _ hn
  simpa using this
theorem aAlloc_ok {t : TypeId} {k : Kt} (hH : HRep w (own B ρ H) ρ H) (hf : ρ n = none) (h : aAlloc P t n k)
    (he : ∀ v w1, (Instr.alloc t true (.tuple #[])).run P w = .ok v w1 → (execOp a.eval o).run P w = .ok (.value v) w1) : ∃ z ws rs, k z ws rs ∧ OpOk P B H w ρ n a o z ws := by
  unfold aAlloc at h
  split at h
  · rename_i z hz
    obtain ⟨hg, h⟩ := h
    obtain ⟨i, v, h1, h2, rfl⟩ := tyZero_inv hz
    refine ⟨_, _, _, h, ok_newVar hH hf hg (cst_rep _ _ _ v) (he _ _ ?_)⟩
    simp [Instr.alloc, zeroValue, typeInfo, h1, h2, newVar, newRow]
  · exact h.elim
theorem aBox_ok {t : TypeId} {x : V} {v : Value} {k : Kt} (hH : HRep w (own B ρ H) ρ H) (hf : ρ n = none) (hx : RepV w (own B ρ H) ρ x v) (h : aBox t x n k)
    (he : ∀ u w1, (Instr.box t v).run P w = .ok u w1 → (execOp a.eval o).run P w = .ok (.value u) w1) : ∃ z ws rs, k z ws rs ∧ OpOk P B H w ρ n a o z ws :=
  ⟨_, _, _, h.2, ok_newVar hH hf h.1 hx (he _ _ (by simp [Instr.box, newVar, newRow]))⟩
end

/-- make([]T, a, b) -/
def aMake (P : Program) (t : TypeId) (x y : V) (n : Nat) (k : Kt) : Prop :=
  match x, y with
  | .raw (.int _ l), .raw (.int _ c) => match tyElem P t with
    | some (e, s) => match tyZero P e, tyBytes P e with
      | some z, some by_ => z.wid = s ∧ z.good = true ∧ (0 ≤ l ∧ l ≤ c ∧ (by_ : Int) * c ≤ 281474976710656 ∧ c ≤ 9223372036854775807) ∧ k (.sl n s 0 l.toNat) [(n, some ⟨e, s, List.replicate c.toNat z⟩)] []
      | _, _ => False
    | none => False
  | _, _ => False
section
variable {P : Program} {B : Nat → Prop} {H : Hp} {w : World} {ρ : Nat → Option Nat} {n : Nat} {a : Act} {o : Oper}
theorem aMake_ok {t : TypeId} {x y : V} {u v : Value} {k : Kt} (hH : HRep w (own B ρ H) ρ H) (hf : ρ n = none) (hx : RepV w (own B ρ H) ρ x u) (hy : RepV w (own B ρ H) ρ y v) (h : aMake P t x y n k)
    (he : ∀ r w1, (Instr.makeSlice t u v).run P w = .ok r w1 → (execOp a.eval o).run P w = .ok (.value r) w1) : ∃ z ws rs, k z ws rs ∧ OpOk P B H w ρ n a o z ws := by
  unfold aMake at h
  split at h
  · rename_i kl l kc c
    have e1 := RepW.raw_inv hx
    have e2 := RepW.raw_inv hy
    subst e1 e2
    split at h
    · rename_i e s ht
      split at h
      · rename_i z by_ hz hby
        obtain ⟨hw, hg, ⟨h0, h1, h2, h3⟩, h⟩ := h
        obtain ⟨i, zv, hi, g2, rfl⟩ := tyZero_inv hz
        have hbb : i.bytes = by_ := by simpa [tyBytes, hi] using hby
        subst hbb
        obtain ⟨u1, u2⟩ := tyElem_inv ht
        have hs : i.size = s := by simpa [tySize, hi] using u2
        have hrun := run_make (P := P) w t e i zv u1 hi g2 kl kc l c h0 h1 h2 h3
        have hzs : zv.cells.size = s := by rw [← hw, cst_wid]
        have hwid : ∀ y ∈ List.replicate c.toNat (cst zv), y.wid = s := fun y hy => by rw [List.eq_of_mem_replicate hy]; exact hw
        have hlen := V.atomsL_length hwid
        rw [List.length_replicate] at hlen
        have hmz : (madeCells zv.cells (c.toNat * i.size)).size = c.toNat * s := by rw [size_madeCells, hs]
        refine ⟨_, _, _, h, OpOk.push hH hf (he _ _ hrun) rfl rfl rfl rfl hwid (by rw [hlen, hmz]; exact Nat.le_refl _) (fun j y u hy hu => ?_) fun O ρ' hn => RepW.of_atom ?_ rfl rfl⟩
        · have hjl : j < c.toNat * s := by rw [← hlen]; exact (List.getElem?_eq_some_iff.1 hy).1
          have hpos : 0 < s := by
            rcases Nat.eq_zero_or_pos s with e0 | e0
            · rw [e0] at hjl; omega
            · exact e0
          have hdm : j / s * s + j % s = j := by rw [Nat.mul_comm]; exact Nat.div_add_mod j s
          have hmod : j % s < s := Nat.mod_lt _ hpos
          have hdl : j / s < c.toNat := by rw [Nat.div_lt_iff_lt_mul hpos]; omega
          have hy' := V.atomsL_get hwid (i := j / s) (x := cst zv) (by rw [List.getElem?_replicate, if_pos hdl]) hmod
          rw [hdm, hy, cst_atoms] at hy'
          have hlt : j % s < zv.cells.size := by omega
          have hu2 : u = zv.cells[j % s] := by
            have hjm : j < c.toNat * i.size := by rw [hs]; exact hjl
            simp only [madeCells, Array.getElem?_map, Array.getElem?_range, hjm, if_true, Option.map_some, Option.some.injEq] at hu
            rw [hzs] at hu
            rw [← hu]
            simp [hlt]
          simp [hlt] at hy'
          subst hy'
          rw [hu2]
          exact .raw _ _
        · have := RepA.sl (w := w.alloc (.cells (madeCells zv.cells (c.toNat * i.size)) e)) (O := O) ρ' n s 0 l.toNat w.heap.size c.toNat _ e (0, 0) hn (heap_alloc_new w _) (by omega) (by rw [hmz]; simp)
          simpa using this
      · exact h.elim
    · exact h.elim
  · exact h.elim
end

/-- len -/
def aLen (P : Program) (t : TypeId) (x : V) (k : V → Prop) : Prop :=
  match P.underlying t, x with
  | some .string, .raw (.string s) => k (.raw (.int .i64 (s.size : Nat)))
  | some (.slice _), .lst l => k (.raw (.int .i64 (l.length : Nat)))
  | some (.slice _), .sl _ _ _ n => k (.raw (.int .i64 (n : Nat)))
  | some (.slice _), .raw (.slice none 0 0) => k (.raw (.int .i64 0))
  | some (.slice _), .emp => k (.raw (.int .i64 0))
  | some (.array n _), _ => k (.raw (.int .i64 (n : Nat)))
  | _, _ => False
section
variable {P : Program} {w : World} {O : Nat → Prop} {ρ : Nat → Option Nat}
theorem aLen_ok {t : TypeId} {ty : TypeId} {ts : Array TypeId} {x : V} {u : Value} {k} (hx : RepV w O ρ x u) (ht : ts[0]? = some t) (h : aLen P t x k) : ∃ z, k z ∧ ∃ v, (Builtin.len_ ts ty #[u]).run P w = .ok v w ∧ RepV w O ρ z v := by
  unfold aLen at h
  split at h
  · rename_i hd
    have e := RepW.raw_inv hx
    subst e
    exact ⟨_, h, _, by simp [Builtin.len_, ht, run_underlying hd]; rfl, RepW.raw rfl⟩
  · rename_i hd
    have hp := RepW.atom hx (by rfl)
    cases hp with
    | nil => exact ⟨_, h, _, by simp [Builtin.len_, ht, run_underlying hd]; rfl, RepW.raw rfl⟩
    | lst => exact ⟨_, h, _, by simp [Builtin.len_, ht, run_underlying hd]; rfl, RepW.raw rfl⟩
  · rename_i hd
    have hp := RepW.atom hx (by rfl)
    cases hp with
    | sl => exact ⟨_, h, _, by simp [Builtin.len_, ht, run_underlying hd]; rfl, RepW.raw rfl⟩
  · rename_i hd
    have e := RepW.raw_inv hx
    subst e
    exact ⟨_, h, _, by simp [Builtin.len_, ht, run_underlying hd]; rfl, RepW.raw rfl⟩
  · rename_i hd
    have hp := RepW.atom hx (by rfl)
    cases hp with
    | emp => exact ⟨_, h, _, by simp [Builtin.len_, ht, run_underlying hd]; rfl, RepW.raw rfl⟩
  · rename_i hd
    exact ⟨_, h, _, by simp [Builtin.len_, ht, run_underlying hd]; rfl, RepW.raw rfl⟩
  · exact h.elim
end

/-- min, max of two integers. -/
def aMin (x y : V) (k : V → Prop) : Prop :=
  match x, y with
  | .raw (.int i a), .raw (.int _ b) => k (.raw (.int i (if b < a then b else a)))
  | _, _ => False
def aMax (x y : V) (k : V → Prop) : Prop :=
  match x, y with
  | .raw (.int i a), .raw (.int _ b) => k (.raw (.int i (if a < b then b else a)))
  | _, _ => False
section
variable {P : Program} {w : World} {O : Nat → Prop} {ρ : Nat → Option Nat}
theorem aMin_ok {ty : TypeId} {ts : Array TypeId} {x y : V} {u v : Value} {k} (hx : RepV w O ρ x u) (hy : RepV w O ρ y v) (h : aMin x y k) : ∃ z, k z ∧ ∃ r, (Builtin.min_ ts ty #[u, v]).run P w = .ok r w ∧ RepV w O ρ z r := by
  unfold aMin at h
  split at h
  · have e1 := RepW.raw_inv hx
    have e2 := RepW.raw_inv hy
    subst e1 e2
    exact ⟨_, h, _, by simp [Builtin.min_, Builtin.min2], RepW.raw rfl⟩
  · exact h.elim
theorem aMax_ok {ty : TypeId} {ts : Array TypeId} {x y : V} {u v : Value} {k} (hx : RepV w O ρ x u) (hy : RepV w O ρ y v) (h : aMax x y k) : ∃ z, k z ∧ ∃ r, (Builtin.max_ ts ty #[u, v]).run P w = .ok r w ∧ RepV w O ρ z r := by
  unfold aMax at h
  split at h
  · have e1 := RepW.raw_inv hx
    have e2 := RepW.raw_inv hy
    subst e1 e2
    exact ⟨_, h, _, by simp [Builtin.max_, Builtin.max2], RepW.raw rfl⟩
  · exact h.elim
end

/-- A slice expression on values that are known to be slices: x[lo:hi:mx]. -/
def bnd (x : Option V) (d : Int) : Option Int :=
  match x with
  | none => some d
  | some (.raw (.int _ i)) => some i
  | _ => none
def aSliceL (s : Nat) (x : V) (len lo hi : Nat) (isMax : Bool) (k : V → Prop) : Prop :=
  if isMax = true then k .emp
  else match x with
  | .sl b e o _ => e = s ∧ (if lo < hi ∨ lo = 0 then k (.sl b e (o + lo) (hi - lo)) else k (.lst []))
  | .lst l => (lo ≠ 0 → ∀ y ∈ l, y.wid = s) ∧ k (.lst ((l.drop lo).take (hi - lo)))
  | .raw (.slice none 0 0) => k (.raw (.slice none 0 0))
  | .emp => k .emp
  | _ => False
def slLen : V → Option Nat
  | .sl _ _ _ n => some n
  | .lst l => some l.length
  | .raw (.slice none 0 0) => some 0
  | .emp => some 0
  | _ => none
def aSlice (P : Program) (t : TypeId) (x : V) (lo hi mx : Option V) (k : V → Prop) : Prop :=
  match x with
  | .raw (.string s) => P.underlying t = some .string ∧ mx.isNone = true ∧ (match bnd lo 0, bnd hi s.size with
    | some l, some h => (0 ≤ l ∧ l ≤ h ∧ h ≤ s.size) ∧ k (.raw (.string (s.extract l.toNat h.toNat)))
    | _, _ => False)
  | x => match tyElem P t, slLen x with
    | some (_, s), some n => (match bnd lo 0, bnd hi n with
      | some l, some h => (match mx with
        | none => (0 ≤ l ∧ l ≤ h ∧ h ≤ n) ∧ aSliceL s x n l.toNat h.toNat false k
        | some m => (match bnd (some m) 0 with
          | some m => hi.isSome = true ∧ (0 ≤ l ∧ l ≤ h ∧ h ≤ m ∧ m ≤ n) ∧ aSliceL s x n l.toNat h.toNat (decide (m = l)) k
          | none => False))
      | _, _ => False)
    | _, _ => False
end Go.Proofs.Ytbnhnmpgbpejaaa
