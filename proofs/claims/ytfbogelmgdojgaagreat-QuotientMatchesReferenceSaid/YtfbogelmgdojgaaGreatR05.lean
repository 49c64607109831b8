/- Texts A12 in one. -/
import Derived.Test.YtfbogelmgdojgaaGreatR04
import Derived.Laws.IdiomStrings
import Derived.Laws.BytesArg
/- Abstract operations: slice literals, closures, conversions, and calls by contract. No program in sight. -/
namespace Go.Proofs.YtfbogelmgdojgaaGreat
set_option linter.unusedSimpArgs false
set_option linter.unusedVariables false
open Go.RowKit

def aFillL (e : Operand → V) (s len : Nat) : List (Nat × Operand) → List V → Option (List V)
 | [], l => some l
 | (i, p) :: r, l => if (e p).good = true ∧ (e p).wid = s ∧ i < len then aFillL e s len r (l.set i (e p)) else none
def aBuildSlice (P : Program) (t : TypeId) (len : Nat) (e : Operand → V) (parts : List (Nat × Operand)) (n : Nat) (k : Kt) : Prop :=
 match tyElem P t with
 | some (el, s) => (match tyZero P el with
   | some z => z.wid = s ∧ z.good = true ∧ len * s ≤ 16777216 ∧ (match aFillL e s len parts (List.replicate len z) with
     | some l => k (.sl n s 0 len) [(n, some ⟨el, s, l⟩)] []
     | none => False)
   | none => False)
 | none => False

section
variable {P : Program} {w : World} {O : Nat → Prop} {ρ : Nat → Option Nat}
theorem V.atomsL_set {l : List V} {s : Nat} (h : ∀ y ∈ l, y.wid = s) {i : Nat} {x : V} (hi : i < l.length) (hx : x.wid = s) : V.atomsL (l.set i x) = (V.atomsL l).take (i * s) ++ x.atoms ++ (V.atomsL l).drop (i * s + x.wid) := by
 induction l generalizing i with
 | nil => simp at hi
 | cons y l ih =>
   have h1 : y.atoms.length = s := h y (by simp)
   have hx' : x.atoms.length = s := hx
   cases i with
   | zero =>
     simp only [List.set_cons_zero, V.atomsL, Nat.zero_mul, List.take_zero, List.nil_append, Nat.zero_add]
     rw [List.drop_append, hx, List.drop_eq_nil_of_le (by omega), h1, Nat.sub_self, List.drop_zero, List.nil_append]
   | succ i =>
     simp only [List.length_cons] at hi
     simp only [List.set_cons_succ, V.atomsL]
     rw [ih (fun z hz => h z (by simp [hz])) (by omega)]
     have e : (i + 1) * s = s + i * s := by rw [Nat.add_mul]; omega
     rw [e, List.take_append (l₁ := y.atoms), List.drop_append (l₁ := y.atoms), List.take_of_length_le (show y.atoms.length ≤ s + i * s by omega), List.drop_eq_nil_of_le (show y.atoms.length ≤ s + i * s + x.wid by omega), h1, hx]
     simp only [List.append_assoc, List.nil_append]
     rw [show s + i * s - s = i * s from by omega, show s + i * s + s - s = i * s + s from by omega]
theorem fillL_ok {e : Operand → V} {ev : Operand → Value} (henv : ∀ x, RepV w O ρ (e x) (ev x)) {s len : Nat} :
 ∀ (parts : List (Nat × Operand)) (l m : List V) (cells : Array Value), aFillL e s len parts l = some m → l.length = len → (∀ y ∈ l, y.wid = s) → RepC w O ρ (V.atomsL l) cells →
  ∃ cs, Instr.fill (fun i => some (i * s, s)) cells (parts.map fun p => (p.1, ev p.2)) = some cs ∧ RepC w O ρ (V.atomsL m) cs ∧ m.length = len ∧ (∀ y ∈ m, y.wid = s)
 | [], l, m, cells, h, hl, hw, hc => by
   simp only [aFillL, Option.some.injEq] at h
   subst h
   exact ⟨cells, rfl, hc, hl, hw⟩
 | (i, p) :: r, l, m, cells, h, hl, hw, hc => by
   unfold aFillL at h
   split at h
   ·rename_i hcond
    obtain ⟨hg, hws, hi⟩ := hcond
    obtain ⟨c1, c2, c3⟩ := good_cells hg (henv p)
    have hal := V.atomsL_length hw
    have hbig : i * s + s ≤ l.length * s := by
     have := Nat.mul_le_mul_right s (show i + 1 ≤ l.length by omega)
     rw [Nat.add_mul] at this; omega
    have hnew := hc.fold (off := i * s) hg (henv p) (by rw [hws, hal]; exact hbig)
    rw [← V.atomsL_set hw (by omega) hws] at hnew
    obtain ⟨cs, k1, k2⟩ := fillL_ok henv r _ m _ h (by simpa using hl) (fun y hy => by
     rcases List.mem_or_eq_of_mem_set hy with hy | rfl
     ·exact hw y hy
     ·exact hws) hnew
    refine ⟨cs, ?_, k2⟩
    simp only [List.map_cons, Instr.fill]
    rw [if_neg]
    ·exact k1
    ·rw [c1, hws, ← hc.1, hal]
     simp
     omega
   ·cases h
end

section
variable {P : Program} {B : Nat → Prop} {H : Hp} {w : World} {ρ : Nat → Option Nat} {n : Nat} {a : Act} {o : Oper}
theorem aBuildSlice_ok {t : TypeId} {len : Nat} {e : Operand → V} {ev : Operand → Value} (hH : HRep w (own B ρ H) ρ H) (hf : ρ n = none) (henv : ∀ x, RepV w (own B ρ H) ρ (e x) (ev x)) {parts : Array (Nat × Operand)} {k : Kt} (h : aBuildSlice P t len e parts.toList n k)
 (he : ∀ r w1, (Instr.buildSlice t len (parts.map fun p => (p.1, ev p.2))).run P w = .ok r w1 → (execOp a.eval o).run P w = .ok (.value r) w1) : ∃ z ws rs, k z ws rs ∧ OpOk P B H w ρ n a o z ws := by
 unfold aBuildSlice at h
 split at h
 ·rename_i el s ht
  split at h
  ·rename_i z hz
   obtain ⟨hzw, hzg, hbig, h⟩ := h
   split at h
   ·rename_i l hl
    obtain ⟨u1, u2⟩ := tyElem_inv ht
    obtain ⟨i, zv, g1, g2, rfl⟩ := tyZero_inv hz
    have hzs : zv.cells.size = s := by rw [← hzw, cst_wid]
    have hwid : ∀ y ∈ List.replicate len (cst zv), y.wid = s := fun y hy => by rw [List.eq_of_mem_replicate hy]; exact hzw
    have hlen := V.atomsL_length hwid
    rw [List.length_replicate] at hlen
    have hstart : RepC w (own B ρ H) ρ (V.atomsL (List.replicate len (cst zv))) ((Array.range (len * s)).map (zv.cells[· % zv.cells.size]!)) := by
     refine ⟨by rw [hlen]; simp, fun j y u hy hu => ?_⟩
     have hjl : j < len * s := by rw [← hlen]; exact (List.getElem?_eq_some_iff.1 hy).1
     have hpos : 0 < s := by
      rcases Nat.eq_zero_or_pos s with e0 | e0
      ·rw [e0] at hjl; omega
      ·exact e0
     have hdm : j / s * s + j % s = j := by rw [Nat.mul_comm]; exact Nat.div_add_mod j s
     have hmod : j % s < s := Nat.mod_lt _ hpos
     have hdl : j / s < len := by rw [Nat.div_lt_iff_lt_mul hpos]; omega
     have hy' := V.atomsL_get hwid (i := j / s) (x := cst zv) (by rw [List.getElem?_replicate, if_pos hdl]) hmod
     rw [hdm, hy, cst_atoms] at hy'
     have hlt : j % s < zv.cells.size := by omega
     have hu2 : u = zv.cells[j % s] := by
      simp only [Array.getElem?_map, Array.getElem?_range, hjl, if_true, Option.map_some, Option.some.injEq] at hu
      rw [hzs] at hu
      rw [← hu]
      simp [hlt]
     simp [hlt] at hy'
     subst hy'
     rw [hu2]
     exact .raw _ _
    obtain ⟨cs, k1, k2, k3, k4⟩ := fillL_ok henv parts.toList _ l _ hl (by simp) hwid hstart
    have hll := V.atomsL_length k4
    refine ⟨_, _, _, h, OpOk.push (arr := cs) hH hf (he (.slice (some ⟨w.heap.size, 0, none⟩) len len) (w.alloc (.cells cs el)) ?_) rfl rfl rfl rfl k4 (Nat.le_of_eq k2.1) k2.2 fun O ρ' hn => RepW.of_atom ?_ rfl rfl⟩
    ·have hb : ¬ (16777216 < len * s) := by omega
     simp only [Instr.buildSlice, Sem.run_bind, run_underlying u1, Result.andThen_ok, run_size u2]
     by_cases h0 : len * s = 0
     ·rw [h0, Array.range_zero', Array.map_empty] at k1
      simp [hb, h0, Array.range_zero', k1, newRow]
     ·simp [hb, h0, zeroValue, typeInfo, g1, g2]
      simp [k1, newRow]
    ·have := RepA.sl (w := w.alloc (.cells cs el)) (O := O) ρ' n s 0 len w.heap.size len cs el (0, 0) hn (heap_alloc_new w _) (Nat.le_refl _) (by rw [← k2.1, hll, k3]; simp)
     simpa using this
   ·exact h.elim
  ·exact h.elim
 ·exact h.elim
end

def byteAt (s : ByteArray) (i : Nat) : Int := ((s.data[i]?).getD 0).toNat
def aIndex (P : Program) (t : TypeId) (x ix : V) (k : V → Prop) : Prop :=
 match ix with
 | .raw (.int _ i) => (match x with
   | .raw (.string s) => P.underlying t = some .string ∧ 0 ≤ i ∧ i < s.size ∧ k (.raw (.int .u8 (byteAt s i.toNat)))
   | _ => match tyArr P t with
     | some (m, el, s) => x.isAgg = true ∧ 0 ≤ i ∧ i < m ∧ (match ldV P el x (i.toNat * s) with
       | some y => k y
       | none => False)
     | none => False)
 | _ => False
def cvI (k : IntKind) (a : Int) : Int :=
 match k with
 | .u8 => a % 256
 | .u32 => a % 4294967296
 | .u64 => a % 18446744073709551616
 | k => k.wrap a
def aConv (P : Program) (t : TypeId) (x : V) (k : V → Prop) : Prop :=
 match x with
 | .raw (.int _ a) => (match P.underlying t with
   | some (.int kd) => k (.raw (.int kd (cvI kd a)))
   | _ => False)
 | _ => False
def aExtract (x : V) (i : Nat) (k : V → Prop) : Prop :=
 match x with
 | .tup l => (match l[i]? with
   | some y => (∀ m, y ≠ .tup m) ∧ k y
   | none => False)
 | _ => False
def aPick (c x y : V) (k : V → Prop) : Prop :=
 match c with
 | .raw (.bool b) => (match x, y with
   | .raw (.bool p), .raw (.bool q) => k (.raw (.bool (bif b then p else q)))
   | x, y => (b = true → k x) ∧ (b = false → k y))
 | _ => False
def aNil (x : V) (k : V → Prop) : Prop :=
 match x with
 | .ptr .. => k x
 | .pel _ => k x
 | .clo (.func _) _ _ => k x
 | _ => False
section
variable {P : Program} {w : World} {O : Nat → Prop} {ρ : Nat → Option Nat}
theorem cvI_ok (k : IntKind) (a : Int) : k.wrap a = cvI k a := by
 cases k <;> simp [cvI, IntKind.wrap, IntKind.bits, IntKind.signed]
theorem aConv_ok {src t : TypeId} {x : V} {u : Value} {k} (hx : RepV w O ρ x u) (h : aConv P t x k) (hs : ∃ d, P.underlying src = some d) : ∃ z, k z ∧ ∃ r, (convert src t u).run P w = .ok r w ∧ RepV w O ρ z r := by
 unfold aConv at h
 split at h
 ·rename_i kk a
  have e := RepW.raw_inv hx
  subst e
  split at h
  ·rename_i kd hd
   obtain ⟨d, hd'⟩ := hs
   refine ⟨_, h, .int kd (cvI kd a), ?_, RepW.raw rfl⟩
   simp only [convert, Sem.run_bind, run_underlying hd', run_underlying hd, Result.andThen_ok]
   cases d <;> simp [Conv.intToInt, cvI_ok]
  ·exact h.elim
 ·exact h.elim
theorem aIndex_ok {t : TypeId} {x ix : V} {u v : Value} {k} (hx : RepV w O ρ x u) (hi : RepV w O ρ ix v) (h : aIndex P t x ix k) : ∃ z, k z ∧ ∃ r, (Instr.index t u v).run P w = .ok r w ∧ RepV w O ρ z r := by
 unfold aIndex at h
 split at h
 ·rename_i kk i
  have e := RepW.raw_inv hi
  subst e
  split at h
  ·rename_i s
   have e := RepW.raw_inv hx
   subst e
   obtain ⟨ht, h0, h1, h⟩ := h
   refine ⟨_, h, .int .u8 (byteAt s i.toNat), ?_, RepW.raw rfl⟩
   have hlt : i.toNat < s.size := by omega
   have hb : s[i.toNat]? = some s[i.toNat] := by simp [hlt]
   simp only [Instr.index, asIntOf, Sem.run_bind, Sem.run_pure, Result.andThen_ok, run_underlying ht, if_pos h0, hb]
   have : byteAt s i.toNat = (s[i.toNat].toNat : Int) := by
    unfold byteAt
    have h2 : i.toNat < s.data.size := hlt
    rw [Array.getElem?_eq_getElem h2]
    rfl
   rw [this]
  ·split at h
   ·rename_i m el s ht
    obtain ⟨ha, h0, h1, h⟩ := h
    obtain ⟨t1, t2⟩ := tyArr_inv ht
    have hW : RepW w O ρ x u := by cases x <;> first | exact hx | simp [V.isAgg] at ha
    obtain ⟨cs, rfl, c1, c2⟩ := (RepW.agg_iff ha).1 hW
    split at h
    ·rename_i y hy
     unfold ldV at hy
     rw [t2] at hy
     cases hg : tyAgg P el with
     | none => rw [hg] at hy; cases hy
     | some g =>
       rw [hg] at hy
       cases g with
       | true =>
         simp only at hy
         split at hy
         ·rename_i hfit
          injection hy with hy
          subst hy
          obtain ⟨g1, g2⟩ := V.sub_spec x (i.toNat * s) s
          refine ⟨_, h, .agg (cs.extract (i.toNat * s) (i.toNat * s + s)), ?_, RepV.of_W ((RepW.agg_iff g1).2 ⟨_, rfl, ?_, ?_⟩) (fun l e => by rw [e] at g1; simp [V.isAgg] at g1)⟩
          ·simp only [Instr.index, asIntOf, Sem.run_bind, Sem.run_pure, Result.andThen_ok, run_underlying t1]
           rw [if_pos ⟨h0, h1⟩]
           simp [run_size t2, part, run_isAgg hg]
          ·rw [g2, List.length_take, List.length_drop, Array.size_extract, c1]; unfold V.wid at hfit; omega
          ·intro j y v hy hv
           rw [g2, List.getElem?_take] at hy
           split at hy
           ·rw [List.getElem?_drop] at hy
            refine c2 _ y v hy ?_
            rw [Array.getElem?_extract] at hv
            split at hv
            ·exact hv
            ·cases hv
           ·cases hy
         ·cases hy
       | false =>
         simp only at hy
         cases hz : x.atoms[i.toNat * s]? with
         | none => rw [hz] at hy; cases hy
         | some z =>
           rw [hz] at hy
           simp only at hy
           split at hy
           ·rename_i hk
            injection hy with hy
            subst hy
            have hlt : i.toNat * s < cs.size := by rw [← c1]; exact (List.getElem?_eq_some_iff.1 hz).1
            refine ⟨_, h, cs[i.toNat * s], ?_, RepV.of_W ((c2 _ z _ hz (Array.getElem?_eq_getElem hlt)).toW (V.atoms_flat x z (List.mem_of_getElem? hz)) hk) (fun l e => by subst e; simp [okStore] at hk)⟩
            simp only [Instr.index, asIntOf, Sem.run_bind, Sem.run_pure, Result.andThen_ok, run_underlying t1]
            rw [if_pos ⟨h0, h1⟩]
            simp [run_size t2, part, run_isAgg hg, hlt]
           ·cases hy
    ·exact h.elim
   ·exact h.elim
 ·exact h.elim
theorem aExtract_ok {x : V} {u : Value} {i : Nat} {k} (hx : RepV w O ρ x u) (h : aExtract x i k) : ∃ z, k z ∧ ∃ r, (Instr.extract u i).run P w = .ok r w ∧ RepV w O ρ z r := by
 unfold aExtract at h
 split at h
 ·rename_i l
  split at h
  ·rename_i y hy
   obtain ⟨vs, rfl, hl, hr⟩ := hx
   have hlt : i < vs.size := by rw [← hl]; exact (List.getElem?_eq_some_iff.1 hy).1
   exact ⟨_, h.2, vs[i], by simp [Instr.extract, hlt], RepV.of_W (hr i y _ hy (Array.getElem?_eq_getElem hlt)) h.1⟩
  ·exact h.elim
 ·exact h.elim
theorem aPick_ok {c x y : V} {u v t : Value} {k} (hc : RepV w O ρ c t) (hx : RepV w O ρ x u) (hy : RepV w O ρ y v) (h : aPick c x y k) : ∃ z, k z ∧ ∃ b, t = .bool b ∧ RepV w O ρ z (if b = true then u else v) := by
 unfold aPick at h
 split at h
 ·rename_i b
  have e := RepW.raw_inv hc
  subst e
  split at h
  ·have e1 := RepW.raw_inv hx
   have e2 := RepW.raw_inv hy
   subst e1 e2
   refine ⟨_, h, b, rfl, ?_⟩
   cases b <;> exact RepW.raw rfl
  ·cases b with
   | true => exact ⟨_, h.1 rfl, true, rfl, hx⟩
   | false => exact ⟨_, h.2 rfl, false, rfl, hy⟩
 ·exact h.elim
end
def sbL (s : ByteArray) : List Nat := s.data.toList.map UInt8.toNat
def V.bytes (l : List Nat) : List V := l.map fun (x : Nat) => V.raw (.int .u8 (x : Int))
def mkB (l : List Nat) : ByteArray := ⟨(l.map UInt8.ofNat).toArray⟩
def unB : List V → Option (List Nat)
 | [] => some []
 | .raw (.int .u8 n) :: l => (unB l).map (n.toNat :: ·)
 | _ => none
theorem unB_bytes (l : List Nat) : unB (V.bytes l) = some l := by
 induction l with
 | nil => rfl
 | cons x l ih => simp only [V.bytes, List.map_cons, unB] at ih ⊢; rw [ih]; simp
theorem unB_inv : ∀ {L : List V} {l : List Nat}, unB L = some l → ∃ zs : List Int, L = (zs.map (Value.int .u8)).map .raw ∧ l = zs.map Int.toNat
 | [], l, h => by simp only [unB, Option.some.injEq] at h; exact ⟨[], rfl, h.symm⟩
 | x :: L, l, h => by
   unfold unB at h
   split at h
   ·rename_i e; cases e
   ·rename_i n L' e
    injection e with e1 e2
    subst e1 e2
    cases hu : unB L with
    | none => rw [hu] at h; cases h
    | some l' =>
      rw [hu] at h
      simp only [Option.map_some, Option.some.injEq] at h
      obtain ⟨zs, h1, h2⟩ := unB_inv hu
      exact ⟨n :: zs, by rw [h1]; rfl, by rw [← h, h2]; rfl⟩
   ·cases h
theorem sbL_length (s : ByteArray) : (sbL s).length = s.size := by
 unfold sbL
 rw [List.length_map, Array.length_toList]
 rfl
def aConvK (P : Program) (s t : TypeId) (H : Hp) (x : V) (k : Kt) : Prop :=
 match x with
 | .raw (.int kk a) => aConv P t (.raw (.int kk a)) fun z => k z [] []
 | .raw (.string b) => (match P.underlying t with
   | some .string => k (.raw (.string b)) [] []
   | some (.slice e) => P.underlying s = some .string ∧ P.underlying e = some (.int .u8) ∧ k (.lst (V.bytes (sbL b))) [] []
   | _ => False)
 | x => match P.underlying s, P.underlying t with
   | some (.slice e), some .string => P.underlying e = some (.int .u8) ∧ (match aElems H x with
     | some (L, rs) => (match unB L with
       | some l => (∀ k e' o m, x = .sl k e' o m → e' = 1) ∧ k (.raw (.string (mkB l))) [] rs
       | none => False)
     | none => False)
   | _, _ => False
section
variable {P : Program} {B : Nat → Prop} {H : Hp} {w : World} {ρ : Nat → Option Nat} {n : Nat} {a : Act} {o : Oper}
theorem OpOk.foreign {v : Value} {w' : World} {x : V} {obj : Obj} (hH : HRep w (own B ρ H) ρ H) (hr : (execOp a.eval o).run P w = .ok (.value v) w')
 (h1 : w'.heap = w.heap.push obj) (h2 : w'.os = w.os) (h3 : w'.tape = w.tape) (h4 : w'.output = w.output) (hx : RepV w' (own B ρ H) ρ x v) : OpOk P B H w ρ n a o x [] := by
 intro next Q h
 unfold Oper.wp
 rw [hr]
 have old : ∀ b, b < w.heap.size → w'.heap[b]? = w.heap[b]? := fun b hb => by
  rw [h1, Array.getElem?_push, if_neg (by omega)]
 have hst : Step H w ρ H w' ρ := ⟨fun _ _ h => h, fun b hb _ => old b hb, fun k x b h e => .inl ⟨k, x, h, e⟩, by rw [h1]; simp, fun b arr t fr e => ⟨arr, t, fr, by rw [old b (Array.getElem?_eq_some_iff.1 e).1]; exact e, rfl⟩, h2, h3, h4⟩
 exact h v w' ρ hst (hH.mono (hst.ext B) (fun k x b e1 e2 => old b (hH.lt e1 e2)) fun _ _ _ _ h => h) (fun _ _ h => h) hx
theorem aConvK_ok {src t : TypeId} {x : V} {u : Value} {k : Kt} (hH : HRep w (own B ρ H) ρ H) (hf : ρ n = none) (hB : ∀ b, B b → b < w.heap.size) (hx : RepV w (own B ρ H) ρ x u) (h : aConvK P src t H x k) (hs : ∃ d, P.underlying src = some d)
 (he : ∀ r w1, (convert src t u).run P w = .ok r w1 → (execOp a.eval o).run P w = .ok (.value r) w1) : ∃ z ws rs, k z ws rs ∧ OpOk P B H w ρ n a o z ws := by
 unfold aConvK at h
 split at h
 ·obtain ⟨z, hz, r, h1, h2⟩ := aConv_ok (P := P) (w := w) (src := src) hx h hs
  exact ⟨_, _, _, hz, OpOk.value hH hf (he _ _ h1) h2⟩
 ·rename_i b
  have e := RepW.raw_inv hx
  subst e
  split at h
  ·rename_i hd
   obtain ⟨d, hd'⟩ := hs
   exact ⟨_, _, _, h, OpOk.value hH hf (he (.string b) w (by simp only [convert, Sem.run_bind, run_underlying hd', run_underlying hd, Result.andThen_ok]; cases d <;> simp)) (RepW.raw rfl)⟩
  ·rename_i e hd
   obtain ⟨g1, g2, h⟩ := h
   refine ⟨_, _, _, h, OpOk.foreign (obj := .cells (bytesRow b (grownCap w b.size 0 e)) e ((bytesRow b (grownCap w b.size 0 e)).size, (bytesRow b (grownCap w b.size 0 e)).size + 1)) hH (he _ _ (run_bytes_of_string w src t e b g1 hd g2)) rfl rfl rfl rfl ?_⟩
   refine RepV.of_W (RepW.of_atom ?_ rfl rfl) (by simp)
   have hlen : (V.bytes (sbL b)).length = b.size := by simp [V.bytes, sbL_length]
   by_cases h0 : b.size = 0
   ·have e0 : V.bytes (sbL b) = [] := List.eq_nil_of_length_eq_zero (by rw [hlen, h0])
    rw [e0, h0]
    exact .nil _ _ _
   ·have hraw : V.bytes (sbL b) = ((sbL b).map fun (x : Nat) => Value.int .u8 (x : Int)).map .raw := by simp [V.bytes]
    have hat : V.atomsL (V.bytes (sbL b)) = V.bytes (sbL b) := by rw [hraw]; exact atomsL_raws _
    have hno : ¬ own B ρ H w.heap.size := by
     rintro (hb | ⟨k', x', e1, e2⟩)
     ·have := hB _ hb; omega
     ·have := hH.lt e1 e2; omega
    have hl : RepA (w.drew.alloc (.cells (bytesRow b (grownCap w b.size 0 e)) e ((bytesRow b (grownCap w b.size 0 e)).size, (bytesRow b (grownCap w b.size 0 e)).size + 1))) (own B ρ H) ρ (.lst (V.bytes (sbL b))) (.slice (some ⟨w.heap.size, 0, none⟩) (V.bytes (sbL b)).length (grownCap w b.size 0 e)) := by
     refine RepA.lst _ _ w.heap.size 0 _ ((sbL b).map fun (x : Nat) => Value.int .u8 (x : Int)) (fun e0 => h0 (by rw [← hlen, e0]; rfl)) (by rw [hlen]; exact grownCap_ge _ _ _ _) ?_ hno ⟨1, fun y hy => ?_⟩ (fun j v hj => ?_) (by rw [hat]; simp [V.bytes]) (fun j y v hy hv => ?_)
     ·show w.heap.size < (w.heap.push _).size
      simp
     ·obtain ⟨x, _, rfl⟩ := List.mem_map.1 hy
      rfl
     ·have hjl : j < b.data.size := by
       have := (List.getElem?_eq_some_iff.1 hj).1
       simpa [sbL] using this
      have h1 := World.cell?_alloc_mark w.drew (bytesRow b (grownCap w b.size 0 e)) e ((bytesRow b (grownCap w b.size 0 e)).size, (bytesRow b (grownCap w b.size 0 e)).size + 1) j
      have h2 : w.drew.heap.size = w.heap.size := rfl
      rw [h2] at h1
      rw [Nat.zero_add, h1, bytesRow_at b _ j hjl, ← hj]
      simp only [sbL, List.map_map, List.getElem?_map, Array.getElem?_toList, Array.getElem?_eq_getElem hjl]
      rfl
     ·rw [hat, hraw, List.getElem?_map, hv] at hy
      simp only [Option.map_some, Option.some.injEq] at hy
      subst hy
      exact .raw _ _
    rw [hlen] at hl
    exact hl
  ·exact h.elim
 ·rename_i hn1 hn2
  split at h
  ·rename_i e g1 g2
   obtain ⟨g3, h⟩ := h
   split at h
   ·rename_i L rs hel
    split at h
    ·rename_i l hl
     obtain ⟨hsl, h⟩ := h
     obtain ⟨zs, rfl, rfl⟩ := unB_inv hl
     have hw : allWid ((zs.map (Value.int .u8)).map V.raw) 1 := fun y hy => by
      obtain ⟨v, hv, rfl⟩ := List.mem_map.1 hy
      rfl
     obtain ⟨A, c, news, rfl, hc, hcl, hsrc, hst, hnil⟩ := elems_src (P := P) hH hx hel hw hsl
     have hat := atomsL_raws (zs.map (Value.int .u8))
     have hnews : news = zs.map (Value.int .u8) := by
      refine List.ext_getElem? fun j => ?_
      have h1 := hcl.len
      rw [hat] at h1
      by_cases hj : j < news.length
      ·have h2 := hcl.rep j (.raw ((zs.map (Value.int .u8))[j]'(by simpa using (by omega : j < ((zs.map (Value.int .u8)).map V.raw).length)))) news[j] (by rw [hat, List.getElem?_map, List.getElem?_eq_getElem (by simpa using (by omega : j < ((zs.map (Value.int .u8)).map V.raw).length))]; rfl) (List.getElem?_eq_getElem hj)
       have h3 := RepW.rawOf h2
       rw [List.getElem?_eq_getElem hj, h3, ← List.getElem?_eq_getElem]
      ·rw [List.getElem?_eq_none (by omega), List.getElem?_eq_none (by simp at h1 ⊢; omega)]
     have hmk : mkB (zs.map Int.toNat) = strOfNums zs := by simp [mkB, strOfNums, Function.comp_def]
     refine ⟨_, _, _, h, OpOk.value hH hf (he (.string (mkB (zs.map Int.toNat))) w ?_) (RepW.raw rfl)⟩
     rw [hmk]
     cases A with
     | none =>
       have := hnil rfl
       simp only [List.map_eq_nil_iff] at this
       subst this
       exact run_convert_bytes_nil w src e g1 g3 _ _ t g2
     | some A =>
       obtain ⟨b, off, hA⟩ : ∃ b off, (zs.map (Value.int .u8)).map V.raw ≠ [] → A = ⟨b, off, none⟩ ∧ Stored w b off news := by
        by_cases h0 : (zs.map (Value.int .u8)).map V.raw = []
        ·exact ⟨0, 0, fun h => absurd h0 h⟩
        ·obtain ⟨b, off, h1, h2⟩ := hst h0
         exact ⟨b, off, fun _ => ⟨by injection h1, h2⟩⟩
       by_cases h0 : zs = []
       ·subst h0
        rw [run_convert_bytes_string w src t e _ _ _ g1 g3 g2]
        simp [Conv.bytesToString, loadCells, loadCellsFrom, strOfNums]
        rfl
       ·obtain ⟨rfl, hS⟩ := hA (by simpa using h0)
        have := run_convert_bytes_arg (P := P) w src e g1 g3 b off zs.length c zs rfl (fun i hi => by
         have := hS i (.int .u8 zs[i]) (by rw [hnews]; simp [hi])
         rw [this]
         simp [List.getD, hi]) t g2
        simpa using this
    ·exact h.elim
   ·exact h.elim
  ·exact h.elim
end
end Go.Proofs.YtfbogelmgdojgaaGreat

