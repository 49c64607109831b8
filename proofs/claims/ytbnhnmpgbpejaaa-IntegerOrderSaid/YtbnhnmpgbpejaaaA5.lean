/- Abstract operations: addresses, fields, new variables, arithmetic. No program in sight. -/
import Derived.Test.YtbnhnmpgbpejaaaA4
import Derived.IntWalk
namespace Go.Proofs.Ytbnhnmpgbpejaaa
set_option linter.unusedSimpArgs false
set_option linter.unusedVariables false
open Go.RowKit

abbrev Kt := V → List (Nat × Option Blk) → List Nat → Prop

def aFieldAddr (P : Program) (t : TypeId) (p : V) (f : Nat) (k : V → Prop) : Prop :=
  match tyField P t f with
  | some (fo, s, g) => s ≠ 0 ∧ (match p with
    | .ptr b e i off => k (.ptr b e i (off + fo))
    | .pel x => if g = true then fo + s ≤ x.wid ∧ k (.pel (x.sub fo s)) else s = 1 ∧ (match x.atoms[fo]? with
      | some y => k (.pel y)
      | none => False)
    | _ => False)
  | none => False
def aField (P : Program) (t : TypeId) (x : V) (f : Nat) (k : V → Prop) : Prop :=
  match tyField P t f with
  | some (fo, s, g) => x.isAgg = true ∧ (if g = true then fo + s ≤ x.wid ∧ k (x.sub fo s) else (match x.atoms[fo]? with
      | some y => okStore y = true ∧ k y
      | none => False))
  | none => False
def aIndexAddr (P : Program) (t : TypeId) (p ix : V) (k : V → Prop) : Prop :=
  match ix with
  | .raw (.int _ i) => match tyElem P t with
    | some (_, s) => (match p with
      | .sl b e o m => e = s ∧ 0 ≤ i ∧ i < m ∧ k (.ptr b e (o + i.toNat) 0)
      | .lst l => 0 ≤ i ∧ i < l.length ∧ (match l[i.toNat]? with
        | some y => y.wid = s ∧ k (.pel y)
        | none => False)
      | _ => False)
    | none => match tyArr P t with
      | some (m, _, s) => (match p with
        | .ptr b e j off => 0 ≤ i ∧ i < m ∧ k (.ptr b e j (off + i.toNat * s))
        | _ => False)
      | none => False
  | _ => False

section
variable {P : Program} {w : World} {O : Nat → Prop} {ρ : Nat → Option Nat}
theorem tyField_inv {t f fo s g} (h : tyField P t f = some (fo, s, g)) : ∃ fs fd, P.underlying t = some (.struct fs) ∧ fs[f]? = some fd ∧ fd.offset = fo ∧ tySize P fd.type = some s ∧ tyAgg P fd.type = some g := by
  unfold tyField at h
  split at h
  · rename_i fs hd
    split at h
    · rename_i fd hf
      split at h
      · rename_i s' g' hs hg
        injection h with h
        injection h with h1 h2
        injection h2 with h2 h3
        subst h1 h2 h3
        exact ⟨fs, fd, hd, hf, rfl, hs, hg⟩
      · cases h
    · cases h
  · cases h
theorem tyElem_inv {t e s} (h : tyElem P t = some (e, s)) : P.underlying t = some (.slice e) ∧ tySize P e = some s := by
  unfold tyElem at h
  split at h
  · rename_i e' hd
    cases hs : tySize P e' with
    | none => rw [hs] at h; cases h
    | some s' => rw [hs] at h; simp at h; obtain ⟨rfl, rfl⟩ := h; exact ⟨hd, hs⟩
  · cases h
theorem tyArr_inv {t m e s} (h : tyArr P t = some (m, e, s)) : P.underlying t = some (.array m e) ∧ tySize P e = some s := by
  unfold tyArr at h
  split at h
  · rename_i m' e' hd
    cases hs : tySize P e' with
    | none => rw [hs] at h; cases h
    | some s' => rw [hs] at h; simp at h; obtain ⟨rfl, rfl, rfl⟩ := h; exact ⟨hd, hs⟩
  · cases h
theorem run_fieldAt {t f fo s g b a} (h : tyField P t f = some (fo, s, g)) (hs : s ≠ 0) : (Instr.fieldAt t (.pointer (some ⟨b, a, none⟩)) f).run P w = .ok (.pointer (some ⟨b, a + fo, none⟩)) w := by
  obtain ⟨fs, fd, h1, h2, rfl, h4, h5⟩ := tyField_inv h
  simp [Instr.fieldAt, run_underlying h1, h2, Instr.sureAddr, fieldPlace, run_size h4, hs, Addr.add_lit]
theorem pel_part {x y : V} {off : Nat} {b a : Nat} {vs : List Value} (hb : b < w.heap.size) (hO : ¬ O b) (hs : Stored w b a vs) (hl : vs.length = x.atoms.length) (hr : ∀ (j : Nat) (y : V) (v : Value), x.atoms[j]? = some y → vs[j]? = some v → RepA w O (fun _ => none) y v)
    (hy : y.atoms = (x.atoms.drop off).take y.atoms.length) : RepA w O ρ (.pel y) (.pointer (some ⟨b, a + off, none⟩)) := by
  have hlen : y.atoms.length ≤ x.atoms.length - off := by
    have := congrArg List.length hy
    rw [List.length_take, List.length_drop] at this
    omega
  refine .pel _ _ _ _ ((vs.drop off).take y.atoms.length) hb hO (fun j v hj => ?_) (by rw [List.length_take, List.length_drop]; omega) fun j z v hz hv => ?_
  · rw [List.getElem?_take] at hj
    split at hj
    · rw [List.getElem?_drop] at hj
      rw [Nat.add_assoc]
      exact hs _ _ hj
    · cases hj
  · rw [List.getElem?_take] at hv
    split at hv
    · rename_i hjl
      rw [List.getElem?_drop] at hv
      rw [hy, List.getElem?_take, if_pos hjl, List.getElem?_drop] at hz
      exact hr _ z v hz hv
    · cases hv
theorem aFieldAddr_ok {t p f} {u : Value} {k} (hp : RepV w O ρ p u) (h : aFieldAddr P t p f k) : ∃ z, k z ∧ ∃ v, (Instr.fieldAt t u f).run P w = .ok v w ∧ RepV w O ρ z v := by
  unfold aFieldAddr at h
  split at h
  · rename_i fo s g ht
    obtain ⟨hs, h⟩ := h
    split at h
    · rename_i b e i off
      have hpa := RepW.atom hp (by rfl)
      cases hpa with
      | ptr _ _ _ _ _ c hc =>
      refine ⟨_, h, _, run_fieldAt ht hs, RepW.of_atom ?_ rfl rfl⟩
      rw [Nat.add_assoc]
      exact .ptr _ _ _ _ _ _ hc
    · rename_i x
      have hpa := RepW.atom hp (by rfl)
      cases hpa with
      | pel _ _ c a vs hb hO hst hl hr =>
      split at h
      · obtain ⟨hfit, h⟩ := h
        obtain ⟨g1, g2⟩ := V.sub_spec x fo s
        refine ⟨_, h, _, run_fieldAt ht hs, RepW.of_atom (pel_part (x := x) (off := fo) hb hO hst hl hr ?_) rfl rfl⟩
        rw [g2, List.length_take, List.length_drop, Nat.min_eq_left (by unfold V.wid at hfit; omega)]
      · obtain ⟨rfl, h⟩ := h
        split at h
        · rename_i y hy
          refine ⟨_, h, _, run_fieldAt ht hs, RepW.of_atom (pel_part (x := x) (off := fo) hb hO hst hl hr ?_) rfl rfl⟩
          have hlt := (List.getElem?_eq_some_iff.1 hy).1
          have ha := V.atoms_single (V.atoms_flat x y (List.mem_of_getElem? hy))
          rw [ha, List.length_singleton, List.take_one, List.head?_drop, hy]
          rfl
        · exact h.elim
    · exact h.elim
  · exact h.elim
theorem aField_ok {t x f} {u : Value} {k} (hx : RepV w O ρ x u) (h : aField P t x f k) : ∃ z, k z ∧ ∃ v, (Instr.field t u f).run P w = .ok v w ∧ RepV w O ρ z v := by
  unfold aField at h
  split at h
  · rename_i fo s g ht
    obtain ⟨ha, h⟩ := h
    have hW : RepW w O ρ x u := by cases x <;> first | exact hx | simp [V.isAgg] at ha
    obtain ⟨cs, rfl, h1, h2⟩ := (RepW.agg_iff ha).1 hW
    obtain ⟨fs, fd, t1, t2, rfl, t4, t5⟩ := tyField_inv ht
    split at h
    · rename_i hg
      subst hg
      obtain ⟨hfit, h⟩ := h
      obtain ⟨g1, g2⟩ := V.sub_spec x fd.offset s
      refine ⟨_, h, .agg (cs.extract fd.offset (fd.offset + s)), ?_, RepV.of_W ((RepW.agg_iff g1).2 ⟨_, rfl, ?_, ?_⟩) (fun l e => by rw [e] at g1; simp [V.isAgg] at g1)⟩
      · simp [Instr.field, run_underlying t1, t2, asAgg, part, run_isAgg t5, run_size t4]
      · rw [g2, List.length_take, List.length_drop, Array.size_extract, h1]; unfold V.wid at hfit; omega
      · intro i y v hy hv
        rw [g2, List.getElem?_take] at hy
        split at hy
        · rename_i his
          rw [List.getElem?_drop] at hy
          refine h2 _ y v hy ?_
          rw [Array.getElem?_extract] at hv
          split at hv
          · exact hv
          · cases hv
        · cases hy
    · rename_i hg
      have hg : g = false := by simpa using hg
      subst hg
      split at h
      · rename_i y hy
        obtain ⟨hk, h⟩ := h
        have hlt : fd.offset < cs.size := by rw [← h1]; exact (List.getElem?_eq_some_iff.1 hy).1
        refine ⟨_, h, cs[fd.offset], ?_, RepV.of_W ((h2 _ y _ hy (Array.getElem?_eq_getElem hlt)).toW (V.atoms_flat x y (List.mem_of_getElem? hy)) hk) (fun l e => by subst e; simp [okStore] at hk)⟩
        simp [Instr.field, run_underlying t1, t2, asAgg, part, run_isAgg t5, hlt]
      · exact h.elim
  · exact h.elim
theorem run_indexAt {t e s b a kk} {i : Int} {m c : Nat} (h : tyElem P t = some (e, s)) (h0 : 0 ≤ i) (hi : i < m) : (Instr.indexAt t (.slice (some ⟨b, a, none⟩) m c) (.int kk i)).run P w = .ok (.pointer (some ⟨b, a + i.toNat * s, none⟩)) w := by
  obtain ⟨h1, h2⟩ := tyElem_inv h
  simp [Instr.indexAt, asIntOf, run_underlying h1, h0, hi, run_size h2, Addr.add_lit]
theorem run_indexArr {t e s b a kk} {i : Int} {m : Nat} (h : tyArr P t = some (m, e, s)) (h0 : 0 ≤ i) (hi : i < m) : (Instr.indexAt t (.pointer (some ⟨b, a, none⟩)) (.int kk i)).run P w = .ok (.pointer (some ⟨b, a + i.toNat * s, none⟩)) w := by
  obtain ⟨h1, h2⟩ := tyArr_inv h
  simp [Instr.indexAt, asIntOf, run_underlying h1, h0, hi, run_size h2, Addr.add_lit, Instr.sureAddr]
theorem aIndexAddr_ok {t p ix} {u v : Value} {k} (hp : RepV w O ρ p u) (hi : RepV w O ρ ix v) (h : aIndexAddr P t p ix k) : ∃ z, k z ∧ ∃ r, (Instr.indexAt t u v).run P w = .ok r w ∧ RepV w O ρ z r := by
  unfold aIndexAddr at h
  split at h
  · rename_i kk i
    have hv := RepW.raw_inv hi
    subst hv
    split at h
    · rename_i e s ht
      split at h
      · rename_i b e' o m
        obtain ⟨rfl, h0, hm, h⟩ := h
        have hpa := RepW.atom hp (by rfl)
        cases hpa with
        | sl _ _ _ _ _ c cap arr t' fr hc hb hn hcap =>
        refine ⟨_, h, _, run_indexAt ht h0 hm, RepW.of_atom ?_ rfl rfl⟩
        have := RepA.ptr (w := w) (O := O) ρ b e' (o + i.toNat) 0 c hc
        rw [Nat.add_zero, Nat.add_mul] at this
        exact this
      · rename_i l
        obtain ⟨h0, hm, h⟩ := h
        split at h
        · rename_i y hy
          obtain ⟨rfl, h⟩ := h
          have hpa := RepW.atom hp (by rfl)
          cases hpa with
          | nil => simp at hy
          | lst _ _ c a cap vs g0 hcap hb hO hu hst hl hr =>
          refine ⟨_, h, _, run_indexAt ht h0 hm, RepW.of_atom ?_ rfl rfl⟩
          obtain ⟨e', hu⟩ := hu
          have hye : y.wid = e' := hu y (List.mem_of_getElem? hy)
          have hlen := V.atomsL_length hu
          have hil := (List.getElem?_eq_some_iff.1 hy).1
          have hbig : i.toNat * e' + e' ≤ l.length * e' := by
            have := Nat.mul_le_mul_right e' (show i.toNat + 1 ≤ l.length by omega)
            rw [Nat.add_mul] at this; omega
          rw [hye]
          have hya : y.atoms.length = e' := hye
          refine .pel _ _ _ _ ((vs.drop (i.toNat * e')).take e') hb hO (fun j v hj => ?_) (by rw [List.length_take, List.length_drop]; omega) fun j z v hz hv => ?_
          · rw [List.getElem?_take] at hj
            split at hj
            · rw [List.getElem?_drop] at hj
              rw [Nat.add_assoc]
              exact hst _ _ hj
            · cases hj
          · rw [List.getElem?_take] at hv
            split at hv
            · rename_i hjl
              rw [List.getElem?_drop] at hv
              refine hr _ z v ?_ hv
              rw [V.atomsL_get hu hy hjl]
              exact hz
            · cases hv
        · exact h.elim
      · exact h.elim
    · split at h
      · rename_i m e s ht
        split at h
        · rename_i b e' j off
          obtain ⟨h0, hm, h⟩ := h
          have hpa := RepW.atom hp (by rfl)
          cases hpa with
          | ptr _ _ _ _ _ c hc =>
          refine ⟨_, h, _, run_indexArr ht h0 hm, RepW.of_atom ?_ rfl rfl⟩
          rw [Nat.add_assoc]
          exact .ptr _ _ _ _ _ _ hc
        · exact h.elim
      · exact h.elim
  · exact h.elim
end

/-- Arithmetic. -/
def aArith (op : BinOp) (k : IntKind) (a b : Int) (K : V → Prop) : Prop :=
  match op, k with
  | .add, .i64 => (-9223372036854775808 ≤ a + b ∧ a + b ≤ 9223372036854775807) ∧ K (.raw (.int .i64 (a + b)))
  | .sub, .i64 => (-9223372036854775808 ≤ a - b ∧ a - b ≤ 9223372036854775807) ∧ K (.raw (.int .i64 (a - b)))
  | .mul, .i64 => (-9223372036854775808 ≤ a * b ∧ a * b ≤ 9223372036854775807) ∧ K (.raw (.int .i64 (a * b)))
  | .add, .u64 => (0 ≤ a + b ∧ a + b ≤ 18446744073709551615) ∧ K (.raw (.int .u64 (a + b)))
  | .mul, .u64 => (0 ≤ a * b ∧ a * b ≤ 18446744073709551615) ∧ K (.raw (.int .u64 (a * b)))
  | .sub, .u64 => K (.raw (.int .u64 ((a - b) % 18446744073709551616)))
  | .add, .u32 => K (.raw (.int .u32 ((a + b) % 4294967296)))
  | .sub, .u32 => K (.raw (.int .u32 ((a - b) % 4294967296)))
  | .mul, .u32 => K (.raw (.int .u32 ((a * b) % 4294967296)))
  | .add, .u8 => K (.raw (.int .u8 ((a + b) % 256)))
  | .sub, .u8 => K (.raw (.int .u8 ((a - b) % 256)))
  | .quo, k => (0 ≤ a ∧ a ≤ k.max ∧ 1 ≤ b) ∧ K (.raw (.int k (a / b)))
  | .rem, k => (0 ≤ a ∧ 1 ≤ b) ∧ K (.raw (.int k (a % b)))
  | .and, k => K (.raw (.int k (bits .and k a b)))
  | .or, k => K (.raw (.int k (bits .or k a b)))
  | .xor, k => K (.raw (.int k (bits .xor k a b)))
  | .eql, _ => K (.raw (.bool (a == b)))
  | .neq, _ => K (.raw (.bool (a != b)))
  | .lss, _ => K (.raw (.bool (decide (a < b))))
  | .leq, _ => K (.raw (.bool (decide (a ≤ b))))
  | .gtr, _ => K (.raw (.bool (decide (b < a))))
  | .geq, _ => K (.raw (.bool (decide (b ≤ a))))
  | _, _ => False
def aStr (op : BinOp) (a b : ByteArray) (K : V → Prop) : Prop :=
  match op with
  | .add => a.size + b.size ≤ 9223372036854775807 ∧ K (.raw (.string (a ++ b)))
  | .eql => K (.raw (.bool (a.toList == b.toList)))
  | .neq => K (.raw (.bool (!(a.toList == b.toList))))
  | _ => False
def nilB (P : Program) (op : BinOp) (t : TypeId) (b : Bool) (K : V → Prop) : Prop :=
  match op with
  | .eql => (∃ e, P.underlying t = some (.slice e)) ∧ K (.raw (.bool b))
  | .neq => (∃ e, P.underlying t = some (.slice e)) ∧ K (.raw (.bool (!b)))
  | _ => False
def aBin (P : Program) (op : BinOp) (t : TypeId) (x y : V) (K : V → Prop) : Prop :=
  match x, y with
  | .raw (.int k a), .raw (.int k' b) =>
    match op with
    | .shl => 0 ≤ b ∧ b < k.bits ∧ K (.raw (.int k (k.wrap (a * 2 ^ b.toNat))))
    | .shr => 0 ≤ b ∧ b < k.bits ∧ K (.raw (.int k (a / 2 ^ b.toNat)))
    | op => k = k' ∧ aArith op k a b K
  | .raw (.string a), .raw (.string b) => aStr op a b K
  | .raw (.bool a), .raw (.bool b) =>
    match op with
    | .eql => P.underlying t = some .bool ∧ K (.raw (.bool (a == b)))
    | .neq => P.underlying t = some .bool ∧ K (.raw (.bool (a != b)))
    | _ => False
  | .lst (_ :: _), .raw (.slice none 0 0) => nilB P op t false K
  | .sl _ _ _ _, .raw (.slice none 0 0) => nilB P op t false K
  | .raw (.slice none 0 0), .raw (.slice none 0 0) => nilB P op t true K
  | _, _ => False
def aUn (op : UnOp) (x : V) (K : V → Prop) : Prop :=
  match op, x with
  | .not, .raw (.bool b) => K (.raw (.bool (!b)))
  | .neg, .raw (.int .i64 a) => (-9223372036854775808 ≤ a ∧ a ≤ 9223372036854775807) ∧ K (.raw (.int .i64 (if a = -9223372036854775808 then a else -a)))
  | .neg, .raw (.int k a) => K (.raw (.int k (k.wrap (0 - a))))
  | .xor, .raw (.int k a) => K (.raw (.int k (bits .xor k (if k.signed then -1 else k.max) a)))
  | _, _ => False
end Go.Proofs.Ytbnhnmpgbpejaaa
