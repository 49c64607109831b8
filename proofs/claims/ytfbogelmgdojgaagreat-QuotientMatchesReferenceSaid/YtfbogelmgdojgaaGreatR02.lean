/- Texts A5 A6 A7 in one. -/
import Derived.Test.YtfbogelmgdojgaaGreatR01
import Derived.IntWalk
import Derived.Lib.SliceRun
/- Abstract operations: addresses, fields, new variables, arithmetic. No program in sight. -/
namespace Go.Proofs.YtfbogelmgdojgaaGreat
set_option linter.unusedSimpArgs false
set_option linter.unusedVariables false
open Go.RowKit

abbrev Kt := V → List (Nat × Option Blk) → List Nat → Prop

def aFieldAddr (P : Program) (t : TypeId) (p : V) (f : Nat) (k : V → Prop) : Prop :=
 match tyField P t f with
 | some (fo, s, g) => s ≠ 0 ∧ (match p with
   | .ptr b e i off => k (.ptr b e i (off + fo))
   | .pel x => if g = true then fo + s ≤ x.wid ∧ k (.pel (x.sub fo s)) else s = 1 ∧ (match x.atoms[fo]? with
     | some y => k (.pel y)
     | none => False)
   | _ => False)
 | none => False
def aField (P : Program) (t : TypeId) (x : V) (f : Nat) (k : V → Prop) : Prop :=
 match tyField P t f with
 | some (fo, s, g) => x.isAgg = true ∧ (if g = true then fo + s ≤ x.wid ∧ k (x.sub fo s) else (match x.atoms[fo]? with
  | some y => okStore y = true ∧ k y
  | none => False))
 | none => False
def aIndexAddr (P : Program) (t : TypeId) (p ix : V) (k : V → Prop) : Prop :=
 match ix with
 | .raw (.int _ i) => match tyElem P t with
   | some (_, s) => (match p with
     | .sl b e o m => e = s ∧ 0 ≤ i ∧ i < m ∧ k (.ptr b e (o + i.toNat) 0)
     | .lst l => 0 ≤ i ∧ i < l.length ∧ (match l[i.toNat]? with
       | some y => y.wid = s ∧ k (.pel y)
       | none => False)
     | _ => False)
   | none => match tyArr P t with
     | some (m, el, s) => (match p with
       | .ptr b e j off => 0 ≤ i ∧ i < m ∧ k (.ptr b e j (off + i.toNat * s))
       | .pel x => (0 ≤ i ∧ i < m) ∧ (if tyAgg P el = some true then i.toNat * s + s ≤ x.wid ∧ k (.pel (x.sub (i.toNat * s) s)) else s = 1 ∧ (match x.atoms[i.toNat]? with
         | some y => k (.pel y)
         | none => False))
       | _ => False)
     | none => False
 | _ => False

section
variable {P : Program} {w : World} {O : Nat → Prop} {ρ : Nat → Option Nat}
theorem tyField_inv {t f fo s g} (h : tyField P t f = some (fo, s, g)) : ∃ fs fd, P.underlying t = some (.struct fs) ∧ fs[f]? = some fd ∧ fd.offset = fo ∧ tySize P fd.type = some s ∧ tyAgg P fd.type = some g := by
 unfold tyField at h
 split at h
 ·rename_i fs hd
  split at h
  ·rename_i fd hf
   split at h
   ·rename_i s' g' hs hg
    injection h with h
    injection h with h1 h2
    injection h2 with h2 h3
    subst h1 h2 h3
    exact ⟨fs, fd, hd, hf, rfl, hs, hg⟩
   ·cases h
  ·cases h
 ·cases h
theorem tyElem_inv {t e s} (h : tyElem P t = some (e, s)) : P.underlying t = some (.slice e) ∧ tySize P e = some s := by
 unfold tyElem at h
 split at h
 ·rename_i e' hd
  cases hs : tySize P e' with
  | none => rw [hs] at h; cases h
  | some s' => rw [hs] at h; simp at h; obtain ⟨rfl, rfl⟩ := h; exact ⟨hd, hs⟩
 ·cases h
theorem tyArr_inv {t m e s} (h : tyArr P t = some (m, e, s)) : P.underlying t = some (.array m e) ∧ tySize P e = some s := by
 unfold tyArr at h
 split at h
 ·rename_i m' e' hd
  cases hs : tySize P e' with
  | none => rw [hs] at h; cases h
  | some s' => rw [hs] at h; simp at h; obtain ⟨rfl, rfl, rfl⟩ := h; exact ⟨hd, hs⟩
 ·cases h
theorem run_fieldAt {t f fo s g b a} (h : tyField P t f = some (fo, s, g)) (hs : s ≠ 0) : (Instr.fieldAt t (.pointer (some ⟨b, a, none⟩)) f).run P w = .ok (.pointer (some ⟨b, a + fo, none⟩)) w := by
 obtain ⟨fs, fd, h1, h2, rfl, h4, h5⟩ := tyField_inv h
 simp [Instr.fieldAt, run_underlying h1, h2, Instr.sureAddr, fieldPlace, run_size h4, hs, Addr.add_lit]
theorem pel_part {x y : V} {off : Nat} {b a : Nat} {vs : List Value} (hb : b < w.heap.size) (hO : ¬ O b) (hs : Stored w b a vs) (hl : vs.length = x.atoms.length) (hr : ∀ (j : Nat) (y : V) (v : Value), x.atoms[j]? = some y → vs[j]? = some v → RepA w O (fun _ => none) y v)
 (hy : y.atoms = (x.atoms.drop off).take y.atoms.length) : RepA w O ρ (.pel y) (.pointer (some ⟨b, a + off, none⟩)) := by
 have hlen : y.atoms.length ≤ x.atoms.length - off := by
  have := congrArg List.length hy
  rw [List.length_take, List.length_drop] at this
  omega
 refine .pel _ _ _ _ ((vs.drop off).take y.atoms.length) hb hO (fun j v hj => ?_) (by rw [List.length_take, List.length_drop]; omega) fun j z v hz hv => ?_
 ·rw [List.getElem?_take] at hj
  split at hj
  ·rw [List.getElem?_drop] at hj
   rw [Nat.add_assoc]
   exact hs _ _ hj
  ·cases hj
 ·rw [List.getElem?_take] at hv
  split at hv
  ·rename_i hjl
   rw [List.getElem?_drop] at hv
   rw [hy, List.getElem?_take, if_pos hjl, List.getElem?_drop] at hz
   exact hr _ z v hz hv
  ·cases hv
theorem aFieldAddr_ok {t p f} {u : Value} {k} (hp : RepV w O ρ p u) (h : aFieldAddr P t p f k) : ∃ z, k z ∧ ∃ v, (Instr.fieldAt t u f).run P w = .ok v w ∧ RepV w O ρ z v := by
 unfold aFieldAddr at h
 split at h
 ·rename_i fo s g ht
  obtain ⟨hs, h⟩ := h
  split at h
  ·rename_i b e i off
   have hpa := RepW.atom hp (by rfl)
   cases hpa with
   | ptr _ _ _ _ _ c hc =>
   refine ⟨_, h, _, run_fieldAt ht hs, RepW.of_atom ?_ rfl rfl⟩
   rw [Nat.add_assoc]
   exact .ptr _ _ _ _ _ _ hc
  ·rename_i x
   have hpa := RepW.atom hp (by rfl)
   cases hpa with
   | pel _ _ c a vs hb hO hst hl hr =>
   split at h
   ·obtain ⟨hfit, h⟩ := h
    obtain ⟨g1, g2⟩ := V.sub_spec x fo s
    refine ⟨_, h, _, run_fieldAt ht hs, RepW.of_atom (pel_part (x := x) (off := fo) hb hO hst hl hr ?_) rfl rfl⟩
    rw [g2, List.length_take, List.length_drop, Nat.min_eq_left (by unfold V.wid at hfit; omega)]
   ·obtain ⟨rfl, h⟩ := h
    split at h
    ·rename_i y hy
     refine ⟨_, h, _, run_fieldAt ht hs, RepW.of_atom (pel_part (x := x) (off := fo) hb hO hst hl hr ?_) rfl rfl⟩
     have hlt := (List.getElem?_eq_some_iff.1 hy).1
     have ha := V.atoms_single (V.atoms_flat x y (List.mem_of_getElem? hy))
     rw [ha, List.length_singleton, List.take_one, List.head?_drop, hy]
     rfl
    ·exact h.elim
  ·exact h.elim
 ·exact h.elim
theorem aField_ok {t x f} {u : Value} {k} (hx : RepV w O ρ x u) (h : aField P t x f k) : ∃ z, k z ∧ ∃ v, (Instr.field t u f).run P w = .ok v w ∧ RepV w O ρ z v := by
 unfold aField at h
 split at h
 ·rename_i fo s g ht
  obtain ⟨ha, h⟩ := h
  have hW : RepW w O ρ x u := by cases x <;> first | exact hx | simp [V.isAgg] at ha
  obtain ⟨cs, rfl, h1, h2⟩ := (RepW.agg_iff ha).1 hW
  obtain ⟨fs, fd, t1, t2, rfl, t4, t5⟩ := tyField_inv ht
  split at h
  ·rename_i hg
   subst hg
   obtain ⟨hfit, h⟩ := h
   obtain ⟨g1, g2⟩ := V.sub_spec x fd.offset s
   refine ⟨_, h, .agg (cs.extract fd.offset (fd.offset + s)), ?_, RepV.of_W ((RepW.agg_iff g1).2 ⟨_, rfl, ?_, ?_⟩) (fun l e => by rw [e] at g1; simp [V.isAgg] at g1)⟩
   ·simp [Instr.field, run_underlying t1, t2, asAgg, part, run_isAgg t5, run_size t4]
   ·rw [g2, List.length_take, List.length_drop, Array.size_extract, h1]; unfold V.wid at hfit; omega
   ·intro i y v hy hv
    rw [g2, List.getElem?_take] at hy
    split at hy
    ·rename_i his
     rw [List.getElem?_drop] at hy
     refine h2 _ y v hy ?_
     rw [Array.getElem?_extract] at hv
     split at hv
     ·exact hv
     ·cases hv
    ·cases hy
  ·rename_i hg
   have hg : g = false := by simpa using hg
   subst hg
   split at h
   ·rename_i y hy
    obtain ⟨hk, h⟩ := h
    have hlt : fd.offset < cs.size := by rw [← h1]; exact (List.getElem?_eq_some_iff.1 hy).1
    refine ⟨_, h, cs[fd.offset], ?_, RepV.of_W ((h2 _ y _ hy (Array.getElem?_eq_getElem hlt)).toW (V.atoms_flat x y (List.mem_of_getElem? hy)) hk) (fun l e => by subst e; simp [okStore] at hk)⟩
    simp [Instr.field, run_underlying t1, t2, asAgg, part, run_isAgg t5, hlt]
   ·exact h.elim
 ·exact h.elim
theorem run_indexAt {t e s b a kk} {i : Int} {m c : Nat} (h : tyElem P t = some (e, s)) (h0 : 0 ≤ i) (hi : i < m) : (Instr.indexAt t (.slice (some ⟨b, a, none⟩) m c) (.int kk i)).run P w = .ok (.pointer (some ⟨b, a + i.toNat * s, none⟩)) w := by
 obtain ⟨h1, h2⟩ := tyElem_inv h
 simp [Instr.indexAt, asIntOf, run_underlying h1, h0, hi, run_size h2, Addr.add_lit]
theorem run_indexArr {t e s b a kk} {i : Int} {m : Nat} (h : tyArr P t = some (m, e, s)) (h0 : 0 ≤ i) (hi : i < m) : (Instr.indexAt t (.pointer (some ⟨b, a, none⟩)) (.int kk i)).run P w = .ok (.pointer (some ⟨b, a + i.toNat * s, none⟩)) w := by
 obtain ⟨h1, h2⟩ := tyArr_inv h
 simp [Instr.indexAt, asIntOf, run_underlying h1, h0, hi, run_size h2, Addr.add_lit, Instr.sureAddr]
theorem aIndexAddr_ok {t p ix} {u v : Value} {k} (hp : RepV w O ρ p u) (hi : RepV w O ρ ix v) (h : aIndexAddr P t p ix k) : ∃ z, k z ∧ ∃ r, (Instr.indexAt t u v).run P w = .ok r w ∧ RepV w O ρ z r := by
 unfold aIndexAddr at h
 split at h
 ·rename_i kk i
  have hv := RepW.raw_inv hi
  subst hv
  split at h
  ·rename_i e s ht
   split at h
   ·rename_i b e' o m
    obtain ⟨rfl, h0, hm, h⟩ := h
    have hpa := RepW.atom hp (by rfl)
    cases hpa with
    | sl _ _ _ _ _ c cap arr t' fr hc hb hn hcap =>
    refine ⟨_, h, _, run_indexAt ht h0 hm, RepW.of_atom ?_ rfl rfl⟩
    have := RepA.ptr (w := w) (O := O) ρ b e' (o + i.toNat) 0 c hc
    rw [Nat.add_zero, Nat.add_mul] at this
    exact this
   ·rename_i l
    obtain ⟨h0, hm, h⟩ := h
    split at h
    ·rename_i y hy
     obtain ⟨rfl, h⟩ := h
     have hpa := RepW.atom hp (by rfl)
     cases hpa with
     | nil => simp at hy
     | lst _ _ c a cap vs g0 hcap hb hO hu hst hl hr =>
     refine ⟨_, h, _, run_indexAt ht h0 hm, RepW.of_atom ?_ rfl rfl⟩
     obtain ⟨e', hu⟩ := hu
     have hye : y.wid = e' := hu y (List.mem_of_getElem? hy)
     have hlen := V.atomsL_length hu
     have hil := (List.getElem?_eq_some_iff.1 hy).1
     have hbig : i.toNat * e' + e' ≤ l.length * e' := by
      have := Nat.mul_le_mul_right e' (show i.toNat + 1 ≤ l.length by omega)
      rw [Nat.add_mul] at this; omega
     rw [hye]
     have hya : y.atoms.length = e' := hye
     refine .pel _ _ _ _ ((vs.drop (i.toNat * e')).take e') hb hO (fun j v hj => ?_) (by rw [List.length_take, List.length_drop]; omega) fun j z v hz hv => ?_
     ·rw [List.getElem?_take] at hj
      split at hj
      ·rw [List.getElem?_drop] at hj
       rw [Nat.add_assoc]
       exact hst _ _ hj
      ·cases hj
     ·rw [List.getElem?_take] at hv
      split at hv
      ·rename_i hjl
       rw [List.getElem?_drop] at hv
       refine hr _ z v ?_ hv
       rw [V.atomsL_get hu hy hjl]
       exact hz
      ·cases hv
    ·exact h.elim
   ·exact h.elim
  ·split at h
   ·rename_i m e s ht
    split at h
    ·rename_i b e' j off
     obtain ⟨h0, hm, h⟩ := h
     have hpa := RepW.atom hp (by rfl)
     cases hpa with
     | ptr _ _ _ _ _ c hc =>
     refine ⟨_, h, _, run_indexArr ht h0 hm, RepW.of_atom ?_ rfl rfl⟩
     rw [Nat.add_assoc]
     exact .ptr _ _ _ _ _ _ hc
    ·rename_i x
     obtain ⟨⟨h0, hm⟩, h⟩ := h
     have hpa := RepW.atom hp (by rfl)
     cases hpa with
     | pel _ _ c a vs hb hO hst hl hr =>
     split at h
     ·obtain ⟨hfit, h⟩ := h
      obtain ⟨g1, g2⟩ := V.sub_spec x (i.toNat * s) s
      refine ⟨_, h, _, run_indexArr ht h0 hm, RepW.of_atom (pel_part (x := x) (off := i.toNat * s) hb hO hst hl hr ?_) rfl rfl⟩
      rw [g2, List.length_take, List.length_drop, Nat.min_eq_left (by unfold V.wid at hfit; omega)]
     ·obtain ⟨rfl, h⟩ := h
      split at h
      ·rename_i y hy
       refine ⟨_, h, _, run_indexArr ht h0 hm, RepW.of_atom (pel_part (x := x) (off := i.toNat * 1) hb hO hst hl hr ?_) rfl rfl⟩
       have ha := V.atoms_single (V.atoms_flat x y (List.mem_of_getElem? hy))
       rw [ha, List.length_singleton, List.take_one, List.head?_drop, Nat.mul_one, hy]
       rfl
      ·exact h.elim
    ·exact h.elim
   ·exact h.elim
 ·exact h.elim
end

def aArith (op : BinOp) (k : IntKind) (a b : Int) (K : V → Prop) : Prop :=
 match op, k with
 | .add, .i64 => (-9223372036854775808 ≤ a + b ∧ a + b ≤ 9223372036854775807) ∧ K (.raw (.int .i64 (a + b)))
 | .sub, .i64 => (-9223372036854775808 ≤ a - b ∧ a - b ≤ 9223372036854775807) ∧ K (.raw (.int .i64 (a - b)))
 | .mul, .i64 => (-9223372036854775808 ≤ a * b ∧ a * b ≤ 9223372036854775807) ∧ K (.raw (.int .i64 (a * b)))
 | .add, .u64 => (0 ≤ a + b ∧ a + b ≤ 18446744073709551615) ∧ K (.raw (.int .u64 (a + b)))
 | .mul, .u64 => (0 ≤ a * b ∧ a * b ≤ 18446744073709551615) ∧ K (.raw (.int .u64 (a * b)))
 | .sub, .u64 => K (.raw (.int .u64 ((a - b) % 18446744073709551616)))
 | .add, .u32 => K (.raw (.int .u32 ((a + b) % 4294967296)))
 | .sub, .u32 => K (.raw (.int .u32 ((a - b) % 4294967296)))
 | .mul, .u32 => K (.raw (.int .u32 ((a * b) % 4294967296)))
 | .add, .u8 => K (.raw (.int .u8 ((a + b) % 256)))
 | .sub, .u8 => K (.raw (.int .u8 ((a - b) % 256)))
 | .add, .i8 => (-128 ≤ a + b ∧ a + b ≤ 127) ∧ K (.raw (.int .i8 (a + b)))
 | .quo, k => (0 ≤ a ∧ a ≤ k.max ∧ 1 ≤ b) ∧ K (.raw (.int k (a / b)))
 | .rem, .i64 => 1 ≤ b ∧ K (.raw (.int .i64 (a.tmod b)))
 | .rem, .i16 => 1 ≤ b ∧ K (.raw (.int .i16 (a.tmod b)))
 | .rem, .i8 => 1 ≤ b ∧ K (.raw (.int .i8 (a.tmod b)))
 | .rem, k => (0 ≤ a ∧ 1 ≤ b) ∧ K (.raw (.int k (a % b)))
 | .and, k => K (.raw (.int k (bits .and k a b)))
 | .or, k => K (.raw (.int k (bits .or k a b)))
 | .xor, k => K (.raw (.int k (bits .xor k a b)))
 | .eql, _ => K (.raw (.bool (a == b)))
 | .neq, _ => K (.raw (.bool (a != b)))
 | .lss, _ => K (.raw (.bool (decide (a < b))))
 | .leq, _ => K (.raw (.bool (decide (a ≤ b))))
 | .gtr, _ => K (.raw (.bool (decide (b < a))))
 | .geq, _ => K (.raw (.bool (decide (b ≤ a))))
 | _, _ => False
def aStr (op : BinOp) (a b : ByteArray) (K : V → Prop) : Prop :=
 match op with
 | .add => a.size + b.size ≤ 9223372036854775807 ∧ K (.raw (.string (a ++ b)))
 | .eql => K (.raw (.bool (a.toList == b.toList)))
 | .neq => K (.raw (.bool (!(a.toList == b.toList))))
 | _ => False
def nilB (P : Program) (op : BinOp) (t : TypeId) (b : Bool) (K : V → Prop) : Prop :=
 match op with
 | .eql => (∃ e, P.underlying t = some (.slice e)) ∧ K (.raw (.bool b))
 | .neq => (∃ e, P.underlying t = some (.slice e)) ∧ K (.raw (.bool (!b)))
 | _ => False
def aBin (P : Program) (op : BinOp) (t : TypeId) (x y : V) (K : V → Prop) : Prop :=
 match x, y with
 | .raw (.int k a), .raw (.int k' b) =>
   match op with
   | .shl => 0 ≤ b ∧ b < k.bits ∧ K (.raw (.int k (k.wrap (a * 2 ^ b.toNat))))
   | .shr => 0 ≤ b ∧ b < k.bits ∧ K (.raw (.int k (a / 2 ^ b.toNat)))
   | op => k = k' ∧ aArith op k a b K
 | .raw (.string a), .raw (.string b) => aStr op a b K
 | .raw (.bool a), .raw (.bool b) =>
   match op with
   | .eql => P.underlying t = some .bool ∧ K (.raw (.bool (a == b)))
   | .neq => P.underlying t = some .bool ∧ K (.raw (.bool (a != b)))
   | _ => False
 | .lst (_ :: _), .raw (.slice none 0 0) => nilB P op t false K
 | .sl _ _ _ _, .raw (.slice none 0 0) => nilB P op t false K
 | .raw (.slice A _ _), .raw (.slice none 0 0) => nilB P op t A.isNone K
 | _, _ => False
def aUn (op : UnOp) (x : V) (K : V → Prop) : Prop :=
 match op, x with
 | .not, .raw (.bool b) => K (.raw (.bool (!b)))
 | .neg, .raw (.int .i64 a) => (-9223372036854775808 ≤ a ∧ a ≤ 9223372036854775807) ∧ K (.raw (.int .i64 (if a = -9223372036854775808 then a else -a)))
 | .neg, .raw (.int k a) => K (.raw (.int k (k.wrap (0 - a))))
 | .xor, .raw (.int k a) => K (.raw (.int k (bits .xor k (if k.signed then -1 else k.max) a)))
 | _, _ => False
end Go.Proofs.YtfbogelmgdojgaaGreat


/- Arithmetic of the abstract run is that of the program. No program in sight. -/
namespace Go.Proofs.YtfbogelmgdojgaaGreat
set_option linter.unusedSimpArgs false
set_option linter.unusedVariables false
open Go.RowKit

section
variable {P : Program} {w : World}
theorem quo_in {k : IntKind} {a b : Int} (h0 : 0 ≤ a) (h1 : a ≤ k.max) (h2 : 1 ≤ b) : k.wrap (a.tdiv b) = a / b := by
 have e1 : a.tdiv b = a / b := Int.tdiv_eq_ediv_of_nonneg h0
 have e2 : 0 ≤ a / b := Int.ediv_nonneg h0 (by omega)
 have e3 : a / b ≤ a := Int.ediv_le_self _ h0
 rw [e1]
 have hk : a / b ≤ k.max := by omega
 generalize a / b = c at *
 cases k <;> simp [IntKind.max, IntKind.signed, IntKind.bits] at hk <;> simp [IntKind.wrap, IntKind.bits, IntKind.signed] <;> omega
theorem aArith_ok {op : BinOp} {k : IntKind} {a b : Int} {K : V → Prop} (t : TypeId) (h : aArith op k a b K) : ∃ z, K (.raw z) ∧ (binOp op t (.int k a) (.int k b)).run P w = .ok z w ∧ z.cells = #[z] := by
 unfold aArith at h
 split at h
 case h_1 => exact ⟨_, h.2, by simp [binOp, Op.intArith, IntWalk.i64_in _ h.1], rfl⟩
 case h_2 => exact ⟨_, h.2, by simp [binOp, Op.intArith, IntWalk.i64_in _ h.1], rfl⟩
 case h_3 => exact ⟨_, h.2, by simp [binOp, Op.intArith, IntWalk.i64_in _ h.1], rfl⟩
 case h_4 => exact ⟨_, h.2, by simp [binOp, Op.intArith, IntWalk.u64_in _ h.1], rfl⟩
 case h_5 => exact ⟨_, h.2, by simp [binOp, Op.intArith, IntWalk.u64_in _ h.1], rfl⟩
 case h_6 => exact ⟨_, h, by simp [binOp, Op.intArith, IntKind.wrap, IntKind.bits, IntKind.signed], rfl⟩
 case h_7 => exact ⟨_, h, by simp [binOp, Op.intArith, IntKind.wrap, IntKind.bits, IntKind.signed], rfl⟩
 case h_8 => exact ⟨_, h, by simp [binOp, Op.intArith, IntKind.wrap, IntKind.bits, IntKind.signed], rfl⟩
 case h_9 => exact ⟨_, h, by simp [binOp, Op.intArith, IntKind.wrap, IntKind.bits, IntKind.signed], rfl⟩
 case h_10 => exact ⟨_, h, by simp [binOp, Op.intArith, IntKind.wrap, IntKind.bits, IntKind.signed], rfl⟩
 case h_11 => exact ⟨_, h, by simp [binOp, Op.intArith, IntKind.wrap, IntKind.bits, IntKind.signed], rfl⟩
 case h_12 => exact ⟨_, h.2, by simp [binOp, Op.intArith, IntWalk.i8_in _ h.1], rfl⟩
 case h_13 =>
  obtain ⟨⟨h0, h1, h2⟩, h⟩ := h
  have hb : b ≠ 0 := by omega
  exact ⟨_, h, by simp [binOp, Op.intDiv, hb, quo_in h0 h1 h2], rfl⟩
 case h_14 =>
  obtain ⟨h2, h⟩ := h
  have hb : b ≠ 0 := by omega
  exact ⟨_, h, by simp [binOp, Op.intDiv, hb], rfl⟩
 case h_15 =>
  obtain ⟨h2, h⟩ := h
  have hb : b ≠ 0 := by omega
  exact ⟨_, h, by simp [binOp, Op.intDiv, hb], rfl⟩
 case h_16 =>
  obtain ⟨h2, h⟩ := h
  have hb : b ≠ 0 := by omega
  exact ⟨_, h, by simp [binOp, Op.intDiv, hb], rfl⟩
 case h_17 =>
  obtain ⟨⟨h0, h2⟩, h⟩ := h
  have hb : b ≠ 0 := by omega
  have e1 : a.tmod b = a % b := Int.tmod_eq_emod_of_nonneg h0
  exact ⟨_, h, by simp [binOp, Op.intDiv, hb, e1], rfl⟩
 case h_18 => exact ⟨_, h, by simp [binOp, intBits_and], rfl⟩
 case h_19 => exact ⟨_, h, by simp [binOp, intBits_or], rfl⟩
 case h_20 => exact ⟨_, h, by simp [binOp, intBits_xor], rfl⟩
 case h_21 => exact ⟨_, h, by simp [binOp, Op.intCmp], rfl⟩
 case h_22 => exact ⟨_, h, by simp [binOp, Op.intCmp], rfl⟩
 case h_23 => exact ⟨_, h, by simp [binOp, Op.intCmp], rfl⟩
 case h_24 => exact ⟨_, h, by simp [binOp, Op.intCmp], rfl⟩
 case h_25 => exact ⟨_, h, by simp [binOp, Op.intCmp], rfl⟩
 case h_26 => exact ⟨_, h, by simp [binOp, Op.intCmp], rfl⟩
 case h_27 => exact h.elim
theorem aStr_ok {op : BinOp} {a b : ByteArray} {K : V → Prop} (t : TypeId) (h : aStr op a b K) : ∃ z, K (.raw z) ∧ (binOp op t (.string a) (.string b)).run P w = .ok z w ∧ z.cells = #[z] := by
 unfold aStr at h
 split at h
 ·obtain ⟨h1, h⟩ := h
  refine ⟨_, h, ?_, rfl⟩
  have h2 : ¬ IntKind.i64.max < (a.size : Int) + b.size := by simp [IntKind.max, IntKind.signed, IntKind.bits]; omega
  simp [binOp, Op.stringOp]
  omega
 ·exact ⟨_, h, by simp [binOp, Op.stringOp], rfl⟩
 ·exact ⟨_, h, by simp [binOp, Op.stringOp], rfl⟩
 ·exact h.elim
theorem RepW.notNone {O ρ x u} (h : RepW w O ρ x u) : RepW w O ρ x u := h
theorem nil_ok {K : V → Prop} (op : BinOp) (t : TypeId) (a b : Operand) (A : Option Addr) (n c : Nat) (h : nilB P op t A.isNone K) :
 ∃ z, K (.raw z) ∧ (do eqGuard op t a b (.slice A n c) (.slice none 0 0); binOp op t (.slice A n c) (.slice none 0 0) : Sem Value).run P w = .ok z w ∧ z.cells = #[z] := by
 have hg : (eqGuard op t a b (.slice A n c) (.slice none 0 0)).run P w = .ok () w := by
  unfold eqGuard; cases op <;> rfl
 simp only [Sem.run_bind, hg, Result.andThen_ok]
 unfold nilB at h
 split at h
 ·obtain ⟨⟨e, he⟩, h⟩ := h
  exact ⟨_, h, Lib.run_eql_slice_nil w t e A n c 0 0 he, rfl⟩
 ·obtain ⟨⟨e, he⟩, h⟩ := h
  refine ⟨_, h, ?_, rfl⟩
  simp only [binOp]
  simp [Op.equal, Op.maxDepth, Lib.run_equalIn_slice_nil w 9999 t e A n c 0 0 he]
 ·exact h.elim
theorem aBin_ok {O ρ} {op : BinOp} {t : TypeId} {x y : V} {u v : Value} {K : V → Prop} (a b : Operand) (hx : RepV w O ρ x u) (hy : RepV w O ρ y v) (h : aBin P op t x y K) :
 ∃ z, K z ∧ ∃ r, (do eqGuard op t a b u v; binOp op t u v : Sem Value).run P w = .ok r w ∧ RepV w O ρ z r := by
 have key : (∃ z, K (.raw z) ∧ (do eqGuard op t a b u v; binOp op t u v : Sem Value).run P w = .ok z w ∧ z.cells = #[z]) → ∃ z, K z ∧ ∃ r, (do eqGuard op t a b u v; binOp op t u v : Sem Value).run P w = .ok r w ∧ RepV w O ρ z r := by
  rintro ⟨z, h1, h2, h3⟩
  exact ⟨_, h1, z, h2, RepW.raw h3⟩
 apply key
 unfold aBin at h
 split at h
 ·rename_i k p k' q
  have e1 := RepW.raw_inv hx
  have e2 := RepW.raw_inv hy
  subst e1 e2
  have hg : (eqGuard op t a b (.int k p) (.int k' q)).run P w = .ok () w := by
   unfold eqGuard; cases op <;> rfl
  simp only [Sem.run_bind, hg, Result.andThen_ok]
  split at h
  ·obtain ⟨h0, h1, h⟩ := h
   refine ⟨_, h, ?_, rfl⟩
   simp [binOp, shift_shl k k' p q h0 (by omega)]
  ·obtain ⟨h0, h1, h⟩ := h
   refine ⟨_, h, ?_, rfl⟩
   simp [binOp, shift_shr k k' p q h0 (by omega)]
  ·obtain ⟨rfl, h⟩ := h
   exact aArith_ok t h
 ·have e1 := RepW.raw_inv hx
  have e2 := RepW.raw_inv hy
  subst e1 e2
  rename_i p q
  have hg : (eqGuard op t a b (.string p) (.string q)).run P w = .ok () w := by
   unfold eqGuard; cases op <;> rfl
  simp only [Sem.run_bind, hg, Result.andThen_ok]
  exact aStr_ok t h
 ·have e1 := RepW.raw_inv hx
  have e2 := RepW.raw_inv hy
  subst e1 e2
  rename_i p q
  have hg : (eqGuard op t a b (.bool p) (.bool q)).run P w = .ok () w := by
   unfold eqGuard; cases op <;> rfl
  simp only [Sem.run_bind, hg, Result.andThen_ok]
  split at h
  ·obtain ⟨ht, h⟩ := h
   exact ⟨_, h, run_eql_bool w t p q ht, rfl⟩
  ·obtain ⟨ht, h⟩ := h
   exact ⟨_, h, run_neq_bool w t p q ht, rfl⟩
  ·exact h.elim
 ·have e2 := RepW.raw_inv hy
  subst e2
  have hx' := RepW.atom (RepW.notNone hx) rfl
  cases hx'
  exact nil_ok op t a b (some _) _ _ h
 ·have e2 := RepW.raw_inv hy
  subst e2
  have hx' := RepW.atom (RepW.notNone hx) rfl
  cases hx'
  exact nil_ok op t a b (some _) _ _ h
 ·have e1 := RepW.raw_inv hx
  have e2 := RepW.raw_inv hy
  subst e1 e2
  exact nil_ok op t a b _ _ _ h
 ·exact h.elim
theorem aUn_ok {O ρ} {op : UnOp} {x : V} {u : Value} {K : V → Prop} (hx : RepV w O ρ x u) (h : aUn op x K) : ∃ z, K z ∧ ∃ r, (Op.unary op u).run P w = .ok r w ∧ RepV w O ρ z r := by
 unfold aUn at h
 split at h
 ·have e1 := RepW.raw_inv hx
  subst e1
  exact ⟨_, h, _, by simp [Op.unary], RepW.raw rfl⟩
 ·have e1 := RepW.raw_inv hx
  subst e1
  have hw : ∀ b : Int, -9223372036854775808 ≤ b ∧ b ≤ 9223372036854775807 → IntKind.i64.wrap (0 - b) = if b = -9223372036854775808 then b else -b := fun b hb => by
   split
   ·rename_i e; subst e; decide
   ·rw [IntWalk.i64_in _ (by omega)]; omega
  exact ⟨_, h.2, _, by have := hw _ h.1; simp only [Int.zero_sub] at this; simp [Op.unary, Op.intArith, this], RepW.raw rfl⟩
 ·have e1 := RepW.raw_inv hx
  subst e1
  exact ⟨_, h, _, by simp [Op.unary, Op.intArith], RepW.raw rfl⟩
 ·have e1 := RepW.raw_inv hx
  subst e1
  exact ⟨_, h, _, by simp [Op.unary, intBits_xor], RepW.raw rfl⟩
 ·exact h.elim
end
end Go.Proofs.YtfbogelmgdojgaaGreat


/- Abstract operations: new variables, slices, lengths, structs. No program in sight. -/
namespace Go.Proofs.YtfbogelmgdojgaaGreat
set_option linter.unusedSimpArgs false
set_option linter.unusedVariables false
open Go.RowKit

theorem atomsL_raws (l : List Value) : V.atomsL (l.map .raw) = l.map .raw := by
 induction l with
 | nil => rfl
 | cons x l ih => simp [V.atomsL, V.atoms, ih]
theorem cst_atoms (v : Value) : (cst v).atoms = v.cells.toList.map .raw := by
 cases v with
 | agg cs => exact atomsL_raws _
 | _ => rfl
theorem cst_wid (v : Value) : (cst v).wid = v.cells.size := by
 unfold V.wid; rw [cst_atoms]; simp
theorem tyZero_inv {P : Program} {t z} (h : tyZero P t = some z) : ∃ i v, P.info? t = some i ∧ i.zero = some v ∧ z = cst v := by
 unfold tyZero at h
 cases hi : P.info? t with
 | none => rw [hi] at h; cases h
 | some i =>
   rw [hi] at h
   simp only [Option.bind_some] at h
   cases hz : i.zero with
   | none => rw [hz] at h; cases h
   | some v => rw [hz] at h; injection h with h; exact ⟨i, v, rfl, hz, h.symm⟩

def tyBytes (P : Program) (t : TypeId) : Option Nat := (P.info? t).map (·.bytes)
def aAlloc (P : Program) (t : TypeId) (n : Nat) (k : Kt) : Prop :=
 match tyZero P t with
 | some z => z.good = true ∧ k (.ptr n z.wid 0 0) [(n, some ⟨t, z.wid, [z]⟩)] []
 | none => False
def aBox (t : TypeId) (x : V) (n : Nat) (k : Kt) : Prop := x.good = true ∧ k (.ptr n x.wid 0 0) [(n, some ⟨t, x.wid, [x]⟩)] []

section
variable {P : Program} {B : Nat → Prop} {H : Hp} {w : World} {ρ : Nat → Option Nat} {n : Nat} {a : Act} {o : Oper}
theorem ok_newVar {t : TypeId} {x : V} {v : Value} (hH : HRep w (own B ρ H) ρ H) (hf : ρ n = none) (hg : x.good = true) (hx : RepV w (own B ρ H) ρ x v)
 (hr : (execOp a.eval o).run P w = .ok (.value (.pointer (some ⟨w.heap.size, 0, none⟩))) (w.alloc (.cells v.cells t))) : OpOk P B H w ρ n a o (.ptr n x.wid 0 0) [(n, some ⟨t, x.wid, [x]⟩)] := by
 obtain ⟨c1, c2, c3⟩ := good_cells hg hx
 have e1 : V.atomsL [x] = x.atoms := by simp [V.atomsL]
 refine OpOk.push hH hf hr rfl rfl rfl rfl (by simp) (by rw [e1, c1]; exact Nat.le_refl _) (fun j y u hy hu => c2 j y u (by rw [e1] at hy; exact hy) hu) fun O ρ' hn => RepW.of_atom ?_ rfl rfl
 have := RepA.ptr (w := w.alloc (.cells v.cells t)) (O := O) ρ' n x.wid 0 0 _ hn
 simpa using this
theorem aAlloc_ok {t : TypeId} {k : Kt} (hH : HRep w (own B ρ H) ρ H) (hf : ρ n = none) (h : aAlloc P t n k)
 (he : ∀ v w1, (Instr.alloc t true (.tuple #[])).run P w = .ok v w1 → (execOp a.eval o).run P w = .ok (.value v) w1) : ∃ z ws rs, k z ws rs ∧ OpOk P B H w ρ n a o z ws := by
 unfold aAlloc at h
 split at h
 ·rename_i z hz
  obtain ⟨hg, h⟩ := h
  obtain ⟨i, v, h1, h2, rfl⟩ := tyZero_inv hz
  refine ⟨_, _, _, h, ok_newVar hH hf hg (cst_rep _ _ _ v) (he _ _ ?_)⟩
  simp [Instr.alloc, zeroValue, typeInfo, h1, h2, newVar, newRow]
 ·exact h.elim
theorem aBox_ok {t : TypeId} {x : V} {v : Value} {k : Kt} (hH : HRep w (own B ρ H) ρ H) (hf : ρ n = none) (hx : RepV w (own B ρ H) ρ x v) (h : aBox t x n k)
 (he : ∀ u w1, (Instr.box t v).run P w = .ok u w1 → (execOp a.eval o).run P w = .ok (.value u) w1) : ∃ z ws rs, k z ws rs ∧ OpOk P B H w ρ n a o z ws :=
 ⟨_, _, _, h.2, ok_newVar hH hf h.1 hx (he _ _ (by simp [Instr.box, newVar, newRow]))⟩
end

def aMake (P : Program) (t : TypeId) (x y : V) (n : Nat) (k : Kt) : Prop :=
 match x, y with
 | .raw (.int _ l), .raw (.int _ c) => match tyElem P t with
   | some (e, s) => match tyZero P e, tyBytes P e with
     | some z, some by_ => z.wid = s ∧ z.good = true ∧ (0 ≤ l ∧ l ≤ c ∧ (by_ : Int) * c ≤ 281474976710656 ∧ c ≤ 9223372036854775807) ∧ k (.sl n s 0 l.toNat) [(n, some ⟨e, s, List.replicate c.toNat z⟩)] []
     | _, _ => False
   | none => False
 | _, _ => False
section
variable {P : Program} {B : Nat → Prop} {H : Hp} {w : World} {ρ : Nat → Option Nat} {n : Nat} {a : Act} {o : Oper}
theorem aMake_ok {t : TypeId} {x y : V} {u v : Value} {k : Kt} (hH : HRep w (own B ρ H) ρ H) (hf : ρ n = none) (hx : RepV w (own B ρ H) ρ x u) (hy : RepV w (own B ρ H) ρ y v) (h : aMake P t x y n k)
 (he : ∀ r w1, (Instr.makeSlice t u v).run P w = .ok r w1 → (execOp a.eval o).run P w = .ok (.value r) w1) : ∃ z ws rs, k z ws rs ∧ OpOk P B H w ρ n a o z ws := by
 unfold aMake at h
 split at h
 ·rename_i kl l kc c
  have e1 := RepW.raw_inv hx
  have e2 := RepW.raw_inv hy
  subst e1 e2
  split at h
  ·rename_i e s ht
   split at h
   ·rename_i z by_ hz hby
    obtain ⟨hw, hg, ⟨h0, h1, h2, h3⟩, h⟩ := h
    obtain ⟨i, zv, hi, g2, rfl⟩ := tyZero_inv hz
    have hbb : i.bytes = by_ := by simpa [tyBytes, hi] using hby
    subst hbb
    obtain ⟨u1, u2⟩ := tyElem_inv ht
    have hs : i.size = s := by simpa [tySize, hi] using u2
    have hrun := run_make (P := P) w t e i zv u1 hi g2 kl kc l c h0 h1 h2 h3
    have hzs : zv.cells.size = s := by rw [← hw, cst_wid]
    have hwid : ∀ y ∈ List.replicate c.toNat (cst zv), y.wid = s := fun y hy => by rw [List.eq_of_mem_replicate hy]; exact hw
    have hlen := V.atomsL_length hwid
    rw [List.length_replicate] at hlen
    have hmz : (madeCells zv.cells (c.toNat * i.size)).size = c.toNat * s := by rw [size_madeCells, hs]
    refine ⟨_, _, _, h, OpOk.push hH hf (he _ _ hrun) rfl rfl rfl rfl hwid (by rw [hlen, hmz]; exact Nat.le_refl _) (fun j y u hy hu => ?_) fun O ρ' hn => RepW.of_atom ?_ rfl rfl⟩
    ·have hjl : j < c.toNat * s := by rw [← hlen]; exact (List.getElem?_eq_some_iff.1 hy).1
     have hpos : 0 < s := by
      rcases Nat.eq_zero_or_pos s with e0 | e0
      ·rw [e0] at hjl; omega
      ·exact e0
     have hdm : j / s * s + j % s = j := by rw [Nat.mul_comm]; exact Nat.div_add_mod j s
     have hmod : j % s < s := Nat.mod_lt _ hpos
     have hdl : j / s < c.toNat := by rw [Nat.div_lt_iff_lt_mul hpos]; omega
     have hy' := V.atomsL_get hwid (i := j / s) (x := cst zv) (by rw [List.getElem?_replicate, if_pos hdl]) hmod
     rw [hdm, hy, cst_atoms] at hy'
     have hlt : j % s < zv.cells.size := by omega
     have hu2 : u = zv.cells[j % s] := by
      have hjm : j < c.toNat * i.size := by rw [hs]; exact hjl
      simp only [madeCells, Array.getElem?_map, Array.getElem?_range, hjm, if_true, Option.map_some, Option.some.injEq] at hu
      rw [hzs] at hu
      rw [← hu]
      simp [hlt]
     simp [hlt] at hy'
     subst hy'
     rw [hu2]
     exact .raw _ _
    ·have := RepA.sl (w := w.alloc (.cells (madeCells zv.cells (c.toNat * i.size)) e)) (O := O) ρ' n s 0 l.toNat w.heap.size c.toNat _ e (0, 0) hn (heap_alloc_new w _) (by omega) (by rw [hmz]; simp)
     simpa using this
   ·exact h.elim
  ·exact h.elim
 ·exact h.elim
end

def aLen (P : Program) (t : TypeId) (x : V) (k : V → Prop) : Prop :=
 match P.underlying t, x with
 | some .string, .raw (.string s) => k (.raw (.int .i64 (s.size : Nat)))
 | some (.slice _), .lst l => k (.raw (.int .i64 (l.length : Nat)))
 | some (.slice _), .sl _ _ _ n => k (.raw (.int .i64 (n : Nat)))
 | some (.slice _), .raw (.slice none 0 0) => k (.raw (.int .i64 0))
 | some (.slice _), .emp => k (.raw (.int .i64 0))
 | some (.array n _), _ => k (.raw (.int .i64 (n : Nat)))
 | _, _ => False
section
variable {P : Program} {w : World} {O : Nat → Prop} {ρ : Nat → Option Nat}
theorem aLen_ok {t : TypeId} {ty : TypeId} {ts : Array TypeId} {x : V} {u : Value} {k} (hx : RepV w O ρ x u) (ht : ts[0]? = some t) (h : aLen P t x k) : ∃ z, k z ∧ ∃ v, (Builtin.len_ ts ty #[u]).run P w = .ok v w ∧ RepV w O ρ z v := by
 unfold aLen at h
 split at h
 ·rename_i hd
  have e := RepW.raw_inv hx
  subst e
  exact ⟨_, h, _, by simp [Builtin.len_, ht, run_underlying hd]; rfl, RepW.raw rfl⟩
 ·rename_i hd
  have hp := RepW.atom hx (by rfl)
  cases hp with
  | nil => exact ⟨_, h, _, by simp [Builtin.len_, ht, run_underlying hd]; rfl, RepW.raw rfl⟩
  | lst => exact ⟨_, h, _, by simp [Builtin.len_, ht, run_underlying hd]; rfl, RepW.raw rfl⟩
 ·rename_i hd
  have hp := RepW.atom hx (by rfl)
  cases hp with
  | sl => exact ⟨_, h, _, by simp [Builtin.len_, ht, run_underlying hd]; rfl, RepW.raw rfl⟩
 ·rename_i hd
  have e := RepW.raw_inv hx
  subst e
  exact ⟨_, h, _, by simp [Builtin.len_, ht, run_underlying hd]; rfl, RepW.raw rfl⟩
 ·rename_i hd
  have hp := RepW.atom hx (by rfl)
  cases hp with
  | emp => exact ⟨_, h, _, by simp [Builtin.len_, ht, run_underlying hd]; rfl, RepW.raw rfl⟩
 ·rename_i hd
  exact ⟨_, h, _, by simp [Builtin.len_, ht, run_underlying hd]; rfl, RepW.raw rfl⟩
 ·exact h.elim
end

def aMin (x y : V) (k : V → Prop) : Prop :=
 match x, y with
 | .raw (.int i a), .raw (.int _ b) => k (.raw (.int i (if b < a then b else a)))
 | _, _ => False
def aMax (x y : V) (k : V → Prop) : Prop :=
 match x, y with
 | .raw (.int i a), .raw (.int _ b) => k (.raw (.int i (if a < b then b else a)))
 | _, _ => False
section
variable {P : Program} {w : World} {O : Nat → Prop} {ρ : Nat → Option Nat}
theorem aMin_ok {ty : TypeId} {ts : Array TypeId} {x y : V} {u v : Value} {k} (hx : RepV w O ρ x u) (hy : RepV w O ρ y v) (h : aMin x y k) : ∃ z, k z ∧ ∃ r, (Builtin.min_ ts ty #[u, v]).run P w = .ok r w ∧ RepV w O ρ z r := by
 unfold aMin at h
 split at h
 ·have e1 := RepW.raw_inv hx
  have e2 := RepW.raw_inv hy
  subst e1 e2
  exact ⟨_, h, _, by simp [Builtin.min_, Builtin.min2], RepW.raw rfl⟩
 ·exact h.elim
theorem aMax_ok {ty : TypeId} {ts : Array TypeId} {x y : V} {u v : Value} {k} (hx : RepV w O ρ x u) (hy : RepV w O ρ y v) (h : aMax x y k) : ∃ z, k z ∧ ∃ r, (Builtin.max_ ts ty #[u, v]).run P w = .ok r w ∧ RepV w O ρ z r := by
 unfold aMax at h
 split at h
 ·have e1 := RepW.raw_inv hx
  have e2 := RepW.raw_inv hy
  subst e1 e2
  exact ⟨_, h, _, by simp [Builtin.max_, Builtin.max2], RepW.raw rfl⟩
 ·exact h.elim
end

def bnd (x : Option V) (d : Int) : Option Int :=
 match x with
 | none => some d
 | some (.raw (.int _ i)) => some i
 | _ => none
def aSliceL (s : Nat) (x : V) (len lo hi : Nat) (isMax : Bool) (k : V → Prop) : Prop :=
 if isMax = true then k .emp
 else match x with
 | .sl b e o _ => e = s ∧ (if lo < hi ∨ lo = 0 then k (.sl b e (o + lo) (hi - lo)) else k (.lst []))
 | .lst l => (lo ≠ 0 → ∀ y ∈ l, y.wid = s) ∧ k (.lst ((l.drop lo).take (hi - lo)))
 | .raw (.slice none 0 0) => k (.raw (.slice none 0 0))
 | .emp => k .emp
 | _ => False
def slLen : V → Option Nat
 | .sl _ _ _ n => some n
 | .lst l => some l.length
 | .raw (.slice none 0 0) => some 0
 | .emp => some 0
 | _ => none
def aSlice (P : Program) (t : TypeId) (x : V) (lo hi mx : Option V) (k : V → Prop) : Prop :=
 match x with
 | .raw (.string s) => P.underlying t = some .string ∧ mx.isNone = true ∧ (match bnd lo 0, bnd hi s.size with
   | some l, some h => (0 ≤ l ∧ l ≤ h ∧ h ≤ s.size) ∧ k (.raw (.string (s.extract l.toNat h.toNat)))
   | _, _ => False)
 | x => match tyElem P t, slLen x with
   | some (_, s), some n => (match bnd lo 0, bnd hi n with
     | some l, some h => (match mx with
       | none => (0 ≤ l ∧ l ≤ h ∧ h ≤ n) ∧ aSliceL s x n l.toNat h.toNat false k
       | some m => (match bnd (some m) 0 with
         | some m => hi.isSome = true ∧ (0 ≤ l ∧ l ≤ h ∧ h ≤ m ∧ m ≤ n) ∧ aSliceL s x n l.toNat h.toNat (decide (m = l)) k
         | none => False))
     | _, _ => False)
   | _, _ => False
end Go.Proofs.YtfbogelmgdojgaaGreat

