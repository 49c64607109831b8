/- Texts A10 A11 in one. -/
import Derived.Test.YtfbogelmgdojgaaGreatR03
/- Abstract operations: append joined; copy. No program in sight. -/
namespace Go.Proofs.YtfbogelmgdojgaaGreat
set_option linter.unusedSimpArgs false
set_option linter.unusedVariables false
open Go.RowKit

section
variable {P : Program} {B : Nat → Prop} {H : Hp} {w : World} {ρ : Nat → Option Nat} {n : Nat} {a : Act} {o : Oper}
theorem run_append_zero {t t' ty e : TypeId} {i : TypeInfo} {A : Option Addr} {v : Value} (ht : P.underlying t = some (.slice e)) (hi : P.info? e = some i) (hs : Src P i.size t' v 0 [] w) :
 (Builtin.append_ #[t, t'] ty #[.slice A 0 0, v]).run P w = .ok (.slice A 0 0) w := by
 have h1 := hs.len w
 have h2 := hs.cells
 rcases hs.kind with ⟨e', hk⟩ | hk <;> cases A <;> simp [Builtin.append_, run_underlying ht, run_underlying hk, sizeOf, typeInfo, hi, h1, h2, storeCells]
theorem aAppend_ok {t t' ty : TypeId} {x y : V} {u v : Value} {k : Kt} (hH : HRep w (own B ρ H) ρ H) (hf : ρ n = none) (hx : RepV w (own B ρ H) ρ x u) (hy : RepV w (own B ρ H) ρ y v) (h : aAppend P t t' H n x y k)
 (he : ∀ r w1, (Builtin.append_ #[t, t'] ty #[u, v]).run P w = .ok r w1 → (execOp a.eval o).run P w = .ok (.value r) w1) : ∃ z ws rs, k z ws rs ∧ OpOk P B H w ρ n a o z ws := by
 unfold aAppend at h
 split at h
 ·rename_i e s L rs ht hel
  split at h
  ·rename_i by_ z hbb hz
   obtain ⟨i, hi, rfl⟩ : ∃ i, P.info? e = some i ∧ i.bytes = by_ := by
    unfold tyBytes at hbb
    cases hi : P.info? e with
    | none => rw [hi] at hbb; cases hbb
    | some i => rw [hi] at hbb; simp at hbb; exact ⟨i, rfl, hbb⟩
   obtain ⟨ht', hzs, hs0, hLw, hLg, hsl, h⟩ := h
   obtain ⟨u1, u2⟩ := tyElem_inv ht
   have hsz : i.size = s := by simpa [tySize, hi] using u2
   obtain ⟨A, c', news, rfl, hc', hcl, hsrc, hst, hnil⟩ := elems_src (P := P) hH hy hel hLw hsl
   have hsrc := hsrc _ _ ht' hLg
   have fromNil : ∀ (A0 : Option Addr) (x0 : V), u = .slice A0 0 0 → RepV w (own B ρ H) ρ x0 u → (L.length ≤ maxLen ∧ L.length * i.bytes ≤ 140737488355328) → (L = [] → k x0 [] rs) → (L ≠ [] → k (.sl n s 0 L.length) [(n, some ⟨e, s, L⟩)] rs) →
    ∃ z ws rs, k z ws rs ∧ OpOk P B H w ρ n a o z ws := by
    rintro A0 x0 rfl hx0 ⟨h1, h2⟩ h3 h4
    by_cases hL : L = []
    ·subst hL
     have hn0 : news = [] := List.eq_nil_of_length_eq_zero (by rw [hcl.len]; simp [V.atomsL])
     subst hn0
     exact ⟨_, _, _, h3 rfl, OpOk.value hH hf (he _ _ (run_append_zero u1 hi (srcAt hsrc hsz))) hx0⟩
    ·have hlp : 0 < L.length := List.length_pos_iff.2 hL
     have := append_grow_ok (M := []) (olds := []) (sLen := 0) (sCap := 0) (bse := A0) hH hf u1 hi hz hsz hzs hs0 (fun w' _ => by cases A0 <;> simp [Builtin.firstCells, loadCells, loadCellsFrom]) ⟨by simp [V.atomsL], fun j y u h1 h2 => by simp at h2⟩ rfl (fun y hy => by simp at hy) hcl hLw hsrc (by omega) (by omega) (by rw [Nat.zero_add]; exact h2) he
     rw [Nat.zero_add, List.nil_append] at this
     exact ⟨_, _, _, h4 hL, this⟩
   split at h
   ·rename_i b e' o' m
    obtain ⟨rfl, rfl, h⟩ := h
    split at h
    ·rename_i q hq
     obtain ⟨hqt, hqe, hm, ⟨hmx, hby⟩, h⟩ := h
     refine ⟨_, _, _, h, ?_⟩
     have hA := RepW.atom hx rfl
     cases hA with
     | sl _ _ _ _ _ bb c arr t'' fr g1 g2 g3 g4 =>
     obtain ⟨b', arr', q1, q2, q3, q4, q5⟩ := hH.row _ _ hq
     rw [g1] at q1
     injection q1 with q1
     subst q1
     rw [g2] at q2
     injection q2 with q2
     injection q2 with q2 q2' q2''
     subst q2 q2' q2''
     rw [Nat.zero_mul] at hx he
     rw [Nat.zero_add] at g4
     by_cases hroom : m + L.length ≤ c
     ·exact append_room_ok hH hf u1 hi hsz hq g1 g2 hqt hqe hm g3 g4 hcl hLw hsrc hroom he
     ·subst hqe
      refine OpOk.erase b ?_
      have hx' : Ext w (own B ρ H) ρ w (own B ρ (H.up b none)) ρ := (step_erase b).ext B
      have hla := V.atomsL_length q3
      have hml : m * q.e ≤ q.l.length * q.e := Nat.mul_le_mul_right _ hm
      have htk : V.atomsL (q.l.take m) = (V.atomsL q.l).take (m * q.e) := by
       obtain ⟨r, hr⟩ := V.atomsL_take_le q.l m
       have h2 : (V.atomsL (q.l.take m)).length = m * q.e := by
        rw [V.atomsL_length (e := q.e) fun y hy => q3 y (List.mem_of_mem_take hy), List.length_take, Nat.min_eq_left hm]
       rw [hr, ← h2, List.take_left]
      have hol : (arr.toList.take (m * q.e)).length = m * q.e := by rw [List.length_take]; simp; omega
      refine append_grow_ok (M := q.l.take m) (olds := arr.toList.take (m * q.e)) (sLen := m) (sCap := c) (bse := some ⟨bb, 0, none⟩) (hH.erase b) hf u1 hi hz hsz hzs hs0 (fun w' hw' => ?_) ⟨?_, fun j y u hy hu => ?_⟩ (by rw [List.length_take]; omega) (fun y hy => q3 y (List.mem_of_mem_take hy)) ⟨hcl.len, fun j y u hy hu => (hcl.rep j y u hy hu).mono hx'⟩ hLw hsrc (by omega) hmx hby he
      ·refine run_firstCells_some w' q.e m ⟨bb, 0, none⟩ m c _ hol fun j u hj => ?_
       rw [List.getElem?_take] at hj
       split at hj
       ·rw [Addr.add_lit, Nat.zero_add]
        simp only [World.cell?, hw', g2, Option.isSome_none, Bool.false_eq_true, if_false]
        simpa using hj
       ·cases hj
      ·rw [hol, htk, List.length_take]; omega
      ·rw [htk, List.getElem?_take] at hy
       rw [List.getElem?_take] at hu
       split at hy
       ·rename_i hjl
        rw [if_pos hjl] at hu
        exact (q5 j y u hy (by simpa using hu)).mono hx'
       ·cases hy
    ·exact h.elim
   ·obtain ⟨h1, h2, h3⟩ := h
    exact fromNil none _ (RepW.raw_inv hx) hx h1 h2 h3
   ·obtain ⟨h1, h2, h3⟩ := h
    have hA := RepW.atom hx rfl
    cases hA with
    | emp _ A0 => exact fromNil A0 _ rfl hx h1 h2 h3
   ·exact h.elim
  ·exact h.elim
 ·exact h.elim

def aCopy (P : Program) (t : TypeId) (H : Hp) (x y : V) (k : Kt) : Prop :=
 match tyElem P t, aElems H y with
 | some (e, s), some (L, rs) => allWid L s ∧ allGood L ∧ (∀ k e' o m, y = .sl k e' o m → e' = s) ∧ (match x with
   | .sl b e' o m => e' = s ∧ (match H b with
     | some q => q.e = s ∧ o + m ≤ q.l.length ∧ 0 < m ∧ k (.raw (.int .i64 (min L.length m : Nat))) [(b, some ⟨q.t, s, q.l.take o ++ L.take (min L.length m) ++ q.l.drop (o + min L.length m)⟩)] (b :: rs)
     | none => False)
   | _ => False)
 | _, _ => False
theorem aCopy_ok {t t' ty : TypeId} {x y : V} {u v : Value} {k : Kt} (hH : HRep w (own B ρ H) ρ H) (hf : ρ n = none) (hx : RepV w (own B ρ H) ρ x u) (hy : RepV w (own B ρ H) ρ y v) (h : aCopy P t H x y k)
 (he : ∀ r w1, (Builtin.copy_ #[t, t'] ty #[u, v]).run P w = .ok r w1 → (execOp a.eval o).run P w = .ok (.value r) w1) : ∃ z ws rs, k z ws rs ∧ OpOk P B H w ρ n a o z ws := by
 unfold aCopy at h
 split at h
 ·rename_i e s L rs ht hel
  obtain ⟨hLw, hLg, hsl, h⟩ := h
  obtain ⟨u1, u2⟩ := tyElem_inv ht
  obtain ⟨A, c', news, rfl, hc', hcl, hsrc, hst, hnil⟩ := elems_src (P := P) hH hy hel hLw hsl
  split at h
  ·rename_i b e' o' m
   obtain ⟨rfl, h⟩ := h
   split at h
   ·rename_i q hq
    obtain ⟨hqe, hom, hm0, h⟩ := h
    subst hqe
    refine ⟨_, _, _, h, ?_⟩
    have hA := RepW.atom hx rfl
    cases hA with
    | sl _ _ _ _ _ bb c arr t'' fr g1 g2 g3 g4 =>
    obtain ⟨b', arr', q1, q2, q3, q4, q5⟩ := hH.row _ _ hq
    rw [g1] at q1
    injection q1 with q1
    subst q1
    have g2' := g2
    rw [g2] at q2
    injection q2 with q2
    injection q2 with q2 q2' q2''
    subst q2 q2' q2''
    have hnl : news.length = L.length * q.e := by rw [hcl.len, V.atomsL_length hLw]
    have hla := V.atomsL_length q3
    generalize hr : min L.length m = r at *
    have hrl : r * q.e ≤ L.length * q.e := Nat.mul_le_mul_right _ (by omega)
    have hrm : (o' + r) * q.e ≤ q.l.length * q.e := Nat.mul_le_mul_right _ (by omega)
    rw [Nat.add_mul] at hrm
    have hone : ∀ u ∈ news.take (r * q.e), u.oneCell' = true := fun u hu => hcl.one hLg u (List.mem_of_mem_take hu)
    have hntl : (news.take (r * q.e)).length = r * q.e := by rw [List.length_take]; omega
    have hload : (Builtin.firstCells q.e r (.slice A L.length c')).run P w = .ok (news.take (r * q.e)).toArray w := by
     by_cases hL : L = []
     ·subst hL
      obtain rfl : r = 0 := by simp at hr; omega
      cases A <;> simp [Builtin.firstCells, loadCells, loadCellsFrom]
     ·obtain ⟨bb', off, rfl, hs⟩ := hst hL
      refine run_firstCells_some w q.e r _ _ c' _ hntl fun j u hj => ?_
      rw [List.getElem?_take] at hj
      split at hj
      ·rw [Addr.add_lit]; exact hs j u hj
      ·cases hj
    have hstore := run_storeCells_at P bb (o' * q.e) q.t (news.take (r * q.e)) 0 arr w g2 (by rw [hntl]; omega) hone
    simp only [Nat.add_zero, hntl] at hstore
    have hsize : (arr.toList.take (o' * q.e) ++ news.take (r * q.e) ++ arr.toList.drop (o' * q.e + r * q.e)).toArray.size = arr.size := by simp [hntl]; omega
    have hwid : ∀ z ∈ q.l.take o' ++ L.take r ++ q.l.drop (o' + r), z.wid = q.e := fun z hz => by
     simp only [List.mem_append] at hz
     rcases hz with (hz | hz) | hz
     ·exact q3 z (List.mem_of_mem_take hz)
     ·exact hLw z (List.mem_of_mem_take hz)
     ·exact q3 z (List.mem_of_mem_drop hz)
    have hlen : (q.l.take o' ++ L.take r ++ q.l.drop (o' + r)).length = q.l.length := by simp; omega
    have tk : ∀ (M : List V) (j : Nat), (∀ z ∈ M, z.wid = q.e) → j ≤ M.length → V.atomsL (M.take j) = (V.atomsL M).take (j * q.e) := fun M j hM hj => by
     obtain ⟨rr, hrr⟩ := V.atomsL_take_le M j
     have h2 : (V.atomsL (M.take j)).length = j * q.e := by
      rw [V.atomsL_length (e := q.e) fun y hy => hM y (List.mem_of_mem_take hy), List.length_take, Nat.min_eq_left hj]
     rw [hrr, ← h2, List.take_left]
    refine OpOk.row (arr' := (arr.toList.take (o' * q.e) ++ news.take (r * q.e) ++ arr.toList.drop (o' * q.e + r * q.e)).toArray) (y := ⟨q.t, q.e, q.l.take o' ++ L.take r ++ q.l.drop (o' + r)⟩) hH hf hq g1 g2 (.inl rfl) (he (.int .i64 (r : Nat)) _ ?_) hsize rfl hwid ?_ ?_ (fun _ _ => RepW.raw rfl)
    ·have hmin : Nat.min L.length m = r := hr
     simp [Builtin.copy_, run_underlying u1, Builtin.lenOf, run_size u2, hmin, hload, hstore, goInt]
    ·show (V.atomsL (q.l.take o' ++ L.take r ++ q.l.drop (o' + r))).length ≤ _
     rw [V.atomsL_length hwid, hlen, hsize]
     omega
    ·intro j z u' hz hu'
     change (V.atomsL (q.l.take o' ++ L.take r ++ q.l.drop (o' + r)))[j]? = some z at hz
     rw [V.atomsL_append, V.atomsL_append, tk q.l o' q3 (by omega), tk L r hLw (by omega), V.atomsL_drop q3] at hz
     simp only [List.getElem?_toArray] at hu'
     have l1 : ((V.atomsL q.l).take (o' * q.e)).length = o' * q.e := by rw [List.length_take]; omega
     have l2 : ((V.atomsL L).take (r * q.e)).length = r * q.e := by rw [List.length_take, ← hcl.len]; omega
     have m1 : (arr.toList.take (o' * q.e)).length = o' * q.e := by rw [List.length_take]; simp; omega
     rw [List.append_assoc] at hz hu'
     by_cases c1 : j < o' * q.e
     ·rw [List.getElem?_append_left (by omega), List.getElem?_take, if_pos c1] at hz
      rw [List.getElem?_append_left (by omega), List.getElem?_take, if_pos c1] at hu'
      exact q5 j z u' hz (by simpa using hu')
     ·rw [List.getElem?_append_right (by omega), l1] at hz
      rw [List.getElem?_append_right (by omega), m1] at hu'
      by_cases c2 : j - o' * q.e < r * q.e
      ·rw [List.getElem?_append_left (by omega), List.getElem?_take, if_pos c2] at hz
       rw [List.getElem?_append_left (by omega), List.getElem?_take, if_pos c2] at hu'
       exact hcl.rep _ z u' hz hu'
      ·rw [List.getElem?_append_right (by omega), l2, List.getElem?_drop] at hz
       rw [List.getElem?_append_right (by omega), hntl, List.getElem?_drop] at hu'
       rw [Nat.add_mul] at hz
       exact q5 _ z u' hz (by simpa using hu')
   ·exact h.elim
  ·exact h.elim
 ·exact h.elim
end
end Go.Proofs.YtfbogelmgdojgaaGreat


/- Abstract operations: structs, slice literals, closures, conversions. No program in sight. -/
namespace Go.Proofs.YtfbogelmgdojgaaGreat
set_option linter.unusedSimpArgs false
set_option linter.unusedVariables false
open Go.RowKit

def V.plain : V → Bool
 | .any | .tup _ => false
 | _ => true
def kidsOf : List (Nat × Bool) → List Value → List V
 | [], _ => []
 | (s, g) :: r, cs => (if g = true then V.agg ((cs.take s).map .raw) else .raw (cs.headD undef)) :: kidsOf r (cs.drop s)
def partsOf (P : Program) (t : TypeId) : Option (List (Nat × Bool)) :=
 match P.underlying t with
 | some (.struct fs) => fs.toList.mapM fun f => match tySize P f.type, tyAgg P f.type with
   | some s, some g => some (s, g)
   | _, _ => none
 | some (.array n e) => match tySize P e, tyAgg P e with
   | some s, some g => some (List.replicate n (s, g))
   | _, _ => none
 | _ => none
def sumFst (l : List (Nat × Bool)) : Nat := (l.map (·.1)).sum
def tyKids (P : Program) (t : TypeId) : Option V :=
 match partsOf P t, (P.info? t).bind (·.zero) with
 | some l, some (.agg cs) => if sumFst l = cs.size ∧ (l.all fun p => p.2 || p.1 == 1) = true then some (.agg (kidsOf l cs.toList)) else none
 | _, _ => none
def tyPlace (P : Program) (t : TypeId) (i : Nat) : Option (Nat × Nat) :=
 match P.underlying t with
 | some (.struct fs) => match fs[i]? with
   | some f => (tySize P f.type).map fun s => (f.offset, s)
   | none => none
 | some (.array _ e) => (tySize P e).map fun s => (i * s, s)
 | _ => none
def aFill (P : Program) (t : TypeId) (e : Operand → V) : List (Nat × Operand) → V → Option V
 | [], x => some x
 | (i, p) :: r, x => match tyPlace P t i with
   | some (off, s) => if (e p).good = true ∧ (e p).wid = s ∧ off + s ≤ x.wid then aFill P t e r (x.put off (e p)) else none
   | none => none
def V.asAgg (x : V) : V := if x.isAgg = true then x else .agg [x]
def aBuild (P : Program) (t : TypeId) (e : Operand → V) (parts : List (Nat × Operand)) (k : V → Prop) : Prop :=
 match tyKids P t with
 | some z => (match aFill P t e parts z with
   | some x => k x.asAgg
   | none => False)
 | none => False

theorem kidsOf_atoms : ∀ (l : List (Nat × Bool)) (cs : List Value), sumFst l = cs.length → (l.all fun p => p.2 || p.1 == 1) = true → V.atomsL (kidsOf l cs) = cs.map .raw
 | [], cs, h, _ => by
   have : cs = [] := List.eq_nil_of_length_eq_zero (by simpa [sumFst] using h.symm)
   subst this; rfl
 | (s, g) :: r, cs, h, h' => by
   simp only [sumFst, List.map_cons, List.sum_cons] at h
   simp only [List.all_cons, Bool.and_eq_true] at h'
   have ih := kidsOf_atoms r (cs.drop s) (by simp only [sumFst, List.length_drop]; omega) h'.2
   simp only [kidsOf, V.atomsL, ih]
   cases g with
   | true =>
     show V.atomsL _ ++ _ = _
     rw [atomsL_raws, ← List.map_append, List.take_append_drop]
   | false =>
     have hs : s = 1 := by simpa using h'.1
     subst hs
     cases cs with
     | nil => simp at h
     | cons c cs => simp [V.atoms]
theorem V.asAgg_spec (x : V) : x.asAgg.isAgg = true ∧ x.asAgg.atoms = x.atoms := by
 unfold V.asAgg
 split
 ·rename_i h; exact ⟨h, rfl⟩
 ·exact ⟨rfl, by show V.atomsL [x] = _; simp [V.atomsL]⟩

theorem getElem?_fold : ∀ (l : List Value) (k off : Nat) (cells : Array Value), off + k + l.length ≤ cells.size →
 ((l.zipIdx k).foldl (fun cs (p : Value × Nat) => cs.setIfInBounds (off + p.2) p.1) cells).size = cells.size ∧
 ∀ i, ((l.zipIdx k).foldl (fun cs (p : Value × Nat) => cs.setIfInBounds (off + p.2) p.1) cells)[i]? = if off + k ≤ i ∧ i < off + k + l.length then l[i - (off + k)]? else cells[i]?
 | [], k, off, cells, _ => by
   refine ⟨rfl, fun i => ?_⟩
   rw [if_neg (by simp)]
   rfl
 | v :: l, k, off, cells, h => by
   simp only [List.zipIdx_cons, List.foldl_cons]
   simp only [List.length_cons] at h
   obtain ⟨h1, h2⟩ := getElem?_fold l (k + 1) off (cells.setIfInBounds (off + k) v) (by simp; omega)
   refine ⟨by rw [h1]; simp, fun i => ?_⟩
   rw [h2 i]
   simp only [List.length_cons]
   by_cases c1 : off + (k + 1) ≤ i ∧ i < off + (k + 1) + l.length
   ·rw [if_pos c1, if_pos (by omega)]
    rw [show i - (off + k) = (i - (off + (k + 1))) + 1 from by omega, List.getElem?_cons_succ]
   ·rw [if_neg c1]
    by_cases c2 : i = off + k
    ·subst c2
     rw [if_pos (by omega), Array.getElem?_setIfInBounds_self_of_lt (by omega)]
     simp
    ·rw [if_neg (by omega), Array.getElem?_setIfInBounds_ne (fun e => c2 e.symm)]

section
variable {P : Program} {w : World} {O : Nat → Prop} {ρ : Nat → Option Nat}
def RepC (w : World) (O : Nat → Prop) (ρ : Nat → Option Nat) (l : List V) (cells : Array Value) : Prop := l.length = cells.size ∧ ∀ (i : Nat) (y : V) (u : Value), l[i]? = some y → cells[i]? = some u → RepA w O ρ y u
theorem RepC.raws (cs : Array Value) : RepC w O ρ (cs.toList.map .raw) cs := by
 refine ⟨by simp, fun i y u hy hu => ?_⟩
 simp [hu] at hy
 subst hy
 exact .raw _ _
theorem RepC.fold {l : List V} {cells : Array Value} {x : V} {v : Value} {off : Nat} (h : RepC w O ρ l cells) (hg : x.good = true) (hx : RepV w O ρ x v) (hs : off + x.wid ≤ l.length) :
 RepC w O ρ (l.take off ++ x.atoms ++ l.drop (off + x.wid)) (v.cells.zipIdx.foldl (fun cs (p : Value × Nat) => cs.setIfInBounds (off + p.2) p.1) cells) := by
 obtain ⟨c1, c2, c3⟩ := good_cells hg hx
 have hconv : v.cells.zipIdx.foldl (fun cs (p : Value × Nat) => cs.setIfInBounds (off + p.2) p.1) cells = (v.cells.toList.zipIdx 0).foldl (fun cs (p : Value × Nat) => cs.setIfInBounds (off + p.2) p.1) cells := by
  rw [← Array.foldl_toList, Array.toList_zipIdx]
 rw [hconv]
 have hvl : v.cells.toList.length = x.wid := by simp [c1]
 obtain ⟨g1, g2⟩ := getElem?_fold v.cells.toList 0 off cells (by rw [hvl, ← h.1]; omega)
 have hxl : x.atoms.length = x.wid := rfl
 refine ⟨?_, fun i y u hy hu => ?_⟩
 ·rw [g1, ← h.1]
  simp only [List.length_append, List.length_take, List.length_drop, hxl]
  omega
 ·rw [g2, hvl] at hu
  simp only [Nat.add_zero] at hu
  rw [List.append_assoc] at hy
  by_cases i1 : i < off
  ·rw [List.getElem?_append_left (by rw [List.length_take]; omega), List.getElem?_take, if_pos i1] at hy
   rw [if_neg (by omega)] at hu
   exact h.2 i y u hy hu
  ·rw [List.getElem?_append_right (by rw [List.length_take]; omega), List.length_take, Nat.min_eq_left (by omega)] at hy
   by_cases i2 : i < off + x.wid
   ·rw [List.getElem?_append_left (by omega)] at hy
    rw [if_pos (by omega)] at hu
    exact c2 _ y u hy (by simpa using hu)
   ·rw [List.getElem?_append_right (by omega), List.getElem?_drop] at hy
    rw [if_neg (by omega)] at hu
    rw [show off + x.wid + (i - off - x.atoms.length) = i from by omega] at hy
    exact h.2 i y u hy hu
theorem fill_ok {t : TypeId} {e : Operand → V} {ev : Operand → Value} (henv : ∀ x, RepV w O ρ (e x) (ev x)) {pl : Nat → Option (Nat × Nat)} (hpl : ∀ i q, tyPlace P t i = some q → pl i = some q) :
 ∀ (parts : List (Nat × Operand)) (z x : V) (cells : Array Value), aFill P t e parts z = some x → RepC w O ρ z.atoms cells → ∃ cs, Instr.fill pl cells (parts.map fun p => (p.1, ev p.2)) = some cs ∧ RepC w O ρ x.atoms cs
 | [], z, x, cells, h, hc => by
   simp only [aFill, Option.some.injEq] at h
   subst h
   exact ⟨cells, rfl, hc⟩
 | (i, p) :: r, z, x, cells, h, hc => by
   unfold aFill at h
   split at h
   ·rename_i off s hp
    split at h
    ·rename_i hcond
     obtain ⟨hg, hw, hfit⟩ := hcond
     have hpi := hpl i _ hp
     obtain ⟨c1, c2, c3⟩ := good_cells hg (henv p)
     have hwl : z.atoms.length = z.wid := rfl
     have hnew := hc.fold (off := off) hg (henv p) (by rw [hw]; omega)
     rw [← V.put_atoms z off (e p) (by rw [hw]; omega)] at hnew
     obtain ⟨cs, k1, k2⟩ := fill_ok henv hpl r _ x _ h hnew
     refine ⟨cs, ?_, k2⟩
     simp only [List.map_cons, Instr.fill, hpi]
     rw [if_neg]
     ·exact k1
     ·rw [c1, hw, ← hc.1]
      simp
      omega
    ·cases h
   ·cases h
theorem tyKids_inv {t : TypeId} {z : V} (h : tyKids P t = some z) : ∃ i cs, P.info? t = some i ∧ i.zero = some (.agg cs) ∧ z.atoms = cs.toList.map .raw ∧ ((∃ fs, P.underlying t = some (.struct fs)) ∨ ∃ n e, P.underlying t = some (.array n e)) := by
 unfold tyKids at h
 split at h
 ·rename_i l cs hl hz
  split at h
  ·rename_i hc
   injection h with h
   subst h
   cases hi : P.info? t with
   | none => rw [hi] at hz; cases hz
   | some i =>
     rw [hi] at hz
     refine ⟨i, cs, rfl, hz, kidsOf_atoms l cs.toList (by simpa using hc.1) hc.2, ?_⟩
     unfold partsOf at hl
     split at hl
     ·rename_i fs hd; exact .inl ⟨fs, hd⟩
     ·rename_i n e hd; exact .inr ⟨n, e, hd⟩
     ·cases hl
  ·cases h
 ·cases h
theorem mapM_each {α β : Type} {f : α → Option β} : ∀ (l : List α) (m : List β), l.mapM f = some m → ∀ x ∈ l, ∃ y, f x = some y
 | [], _, _, x, hx => by simp at hx
 | a :: l, m, h, x, hx => by
   simp only [List.mapM_cons, Option.bind_eq_bind, Option.bind_eq_some_iff, Option.pure_def] at h
   obtain ⟨y, hy, ys, hys, _⟩ := h
   rcases List.mem_cons.1 hx with rfl | hx
   ·exact ⟨y, hy⟩
   ·exact mapM_each l ys hys x hx
theorem tyKids_fields {t : TypeId} {z : V} (h : tyKids P t = some z) : ∀ fs, P.underlying t = some (.struct fs) → ∀ f ∈ fs.toList, ∃ s, tySize P f.type = some s := by
 intro fs hd f hf
 unfold tyKids at h
 split at h
 ·rename_i l cs hl hz
  unfold partsOf at hl
  rw [hd] at hl
  simp only at hl
  obtain ⟨y, hy⟩ := mapM_each _ _ hl f hf
  cases hs : tySize P f.type with
  | none => rw [hs] at hy; cases hy
  | some s => exact ⟨s, rfl⟩
 ·cases h
theorem run_places {fs : Array Field} {w' : World} : ∀ (l : List Field), (∀ f ∈ l, ∃ s, tySize P f.type = some s) → (l.mapM (m := Sem) fun f => do pure (f.offset, ← sizeOf f.type)).run P w' = .ok (l.map fun f => (f.offset, (tySize P f.type).getD 0)) w'
 | [], _ => by simp
 | f :: l, h => by
   obtain ⟨s, hs⟩ := h f (by simp)
   have ih := run_places (fs := fs) (w' := w') l fun g hg => h g (by simp [hg])
   simp only [List.mapM_cons, Sem.run_bind, run_size hs, Result.andThen_ok, Sem.run_pure, ih, List.map_cons, hs, Option.getD_some]
theorem aBuild_ok {t : TypeId} {e : Operand → V} {ev : Operand → Value} (henv : ∀ x, RepV w O ρ (e x) (ev x)) {parts : Array (Nat × Operand)} {k} (h : aBuild P t e parts.toList k) :
 ∃ z, k z ∧ ∃ r, (Instr.build t (parts.map fun p => (p.1, ev p.2))).run P w = .ok r w ∧ RepV w O ρ z r := by
 unfold aBuild at h
 split at h
 ·rename_i z hz
  split at h
  ·rename_i x hx
   obtain ⟨i, cs, h1, h2, h3, h4⟩ := tyKids_inv hz
   have hzc : RepC w O ρ z.atoms cs := by rw [h3]; exact RepC.raws cs
   obtain ⟨a1, a2⟩ := V.asAgg_spec x
   rcases h4 with ⟨fs, hd⟩ | ⟨n, el, hd⟩
   ·have hpm : (fs.mapM (m := Sem) fun f => do pure (f.offset, ← sizeOf f.type)).run P w = .ok (fs.map fun f => (f.offset, (tySize P f.type).getD 0)) w := by
     have := run_places (P := P) (fs := fs) (w' := w) fs.toList (tyKids_fields hz fs hd)
     rw [Array.mapM_eq_mapM_toList, Sem.run_map, this, Result.andThen_ok]
     congr 1
     apply Array.ext'
     simp
    obtain ⟨c, k1, k2⟩ := fill_ok (P := P) (t := t) henv (pl := fun i => (fs.map fun f => (f.offset, (tySize P f.type).getD 0))[i]?) (fun i q hq => by
     unfold tyPlace at hq
     rw [hd] at hq
     simp only at hq
     split at hq
     ·rename_i f hf
      cases hs : tySize P f.type with
      | none => rw [hs] at hq; cases hq
      | some s => rw [hs] at hq; simp at hq; subst hq; simp [hf, hs]
     ·cases hq) parts.toList z x cs hx hzc
    refine ⟨_, h, .agg c, ?_, RepV.of_W ((RepW.agg_iff a1).2 ⟨c, rfl, by rw [a2]; exact k2.1, fun i y u hy hu => k2.2 i y u (by rw [a2] at hy; exact hy) hu⟩) (fun l e' => by rw [e'] at a1; simp [V.isAgg] at a1)⟩
    simp only [Instr.build, zeroValue, typeInfo, Sem.run_bind, run_program, Result.andThen_ok, h1, Sem.run_pure, h2, run_underlying hd, Value.cells, hpm]
    simp only [Array.toList_map] 
    simp only [k1]
    rfl
   ·have hse : ∃ s, tySize P el = some s := by
     unfold tyKids partsOf at hz
     rw [hd] at hz
     simp only at hz
     cases hs : tySize P el with
     | none => rw [hs] at hz; simp at hz
     | some s => exact ⟨s, rfl⟩
    obtain ⟨s, hs⟩ := hse
    obtain ⟨c, k1, k2⟩ := fill_ok (P := P) (t := t) henv (pl := fun i => some (i * s, s)) (fun i q hq => by
     unfold tyPlace at hq
     rw [hd] at hq
     simp only [hs, Option.map_some] at hq
     exact hq) parts.toList z x cs hx hzc
    refine ⟨_, h, .agg c, ?_, RepV.of_W ((RepW.agg_iff a1).2 ⟨c, rfl, by rw [a2]; exact k2.1, fun i y u hy hu => k2.2 i y u (by rw [a2] at hy; exact hy) hu⟩) (fun l e' => by rw [e'] at a1; simp [V.isAgg] at a1)⟩
    simp only [Instr.build, zeroValue, typeInfo, Sem.run_bind, run_program, Result.andThen_ok, h1, Sem.run_pure, h2, run_underlying hd, Value.cells, run_size hs]
    simp only [Array.toList_map]
    simp only [k1]
    rfl
  ·exact h.elim
 ·exact h.elim
end
end Go.Proofs.YtfbogelmgdojgaaGreat

