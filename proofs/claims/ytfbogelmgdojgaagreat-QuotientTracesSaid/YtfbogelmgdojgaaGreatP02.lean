/- Texts A4 A5 A6 in one. -/
import Derived.Test.YtfbogelmgdojgaaGreatP01
import Derived.IntWalk
import Derived.Lib.SliceRun
/- Abstract operations on memory: loads, stores, addresses, new variables. No program in sight. -/
namespace Go.Proofs.YtfbogelmgdojgaaGreat
set_option linter.unusedSimpArgs false
set_option linter.unusedVariables false
open Go.RowKit

def tySize (P : Program) (t : TypeId) : Option Nat := (P.info? t).map (·.size)
def descAgg : TypeDesc → Bool
  | .struct _ | .array _ _ => true
  | _ => false
def tyAgg (P : Program) (t : TypeId) : Option Bool := (P.underlying t).map descAgg
def tyField (P : Program) (t : TypeId) (f : Nat) : Option (Nat × Nat × Bool) :=
  match P.underlying t with
  | some (.struct fs) => match fs[f]? with
    | some fd => match tySize P fd.type, tyAgg P fd.type with
      | some s, some g => some (fd.offset, s, g)
      | _, _ => none
    | none => none
  | _ => none
def tyElem (P : Program) (t : TypeId) : Option (TypeId × Nat) :=
  match P.underlying t with
  | some (.slice e) => (tySize P e).map fun s => (e, s)
  | _ => none
def tyArr (P : Program) (t : TypeId) : Option (Nat × TypeId × Nat) :=
  match P.underlying t with
  | some (.array n e) => (tySize P e).map fun s => (n, e, s)
  | _ => none
def tyZero (P : Program) (t : TypeId) : Option V := (P.info? t).bind fun i => i.zero.map cst
def okStore : V → Bool
  | .any | .tup _ | .raw (.agg _) | .raw (.tuple _) => false
  | _ => true
/-- Every cell of it can be stored. -/
def V.good (x : V) : Bool := x.atoms.all okStore

section
variable {P : Program} {w : World}
theorem run_size {t s} (h : tySize P t = some s) : (sizeOf t).run P w = .ok s w := by
  unfold tySize at h
  cases hi : P.info? t with
  | none => rw [hi] at h; cases h
  | some i =>
    rw [hi] at h
    simp only [Option.map_some, Option.some.injEq] at h
    simp [sizeOf, typeInfo, hi, h]
theorem run_isAgg {t g} (h : tyAgg P t = some g) : (isAgg t).run P w = .ok g w := by
  unfold tyAgg at h
  cases hd : P.underlying t with
  | none => rw [hd] at h; cases h
  | some d =>
    rw [hd] at h
    simp only [Option.map_some, Option.some.injEq] at h
    subst h
    simp only [isAgg, Sem.run_bind, run_underlying hd, Result.andThen_ok]
    cases d <;> rfl
theorem Stored.cells {b a : Nat} {vs : List Value} (h : Stored w b a vs) : ∀ j v, vs[j]? = some v → w.cell? ((⟨b, a, none⟩ : Addr).add j) = some v := by
  intro j v hj
  rw [Addr.add_lit]
  exact h j v hj
theorem run_loadAt {t s g b a} {vs : List Value} (hs : tySize P t = some s) (hg : tyAgg P t = some g) (h : Stored w b a vs) (hl : vs.length = s) (h1 : g = false → 0 < s) :
    (Instr.loadAt t (.pointer (some ⟨b, a, none⟩))).run P w = .ok (if g = true then .agg vs.toArray else vs.getD 0 undef) w := by
  simp only [Instr.loadAt, Instr.sureAddr, Sem.run_bind, Sem.run_pure, Result.andThen_ok, loadVar, run_isAgg hg]
  cases g with
  | true =>
    subst hl
    simp [run_size hs, run_loadCells_list w _ vs h.cells]
  | false =>
    have hp := h1 rfl
    have hc := h 0 vs[0] (List.getElem?_eq_getElem (by omega))
    simp only [Nat.add_zero] at hc
    simp [run_load, hc, List.getD_eq_getElem?_getD, List.getElem?_eq_getElem (show 0 < vs.length by omega)]
theorem agg_ne {cs : Array Value} : cs ≠ #[.agg cs] := by
  intro h
  have h1 := congrArg SizeOf.sizeOf h
  simp at h1
  omega
theorem one_of_cells {v : Value} (h : v.cells = #[v]) : ∀ cs, v ≠ .agg cs := by
  rintro cs rfl
  exact agg_ne h
end

section
variable {w : World} {O : Nat → Prop} {ρ : Nat → Option Nat}
theorem RepA.one {x v} (h : RepA w O ρ x v) (ha : x.isAgg = false) (hk : okStore x = true) : v.oneCell' = true := by
  cases h with
  | raw _ v => cases v <;> first | rfl | simp [okStore] at hk
  | any => simp [okStore] at hk
  | _ => rfl
theorem RepA.toW {x v} (h : RepA w O ρ x v) (ha : x.isAgg = false) (hk : okStore x = true) : RepW w O ρ x v := by
  refine RepW.of_atom h ha (cells_single ?_)
  have := h.one ha hk
  rintro cs rfl
  simp [Value.oneCell'] at this
/-- A part of a row. -/
theorem row_part {b : Nat} {arr : Array Value} {t : TypeId} {fr} {l : List V} {e i off s : Nat} {x : V} (ha : w.heap[b]? = some (.cells arr t fr)) (hw : ∀ y ∈ l, y.wid = e) (hl : (V.atomsL l).length ≤ arr.size)
    (hr : ∀ (j : Nat) (y : V) (u : Value), (V.atomsL l)[j]? = some y → arr[j]? = some u → RepA w O ρ y u) (hi : l[i]? = some x) (hs : off + s ≤ e) :
    ∃ vs : List Value, vs.length = s ∧ Stored w b (i * e + off) vs ∧ ∀ (j : Nat) (y : V) (v : Value), ((x.atoms.drop off).take s)[j]? = some y → vs[j]? = some v → RepA w O ρ y v := by
  have hlen := V.atomsL_length hw
  have hil : i < l.length := (List.getElem?_eq_some_iff.1 hi).1
  have hbig : i * e + e ≤ l.length * e := by
    have := Nat.mul_le_mul_right e (show i + 1 ≤ l.length by omega)
    rw [Nat.add_mul] at this; omega
  refine ⟨(arr.toList.drop (i * e + off)).take s, ?_, ?_, ?_⟩
  · rw [List.length_take, List.length_drop]; simp; omega
  · intro j v hj
    rw [List.getElem?_take] at hj
    split at hj
    · rw [List.getElem?_drop] at hj
      simp only [World.cell?, ha, Option.isSome_none, Bool.false_eq_true, if_false]
      simpa using hj
    · cases hj
  · intro j y v hy hv
    rw [List.getElem?_take] at hy hv
    split at hy
    · rename_i hjs
      rw [if_pos hjs] at hv
      rw [List.getElem?_drop] at hy hv
      refine hr (i * e + off + j) y v ?_ (by simpa using hv)
      rw [Nat.add_assoc, V.atomsL_get hw hi (by omega), hy]
    · cases hy
end

/-- What a load of a type finds at a place in a value. -/
def ldV (P : Program) (t : TypeId) (x : V) (off : Nat) : Option V :=
  match tySize P t, tyAgg P t with
  | some s, some true => if off + s ≤ x.wid then some (x.sub off s) else none
  | some _, some false => match x.atoms[off]? with
    | some y => if okStore y = true then some y else none
    | none => none
  | _, _ => none

section
variable {P : Program} {w : World} {O : Nat → Prop} {ρ : Nat → Option Nat}
/-- A load at a place where the value's cells are. -/
theorem load_ok {t b a} {x y : V} {off : Nat} (h : ldV P t x off = some y) (hp : ∀ s, off + s ≤ x.wid → ∃ vs : List Value, vs.length = s ∧ Stored w b a vs ∧ ∀ (j : Nat) (y : V) (v : Value), ((x.atoms.drop off).take s)[j]? = some y → vs[j]? = some v → RepA w O ρ y v) :
    (∀ l, y ≠ .tup l) ∧ ∃ v, (Instr.loadAt t (.pointer (some ⟨b, a, none⟩))).run P w = .ok v w ∧ RepW w O ρ y v := by
  unfold ldV at h
  cases hs : tySize P t with
  | none => rw [hs] at h; cases h
  | some s =>
    cases hg : tyAgg P t with
    | none => rw [hs, hg] at h; cases h
    | some g =>
      rw [hs, hg] at h
      cases g with
      | true =>
        simp only at h
        by_cases hc : off + s ≤ x.wid
        · rw [if_pos hc] at h
          injection h with h
          subst h
          obtain ⟨vs, hl, hst, hr⟩ := hp s hc
          obtain ⟨g1, g2⟩ := V.sub_spec x off s
          refine ⟨fun l e => by rw [e] at g1; simp [V.isAgg] at g1, _, run_loadAt hs hg hst hl (by simp), ?_⟩
          refine (RepW.agg_iff g1).2 ⟨vs.toArray, rfl, ?_, ?_⟩
          · rw [g2, List.length_take, List.length_drop]; unfold V.wid at hc; simp; omega
          · intro i z u hz hu
            rw [g2] at hz
            exact hr i z u hz (by simpa using hu)
        · rw [if_neg hc] at h; cases h
      | false =>
        simp only at h
        cases hy : x.atoms[off]? with
        | none => rw [hy] at h; cases h
        | some z =>
          rw [hy] at h
          simp only at h
          by_cases hk : okStore z = true
          · rw [if_pos hk] at h
            injection h with h
            subst h
            have hlt : off < x.atoms.length := (List.getElem?_eq_some_iff.1 hy).1
            have hflat := V.atoms_flat x z (List.mem_of_getElem? hy)
            obtain ⟨vs, hl, hst, hr⟩ := hp 1 (by unfold V.wid; omega)
            have hv0 : vs[0]? = some (vs.getD 0 undef) := by
              rw [List.getD_eq_getElem?_getD, List.getElem?_eq_getElem (by omega)]; rfl
            have hra := hr 0 z _ (by rw [List.getElem?_take, if_pos (by omega), List.getElem?_drop]; exact hy) hv0
            refine ⟨fun l e => by subst e; simp [okStore] at hk, vs.getD 0 undef, ?_, hra.toW hflat hk⟩
            have hc := hst 0 _ hv0
            simp only [Nat.add_zero] at hc
            simp [Instr.loadAt, Instr.sureAddr, loadVar, run_isAgg hg, run_load, hc]
          · rw [if_neg hk] at h; cases h
end

section
variable {P : Program} {B : Nat → Prop} {H : Hp} {w : World} {ρ : Nat → Option Nat} {n : Nat} {a : Act} {o : Oper}
def aLoad (P : Program) (H : Hp) (t : TypeId) (p : V) (k : V → List (Nat × Option Blk) → List Nat → Prop) : Prop :=
  match p with
  | .ptr b e i off => match H b with
    | some x => x.e = e ∧ (match x.l[i]? with
      | some y => (match ldV P t y off with
        | some z => k z [] [b]
        | none => False)
      | none => False)
    | none => False
  | .pel x => (match ldV P t x 0 with
    | some z => k z [] []
    | none => False)
  | _ => False
theorem aLoad_ok {t : TypeId} {p : V} {u : Value} {k} (hH : HRep w (own B ρ H) ρ H) (hp : RepV w (own B ρ H) ρ p u) (h : aLoad P H t p k) :
    ∃ z rs, k z [] rs ∧ ∃ v, (Instr.loadAt t u).run P w = .ok v w ∧ RepV w (own B ρ H) ρ z v := by
  unfold aLoad at h
  split at h
  · rename_i b e i off
    have hpa := RepW.atom hp (by rfl)
    cases hpa with
    | ptr _ _ _ _ _ c hc =>
    split at h
    · rename_i x hx
      obtain ⟨rfl, h⟩ := h
      split at h
      · rename_i y hy
        split at h
        · rename_i z hz
          obtain ⟨b', arr, g1, g2, g3, g4, g5⟩ := hH.row _ _ hx
          rw [hc] at g1
          injection g1 with g1
          subst g1
          have hwid : y.wid = x.e := g3 y (List.mem_of_getElem? hy)
          obtain ⟨hnt, v, hr, hv⟩ := load_ok (P := P) (w := w) (b := c) (a := i * x.e + off) hz fun s hs => row_part g2 g3 g4 g5 hy (by rw [hwid] at hs; exact hs)
          exact ⟨z, _, h, v, hr, RepV.of_W hv hnt⟩
        · exact h.elim
      · exact h.elim
    · exact h.elim
  · rename_i x
    split at h
    · rename_i z hz
      have hpa := RepW.atom hp (by rfl)
      cases hpa with
      | pel _ _ c a' vs hb hO hs hl hr =>
      obtain ⟨hnt, v, hr', hv⟩ := load_ok (P := P) (w := w) (O := own B ρ H) (ρ := ρ) (b := c) (a := a') hz fun s hs' => by
        refine ⟨vs.take s, by rw [List.length_take, hl]; unfold V.wid at hs'; omega, fun j v hj => ?_, fun j y v hy hv => ?_⟩
        · rw [List.getElem?_take] at hj
          split at hj
          · exact hs j v hj
          · cases hj
        · rw [List.drop_zero, List.getElem?_take] at hy
          rw [List.getElem?_take] at hv
          split at hy
          · rename_i hjs
            rw [if_pos hjs] at hv
            exact (hr j y v hy hv).mono ((Ext.refl _ _ _).into ρ)
          · cases hy
      exact ⟨z, _, h, v, hr', RepV.of_W hv hnt⟩
    · exact h.elim
  · exact h.elim

/-- A value that can be stored: its cells. -/
theorem good_cells {O} {x : V} {v : Value} (hg : x.good = true) (hx : RepV w O ρ x v) : v.cells.size = x.wid ∧ (∀ (i : Nat) (y : V) (u : Value), x.atoms[i]? = some y → v.cells[i]? = some u → RepA w O ρ y u) ∧ ∀ u ∈ v.cells.toList, u.oneCell' = true := by
  have hW : RepW w O ρ x v := by
    cases x <;> first | exact hx | (simp [V.good, V.atoms, okStore] at hg)
  rcases hW with rfl | ⟨⟨_, _, h1⟩, h2⟩
  · simp [V.good, V.atoms, okStore] at hg
  · refine ⟨h1.symm, h2, fun u hu => ?_⟩
    obtain ⟨i, hi⟩ := List.getElem?_of_mem hu
    have hil : i < x.atoms.length := by rw [h1]; have := (List.getElem?_eq_some_iff.1 hi).1; simpa using this
    have hy := List.getElem?_eq_getElem hil
    refine (h2 i _ u hy (by simpa using hi)).one (V.atoms_flat x _ (List.getElem_mem hil)) ?_
    unfold V.good at hg
    exact List.all_eq_true.1 hg _ (List.getElem_mem hil)
theorem V.good_ne {x : V} (hg : x.good = true) : x ≠ .any ∧ ∀ l, x ≠ .tup l := by
  constructor
  · rintro rfl; simp [V.good, V.atoms, okStore] at hg
  · rintro l rfl; simp [V.good, V.atoms, okStore] at hg

def aStore (P : Program) (H : Hp) (t : TypeId) (p x : V) (k : V → List (Nat × Option Blk) → List Nat → Prop) : Prop :=
  match p with
  | .ptr b e i off => match H b with
    | some y => y.e = e ∧ (match y.l[i]? with
      | some z => tySize P t = some x.wid ∧ x.good = true ∧ off + x.wid ≤ z.wid ∧ k (.raw undef) [(b, some ⟨y.t, y.e, y.l.set i (z.put off x)⟩)] [b]
      | none => False)
    | none => False
  | _ => False
theorem aStore_ok {t : TypeId} {p x : V} {u v : Value} {k} (hH : HRep w (own B ρ H) ρ H) (hf : ρ n = none) (hp : RepV w (own B ρ H) ρ p u) (hx : RepV w (own B ρ H) ρ x v) (h : aStore P H t p x k)
    (he : ∀ w1, (Instr.storeAt t u v).run P w = .ok () w1 → (execOp a.eval o).run P w = .ok .skip w1) :
    ∃ z ws rs, k z ws rs ∧ OpOk P B H w ρ n a o z ws := by
  unfold aStore at h
  split at h
  · rename_i b e i off
    have hpa := RepW.atom hp (by rfl)
    cases hpa with
    | ptr _ _ _ _ _ c hc =>
    split at h
    · rename_i y hy
      obtain ⟨rfl, h⟩ := h
      split at h
      · rename_i z hz
        obtain ⟨hsz, hg, hfit, h⟩ := h
        refine ⟨_, _, _, h, ?_⟩
        obtain ⟨b', arr, g1, g2, g3, g4, g5⟩ := hH.row _ _ hy
        rw [hc] at g1
        injection g1 with g1
        subst g1
        obtain ⟨c1, c2, c3⟩ := good_cells hg hx
        have hwid : z.wid = y.e := g3 z (List.mem_of_getElem? hz)
        have hil : i < y.l.length := (List.getElem?_eq_some_iff.1 hz).1
        have hlen := V.atomsL_length g3
        have hbig : i * y.e + y.e ≤ y.l.length * y.e := by
          have := Nat.mul_le_mul_right y.e (show i + 1 ≤ y.l.length by omega)
          rw [Nat.add_mul] at this; omega
        have hrun := run_storeCells_at P c (i * y.e + off) y.t v.cells.toList 0 arr w g2 (by simp only [Nat.add_zero, Array.length_toList, c1]; omega) c3
        simp only [Nat.add_zero, Array.length_toList, c1] at hrun
        have hput := V.put_atoms z off x hfit
        have hnew : ∀ q ∈ y.l.set i (z.put off x), q.wid = y.e := fun q hq => by
          rcases List.mem_or_eq_of_mem_set hq with hq | rfl
          · exact g3 q hq
          · rw [V.put_wid z off x hfit, hwid]
        have hlen' := V.atomsL_length hnew
        rw [List.length_set] at hlen'
        refine OpOk.row (arr' := (List.take (i * y.e + off) arr.toList ++ v.cells.toList ++ List.drop (i * y.e + off + x.wid) arr.toList).toArray) (y := ⟨y.t, y.e, y.l.set i (z.put off x)⟩) hH hf hy hc g2 (.inr ⟨rfl, rfl⟩) (he _ ?_) ?_ rfl hnew ?_ ?_ (fun _ _ => RepW.raw rfl)
        · simp only [Instr.storeAt, Instr.sureAddr, Sem.run_bind, Sem.run_pure, Result.andThen_ok, storeVar, run_size hsz]
          rw [if_neg (by rw [c1]; simp)]
          exact hrun
        · simp only [List.size_toArray, List.length_append, List.length_take, List.length_drop, Array.length_toList, c1]
          omega
        · simp only [List.size_toArray, List.length_append, List.length_take, List.length_drop, Array.length_toList, c1]
          show (V.atomsL (y.l.set i (z.put off x))).length ≤ _
          omega
        · intro j q u' hq hu'
          change (V.atomsL (y.l.set i (z.put off x)))[j]? = some q at hq
          have hjl : j < (V.atomsL (y.l.set i (z.put off x))).length := (List.getElem?_eq_some_iff.1 hq).1
          have hepos : 0 < y.e := by
            rcases Nat.eq_zero_or_pos y.e with e0 | e0
            · rw [hlen', e0] at hjl; omega
            · exact e0
          have hdm : j / y.e * y.e + j % y.e = j := by rw [Nat.mul_comm]; exact Nat.div_add_mod j y.e
          have hmod : j % y.e < y.e := Nat.mod_lt _ hepos
          have hdl : j / y.e < y.l.length := by
            rw [Nat.div_lt_iff_lt_mul hepos]; omega
          generalize hdj : j / y.e = d at *
          generalize hmj : j % y.e = m at *
          rw [← hdm] at hq hu'
          simp only [List.getElem?_toArray] at hu'
          by_cases hdi : d = i
          · subst hdi
            rw [V.atomsL_get hnew (i := d) (x := z.put off x) (by rw [List.getElem?_set_self hil]) hmod, hput] at hq
            by_cases hm1 : m < off
            · rw [List.append_assoc, List.getElem?_append_left (by rw [List.length_take]; unfold V.wid at hwid; omega), List.getElem?_take, if_pos hm1] at hq
              rw [List.append_assoc, List.getElem?_append_left (by rw [List.length_take]; simp; omega), List.getElem?_take, if_pos (by omega)] at hu'
              refine g5 (d * y.e + m) q u' ?_ (by simpa using hu')
              rw [V.atomsL_get g3 hz hmod]; exact hq
            · by_cases hm2 : m < off + x.wid
              · rw [List.getElem?_append_left (by simp only [List.length_append, List.length_take]; unfold V.wid at *; omega), List.getElem?_append_right (by rw [List.length_take]; omega), List.length_take] at hq
                rw [List.getElem?_append_left (by simp only [List.length_append, List.length_take, Array.length_toList, c1]; omega), List.getElem?_append_right (by rw [List.length_take]; omega), List.length_take] at hu'
                refine c2 (m - off) q u' ?_ ?_
                · rw [← hq]; congr 1; unfold V.wid at hwid; omega
                · rw [← hu']; simp only [Array.length_toList, Array.getElem?_toList]; congr 1; omega
              · rw [List.getElem?_append_right (by simp only [List.length_append, List.length_take]; unfold V.wid at *; omega), List.getElem?_drop] at hq
                rw [List.getElem?_append_right (by simp only [List.length_append, List.length_take, Array.length_toList, c1]; omega), List.getElem?_drop] at hu'
                refine g5 (d * y.e + m) q u' ?_ ?_
                · rw [V.atomsL_get g3 hz hmod, ← hq]; congr 1; simp only [List.length_append, List.length_take]; unfold V.wid at *; omega
                · rw [← hu']; simp only [List.length_append, List.length_take, Array.length_toList, c1, Array.getElem?_toList]; congr 1; omega
          · have hld : y.l[d]? = some y.l[d] := List.getElem?_eq_getElem hdl
            rw [V.atomsL_get hnew (i := d) (x := y.l[d]) (by rw [List.getElem?_set_ne (fun e => hdi e.symm)]; exact hld) hmod] at hq
            refine g5 (d * y.e + m) q u' ?_ ?_
            · rw [V.atomsL_get g3 hld hmod]; exact hq
            · rcases Nat.lt_or_ge d i with hlt | hge
              · have hb1 : d * y.e + y.e ≤ i * y.e := by
                  have := Nat.mul_le_mul_right y.e (show d + 1 ≤ i by omega)
                  rw [Nat.add_mul] at this; omega
                rw [List.append_assoc, List.getElem?_append_left (by rw [List.length_take]; simp; omega), List.getElem?_take, if_pos (by omega)] at hu'
                simpa using hu'
              · have hb1 : i * y.e + y.e ≤ d * y.e := by
                  have := Nat.mul_le_mul_right y.e (show i + 1 ≤ d by omega)
                  rw [Nat.add_mul] at this; omega
                rw [List.getElem?_append_right (by simp only [List.length_append, List.length_take, Array.length_toList, c1]; omega), List.getElem?_drop] at hu'
                rw [← hu']; simp only [List.length_append, List.length_take, Array.length_toList, c1, Array.getElem?_toList]; congr 1; omega
      · exact h.elim
    · exact h.elim
  · exact h.elim
end
end Go.Proofs.YtfbogelmgdojgaaGreat

/- Abstract operations: addresses, fields, new variables, arithmetic. No program in sight. -/
namespace Go.Proofs.YtfbogelmgdojgaaGreat
set_option linter.unusedSimpArgs false
set_option linter.unusedVariables false
open Go.RowKit

abbrev Kt := V → List (Nat × Option Blk) → List Nat → Prop

def aFieldAddr (P : Program) (t : TypeId) (p : V) (f : Nat) (k : V → Prop) : Prop :=
  match tyField P t f with
  | some (fo, s, g) => s ≠ 0 ∧ (match p with
    | .ptr b e i off => k (.ptr b e i (off + fo))
    | .pel x => if g = true then fo + s ≤ x.wid ∧ k (.pel (x.sub fo s)) else s = 1 ∧ (match x.atoms[fo]? with
      | some y => k (.pel y)
      | none => False)
    | _ => False)
  | none => False
def aField (P : Program) (t : TypeId) (x : V) (f : Nat) (k : V → Prop) : Prop :=
  match tyField P t f with
  | some (fo, s, g) => x.isAgg = true ∧ (if g = true then fo + s ≤ x.wid ∧ k (x.sub fo s) else (match x.atoms[fo]? with
      | some y => okStore y = true ∧ k y
      | none => False))
  | none => False
def aIndexAddr (P : Program) (t : TypeId) (p ix : V) (k : V → Prop) : Prop :=
  match ix with
  | .raw (.int _ i) => match tyElem P t with
    | some (_, s) => (match p with
      | .sl b e o m => e = s ∧ 0 ≤ i ∧ i < m ∧ k (.ptr b e (o + i.toNat) 0)
      | .lst l => 0 ≤ i ∧ i < l.length ∧ (match l[i.toNat]? with
        | some y => y.wid = s ∧ k (.pel y)
        | none => False)
      | _ => False)
    | none => match tyArr P t with
      | some (m, el, s) => (match p with
        | .ptr b e j off => 0 ≤ i ∧ i < m ∧ k (.ptr b e j (off + i.toNat * s))
        | .pel x => (0 ≤ i ∧ i < m) ∧ (if tyAgg P el = some true then i.toNat * s + s ≤ x.wid ∧ k (.pel (x.sub (i.toNat * s) s)) else s = 1 ∧ (match x.atoms[i.toNat]? with
          | some y => k (.pel y)
          | none => False))
        | _ => False)
      | none => False
  | _ => False

section
variable {P : Program} {w : World} {O : Nat → Prop} {ρ : Nat → Option Nat}
theorem tyField_inv {t f fo s g} (h : tyField P t f = some (fo, s, g)) : ∃ fs fd, P.underlying t = some (.struct fs) ∧ fs[f]? = some fd ∧ fd.offset = fo ∧ tySize P fd.type = some s ∧ tyAgg P fd.type = some g := by
  unfold tyField at h
  split at h
  · rename_i fs hd
    split at h
    · rename_i fd hf
      split at h
      · rename_i s' g' hs hg
        injection h with h
        injection h with h1 h2
        injection h2 with h2 h3
        subst h1 h2 h3
        exact ⟨fs, fd, hd, hf, rfl, hs, hg⟩
      · cases h
    · cases h
  · cases h
theorem tyElem_inv {t e s} (h : tyElem P t = some (e, s)) : P.underlying t = some (.slice e) ∧ tySize P e = some s := by
  unfold tyElem at h
  split at h
  · rename_i e' hd
    cases hs : tySize P e' with
    | none => rw [hs] at h; cases h
    | some s' => rw [hs] at h; simp at h; obtain ⟨rfl, rfl⟩ := h; exact ⟨hd, hs⟩
  · cases h
theorem tyArr_inv {t m e s} (h : tyArr P t = some (m, e, s)) : P.underlying t = some (.array m e) ∧ tySize P e = some s := by
  unfold tyArr at h
  split at h
  · rename_i m' e' hd
    cases hs : tySize P e' with
    | none => rw [hs] at h; cases h
    | some s' => rw [hs] at h; simp at h; obtain ⟨rfl, rfl, rfl⟩ := h; exact ⟨hd, hs⟩
  · cases h
theorem run_fieldAt {t f fo s g b a} (h : tyField P t f = some (fo, s, g)) (hs : s ≠ 0) : (Instr.fieldAt t (.pointer (some ⟨b, a, none⟩)) f).run P w = .ok (.pointer (some ⟨b, a + fo, none⟩)) w := by
  obtain ⟨fs, fd, h1, h2, rfl, h4, h5⟩ := tyField_inv h
  simp [Instr.fieldAt, run_underlying h1, h2, Instr.sureAddr, fieldPlace, run_size h4, hs, Addr.add_lit]
theorem pel_part {x y : V} {off : Nat} {b a : Nat} {vs : List Value} (hb : b < w.heap.size) (hO : ¬ O b) (hs : Stored w b a vs) (hl : vs.length = x.atoms.length) (hr : ∀ (j : Nat) (y : V) (v : Value), x.atoms[j]? = some y → vs[j]? = some v → RepA w O (fun _ => none) y v)
    (hy : y.atoms = (x.atoms.drop off).take y.atoms.length) : RepA w O ρ (.pel y) (.pointer (some ⟨b, a + off, none⟩)) := by
  have hlen : y.atoms.length ≤ x.atoms.length - off := by
    have := congrArg List.length hy
    rw [List.length_take, List.length_drop] at this
    omega
  refine .pel _ _ _ _ ((vs.drop off).take y.atoms.length) hb hO (fun j v hj => ?_) (by rw [List.length_take, List.length_drop]; omega) fun j z v hz hv => ?_
  · rw [List.getElem?_take] at hj
    split at hj
    · rw [List.getElem?_drop] at hj
      rw [Nat.add_assoc]
      exact hs _ _ hj
    · cases hj
  · rw [List.getElem?_take] at hv
    split at hv
    · rename_i hjl
      rw [List.getElem?_drop] at hv
      rw [hy, List.getElem?_take, if_pos hjl, List.getElem?_drop] at hz
      exact hr _ z v hz hv
    · cases hv
theorem aFieldAddr_ok {t p f} {u : Value} {k} (hp : RepV w O ρ p u) (h : aFieldAddr P t p f k) : ∃ z, k z ∧ ∃ v, (Instr.fieldAt t u f).run P w = .ok v w ∧ RepV w O ρ z v := by
  unfold aFieldAddr at h
  split at h
  · rename_i fo s g ht
    obtain ⟨hs, h⟩ := h
    split at h
    · rename_i b e i off
      have hpa := RepW.atom hp (by rfl)
      cases hpa with
      | ptr _ _ _ _ _ c hc =>
      refine ⟨_, h, _, run_fieldAt ht hs, RepW.of_atom ?_ rfl rfl⟩
      rw [Nat.add_assoc]
      exact .ptr _ _ _ _ _ _ hc
    · rename_i x
      have hpa := RepW.atom hp (by rfl)
      cases hpa with
      | pel _ _ c a vs hb hO hst hl hr =>
      split at h
      · obtain ⟨hfit, h⟩ := h
        obtain ⟨g1, g2⟩ := V.sub_spec x fo s
        refine ⟨_, h, _, run_fieldAt ht hs, RepW.of_atom (pel_part (x := x) (off := fo) hb hO hst hl hr ?_) rfl rfl⟩
        rw [g2, List.length_take, List.length_drop, Nat.min_eq_left (by unfold V.wid at hfit; omega)]
      · obtain ⟨rfl, h⟩ := h
        split at h
        · rename_i y hy
          refine ⟨_, h, _, run_fieldAt ht hs, RepW.of_atom (pel_part (x := x) (off := fo) hb hO hst hl hr ?_) rfl rfl⟩
          have hlt := (List.getElem?_eq_some_iff.1 hy).1
          have ha := V.atoms_single (V.atoms_flat x y (List.mem_of_getElem? hy))
          rw [ha, List.length_singleton, List.take_one, List.head?_drop, hy]
          rfl
        · exact h.elim
    · exact h.elim
  · exact h.elim
theorem aField_ok {t x f} {u : Value} {k} (hx : RepV w O ρ x u) (h : aField P t x f k) : ∃ z, k z ∧ ∃ v, (Instr.field t u f).run P w = .ok v w ∧ RepV w O ρ z v := by
  unfold aField at h
  split at h
  · rename_i fo s g ht
    obtain ⟨ha, h⟩ := h
    have hW : RepW w O ρ x u := by cases x <;> first | exact hx | simp [V.isAgg] at ha
    obtain ⟨cs, rfl, h1, h2⟩ := (RepW.agg_iff ha).1 hW
    obtain ⟨fs, fd, t1, t2, rfl, t4, t5⟩ := tyField_inv ht
    split at h
    · rename_i hg
      subst hg
      obtain ⟨hfit, h⟩ := h
      obtain ⟨g1, g2⟩ := V.sub_spec x fd.offset s
      refine ⟨_, h, .agg (cs.extract fd.offset (fd.offset + s)), ?_, RepV.of_W ((RepW.agg_iff g1).2 ⟨_, rfl, ?_, ?_⟩) (fun l e => by rw [e] at g1; simp [V.isAgg] at g1)⟩
      · simp [Instr.field, run_underlying t1, t2, asAgg, part, run_isAgg t5, run_size t4]
      · rw [g2, List.length_take, List.length_drop, Array.size_extract, h1]; unfold V.wid at hfit; omega
      · intro i y v hy hv
        rw [g2, List.getElem?_take] at hy
        split at hy
        · rename_i his
          rw [List.getElem?_drop] at hy
          refine h2 _ y v hy ?_
          rw [Array.getElem?_extract] at hv
          split at hv
          · exact hv
          · cases hv
        · cases hy
    · rename_i hg
      have hg : g = false := by simpa using hg
      subst hg
      split at h
      · rename_i y hy
        obtain ⟨hk, h⟩ := h
        have hlt : fd.offset < cs.size := by rw [← h1]; exact (List.getElem?_eq_some_iff.1 hy).1
        refine ⟨_, h, cs[fd.offset], ?_, RepV.of_W ((h2 _ y _ hy (Array.getElem?_eq_getElem hlt)).toW (V.atoms_flat x y (List.mem_of_getElem? hy)) hk) (fun l e => by subst e; simp [okStore] at hk)⟩
        simp [Instr.field, run_underlying t1, t2, asAgg, part, run_isAgg t5, hlt]
      · exact h.elim
  · exact h.elim
theorem run_indexAt {t e s b a kk} {i : Int} {m c : Nat} (h : tyElem P t = some (e, s)) (h0 : 0 ≤ i) (hi : i < m) : (Instr.indexAt t (.slice (some ⟨b, a, none⟩) m c) (.int kk i)).run P w = .ok (.pointer (some ⟨b, a + i.toNat * s, none⟩)) w := by
  obtain ⟨h1, h2⟩ := tyElem_inv h
  simp [Instr.indexAt, asIntOf, run_underlying h1, h0, hi, run_size h2, Addr.add_lit]
theorem run_indexArr {t e s b a kk} {i : Int} {m : Nat} (h : tyArr P t = some (m, e, s)) (h0 : 0 ≤ i) (hi : i < m) : (Instr.indexAt t (.pointer (some ⟨b, a, none⟩)) (.int kk i)).run P w = .ok (.pointer (some ⟨b, a + i.toNat * s, none⟩)) w := by
  obtain ⟨h1, h2⟩ := tyArr_inv h
  simp [Instr.indexAt, asIntOf, run_underlying h1, h0, hi, run_size h2, Addr.add_lit, Instr.sureAddr]
theorem aIndexAddr_ok {t p ix} {u v : Value} {k} (hp : RepV w O ρ p u) (hi : RepV w O ρ ix v) (h : aIndexAddr P t p ix k) : ∃ z, k z ∧ ∃ r, (Instr.indexAt t u v).run P w = .ok r w ∧ RepV w O ρ z r := by
  unfold aIndexAddr at h
  split at h
  · rename_i kk i
    have hv := RepW.raw_inv hi
    subst hv
    split at h
    · rename_i e s ht
      split at h
      · rename_i b e' o m
        obtain ⟨rfl, h0, hm, h⟩ := h
        have hpa := RepW.atom hp (by rfl)
        cases hpa with
        | sl _ _ _ _ _ c cap arr t' fr hc hb hn hcap =>
        refine ⟨_, h, _, run_indexAt ht h0 hm, RepW.of_atom ?_ rfl rfl⟩
        have := RepA.ptr (w := w) (O := O) ρ b e' (o + i.toNat) 0 c hc
        rw [Nat.add_zero, Nat.add_mul] at this
        exact this
      · rename_i l
        obtain ⟨h0, hm, h⟩ := h
        split at h
        · rename_i y hy
          obtain ⟨rfl, h⟩ := h
          have hpa := RepW.atom hp (by rfl)
          cases hpa with
          | nil => simp at hy
          | lst _ _ c a cap vs g0 hcap hb hO hu hst hl hr =>
          refine ⟨_, h, _, run_indexAt ht h0 hm, RepW.of_atom ?_ rfl rfl⟩
          obtain ⟨e', hu⟩ := hu
          have hye : y.wid = e' := hu y (List.mem_of_getElem? hy)
          have hlen := V.atomsL_length hu
          have hil := (List.getElem?_eq_some_iff.1 hy).1
          have hbig : i.toNat * e' + e' ≤ l.length * e' := by
            have := Nat.mul_le_mul_right e' (show i.toNat + 1 ≤ l.length by omega)
            rw [Nat.add_mul] at this; omega
          rw [hye]
          have hya : y.atoms.length = e' := hye
          refine .pel _ _ _ _ ((vs.drop (i.toNat * e')).take e') hb hO (fun j v hj => ?_) (by rw [List.length_take, List.length_drop]; omega) fun j z v hz hv => ?_
          · rw [List.getElem?_take] at hj
            split at hj
            · rw [List.getElem?_drop] at hj
              rw [Nat.add_assoc]
              exact hst _ _ hj
            · cases hj
          · rw [List.getElem?_take] at hv
            split at hv
            · rename_i hjl
              rw [List.getElem?_drop] at hv
              refine hr _ z v ?_ hv
              rw [V.atomsL_get hu hy hjl]
              exact hz
            · cases hv
        · exact h.elim
      · exact h.elim
    · split at h
      · rename_i m e s ht
        split at h
        · rename_i b e' j off
          obtain ⟨h0, hm, h⟩ := h
          have hpa := RepW.atom hp (by rfl)
          cases hpa with
          | ptr _ _ _ _ _ c hc =>
          refine ⟨_, h, _, run_indexArr ht h0 hm, RepW.of_atom ?_ rfl rfl⟩
          rw [Nat.add_assoc]
          exact .ptr _ _ _ _ _ _ hc
        · rename_i x
          obtain ⟨⟨h0, hm⟩, h⟩ := h
          have hpa := RepW.atom hp (by rfl)
          cases hpa with
          | pel _ _ c a vs hb hO hst hl hr =>
          split at h
          · obtain ⟨hfit, h⟩ := h
            obtain ⟨g1, g2⟩ := V.sub_spec x (i.toNat * s) s
            refine ⟨_, h, _, run_indexArr ht h0 hm, RepW.of_atom (pel_part (x := x) (off := i.toNat * s) hb hO hst hl hr ?_) rfl rfl⟩
            rw [g2, List.length_take, List.length_drop, Nat.min_eq_left (by unfold V.wid at hfit; omega)]
          · obtain ⟨rfl, h⟩ := h
            split at h
            · rename_i y hy
              refine ⟨_, h, _, run_indexArr ht h0 hm, RepW.of_atom (pel_part (x := x) (off := i.toNat * 1) hb hO hst hl hr ?_) rfl rfl⟩
              have ha := V.atoms_single (V.atoms_flat x y (List.mem_of_getElem? hy))
              rw [ha, List.length_singleton, List.take_one, List.head?_drop, Nat.mul_one, hy]
              rfl
            · exact h.elim
        · exact h.elim
      · exact h.elim
  · exact h.elim
end

/-- Arithmetic. -/
def aArith (op : BinOp) (k : IntKind) (a b : Int) (K : V → Prop) : Prop :=
  match op, k with
  | .add, .i64 => (-9223372036854775808 ≤ a + b ∧ a + b ≤ 9223372036854775807) ∧ K (.raw (.int .i64 (a + b)))
  | .sub, .i64 => (-9223372036854775808 ≤ a - b ∧ a - b ≤ 9223372036854775807) ∧ K (.raw (.int .i64 (a - b)))
  | .mul, .i64 => (-9223372036854775808 ≤ a * b ∧ a * b ≤ 9223372036854775807) ∧ K (.raw (.int .i64 (a * b)))
  | .add, .u64 => (0 ≤ a + b ∧ a + b ≤ 18446744073709551615) ∧ K (.raw (.int .u64 (a + b)))
  | .mul, .u64 => (0 ≤ a * b ∧ a * b ≤ 18446744073709551615) ∧ K (.raw (.int .u64 (a * b)))
  | .sub, .u64 => K (.raw (.int .u64 ((a - b) % 18446744073709551616)))
  | .add, .u32 => K (.raw (.int .u32 ((a + b) % 4294967296)))
  | .sub, .u32 => K (.raw (.int .u32 ((a - b) % 4294967296)))
  | .mul, .u32 => K (.raw (.int .u32 ((a * b) % 4294967296)))
  | .add, .u8 => K (.raw (.int .u8 ((a + b) % 256)))
  | .sub, .u8 => K (.raw (.int .u8 ((a - b) % 256)))
  | .quo, k => (0 ≤ a ∧ a ≤ k.max ∧ 1 ≤ b) ∧ K (.raw (.int k (a / b)))
  | .rem, .i64 => 1 ≤ b ∧ K (.raw (.int .i64 (a.tmod b)))
  | .rem, .i16 => 1 ≤ b ∧ K (.raw (.int .i16 (a.tmod b)))
  | .rem, .i8 => 1 ≤ b ∧ K (.raw (.int .i8 (a.tmod b)))
  | .rem, k => (0 ≤ a ∧ 1 ≤ b) ∧ K (.raw (.int k (a % b)))
  | .and, k => K (.raw (.int k (bits .and k a b)))
  | .or, k => K (.raw (.int k (bits .or k a b)))
  | .xor, k => K (.raw (.int k (bits .xor k a b)))
  | .eql, _ => K (.raw (.bool (a == b)))
  | .neq, _ => K (.raw (.bool (a != b)))
  | .lss, _ => K (.raw (.bool (decide (a < b))))
  | .leq, _ => K (.raw (.bool (decide (a ≤ b))))
  | .gtr, _ => K (.raw (.bool (decide (b < a))))
  | .geq, _ => K (.raw (.bool (decide (b ≤ a))))
  | _, _ => False
def aStr (op : BinOp) (a b : ByteArray) (K : V → Prop) : Prop :=
  match op with
  | .add => a.size + b.size ≤ 9223372036854775807 ∧ K (.raw (.string (a ++ b)))
  | .eql => K (.raw (.bool (a.toList == b.toList)))
  | .neq => K (.raw (.bool (!(a.toList == b.toList))))
  | _ => False
def nilB (P : Program) (op : BinOp) (t : TypeId) (b : Bool) (K : V → Prop) : Prop :=
  match op with
  | .eql => (∃ e, P.underlying t = some (.slice e)) ∧ K (.raw (.bool b))
  | .neq => (∃ e, P.underlying t = some (.slice e)) ∧ K (.raw (.bool (!b)))
  | _ => False
def aBin (P : Program) (op : BinOp) (t : TypeId) (x y : V) (K : V → Prop) : Prop :=
  match x, y with
  | .raw (.int k a), .raw (.int k' b) =>
    match op with
    | .shl => 0 ≤ b ∧ b < k.bits ∧ K (.raw (.int k (k.wrap (a * 2 ^ b.toNat))))
    | .shr => 0 ≤ b ∧ b < k.bits ∧ K (.raw (.int k (a / 2 ^ b.toNat)))
    | op => k = k' ∧ aArith op k a b K
  | .raw (.string a), .raw (.string b) => aStr op a b K
  | .raw (.bool a), .raw (.bool b) =>
    match op with
    | .eql => P.underlying t = some .bool ∧ K (.raw (.bool (a == b)))
    | .neq => P.underlying t = some .bool ∧ K (.raw (.bool (a != b)))
    | _ => False
  | .lst (_ :: _), .raw (.slice none 0 0) => nilB P op t false K
  | .sl _ _ _ _, .raw (.slice none 0 0) => nilB P op t false K
  | .raw (.slice A _ _), .raw (.slice none 0 0) => nilB P op t A.isNone K
  | _, _ => False
def aUn (op : UnOp) (x : V) (K : V → Prop) : Prop :=
  match op, x with
  | .not, .raw (.bool b) => K (.raw (.bool (!b)))
  | .neg, .raw (.int .i64 a) => (-9223372036854775808 ≤ a ∧ a ≤ 9223372036854775807) ∧ K (.raw (.int .i64 (if a = -9223372036854775808 then a else -a)))
  | .neg, .raw (.int k a) => K (.raw (.int k (k.wrap (0 - a))))
  | .xor, .raw (.int k a) => K (.raw (.int k (bits .xor k (if k.signed then -1 else k.max) a)))
  | _, _ => False
end Go.Proofs.YtfbogelmgdojgaaGreat

/- Arithmetic of the abstract run is that of the program. No program in sight. -/
namespace Go.Proofs.YtfbogelmgdojgaaGreat
set_option linter.unusedSimpArgs false
set_option linter.unusedVariables false
open Go.RowKit

section
variable {P : Program} {w : World}
theorem quo_in {k : IntKind} {a b : Int} (h0 : 0 ≤ a) (h1 : a ≤ k.max) (h2 : 1 ≤ b) : k.wrap (a.tdiv b) = a / b := by
  have e1 : a.tdiv b = a / b := Int.tdiv_eq_ediv_of_nonneg h0
  have e2 : 0 ≤ a / b := Int.ediv_nonneg h0 (by omega)
  have e3 : a / b ≤ a := Int.ediv_le_self _ h0
  rw [e1]
  have hk : a / b ≤ k.max := by omega
  generalize a / b = c at *
  cases k <;> simp [IntKind.max, IntKind.signed, IntKind.bits] at hk <;> simp [IntKind.wrap, IntKind.bits, IntKind.signed] <;> omega
/-- What an operator gives on two integers. -/
theorem aArith_ok {op : BinOp} {k : IntKind} {a b : Int} {K : V → Prop} (t : TypeId) (h : aArith op k a b K) : ∃ z, K (.raw z) ∧ (binOp op t (.int k a) (.int k b)).run P w = .ok z w ∧ z.cells = #[z] := by
  unfold aArith at h
  split at h
  case h_1 => exact ⟨_, h.2, by simp [binOp, Op.intArith, IntWalk.i64_in _ h.1], rfl⟩
  case h_2 => exact ⟨_, h.2, by simp [binOp, Op.intArith, IntWalk.i64_in _ h.1], rfl⟩
  case h_3 => exact ⟨_, h.2, by simp [binOp, Op.intArith, IntWalk.i64_in _ h.1], rfl⟩
  case h_4 => exact ⟨_, h.2, by simp [binOp, Op.intArith, IntWalk.u64_in _ h.1], rfl⟩
  case h_5 => exact ⟨_, h.2, by simp [binOp, Op.intArith, IntWalk.u64_in _ h.1], rfl⟩
  case h_6 => exact ⟨_, h, by simp [binOp, Op.intArith, IntKind.wrap, IntKind.bits, IntKind.signed], rfl⟩
  case h_7 => exact ⟨_, h, by simp [binOp, Op.intArith, IntKind.wrap, IntKind.bits, IntKind.signed], rfl⟩
  case h_8 => exact ⟨_, h, by simp [binOp, Op.intArith, IntKind.wrap, IntKind.bits, IntKind.signed], rfl⟩
  case h_9 => exact ⟨_, h, by simp [binOp, Op.intArith, IntKind.wrap, IntKind.bits, IntKind.signed], rfl⟩
  case h_10 => exact ⟨_, h, by simp [binOp, Op.intArith, IntKind.wrap, IntKind.bits, IntKind.signed], rfl⟩
  case h_11 => exact ⟨_, h, by simp [binOp, Op.intArith, IntKind.wrap, IntKind.bits, IntKind.signed], rfl⟩
  case h_12 =>
    obtain ⟨⟨h0, h1, h2⟩, h⟩ := h
    have hb : b ≠ 0 := by omega
    exact ⟨_, h, by simp [binOp, Op.intDiv, hb, quo_in h0 h1 h2], rfl⟩
  case h_13 =>
    obtain ⟨h2, h⟩ := h
    have hb : b ≠ 0 := by omega
    exact ⟨_, h, by simp [binOp, Op.intDiv, hb], rfl⟩
  case h_14 =>
    obtain ⟨h2, h⟩ := h
    have hb : b ≠ 0 := by omega
    exact ⟨_, h, by simp [binOp, Op.intDiv, hb], rfl⟩
  case h_15 =>
    obtain ⟨h2, h⟩ := h
    have hb : b ≠ 0 := by omega
    exact ⟨_, h, by simp [binOp, Op.intDiv, hb], rfl⟩
  case h_16 =>
    obtain ⟨⟨h0, h2⟩, h⟩ := h
    have hb : b ≠ 0 := by omega
    have e1 : a.tmod b = a % b := Int.tmod_eq_emod_of_nonneg h0
    exact ⟨_, h, by simp [binOp, Op.intDiv, hb, e1], rfl⟩
  case h_17 => exact ⟨_, h, by simp [binOp, intBits_and], rfl⟩
  case h_18 => exact ⟨_, h, by simp [binOp, intBits_or], rfl⟩
  case h_19 => exact ⟨_, h, by simp [binOp, intBits_xor], rfl⟩
  case h_20 => exact ⟨_, h, by simp [binOp, Op.intCmp], rfl⟩
  case h_21 => exact ⟨_, h, by simp [binOp, Op.intCmp], rfl⟩
  case h_22 => exact ⟨_, h, by simp [binOp, Op.intCmp], rfl⟩
  case h_23 => exact ⟨_, h, by simp [binOp, Op.intCmp], rfl⟩
  case h_24 => exact ⟨_, h, by simp [binOp, Op.intCmp], rfl⟩
  case h_25 => exact ⟨_, h, by simp [binOp, Op.intCmp], rfl⟩
  case h_26 => exact h.elim
theorem aStr_ok {op : BinOp} {a b : ByteArray} {K : V → Prop} (t : TypeId) (h : aStr op a b K) : ∃ z, K (.raw z) ∧ (binOp op t (.string a) (.string b)).run P w = .ok z w ∧ z.cells = #[z] := by
  unfold aStr at h
  split at h
  · obtain ⟨h1, h⟩ := h
    refine ⟨_, h, ?_, rfl⟩
    have h2 : ¬ IntKind.i64.max < (a.size : Int) + b.size := by simp [IntKind.max, IntKind.signed, IntKind.bits]; omega
    simp [binOp, Op.stringOp]
    omega
  · exact ⟨_, h, by simp [binOp, Op.stringOp], rfl⟩
  · exact ⟨_, h, by simp [binOp, Op.stringOp], rfl⟩
  · exact h.elim
theorem RepW.notNone {O ρ x u} (h : RepW w O ρ x u) : RepW w O ρ x u := h
theorem nil_ok {K : V → Prop} (op : BinOp) (t : TypeId) (a b : Operand) (A : Option Addr) (n c : Nat) (h : nilB P op t A.isNone K) :
    ∃ z, K (.raw z) ∧ (do eqGuard op t a b (.slice A n c) (.slice none 0 0); binOp op t (.slice A n c) (.slice none 0 0) : Sem Value).run P w = .ok z w ∧ z.cells = #[z] := by
  have hg : (eqGuard op t a b (.slice A n c) (.slice none 0 0)).run P w = .ok () w := by
    unfold eqGuard; cases op <;> rfl
  simp only [Sem.run_bind, hg, Result.andThen_ok]
  unfold nilB at h
  split at h
  · obtain ⟨⟨e, he⟩, h⟩ := h
    exact ⟨_, h, Lib.run_eql_slice_nil w t e A n c 0 0 he, rfl⟩
  · obtain ⟨⟨e, he⟩, h⟩ := h
    refine ⟨_, h, ?_, rfl⟩
    simp only [binOp]
    simp [Op.equal, Op.maxDepth, Lib.run_equalIn_slice_nil w 9999 t e A n c 0 0 he]
  · exact h.elim
theorem aBin_ok {O ρ} {op : BinOp} {t : TypeId} {x y : V} {u v : Value} {K : V → Prop} (a b : Operand) (hx : RepV w O ρ x u) (hy : RepV w O ρ y v) (h : aBin P op t x y K) :
    ∃ z, K z ∧ ∃ r, (do eqGuard op t a b u v; binOp op t u v : Sem Value).run P w = .ok r w ∧ RepV w O ρ z r := by
  have key : (∃ z, K (.raw z) ∧ (do eqGuard op t a b u v; binOp op t u v : Sem Value).run P w = .ok z w ∧ z.cells = #[z]) → ∃ z, K z ∧ ∃ r, (do eqGuard op t a b u v; binOp op t u v : Sem Value).run P w = .ok r w ∧ RepV w O ρ z r := by
    rintro ⟨z, h1, h2, h3⟩
    exact ⟨_, h1, z, h2, RepW.raw h3⟩
  apply key
  unfold aBin at h
  split at h
  · rename_i k p k' q
    have e1 := RepW.raw_inv hx
    have e2 := RepW.raw_inv hy
    subst e1 e2
    have hg : (eqGuard op t a b (.int k p) (.int k' q)).run P w = .ok () w := by
      unfold eqGuard; cases op <;> rfl
    simp only [Sem.run_bind, hg, Result.andThen_ok]
    split at h
    · obtain ⟨h0, h1, h⟩ := h
      refine ⟨_, h, ?_, rfl⟩
      simp [binOp, shift_shl k k' p q h0 (by omega)]
    · obtain ⟨h0, h1, h⟩ := h
      refine ⟨_, h, ?_, rfl⟩
      simp [binOp, shift_shr k k' p q h0 (by omega)]
    · obtain ⟨rfl, h⟩ := h
      exact aArith_ok t h
  · have e1 := RepW.raw_inv hx
    have e2 := RepW.raw_inv hy
    subst e1 e2
    rename_i p q
    have hg : (eqGuard op t a b (.string p) (.string q)).run P w = .ok () w := by
      unfold eqGuard; cases op <;> rfl
    simp only [Sem.run_bind, hg, Result.andThen_ok]
    exact aStr_ok t h
  · have e1 := RepW.raw_inv hx
    have e2 := RepW.raw_inv hy
    subst e1 e2
    rename_i p q
    have hg : (eqGuard op t a b (.bool p) (.bool q)).run P w = .ok () w := by
      unfold eqGuard; cases op <;> rfl
    simp only [Sem.run_bind, hg, Result.andThen_ok]
    split at h
    · obtain ⟨ht, h⟩ := h
      exact ⟨_, h, run_eql_bool w t p q ht, rfl⟩
    · obtain ⟨ht, h⟩ := h
      exact ⟨_, h, run_neq_bool w t p q ht, rfl⟩
    · exact h.elim
  · have e2 := RepW.raw_inv hy
    subst e2
    have hx' := RepW.atom (RepW.notNone hx) rfl
    cases hx'
    exact nil_ok op t a b (some _) _ _ h
  · have e2 := RepW.raw_inv hy
    subst e2
    have hx' := RepW.atom (RepW.notNone hx) rfl
    cases hx'
    exact nil_ok op t a b (some _) _ _ h
  · have e1 := RepW.raw_inv hx
    have e2 := RepW.raw_inv hy
    subst e1 e2
    exact nil_ok op t a b _ _ _ h
  · exact h.elim
theorem aUn_ok {O ρ} {op : UnOp} {x : V} {u : Value} {K : V → Prop} (hx : RepV w O ρ x u) (h : aUn op x K) : ∃ z, K z ∧ ∃ r, (Op.unary op u).run P w = .ok r w ∧ RepV w O ρ z r := by
  unfold aUn at h
  split at h
  · have e1 := RepW.raw_inv hx
    subst e1
    exact ⟨_, h, _, by simp [Op.unary], RepW.raw rfl⟩
  · have e1 := RepW.raw_inv hx
    subst e1
    have hw : ∀ b : Int, -9223372036854775808 ≤ b ∧ b ≤ 9223372036854775807 → IntKind.i64.wrap (0 - b) = if b = -9223372036854775808 then b else -b := fun b hb => by
      split
      · rename_i e; subst e; decide
      · rw [IntWalk.i64_in _ (by omega)]; omega
    exact ⟨_, h.2, _, by have := hw _ h.1; simp only [Int.zero_sub] at this; simp [Op.unary, Op.intArith, this], RepW.raw rfl⟩
  · have e1 := RepW.raw_inv hx
    subst e1
    exact ⟨_, h, _, by simp [Op.unary, Op.intArith], RepW.raw rfl⟩
  · have e1 := RepW.raw_inv hx
    subst e1
    exact ⟨_, h, _, by simp [Op.unary, intBits_xor], RepW.raw rfl⟩
  · exact h.elim
end
end Go.Proofs.YtfbogelmgdojgaaGreat
