/- Texts K4 K5 G3 G4 in one. -/
import Derived.Test.YtjjebokgckmnjaaR16
import Derived.ChangeArms
import Derived.Test.YtjjebokgckmnjaaR12
import Derived.Test.YtjjebokgckmnjaaR21
import Derived.Test.YtjjebokgckmnjaaR18
/- What an argument stands for, by its type. No program in sight. -/
namespace Go.Proofs.Ytjjebokgckmnjaa
set_option linter.unusedSimpArgs false
set_option linter.unusedVariables false
open Go.ChangeShapes Go.WideShapes Go.ChangeAt Go.RowKit Go.Joins

def fitL (F : TypeId → V → Prop) : List TypeId → List V → Prop
  | [], [] => True
  | t :: ts, x :: xs => F t x ∧ fitL F ts xs
  | _, _ => False
/-- A value of a type. -/
def Fits (P : Program) : Nat → TypeId → V → Prop
  | 0, _, _ => False
  | n + 1, t, x => match P.underlying t with
    | some .bool => ∃ b, x = .raw (.bool b)
    | some (.int k) => ∃ z, (Lit.int k z).wf = true ∧ x = .raw (.int k z)
    | some .string => ∃ s, x = .raw (.string s)
    | some (.slice e) => ∃ l, x = .lst l ∧ l.length ≤ 9223372036854775807 ∧ ∀ y ∈ l, Fits P n e y
    | some (.struct fs) => ∃ l, x = .agg l ∧ fitL (Fits P n) (fs.toList.map (·.type)) l
    | some (.array m e) => ∃ l, x = .agg l ∧ fitL (Fits P n) (List.replicate m e) l
    | _ => False
def offs (P : Program) (ok : TypeId → Bool) : Nat → List Field → Option Nat
  | o, [] => some o
  | o, f :: fs => if f.offset = o ∧ ok f.type = true then offs P ok (o + P.cellsOf f.type) fs else none
/-- A type whose values are read so. -/
def laidT (P : Program) : Nat → TypeId → Bool
  | 0, _ => false
  | n + 1, t => match P.underlying t with
    | some .bool => true
    | some (.int _) => true
    | some .string => true
    | some (.slice e) => decide (0 < P.cellsOf e) && laidT P n e
    | some (.struct fs) => decide (offs P (laidT P n) 0 fs.toList = some (P.cellsOf t))
    | some (.array m e) => decide (P.cellsOf t = m * P.cellsOf e) && laidT P n e
    | _ => false
section
variable {H : Type} {enc : TypeId × Value → H} {P : Program} {w : World} {base : Nat} {sp : Nat → Bool} {held : Bool}
def ReadsC (w : World) (L : List V) (cs : List Value) (o : Nat) : Prop := ∀ (i : Nat) (y : V) (u : Value), L[i]? = some y → cs[o + i]? = some u → RepA w Nb Nr y u
theorem cells_length {a : Addr} {n : Nat} {cs : List Value} (h : w.cells? base a n = some cs) : cs.length = n ∧ ∀ i, i < n → w.cell? (a.add i) = cs[i]? := by
  unfold World.cells? at h
  split at h
  · refine ⟨by simpa using mapM_some_length h, fun i hi => mapM_some_get h i i ?_⟩
    simp [hi]
  · cases h
theorem readsC_append {L M : List V} {cs : List Value} {o : Nat} (h : ReadsC w L cs o) (g : ReadsC w M cs (o + L.length)) : ReadsC w (L ++ M) cs o := by
  intro i y u hy hu
  by_cases hi : i < L.length
  · rw [List.getElem?_append_left hi] at hy
    exact h i y u hy hu
  · rw [List.getElem?_append_right (by omega)] at hy
    exact g _ y u hy (by rw [show o + L.length + (i - L.length) = o + i from by omega]; exact hu)
theorem readsC_sub {L : List V} {cs : List Value} {o m : Nat} (h : ReadsC w L ((cs.drop o).take m) 0) (hl : L.length = ((cs.drop o).take m).length) : ReadsC w L cs o := by
  intro i y u hy hu
  have hi : i < L.length := (List.getElem?_eq_some_iff.1 hy).1
  refine h i y u hy ?_
  rw [hl, List.length_take] at hi
  rw [Nat.zero_add, List.getElem?_take, if_pos (by omega), List.getElem?_drop]
  exact hu
theorem fit_fields {n : Nat} {cs : List Value} {ok : TypeId → Bool} (N : Nat)
    (ih' : ∀ (t : TypeId) (cs : List Value) (x : DataW H × List MemPlace), ok t = true → DataW.trod enc P w base sp held n t cs = some x → ∃ X, Fits P N t X ∧ X.atoms.length = cs.length ∧ ReadsC w X.atoms cs 0) :
    ∀ (fs : List Field) (o T : Nat), offs P ok o fs = some T → T ≤ cs.length → (∀ f ∈ fs, ∃ y, DataW.trod enc P w base sp held n f.type ((cs.drop f.offset).take (P.cellsOf f.type)) = some y) →
      o ≤ T ∧ ∃ l, fitL (Fits P N) (fs.map (·.type)) l ∧ (V.atomsL l).length = T - o ∧ ReadsC w (V.atomsL l) cs o
  | [], o, T, h, hT, _ => by
    simp only [offs, Option.some.injEq] at h
    exact ⟨by omega, [], trivial, by simp [V.atomsL]; omega, fun i y u hy _ => by simp [V.atomsL] at hy⟩
  | f :: fs, o, T, h, hT, hf => by
    simp only [offs] at h
    split at h
    · rename_i hok
      obtain ⟨h1, h2⟩ := hok
      obtain ⟨g1, l, g2, g3, g4⟩ := fit_fields N ih' fs _ T h hT fun g hg => hf g (by simp [hg])
      obtain ⟨y, hy⟩ := hf f (by simp)
      rw [h1] at hy
      obtain ⟨X, k1, k2, k3⟩ := ih' _ _ _ h2 hy
      have hl : ((cs.drop o).take (P.cellsOf f.type)).length = P.cellsOf f.type := by
        rw [List.length_take, List.length_drop]; omega
      refine ⟨by omega, X :: l, ⟨k1, g2⟩, ?_, ?_⟩
      · simp only [V.atomsL, List.length_append, g3, k2, hl]; omega
      · refine readsC_append (readsC_sub k3 k2) ?_
        rw [k2, hl]
        exact g4
    · cases h
theorem fit_arr {n : Nat} {cs : List Value} {e : TypeId} (N : Nat)
    (ih : ∀ (cs : List Value) (x : DataW H × List MemPlace), DataW.trod enc P w base sp held n e cs = some x → ∃ X, Fits P N e X ∧ X.atoms.length = cs.length ∧ ReadsC w X.atoms cs 0) :
    ∀ (m k : Nat), (k + m) * P.cellsOf e ≤ cs.length → (∀ i, i < m → ∃ y, DataW.trod enc P w base sp held n e ((cs.drop ((k + i) * P.cellsOf e)).take (P.cellsOf e)) = some y) →
      ∃ l, fitL (Fits P N) (List.replicate m e) l ∧ (V.atomsL l).length = m * P.cellsOf e ∧ ReadsC w (V.atomsL l) cs (k * P.cellsOf e)
  | 0, k, _, _ => ⟨[], trivial, by simp [V.atomsL], fun i y u hy _ => by simp [V.atomsL] at hy⟩
  | m + 1, k, hl, hf => by
    obtain ⟨l, g2, g3, g4⟩ := fit_arr N ih m (k + 1) (by rw [show k + 1 + m = k + (m + 1) from by omega]; exact hl) fun i hi => by
      have := hf (i + 1) (by omega)
      rwa [show k + (i + 1) = k + 1 + i from by omega] at this
    obtain ⟨y, hy⟩ := hf 0 (by omega)
    rw [Nat.add_zero] at hy
    obtain ⟨X, k1, k2, k3⟩ := ih _ _ hy
    have hc : (k + 1) * P.cellsOf e ≤ (k + (m + 1)) * P.cellsOf e := Nat.mul_le_mul_right _ (by omega)
    have hl1 : ((cs.drop (k * P.cellsOf e)).take (P.cellsOf e)).length = P.cellsOf e := by
      rw [List.length_take, List.length_drop]
      rw [Nat.add_mul, Nat.one_mul] at hc
      omega
    refine ⟨X :: l, ⟨k1, g2⟩, ?_, ?_⟩
    · simp only [V.atomsL, List.length_append, g3, k2, hl1, Nat.add_mul]; omega
    · refine readsC_append (readsC_sub k3 k2) ?_
      rw [k2, hl1]
      rw [Nat.add_mul, Nat.one_mul] at g4
      exact g4
theorem list_of {Q : Nat → V → Prop} : ∀ (n : Nat), (∀ i, i < n → ∃ X, Q i X) → ∃ l : List V, l.length = n ∧ ∀ i X, l[i]? = some X → Q i X
  | 0, _ => ⟨[], rfl, fun i X h => by simp at h⟩
  | n + 1, h => by
    obtain ⟨l, h1, h2⟩ := list_of n fun i hi => h i (by omega)
    obtain ⟨X, hX⟩ := h n (by omega)
    refine ⟨l ++ [X], by simp [h1], fun i Y hY => ?_⟩
    by_cases hi : i < l.length
    · rw [List.getElem?_append_left hi] at hY
      exact h2 i Y hY
    · rw [List.getElem?_append_right (by omega)] at hY
      have : i - l.length = 0 := by
        have := (List.getElem?_eq_some_iff.1 hY).1
        simp at this; omega
      rw [this] at hY
      simp at hY
      subst hY
      rw [show i = n from by omega]
      exact hX
theorem fit_ok : ∀ (n : Nat) (N : Nat) (t : TypeId) (cs : List Value) (x : DataW H × List MemPlace), laidT P N t = true → DataW.trod enc P w base sp held n t cs = some x → ∃ X, Fits P N t X ∧ X.atoms.length = cs.length ∧ ReadsC w X.atoms cs 0 := by
  intro n
  induction n with
  | zero => intro N t cs x _ h; simp [DataW.trod] at h
  | succ n ih =>
    intro N t cs x hN h
    cases N with
    | zero => simp [laidT] at hN
    | succ N =>
      have raw1 : ∀ v, ReadsC w (V.raw v).atoms [v] 0 := fun v i y u hy hu => by
        cases i with
        | zero => simp [V.atoms] at hy hu; subst hy hu; exact .raw _ _
        | succ i => simp [V.atoms] at hy
      unfold laidT at hN
      unfold Fits
      cases hu : P.underlying t with
      | none => rw [hu] at hN; simp at hN
      | some d =>
        rw [hu] at hN
        cases d with
        | bool =>
          obtain ⟨b, rfl, _⟩ := DataW.trod_bool hu h
          exact ⟨.raw (.bool b), ⟨b, rfl⟩, rfl, raw1 _⟩
        | int k =>
          obtain ⟨z, rfl, _, hw⟩ := DataW.trod_int hu h
          exact ⟨.raw (.int k z), ⟨z, hw, rfl⟩, rfl, raw1 _⟩
        | string =>
          obtain ⟨s, rfl, _, _⟩ := DataW.trod_string hu h
          exact ⟨.raw (.string s), ⟨s, rfl⟩, rfl, raw1 _⟩
        | struct fs =>
          obtain ⟨xs, m, hm, _, hl, hxl, hf⟩ := DataW.trod_struct hu h
          obtain rfl : n = m := by omega
          simp only [decide_eq_true_eq] at hN
          obtain ⟨_, l, g2, g3, g4⟩ := fit_fields (cs := cs) (ok := laidT P N) N (fun t cs x ht hx => ih N t cs x ht hx) fs.toList 0 _ hN (by omega) fun f hf' => by
            obtain ⟨i, hi, e⟩ := Array.mem_iff_getElem.1 (Array.mem_toList_iff.1 hf')
            have := hf i f (by rw [Array.getElem?_eq_getElem hi, e])
            have hx : i < xs.length := by omega
            rw [List.getElem?_eq_getElem hx] at this
            exact ⟨_, this⟩
          exact ⟨.agg l, ⟨l, rfl, g2⟩, by show (V.atomsL l).length = _; omega, g4⟩
        | array m e =>
          obtain ⟨xs, k, hm, _, hl, hxl, hf⟩ := DataW.trod_array hu h
          obtain rfl : n = k := by omega
          simp only [Bool.and_eq_true, decide_eq_true_eq] at hN
          obtain ⟨l, g2, g3, g4⟩ := fit_arr (cs := cs) N (fun cs x hx => ih N e cs x hN.2 hx) m 0 (by rw [Nat.zero_add, hl, hN.1]; exact Nat.le_refl _) fun i hi => by
            have := hf i hi
            have hx : i < xs.length := by omega
            rw [List.getElem?_eq_getElem hx] at this
            rw [Nat.zero_add]
            exact ⟨_, this⟩
          rw [Nat.zero_mul] at g4
          exact ⟨.agg l, ⟨l, rfl, g2⟩, by show (V.atomsL l).length = _; omega, g4⟩
        | slice e =>
          simp only [Bool.and_eq_true, decide_eq_true_eq] at hN
          rcases DataW.trod_slice hu h with ⟨rfl, _⟩ | ⟨a, len, cap, elems, rest, m, hm, rfl, _, _, hlc, hmx, hel, hf, _⟩
          · refine ⟨.lst [], ⟨[], rfl, by simp, fun y hy => by simp at hy⟩, rfl, fun i y u hy hu => ?_⟩
            cases i with
            | zero => simp [V.atoms] at hy hu; subst hy hu; exact .nil _ _ _
            | succ i => simp [V.atoms] at hy
          · obtain rfl : n = m := by omega
            have hmax : maxLen = 9223372036854775807 := by decide
            obtain ⟨l, hl1, hl2⟩ := list_of (Q := fun i X => Fits P N e X ∧ X.atoms.length = P.cellsOf e ∧ ∀ j, j < P.cellsOf e → ∃ u, w.cell? ((a.add (i * P.cellsOf e)).add j) = some u ∧ ∀ y, X.atoms[j]? = some y → RepA w Nb Nr y u) len fun i hi => by
              have h1 := hf i hi
              rw [List.getElem?_eq_getElem (by omega)] at h1
              rcases hc : w.cells? base (a.add (i * P.cellsOf e)) (P.cellsOf e) with _ | cs'
              · rw [hc] at h1; cases h1
              · rw [hc] at h1
                obtain ⟨c1, c2⟩ := cells_length hc
                obtain ⟨X, k1, k2, k3⟩ := ih N e cs' _ hN.2 h1
                refine ⟨X, k1, by omega, fun j hj => ⟨cs'[j]'(by omega), ?_, fun y hy => ?_⟩⟩
                · rw [c2 j hj, List.getElem?_eq_getElem (by omega)]
                · refine k3 j y _ hy ?_
                  rw [Nat.zero_add, List.getElem?_eq_getElem (by omega)]
            refine ⟨.lst l, ⟨l, rfl, by omega, fun y hy => ?_⟩, rfl, fun i y u hy hu => ?_⟩
            · obtain ⟨i, hi⟩ := List.getElem?_of_mem hy
              exact (hl2 i y hi).1
            cases i with
            | succ i => simp [V.atoms] at hy
            | zero =>
            simp [V.atoms] at hy hu
            subst hy hu
            have hw : ∀ y ∈ l, y.wid = P.cellsOf e := fun y hy => by
              obtain ⟨i, hi⟩ := List.getElem?_of_mem hy
              exact (hl2 i y hi).2.1
            by_cases h0 : l = []
            · subst h0
              have : len = 0 := by simpa using hl1.symm
              subst this
              exact .nil _ _ _
            · have hpos : 0 < l.length := List.length_pos_iff.2 h0
              obtain ⟨b, off, spot⟩ := a
              have hspot : spot = none := by
                obtain ⟨_, _, h3⟩ := hl2 0 _ (List.getElem?_eq_getElem hpos)
                obtain ⟨u0, q, _⟩ := h3 0 hN.1
                simpa [Addr.add] using World.cell?_spot q
              subst hspot
              have hadd : ∀ o j, (⟨b, o, none⟩ : Addr).add j = ⟨b, o + j, none⟩ := fun o j => add_plain b o j
              have cellAt : ∀ j, j < l.length * P.cellsOf e → ∃ u X, l[j / P.cellsOf e]? = some X ∧ w.cell? ⟨b, off + j, none⟩ = some u ∧ ∀ y, X.atoms[j % P.cellsOf e]? = some y → RepA w Nb Nr y u := fun j hj => by
                have hd : j / P.cellsOf e < l.length := by rw [Nat.div_lt_iff_lt_mul hN.1]; exact hj
                have hi : l[j / P.cellsOf e]? = some l[j / P.cellsOf e] := List.getElem?_eq_getElem hd
                obtain ⟨_, _, h3⟩ := hl2 _ _ hi
                obtain ⟨u, u1, u2⟩ := h3 (j % P.cellsOf e) (Nat.mod_lt _ hN.1)
                have hdm : j / P.cellsOf e * P.cellsOf e + j % P.cellsOf e = j := by rw [Nat.mul_comm]; exact Nat.div_add_mod j _
                rw [hadd, hadd, Nat.add_assoc, hdm] at u1
                exact ⟨u, _, hi, u1, u2⟩
              have hp2 : 0 < l.length * P.cellsOf e := Nat.mul_pos hpos hN.1
              obtain ⟨u0, X0, _, q1, _⟩ := cellAt 0 hp2
              have hat := V.atomsL_length hw
              have := RepA.lst (w := w) (O := Nb) Nr l b off cap ((List.range (l.length * P.cellsOf e)).map fun j => (w.cell? ⟨b, off + j, none⟩).getD undef) h0 (by omega) (cell_block q1) (fun h => h) ⟨P.cellsOf e, hw⟩
                (fun j v hj => by
                  rw [List.getElem?_map] at hj
                  rcases hjr : (List.range (l.length * P.cellsOf e))[j]? with _ | j'
                  · rw [hjr] at hj; cases hj
                  · rw [hjr] at hj
                    obtain ⟨hj1, hj2⟩ := List.getElem?_eq_some_iff.1 hjr
                    simp at hj1 hj2
                    subst hj2
                    obtain ⟨u, X, _, q2, _⟩ := cellAt j hj1
                    simp [q2] at hj
                    rw [q2, hj])
                (by rw [List.length_map, List.length_range, hat]) (fun j y v hy hv => by
                  have hj1 : j < l.length * P.cellsOf e := by rw [← hat]; exact (List.getElem?_eq_some_iff.1 hy).1
                  obtain ⟨u, X, q0, q2, q3⟩ := cellAt j hj1
                  have hm := Nat.mod_lt j hN.1
                  have g := V.atomsL_get hw q0 hm
                  have hdm : j / P.cellsOf e * P.cellsOf e + j % P.cellsOf e = j := by rw [Nat.mul_comm]; exact Nat.div_add_mod j _
                  rw [hdm, hy] at g
                  have e2 : v = u := by
                    rw [List.getElem?_map, List.getElem?_range hj1] at hv
                    simp [q2] at hv
                    exact hv.symm
                  subst e2
                  exact q3 y g.symm)
              rw [hl1] at this
              exact this
        | _ => simp at hN
theorem agg_of {t : TypeId} {N : Nat} {X : V} (h : Fits P N t X) : X.isAgg = true → ∃ d, P.underlying t = some d ∧ ((∃ fs, d = .struct fs) ∨ ∃ m e, d = .array m e) := by
  cases N with
  | zero => exact h.elim
  | succ N =>
    unfold Fits at h
    intro ha
    split at h
    all_goals first | exact h.elim | (obtain ⟨l, rfl, _⟩ := h; first | exact ⟨_, by assumption, .inl ⟨_, rfl⟩⟩ | exact ⟨_, by assumption, .inr ⟨_, _, rfl⟩⟩ | simp [V.isAgg] at ha) | (obtain ⟨l, rfl⟩ := h; simp [V.isAgg] at ha) | (obtain ⟨l, _, rfl⟩ := h; simp [V.isAgg] at ha)
/-- An argument. -/
theorem rep_fits {r : Reach} {b0 : Nat} {t : TypeId} {v : Value} {d : DataW H} {ps : List MemPlace} (N : Nat) (hN : laidT P N t = true) (hv : Value.okWide P w r b0 t v) (h : DataW.Trod enc P w base sp held t v d ps) : ∃ X, Fits P N t X ∧ RepW w Nb Nr X v := by
  obtain ⟨fuel, hf⟩ := h
  obtain ⟨X, h1, h2, h3⟩ := fit_ok fuel N t _ _ hN hf
  refine ⟨X, h1, .inr ⟨⟨fun ha => ?_, fun ha => ?_, by simpa using h2⟩, fun i y u hy hu => h3 i y u hy (by simpa using hu)⟩⟩
  · obtain ⟨d, hd, hd2⟩ := agg_of h1 ha
    unfold Value.okWide at hv
    rw [hd] at hv
    rcases hd2 with ⟨fs, rfl⟩ | ⟨m, e, rfl⟩
    · obtain ⟨cs, rfl, _⟩ := hv; exact ⟨cs, rfl⟩
    · obtain ⟨cs, rfl, _⟩ := hv; exact ⟨cs, rfl⟩
  · cases N with
    | zero => exact h1.elim
    | succ N =>
      unfold Fits at h1
      split at h1
      all_goals rename_i hu
      · obtain ⟨b, rfl⟩ := okWide_bool hu hv; rfl
      · obtain ⟨b, rfl⟩ := okWide_int hu hv; rfl
      · obtain ⟨b, rfl⟩ := okWide_string hu hv; rfl
      · obtain ⟨_, _, _, rfl⟩ := okWide_slice hu hv; rfl
      · obtain ⟨l, rfl, _⟩ := h1; simp [V.isAgg] at ha
      · obtain ⟨l, rfl, _⟩ := h1; simp [V.isAgg] at ha
      · exact h1.elim
end
end Go.Proofs.Ytjjebokgckmnjaa


/- What an argument stands for: the kinds of types. No program in sight. -/
namespace Go.Proofs.Ytjjebokgckmnjaa
set_option linter.unusedSimpArgs false
set_option linter.unusedVariables false
open Go.ChangeShapes Go.WideShapes Go.ChangeAt Go.RowKit Go.Joins

section
variable {P : Program} {n : Nat} {t : TypeId} {X : V}
theorem fits_int {k : IntKind} (hu : P.underlying t = some (.int k)) (h : Fits P (n + 1) t X) : ∃ z, (Lit.int k z).wf = true ∧ X = .raw (.int k z) := by
  unfold Fits at h; rw [hu] at h; exact h
theorem fits_bool (hu : P.underlying t = some .bool) (h : Fits P (n + 1) t X) : ∃ b, X = .raw (.bool b) := by
  unfold Fits at h; rw [hu] at h; exact h
theorem fits_str (hu : P.underlying t = some .string) (h : Fits P (n + 1) t X) : ∃ s, X = .raw (.string s) := by
  unfold Fits at h; rw [hu] at h; exact h
theorem fits_sl {e : TypeId} (hu : P.underlying t = some (.slice e)) (h : Fits P (n + 1) t X) : ∃ l, X = .lst l ∧ l.length ≤ 9223372036854775807 ∧ ∀ y ∈ l, Fits P n e y := by
  unfold Fits at h; rw [hu] at h; exact h
theorem fits_struct {fs : Array Field} (hu : P.underlying t = some (.struct fs)) (h : Fits P (n + 1) t X) : ∃ l, X = .agg l ∧ fitL (Fits P n) (fs.toList.map (·.type)) l := by
  unfold Fits at h; rw [hu] at h; exact h
theorem fits_arr {m : Nat} {e : TypeId} (hu : P.underlying t = some (.array m e)) (h : Fits P (n + 1) t X) : ∃ l, X = .agg l ∧ fitL (Fits P n) (List.replicate m e) l := by
  unfold Fits at h; rw [hu] at h; exact h
theorem fitL_nil {F : TypeId → V → Prop} {l : List V} (h : fitL F [] l) : l = [] := by
  cases l with
  | nil => rfl
  | cons _ _ => exact h.elim
theorem fitL_cons {F : TypeId → V → Prop} {t : TypeId} {ts : List TypeId} {l : List V} (h : fitL F (t :: ts) l) : ∃ x m, l = x :: m ∧ F t x ∧ fitL F ts m := by
  cases l with
  | nil => exact h.elim
  | cons x m => exact ⟨x, m, rfl, h.1, h.2⟩
theorem list_nums {k : IntKind} : ∀ (l : List V), (∀ y ∈ l, ∃ z, (Lit.int k z).wf = true ∧ y = .raw (.int k z)) → ∃ zs : List Int, l = zs.map (fun z => V.raw (.int k z)) ∧ ∀ z ∈ zs, (Lit.int k z).wf = true
  | [], _ => ⟨[], rfl, fun z hz => by simp at hz⟩
  | y :: l, h => by
    obtain ⟨z, hz, rfl⟩ := h y (by simp)
    obtain ⟨zs, rfl, hzs⟩ := list_nums l fun y hy => h y (by simp [hy])
    exact ⟨z :: zs, rfl, fun x hx => by
      rcases List.mem_cons.1 hx with rfl | hx
      · exact hz
      · exact hzs x hx⟩
/-- A row of numbers. -/
theorem fits_ints {k : IntKind} {e : TypeId} (hu : P.underlying t = some (.slice e)) (he : P.underlying e = some (.int k)) (h : Fits P (n + 2) t X) : ∃ zs : List Int, X = .lst (zs.map (fun z => V.raw (.int k z))) ∧ zs.length ≤ 9223372036854775807 ∧ ∀ z ∈ zs, (Lit.int k z).wf = true := by
  obtain ⟨l, rfl, hl, hy⟩ := fits_sl hu h
  obtain ⟨zs, rfl, hzs⟩ := list_nums l fun y hy' => fits_int he (hy y hy')
  exact ⟨zs, rfl, by simpa using hl, hzs⟩
theorem wf_u32' {z : Int} (h : (Lit.int .u32 z).wf = true) : 0 ≤ z ∧ z < 4294967296 := by
  have : 0 ≤ z ∧ z ≤ 4294967295 := by simpa [Lit.wf, IntKind.min, IntKind.max, IntKind.signed, IntKind.bits] using h
  omega
theorem wf_u8 {z : Int} (h : (Lit.int .u8 z).wf = true) : 0 ≤ z ∧ z < 256 := by
  have : 0 ≤ z ∧ z ≤ 255 := by simpa [Lit.wf, IntKind.min, IntKind.max, IntKind.signed, IntKind.bits] using h
  omega
theorem wf_i8 {z : Int} (h : (Lit.int .i8 z).wf = true) : -128 ≤ z ∧ z ≤ 127 := by
  simpa [Lit.wf, IntKind.min, IntKind.max, IntKind.signed, IntKind.bits] using h
theorem wf_i16 {z : Int} (h : (Lit.int .i16 z).wf = true) : -32768 ≤ z ∧ z ≤ 32767 := by
  simpa [Lit.wf, IntKind.min, IntKind.max, IntKind.signed, IntKind.bits] using h
theorem wf_i64 {z : Int} (h : (Lit.int .i64 z).wf = true) : -9223372036854775808 ≤ z ∧ z ≤ 9223372036854775807 := by
  simpa [Lit.wf, IntKind.min, IntKind.max, IntKind.signed, IntKind.bits] using h
/-- Limbs. -/
theorem fits_limbs {e : TypeId} (hu : P.underlying t = some (.slice e)) (he : P.underlying e = some (.int .u32)) (h : Fits P (n + 2) t X) : ∃ l : List Nat, X = .lst (V.limbs l) ∧ Lim l ∧ l.length ≤ 9223372036854775807 := by
  obtain ⟨zs, rfl, hl, hw⟩ := fits_ints hu he h
  refine ⟨zs.map Int.toNat, ?_, fun y hy => ?_, by simpa using hl⟩
  · congr 1
    unfold V.limbs
    rw [List.map_map]
    refine List.map_congr_left fun z hz => ?_
    have := wf_u32' (hw z hz)
    simp only [Function.comp_apply]
    rw [show ((z.toNat : Nat) : Int) = z from by omega]
  · obtain ⟨z, hz, rfl⟩ := List.mem_map.1 hy
    have := wf_u32' (hw z hz)
    omega
/-- Bytes. -/
theorem fits_bytes {e : TypeId} (hu : P.underlying t = some (.slice e)) (he : P.underlying e = some (.int .u8)) (h : Fits P (n + 2) t X) : ∃ l : List Nat, X = .lst (V.bytes l) ∧ (∀ x ∈ l, x < 256) ∧ l.length ≤ 9223372036854775807 := by
  obtain ⟨zs, rfl, hl, hw⟩ := fits_ints hu he h
  refine ⟨zs.map Int.toNat, ?_, fun y hy => ?_, by simpa using hl⟩
  · congr 1
    unfold V.bytes
    rw [List.map_map]
    refine List.map_congr_left fun z hz => ?_
    have := wf_u8 (hw z hz)
    simp only [Function.comp_apply]
    rw [show ((z.toNat : Nat) : Int) = z from by omega]
  · obtain ⟨z, hz, rfl⟩ := List.mem_map.1 hy
    have := wf_u8 (hw z hz)
    omega
end
end Go.Proofs.Ytjjebokgckmnjaa


/- Contracts: package poly, lists that a function computes. -/
namespace Go.Proofs.Ytjjebokgckmnjaa
set_option linter.unusedSimpArgs false
set_option linter.unusedVariables false
open Go.RowKit

/-- A function value that computes coefficients. -/
def kFn (caps : List V) (N : Nat) (F : Nat → Rat) : Con
  | .raw (.int .i64 i) :: cs => some ((cs = caps ∧ 0 ≤ i ∧ i < N), .Q (F i.toNat))
  | _ => none
attribute [go_sem ↓, go_sem] kFn.eq_1
def z0 : V := .agg [.raw (.bool false), .raw (.slice none 0 0), .raw (.bool false), .raw (.slice none 0 0)]
theorem z0_wid (n : Nat) : allWid (List.replicate n z0) 4 := fun y hy => by rw [List.eq_of_mem_replicate hy]; rfl
theorem z0_pure (n : Nat) : allPure (List.replicate n z0) := fun y hy => by rw [List.eq_of_mem_replicate hy]; rfl
theorem Ctr.fn {P : Program} {g : FuncId} {caps : List V} {N : Nat} {F : Nat → Rat} (hc : callable P g = true) (h : ∀ i, i < N → PCall P g (.raw (.int .i64 (i : Nat)) :: caps) (.Q (F i))) : Ctr P g (kFn caps N F) := ⟨hc, fun args p r e hp => by
  unfold kFn at e
  split at e
  · rename_i i cs
    injection e with e; injection e with e1 e2; subst e1 e2
    obtain ⟨rfl, h0, h1⟩ := hp
    have := h i.toNat (by omega)
    rw [Int.toNat_of_nonneg h0] at this
    exact this
  · cases e⟩
end Go.Proofs.Ytjjebokgckmnjaa


/- Contracts: slices.Repeat and slices.Clone of rational numbers; products. -/
namespace Go.Proofs.Ytjjebokgckmnjaa
set_option linter.unusedSimpArgs false
set_option linter.unusedVariables false
open Go.RowKit

theorem wraps_u64' {n : Int} (h0 : 0 ≤ n) (h1 : n < 2 ^ 64) : IntKind.u64.wrap n = n := by
  simp only [IntKind.wrap, IntKind.bits, IntKind.signed]
  simp
  omega
theorem wraps_i64x {n : Int} (h0 : -9223372036854775808 ≤ n) (h1 : n ≤ 9223372036854775807) : IntKind.i64.wrap n = n := by rw [IntKind.wrap_i64]; omega
theorem and_low (y : Int) (h0 : 0 ≤ y) (h1 : y < 4294967296) : bits BinOp.and IntKind.u64 y 4294967295 = y := by
  have := bits_mask .u64 64 (by decide) (fun n a b => wraps_u64' a b) 32 (by decide) y h0 (by omega)
  rw [show (2 : Int) ^ 32 - 1 = 4294967295 from by decide, show (2 : Int) ^ 32 = 4294967296 from by decide] at this
  rw [this]; omega
def kMul64 : Con := con2 (pN .u64) (pN .u64) fun x y => (x = 1 ∧ 0 ≤ y ∧ y < 4294967296, .tup [.raw (.int .u64 0), .raw (.int .u64 y)])
attribute [go_sem ↓, go_sem] kMul64
theorem mul64_C : Ctr Try.prog 82 kMul64 := Ctr.c2 (by kernel_rfl) fun x y h => by
  obtain ⟨rfl, h0, h1⟩ := h
  refine PCall.of_vc (tabs mixed tbl_nil) Try.func82 rfl Try.ntmps82 Try.results82 (by simp) ?_
  have a1 := and_low 1 (by decide) (by decide)
  have a2 := and_low y h0 h1
  have a3 : y / 4294967296 = 0 := by omega
  have a4 := and_low 0 (by decide) (by decide)
  have e1 : (2 : Int) ^ (Int.toNat 32) = 4294967296 := by decide
  have e2 : (1 : Int) / 4294967296 = 0 := by decide
  have e3 : (0 : Int) / 4294967296 = 0 := by decide
  simp only [go_sem, a1, a2, a3, a4, e1, e2, e3, Int.one_mul, Int.zero_mul, Int.mul_zero, Int.add_zero, Int.zero_add]
  omega
theorem mulU_C : Ctr Try.prog 72 kMul64 := Ctr.c2 (by kernel_rfl) fun x y h => by
  obtain ⟨rfl, h0, h1⟩ := h
  refine PCall.of_vc (tabs mixed (tbl_cons mul64_C tbl_nil)) Try.func72 rfl Try.ntmps72 Try.results72 (by simp) ?_
  simp only [go_sem]
  exact ⟨h0, h1⟩
theorem repeat_V (q : Rat) (N : Nat) (h0 : 0 < N) (hN : N ≤ 1000000) : FCall Try.prog 56 [.lst [.Q q], .raw (.int .i64 (N : Nat))] ⟨41, 4, V.rats (List.replicate N q)⟩ := by
  refine FCall.of_vc (tabs mixed (tbl_cons mulU_C tbl_nil)) Try.func56 rfl Try.ntmps56 Try.results56 (by simp) ?_
  have c1 : ¬ (N : Int) < 0 := by omega
  have c2 : ¬ (9223372036854775807 : Int) < (N : Nat) := by omega
  have w1 : ((N : Nat) : Int) % 18446744073709551616 = (N : Nat) := by omega
  have w3 : IntKind.i64.wrap ((N : Nat) : Int) = (N : Nat) := wraps_i64x (by omega) (by omega)
  have m1 : min 1 N = 1 := by omega
  simp only [go_sem, c1, c2, w1, w3, m1, Int.toNat_natCast]
  refine ⟨by omega, by omega, h0, ?_⟩
  refine AWp.loops (X := { p : Nat × List V // (1 ≤ p.1 ∧ p.1 ≤ N) ∧ p.2.length = N ∧ p.2.take p.1 = V.rats (List.replicate p.1 q) ∧ allPure p.2 ∧ allWid p.2 4 })
    (fun p => mkSt [(4, .raw (.slice none 0 0)), (7, .sl 0 4 0 N), (8, .raw (.int .i64 (p.1.1 : Nat)))] [(0, true, ⟨41, 4, p.1.2⟩)] 1 48)
    (fun p => N - p.1.1) ⟨(1, V.Q q :: (List.replicate N z0).drop 1), ⟨Nat.le_refl _, h0⟩, by simp; omega, rfl, ?_, ?_⟩ (Wk.of [22] (by decide) ?_) ?_
  · intro y hy
    rcases List.mem_cons.1 hy with rfl | hy
    · rfl
    · exact z0_pure N y (List.mem_of_mem_drop hy)
  · intro y hy
    rcases List.mem_cons.1 hy with rfl | hy
    · rfl
    · exact z0_wid N y (List.mem_of_mem_drop hy)
  · simp only [go_sem]
    exact ⟨rfl, fun y hy => z0_pure N y (List.mem_of_mem_drop hy)⟩
  · rintro ⟨⟨c, L⟩, ⟨hc1, hcN⟩, hl, hL, hp, hw⟩
    simp only at hc1 hcN hl hL hp hw
    refine vc_at (tabs mixed (tbl_cons mulU_C tbl_nil)) ?_
    by_cases hc : c < N
    · have d1 : (c : Int) < (N : Nat) := by omega
      obtain ⟨m, hm⟩ : ∃ m, min c (N - c) = m := ⟨_, rfl⟩
      have e1 : (c : Int) + (m : Nat) = ((c + m : Nat) : Int) := by omega
      have hrep : List.replicate c q ++ List.take m (List.replicate c q) = List.replicate (c + m) q := by
        rw [List.take_replicate, Nat.min_eq_left (by omega), List.replicate_append_replicate]
      have hp' : allPure (V.rats (List.replicate (c + m) q) ++ L.drop (c + m)) := fun y hy => by
        rcases List.mem_append.1 hy with hy | hy
        · exact of_eq_true (rats_pure _) y hy
        · exact hp y (List.mem_of_mem_drop hy)
      simp only [go_sem, d1, hl, hL, hm, e1, hc, hcN, hrep]
      refine ⟨by omega, by omega, by omega, by omega, by omega, by rfl, ⟨(c + m, V.rats (List.replicate (c + m) q) ++ L.drop (c + m)), by omega, ?_, ?_, ?_, ?_⟩, Wk.of [0] (by decide) ?_, by simp only; omega⟩
      · rw [List.length_append, rats_len, List.length_replicate, List.length_drop]; omega
      · simp only
        rw [List.take_append_of_le_length (by simp [V.rats]), List.take_of_length_le (by simp [V.rats])]
      · exact hp'
      · intro y hy
        rcases List.mem_append.1 hy with hy | hy
        · exact of_eq_true (rats_wid _) y hy
        · exact hw y (List.mem_of_mem_drop hy)
      · simp only [go_sem]
        exact hp'
    · have d1 : ¬ (c : Int) < (N : Nat) := by omega
      obtain rfl : c = N := by omega
      rw [List.take_of_length_le (by omega)] at hL
      subst hL
      simp only [go_sem, d1]
      exact ⟨0, rfl, rfl⟩
theorem one_list {l : List Rat} (h : l.length = 1) : l = [cf l 0] := by
  match l, h with
  | [q], _ => rfl
def kRepeat : FCon := con2 pR (pN .i64) fun l n => (l.length = 1 ∧ 0 < n ∧ n ≤ 1000000, ⟨41, 4, V.rats (List.replicate n.toNat (cf l 0))⟩)
attribute [go_sem ↓, go_sem] kRepeat
theorem repeat_C : FCtr Try.prog 56 kRepeat := FCtr.c2 (by kernel_rfl) fun l n h => by
  obtain ⟨h1, h2, h3⟩ := h
  have := repeat_V (cf l 0) n.toNat (by omega) (by omega)
  rw [show ((n.toNat : Nat) : Int) = n from by omega] at this
  have e : (.lst [.Q (cf l 0)] : V) = pR.val l := by
    show V.lst [.Q (cf l 0)] = .lst (V.rats l)
    rw [one_list h1]
    rfl
  rw [e] at this
  exact this
end Go.Proofs.Ytjjebokgckmnjaa

