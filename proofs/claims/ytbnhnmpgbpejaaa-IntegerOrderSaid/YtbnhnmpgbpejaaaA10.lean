/- Abstract operations: append joined; copy. No program in sight. -/
import Derived.Test.YtbnhnmpgbpejaaaA9
namespace Go.Proofs.Ytbnhnmpgbpejaaa
set_option linter.unusedSimpArgs false
set_option linter.unusedVariables false
open Go.RowKit

section
variable {P : Program} {B : Nat → Prop} {H : Hp} {w : World} {ρ : Nat → Option Nat} {n : Nat} {a : Act} {o : Oper}
theorem run_append_zero {t t' ty e : TypeId} {i : TypeInfo} {A : Option Addr} {v : Value} (ht : P.underlying t = some (.slice e)) (hi : P.info? e = some i) (hs : Src P i.size t' v 0 [] w) :
    (Builtin.append_ #[t, t'] ty #[.slice A 0 0, v]).run P w = .ok (.slice A 0 0) w := by
  have h1 := hs.len w
  have h2 := hs.cells
  rcases hs.kind with ⟨e', hk⟩ | hk <;> cases A <;> simp [Builtin.append_, run_underlying ht, run_underlying hk, sizeOf, typeInfo, hi, h1, h2, storeCells]
theorem aAppend_ok {t t' ty : TypeId} {x y : V} {u v : Value} {k : Kt} (hH : HRep w (own B ρ H) ρ H) (hf : ρ n = none) (hx : RepV w (own B ρ H) ρ x u) (hy : RepV w (own B ρ H) ρ y v) (h : aAppend P t t' H n x y k)
    (he : ∀ r w1, (Builtin.append_ #[t, t'] ty #[u, v]).run P w = .ok r w1 → (execOp a.eval o).run P w = .ok (.value r) w1) : ∃ z ws rs, k z ws rs ∧ OpOk P B H w ρ n a o z ws := by
  unfold aAppend at h
  split at h
  · rename_i e s L rs ht hel
    split at h
    · rename_i by_ z hbb hz
      obtain ⟨i, hi, rfl⟩ : ∃ i, P.info? e = some i ∧ i.bytes = by_ := by
        unfold tyBytes at hbb
        cases hi : P.info? e with
        | none => rw [hi] at hbb; cases hbb
        | some i => rw [hi] at hbb; simp at hbb; exact ⟨i, rfl, hbb⟩
      obtain ⟨ht', hzs, hs0, hLw, hLg, hsl, h⟩ := h
      obtain ⟨u1, u2⟩ := tyElem_inv ht
      have hsz : i.size = s := by simpa [tySize, hi] using u2
      obtain ⟨A, c', news, rfl, hc', hcl, hsrc, hst, hnil⟩ := elems_src (P := P) hH hy hel hLw hsl
      have hsrc := hsrc _ _ ht' hLg
      have fromNil : ∀ (A0 : Option Addr) (x0 : V), u = .slice A0 0 0 → RepV w (own B ρ H) ρ x0 u → (L.length ≤ maxLen ∧ L.length * i.bytes ≤ 140737488355328) → (L = [] → k x0 [] rs) → (L ≠ [] → k (.sl n s 0 L.length) [(n, some ⟨e, s, L⟩)] rs) →
          ∃ z ws rs, k z ws rs ∧ OpOk P B H w ρ n a o z ws := by
        rintro A0 x0 rfl hx0 ⟨h1, h2⟩ h3 h4
        by_cases hL : L = []
        · subst hL
          have hn0 : news = [] := List.eq_nil_of_length_eq_zero (by rw [hcl.len]; simp [V.atomsL])
          subst hn0
          exact ⟨_, _, _, h3 rfl, OpOk.value hH hf (he _ _ (run_append_zero u1 hi (srcAt hsrc hsz))) hx0⟩
        · have hlp : 0 < L.length := List.length_pos_iff.2 hL
          have := append_grow_ok (M := []) (olds := []) (sLen := 0) (sCap := 0) (bse := A0) hH hf u1 hi hz hsz hzs hs0 (fun w' _ => by cases A0 <;> simp [Builtin.firstCells, loadCells, loadCellsFrom]) ⟨by simp [V.atomsL], fun j y u h1 h2 => by simp at h2⟩ rfl (fun y hy => by simp at hy) hcl hLw hsrc (by omega) (by omega) (by rw [Nat.zero_add]; exact h2) he
          rw [Nat.zero_add, List.nil_append] at this
          exact ⟨_, _, _, h4 hL, this⟩
      split at h
      · rename_i b e' o' m
        obtain ⟨rfl, rfl, h⟩ := h
        split at h
        · rename_i q hq
          obtain ⟨hqt, hqe, hm, ⟨hmx, hby⟩, h⟩ := h
          refine ⟨_, _, _, h, ?_⟩
          have hA := RepW.atom hx rfl
          cases hA with
          | sl _ _ _ _ _ bb c arr t'' fr g1 g2 g3 g4 =>
          obtain ⟨b', arr', q1, q2, q3, q4, q5⟩ := hH.row _ _ hq
          rw [g1] at q1
          injection q1 with q1
          subst q1
          rw [g2] at q2
          injection q2 with q2
          injection q2 with q2 q2' q2''
          subst q2 q2' q2''
          rw [Nat.zero_mul] at hx he
          rw [Nat.zero_add] at g4
          by_cases hroom : m + L.length ≤ c
          · exact append_room_ok hH hf u1 hi hsz hq g1 g2 hqt hqe hm g3 g4 hcl hLw hsrc hroom he
          · subst hqe
            refine OpOk.erase b ?_
            have hx' : Ext w (own B ρ H) ρ w (own B ρ (H.up b none)) ρ := (step_erase b).ext B
            have hla := V.atomsL_length q3
            have hml : m * q.e ≤ q.l.length * q.e := Nat.mul_le_mul_right _ hm
            have htk : V.atomsL (q.l.take m) = (V.atomsL q.l).take (m * q.e) := by
              obtain ⟨r, hr⟩ := V.atomsL_take_le q.l m
              have h2 : (V.atomsL (q.l.take m)).length = m * q.e := by
                rw [V.atomsL_length (e := q.e) fun y hy => q3 y (List.mem_of_mem_take hy), List.length_take, Nat.min_eq_left hm]
              rw [hr, ← h2, List.take_left]
            have hol : (arr.toList.take (m * q.e)).length = m * q.e := by rw [List.length_take]; simp; omega
            refine append_grow_ok (M := q.l.take m) (olds := arr.toList.take (m * q.e)) (sLen := m) (sCap := c) (bse := some ⟨bb, 0, none⟩) (hH.erase b) hf u1 hi hz hsz hzs hs0 (fun w' hw' => ?_) ⟨?_, fun j y u hy hu => ?_⟩ (by rw [List.length_take]; omega) (fun y hy => q3 y (List.mem_of_mem_take hy)) ⟨hcl.len, fun j y u hy hu => (hcl.rep j y u hy hu).mono hx'⟩ hLw hsrc (by omega) hmx hby he
            · refine run_firstCells_some w' q.e m ⟨bb, 0, none⟩ m c _ hol fun j u hj => ?_
              rw [List.getElem?_take] at hj
              split at hj
              · rw [Addr.add_lit, Nat.zero_add]
                simp only [World.cell?, hw', g2, Option.isSome_none, Bool.false_eq_true, if_false]
                simpa using hj
              · cases hj
            · rw [hol, htk, List.length_take]; omega
            · rw [htk, List.getElem?_take] at hy
              rw [List.getElem?_take] at hu
              split at hy
              · rename_i hjl
                rw [if_pos hjl] at hu
                exact (q5 j y u hy (by simpa using hu)).mono hx'
              · cases hy
        · exact h.elim
      · obtain ⟨h1, h2, h3⟩ := h
        exact fromNil none _ (RepW.raw_inv hx) hx h1 h2 h3
      · obtain ⟨h1, h2, h3⟩ := h
        have hA := RepW.atom hx rfl
        cases hA with
        | emp _ A0 => exact fromNil A0 _ rfl hx h1 h2 h3
      · exact h.elim
    · exact h.elim
  · exact h.elim

/-- copy -/
def aCopy (P : Program) (t : TypeId) (H : Hp) (x y : V) (k : Kt) : Prop :=
  match tyElem P t, aElems H y with
  | some (e, s), some (L, rs) => allWid L s ∧ allGood L ∧ (∀ k e' o m, y = .sl k e' o m → e' = s) ∧ (match x with
    | .sl b e' o m => e' = s ∧ (match H b with
      | some q => q.e = s ∧ o + m ≤ q.l.length ∧ 0 < m ∧ k (.raw (.int .i64 (min L.length m : Nat))) [(b, some ⟨q.t, s, q.l.take o ++ L.take (min L.length m) ++ q.l.drop (o + min L.length m)⟩)] (b :: rs)
      | none => False)
    | _ => False)
  | _, _ => False
theorem aCopy_ok {t t' ty : TypeId} {x y : V} {u v : Value} {k : Kt} (hH : HRep w (own B ρ H) ρ H) (hf : ρ n = none) (hx : RepV w (own B ρ H) ρ x u) (hy : RepV w (own B ρ H) ρ y v) (h : aCopy P t H x y k)
    (he : ∀ r w1, (Builtin.copy_ #[t, t'] ty #[u, v]).run P w = .ok r w1 → (execOp a.eval o).run P w = .ok (.value r) w1) : ∃ z ws rs, k z ws rs ∧ OpOk P B H w ρ n a o z ws := by
  unfold aCopy at h
  split at h
  · rename_i e s L rs ht hel
    obtain ⟨hLw, hLg, hsl, h⟩ := h
    obtain ⟨u1, u2⟩ := tyElem_inv ht
    obtain ⟨A, c', news, rfl, hc', hcl, hsrc, hst, hnil⟩ := elems_src (P := P) hH hy hel hLw hsl
    split at h
    · rename_i b e' o' m
      obtain ⟨rfl, h⟩ := h
      split at h
      · rename_i q hq
        obtain ⟨hqe, hom, hm0, h⟩ := h
        subst hqe
        refine ⟨_, _, _, h, ?_⟩
        have hA := RepW.atom hx rfl
        cases hA with
        | sl _ _ _ _ _ bb c arr t'' fr g1 g2 g3 g4 =>
        obtain ⟨b', arr', q1, q2, q3, q4, q5⟩ := hH.row _ _ hq
        rw [g1] at q1
        injection q1 with q1
        subst q1
        have g2' := g2
        rw [g2] at q2
        injection q2 with q2
        injection q2 with q2 q2' q2''
        subst q2 q2' q2''
        have hnl : news.length = L.length * q.e := by rw [hcl.len, V.atomsL_length hLw]
        have hla := V.atomsL_length q3
        generalize hr : min L.length m = r at *
        have hrl : r * q.e ≤ L.length * q.e := Nat.mul_le_mul_right _ (by omega)
        have hrm : (o' + r) * q.e ≤ q.l.length * q.e := Nat.mul_le_mul_right _ (by omega)
        rw [Nat.add_mul] at hrm
        have hone : ∀ u ∈ news.take (r * q.e), u.oneCell' = true := fun u hu => hcl.one hLg u (List.mem_of_mem_take hu)
        have hntl : (news.take (r * q.e)).length = r * q.e := by rw [List.length_take]; omega
        have hload : (Builtin.firstCells q.e r (.slice A L.length c')).run P w = .ok (news.take (r * q.e)).toArray w := by
          by_cases hL : L = []
          · subst hL
            obtain rfl : r = 0 := by simp at hr; omega
            cases A <;> simp [Builtin.firstCells, loadCells, loadCellsFrom]
          · obtain ⟨bb', off, rfl, hs⟩ := hst hL
            refine run_firstCells_some w q.e r _ _ c' _ hntl fun j u hj => ?_
            rw [List.getElem?_take] at hj
            split at hj
            · rw [Addr.add_lit]; exact hs j u hj
            · cases hj
        have hstore := run_storeCells_at P bb (o' * q.e) q.t (news.take (r * q.e)) 0 arr w g2 (by rw [hntl]; omega) hone
        simp only [Nat.add_zero, hntl] at hstore
        have hsize : (arr.toList.take (o' * q.e) ++ news.take (r * q.e) ++ arr.toList.drop (o' * q.e + r * q.e)).toArray.size = arr.size := by simp [hntl]; omega
        have hwid : ∀ z ∈ q.l.take o' ++ L.take r ++ q.l.drop (o' + r), z.wid = q.e := fun z hz => by
          simp only [List.mem_append] at hz
          rcases hz with (hz | hz) | hz
          · exact q3 z (List.mem_of_mem_take hz)
          · exact hLw z (List.mem_of_mem_take hz)
          · exact q3 z (List.mem_of_mem_drop hz)
        have hlen : (q.l.take o' ++ L.take r ++ q.l.drop (o' + r)).length = q.l.length := by simp; omega
        have tk : ∀ (M : List V) (j : Nat), (∀ z ∈ M, z.wid = q.e) → j ≤ M.length → V.atomsL (M.take j) = (V.atomsL M).take (j * q.e) := fun M j hM hj => by
          obtain ⟨rr, hrr⟩ := V.atomsL_take_le M j
          have h2 : (V.atomsL (M.take j)).length = j * q.e := by
            rw [V.atomsL_length (e := q.e) fun y hy => hM y (List.mem_of_mem_take hy), List.length_take, Nat.min_eq_left hj]
          rw [hrr, ← h2, List.take_left]
        refine OpOk.row (arr' := (arr.toList.take (o' * q.e) ++ news.take (r * q.e) ++ arr.toList.drop (o' * q.e + r * q.e)).toArray) (y := ⟨q.t, q.e, q.l.take o' ++ L.take r ++ q.l.drop (o' + r)⟩) hH hf hq g1 g2 (.inl rfl) (he (.int .i64 (r : Nat)) _ ?_) hsize rfl hwid ?_ ?_ (fun _ _ => RepW.raw rfl)
        · have hmin : Nat.min L.length m = r := hr
          simp [Builtin.copy_, run_underlying u1, Builtin.lenOf, run_size u2, hmin, hload, hstore, goInt]
        · show (V.atomsL (q.l.take o' ++ L.take r ++ q.l.drop (o' + r))).length ≤ _
          rw [V.atomsL_length hwid, hlen, hsize]
          omega
        · intro j z u' hz hu'
          change (V.atomsL (q.l.take o' ++ L.take r ++ q.l.drop (o' + r)))[j]? = some z at hz
          rw [V.atomsL_append, V.atomsL_append, tk q.l o' q3 (by omega), tk L r hLw (by omega), V.atomsL_drop q3] at hz
          simp only [List.getElem?_toArray] at hu'
          have l1 : ((V.atomsL q.l).take (o' * q.e)).length = o' * q.e := by rw [List.length_take]; omega
          have l2 : ((V.atomsL L).take (r * q.e)).length = r * q.e := by rw [List.length_take, ← hcl.len]; omega
          have m1 : (arr.toList.take (o' * q.e)).length = o' * q.e := by rw [List.length_take]; simp; omega
          rw [List.append_assoc] at hz hu'
          by_cases c1 : j < o' * q.e
          · rw [List.getElem?_append_left (by omega), List.getElem?_take, if_pos c1] at hz
            rw [List.getElem?_append_left (by omega), List.getElem?_take, if_pos c1] at hu'
            exact q5 j z u' hz (by simpa using hu')
          · rw [List.getElem?_append_right (by omega), l1] at hz
            rw [List.getElem?_append_right (by omega), m1] at hu'
            by_cases c2 : j - o' * q.e < r * q.e
            · rw [List.getElem?_append_left (by omega), List.getElem?_take, if_pos c2] at hz
              rw [List.getElem?_append_left (by omega), List.getElem?_take, if_pos c2] at hu'
              exact hcl.rep _ z u' hz hu'
            · rw [List.getElem?_append_right (by omega), l2, List.getElem?_drop] at hz
              rw [List.getElem?_append_right (by omega), hntl, List.getElem?_drop] at hu'
              rw [Nat.add_mul] at hz
              exact q5 _ z u' hz (by simpa using hu')
      · exact h.elim
    · exact h.elim
  · exact h.elim
end
end Go.Proofs.Ytbnhnmpgbpejaaa
