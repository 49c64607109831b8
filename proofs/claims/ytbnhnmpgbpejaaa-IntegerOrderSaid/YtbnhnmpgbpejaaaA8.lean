/- Abstract operations: slice expressions, append, copy. No program in sight. -/
import Derived.Test.YtbnhnmpgbpejaaaA7
namespace Go.Proofs.Ytbnhnmpgbpejaaa
set_option linter.unusedSimpArgs false
set_option linter.unusedVariables false
open Go.RowKit

section
variable {P : Program} {w : World} {O : Nat → Prop} {ρ : Nat → Option Nat}
/-- A bound that is given. -/
def bndOk (x : Option V) (u : Option Value) : Prop := (x = none ∧ u = none) ∨ ∃ k i, x = some (.raw (.int k i)) ∧ u = some (.int k i)
theorem bnd_ok {x : Option V} {u : Option Value} {d i : Int} (hx : (x = none ∧ u = none) ∨ ∃ y v, x = some y ∧ u = some v ∧ RepV w O ρ y v) (h : bnd x d = some i) : (x = none ∧ u = none ∧ i = d) ∨ ∃ k, u = some (.int k i) ∧ x ≠ none := by
  unfold bnd at h
  split at h
  · injection h with h
    rcases hx with ⟨_, h2⟩ | ⟨y, v, h1, _⟩
    · exact .inl ⟨rfl, h2, h.symm⟩
    · cases h1
  · rename_i k j
    injection h with h
    subst h
    rcases hx with ⟨h1, _⟩ | ⟨y, v, h1, h2, h3⟩
    · cases h1
    · injection h1 with h1
      subst h1
      have := RepW.raw_inv h3
      subst this
      exact .inr ⟨k, h2, by simp⟩
  · cases h
theorem run_slice_row {t e : TypeId} {s : Nat} (ht : P.underlying t = some (.slice e)) (hs : tySize P e = some s) {A : Option Addr} {n c : Nat} {lo hi mx : Option Value} {l h m : Nat}
    (hb : (Instr.sliceBounds true n c lo hi mx).run P w = .ok (l, h, m) w) : (Instr.sliceAt t (.slice A n c) lo hi mx).run P w = .ok (.slice (if m = l then A else A.map (·.add (l * s))) (h - l) (m - l)) w := by
  simp [Instr.sliceAt, run_underlying ht, Instr.slice, hb, run_size hs]
theorem run_bounds_none {n c : Nat} {lo hi : Option Value} {l h : Int} (hl : (lo = none ∧ l = 0) ∨ ∃ k, lo = some (.int k l)) (hh : (hi = none ∧ h = n) ∨ ∃ k, hi = some (.int k h)) (h0 : 0 ≤ l) (h1 : l ≤ h) (h2 : h ≤ n) (hn : n ≤ c) (b : Bool) :
    (Instr.sliceBounds b n c lo hi none).run P w = .ok (l.toNat, h.toNat, c) w := by
  rcases hl with ⟨rfl, rfl⟩ | ⟨kl, rfl⟩ <;> rcases hh with ⟨rfl, rfl⟩ | ⟨kh, rfl⟩
  · simp [Instr.sliceBounds]
  · simp [Instr.sliceBounds, run_sliceBound w kh h c _ (by omega) (by omega)]
  · simp [Instr.sliceBounds, run_sliceBound w kl l n _ h0 (by omega)]
  · simp [Instr.sliceBounds, run_sliceBound w kh h c _ (by omega) (by omega), run_sliceBound w kl l h.toNat _ h0 (by omega)]
theorem run_bounds_max {n c : Nat} {lo hi : Option Value} {l h m : Int} {km : IntKind} (hl : (lo = none ∧ l = 0) ∨ ∃ k, lo = some (.int k l)) (hh : ∃ k, hi = some (.int k h)) (h0 : 0 ≤ l) (h1 : l ≤ h) (h2 : h ≤ m) (h3 : m ≤ n) (hn : n ≤ c) (b : Bool) :
    (Instr.sliceBounds b n c lo hi (some (.int km m))).run P w = .ok (l.toNat, h.toNat, m.toNat) w := by
  obtain ⟨kh, rfl⟩ := hh
  rcases hl with ⟨rfl, rfl⟩ | ⟨kl, rfl⟩
  · simp [Instr.sliceBounds, run_sliceBound w km m c _ (by omega) (by omega), run_sliceBound w kh h m.toNat _ (by omega) (by omega)]
  · simp [Instr.sliceBounds, run_sliceBound w km m c _ (by omega) (by omega), run_sliceBound w kh h m.toNat _ (by omega) (by omega), run_sliceBound w kl l h.toNat _ h0 (by omega)]
theorem V.atomsL_drop {l : List V} {e : Nat} (h : ∀ x ∈ l, x.wid = e) (k : Nat) : V.atomsL (l.drop k) = (V.atomsL l).drop (k * e) := by
  induction l generalizing k with
  | nil => simp [V.atomsL]
  | cons x l ih =>
    cases k with
    | zero => simp
    | succ k =>
      have h1 : x.atoms.length = e := h x (by simp)
      simp only [List.drop_succ_cons, V.atomsL]
      rw [ih fun y hy => h y (by simp [hy])]
      have h2 : (k + 1) * e = k * e + e := by rw [Nat.add_mul]; omega
      rw [h2, List.drop_append (l₁ := x.atoms), List.drop_eq_nil_of_le (show x.atoms.length ≤ k * e + e by omega), List.nil_append, h1, Nat.add_sub_cancel]
theorem V.atomsL_take_le (l : List V) (k : Nat) : ∃ r, V.atomsL l = V.atomsL (l.take k) ++ r := by
  refine ⟨V.atomsL (l.drop k), ?_⟩
  rw [← V.atomsL_append, List.take_append_drop]
/-- What a slice expression gives on a slice of the abstract run. -/
theorem aSliceL_ok {s n l h : Nat} {isMax : Bool} {x : V} {v : Value} {k} (hx : RepV w O ρ x v) (hn : slLen x = some n) (hlh : l ≤ h) (hhn : h ≤ n) (hk : aSliceL s x n l h isMax k) :
    ∃ A c, v = .slice A n c ∧ n ≤ c ∧ ∀ m, h ≤ m → m ≤ c → (isMax = true → m = l) → ∃ z, k z ∧ RepV w O ρ z (.slice (if m = l then A else A.map (·.add (l * s))) (h - l) (m - l)) := by
  unfold aSliceL at hk
  have hW : RepA w O ρ x v := by
    unfold slLen at hn
    split at hn
    · exact RepW.atom hx rfl
    · exact RepW.atom hx rfl
    · exact RepW.atom hx rfl
    · exact RepW.atom hx rfl
    · cases hn
  by_cases hm : isMax = true
  · subst hm
    simp only [if_true] at hk
    have main : ∃ A c, v = .slice A n c ∧ n ≤ c := by
      cases hW with
      | raw _ u =>
        unfold slLen at hn
        split at hn <;> simp at hn
        · rename_i e; cases e
        · rename_i e; cases e
        · rename_i e; injection e with e; subst e hn; exact ⟨_, _, rfl, Nat.le_refl _⟩
        · rename_i e; cases e
      | sl _ k' e o m b c arr t fr h1 h2 h3 h4 => simp [slLen] at hn; subst hn; exact ⟨_, _, rfl, h3⟩
      | nil _ A c => simp [slLen] at hn; subst hn; exact ⟨_, _, rfl, Nat.zero_le _⟩
      | lst _ q b a' c vs h0 hc => simp [slLen] at hn; subst hn; exact ⟨_, _, rfl, hc⟩
      | emp => simp [slLen] at hn; subst hn; exact ⟨_, _, rfl, Nat.le_refl _⟩
      | any => simp [slLen] at hn
      | ptr => simp [slLen] at hn
      | pel => simp [slLen] at hn
      | clo => simp [slLen] at hn
    obtain ⟨A, c, rfl, hc⟩ := main
    refine ⟨A, c, rfl, hc, fun m h1 h2 h3 => ⟨_, hk, ?_⟩⟩
    have h3 := h3 rfl
    subst h3
    obtain rfl : h = m := by omega
    simp only [Nat.sub_self]
    exact RepW.of_atom (.emp _ _) rfl rfl
  · rw [if_neg hm] at hk
    split at hk
    · rename_i b e o n'
      obtain ⟨rfl, hk⟩ := hk
      simp [slLen] at hn
      subst hn
      cases hW with
      | sl _ _ _ _ _ bb c arr t fr g1 g2 g3 g4 =>
      refine ⟨_, _, rfl, g3, fun m h1 h2 _ => ?_⟩
      by_cases hc : l < h ∨ l = 0
      · rw [if_pos hc] at hk
        refine ⟨_, hk, RepW.of_atom ?_ rfl rfl⟩
        have haddr : (if m = l then some (⟨bb, o * e, none⟩ : Addr) else (some (⟨bb, o * e, none⟩ : Addr)).map (·.add (l * e))) = some ⟨bb, (o + l) * e, none⟩ := by
          by_cases hml : m = l
          · have : l = 0 := by omega
            subst this; simp [hml]
          · simp [hml, Addr.add_lit, Nat.add_mul]
        rw [haddr]
        refine .sl _ _ _ _ _ _ _ arr t fr g1 g2 (by omega) ?_
        have : (o + l + (m - l)) * e ≤ (o + c) * e := Nat.mul_le_mul_right e (by omega)
        omega
      · rw [if_neg hc] at hk
        refine ⟨_, hk, RepW.of_atom ?_ rfl rfl⟩
        obtain rfl : h = l := by omega
        rw [Nat.sub_self]
        exact .nil _ _ _
    · rename_i q
      obtain ⟨hu, hk⟩ := hk
      simp [slLen] at hn
      subst hn
      have main : ∃ A c, v = .slice A q.length c ∧ q.length ≤ c := by
        cases hW with
        | nil _ A c => exact ⟨_, _, rfl, Nat.zero_le _⟩
        | lst _ _ b a' c vs h0 hc => exact ⟨_, _, rfl, hc⟩
      obtain ⟨A, c, rfl, hc⟩ := main
      refine ⟨A, c, rfl, hc, fun m h1 h2 _ => ⟨_, hk, RepW.of_atom ?_ rfl rfl⟩⟩
      by_cases hlh' : l = h
      · subst hlh'
        rw [Nat.sub_self, List.take_zero]
        exact .nil _ _ _
      · have hml : m ≠ l := by omega
        rw [if_neg hml]
        have hq : q ≠ [] := by intro e; subst e; simp at hhn; omega
        have hlen : ((q.drop l).take (h - l)).length = h - l := by rw [List.length_take, List.length_drop]; omega
        cases hW with
        | nil => exact absurd rfl hq
        | lst _ _ b a' _ vs h0 _ hb hO hue hst hl hr =>
        obtain ⟨e, hue⟩ := hue
        have he : l ≠ 0 → e = s := fun h0' => by
          have hql : l < q.length := by omega
          have h1 := hu h0' q[l] (List.getElem_mem hql)
          have h2 := hue q[l] (List.getElem_mem hql)
          omega
        have hls : l * s = l * e := by
          rcases Nat.eq_zero_or_pos l with e0 | e0
          · subst e0; simp
          · rw [he (by omega)]
        simp only [Option.map_some, Addr.add_lit, hls]
        have hla := V.atomsL_length hue
        have hsub : V.atomsL ((q.drop l).take (h - l)) = ((V.atomsL q).drop (l * e)).take ((h - l) * e) := by
          obtain ⟨r, hr'⟩ := V.atomsL_take_le (q.drop l) (h - l)
          have h1 := V.atomsL_drop hue l
          have h2 : (V.atomsL ((q.drop l).take (h - l))).length = (h - l) * e := by
            rw [V.atomsL_length (e := e) fun y hy => hue y (List.mem_of_mem_drop (List.mem_of_mem_take hy)), hlen]
          rw [← h1, hr', ← h2, List.take_left]
        have hbig : l * e + (h - l) * e ≤ q.length * e := by
          rw [← Nat.add_mul]; exact Nat.mul_le_mul_right e (by omega)
        have hres := RepA.lst (w := w) (O := O) ρ ((q.drop l).take (h - l)) b (a' + l * e) (m - l) ((vs.drop (l * e)).take ((h - l) * e)) (by intro e'; rw [e'] at hlen; simp at hlen; omega) (by rw [hlen]; omega) hb hO
          ⟨e, fun y hy => hue y (List.mem_of_mem_drop (List.mem_of_mem_take hy))⟩
          (fun j u hj => by
            rw [List.getElem?_take] at hj
            split at hj
            · rw [List.getElem?_drop] at hj
              rw [Nat.add_assoc]
              exact hst _ _ hj
            · cases hj)
          (by rw [hsub]; simp only [List.length_take, List.length_drop, hl])
          (fun j y u hy hu' => by
            rw [hsub, List.getElem?_take] at hy
            rw [List.getElem?_take] at hu'
            split at hy
            · rename_i hjl
              rw [if_pos hjl] at hu'
              rw [List.getElem?_drop] at hy hu'
              exact hr _ y u hy hu'
            · cases hy)
        rw [hlen] at hres
        exact hres
    · simp [slLen] at hn
      subst hn
      cases hW
      refine ⟨none, 0, rfl, Nat.le_refl _, fun m h1 h2 _ => ⟨_, hk, ?_⟩⟩
      obtain rfl : m = 0 := by omega
      obtain rfl : h = 0 := by omega
      obtain rfl : l = 0 := by omega
      exact RepW.raw rfl
    · simp [slLen] at hn
      subst hn
      cases hW with
      | emp _ A =>
      refine ⟨A, 0, rfl, Nat.le_refl _, fun m h1 h2 _ => ⟨_, hk, ?_⟩⟩
      obtain rfl : m = 0 := by omega
      obtain rfl : h = 0 := by omega
      obtain rfl : l = 0 := by omega
      exact RepW.of_atom (.emp _ _) rfl rfl
    · exact hk.elim
theorem aSlice_ok {t : TypeId} {x : V} {v : Value} {lo hi mx : Option V} {lo' hi' mx' : Option Value} {k} (hx : RepV w O ρ x v)
    (hlo : (lo = none ∧ lo' = none) ∨ ∃ y v, lo = some y ∧ lo' = some v ∧ RepV w O ρ y v) (hhi : (hi = none ∧ hi' = none) ∨ ∃ y v, hi = some y ∧ hi' = some v ∧ RepV w O ρ y v)
    (hmx : (mx = none ∧ mx' = none) ∨ ∃ y v, mx = some y ∧ mx' = some v ∧ RepV w O ρ y v) (h : aSlice P t x lo hi mx k) : ∃ z, k z ∧ ∃ r, (Instr.sliceAt t v lo' hi' mx').run P w = .ok r w ∧ RepV w O ρ z r := by
  unfold aSlice at h
  split at h
  · rename_i s
    have e := RepW.raw_inv hx
    subst e
    obtain ⟨ht, hm, h⟩ := h
    split at h
    · rename_i l hh h1 h2
      obtain ⟨⟨g0, g1, g2⟩, h⟩ := h
      have m0 : mx' = none := by
        rcases hmx with ⟨_, e⟩ | ⟨y, v, e, _⟩
        · exact e
        · rw [e] at hm; simp at hm
      subst m0
      have b1 : (lo' = none ∧ l = 0) ∨ ∃ k, lo' = some (.int k l) := by
        rcases bnd_ok hlo h1 with ⟨_, e1, e2⟩ | ⟨k, e1, _⟩
        · exact .inl ⟨e1, e2⟩
        · exact .inr ⟨k, e1⟩
      have b2 : (hi' = none ∧ hh = (s.size : Int)) ∨ ∃ k, hi' = some (.int k hh) := by
        rcases bnd_ok hhi h2 with ⟨_, e1, e2⟩ | ⟨k, e1, _⟩
        · exact .inl ⟨e1, e2⟩
        · exact .inr ⟨k, e1⟩
      refine ⟨_, h, .string (s.extract l.toNat hh.toNat), ?_, RepW.raw rfl⟩
      simp [Instr.sliceAt, run_underlying ht, Instr.slice, run_bounds_none (P := P) (w := w) b1 b2 g0 g1 g2 (Nat.le_refl _) false]
    · exact h.elim
  · split at h
    · rename_i el s n ht hn
      obtain ⟨u1, u2⟩ := tyElem_inv ht
      split at h
      · rename_i l hh h1 h2
        have b1 : (lo' = none ∧ l = 0) ∨ ∃ k, lo' = some (.int k l) := by
          rcases bnd_ok hlo h1 with ⟨_, e1, e2⟩ | ⟨k, e1, _⟩
          · exact .inl ⟨e1, e2⟩
          · exact .inr ⟨k, e1⟩
        split at h
        · obtain ⟨⟨g0, g1, g2⟩, h⟩ := h
          have m0 : mx' = none := by
            rcases hmx with ⟨_, e⟩ | ⟨y, v, e, _⟩
            · exact e
            · cases e
          subst m0
          have b2 : (hi' = none ∧ hh = (n : Int)) ∨ ∃ k, hi' = some (.int k hh) := by
            rcases bnd_ok hhi h2 with ⟨_, e1, e2⟩ | ⟨k, e1, _⟩
            · exact .inl ⟨e1, e2⟩
            · exact .inr ⟨k, e1⟩
          obtain ⟨A, c, rfl, hc, hm⟩ := aSliceL_ok hx hn (by omega) (by omega) h
          obtain ⟨z, hz, hr⟩ := hm c (by omega) (Nat.le_refl _) (by simp)
          exact ⟨z, hz, _, run_slice_row u1 u2 (run_bounds_none b1 b2 g0 g1 g2 hc true), hr⟩
        · rename_i m
          split at h
          · rename_i mm hmm
            obtain ⟨hsome, ⟨g0, g1, g2, g3⟩, h⟩ := h
            have b2 : ∃ k, hi' = some (.int k hh) := by
              rcases bnd_ok hhi h2 with ⟨e, _, _⟩ | ⟨k, e1, _⟩
              · rw [e] at hsome; simp at hsome
              · exact ⟨k, e1⟩
            have b3 : ∃ k, mx' = some (.int k mm) := by
              rcases bnd_ok hmx hmm with ⟨e, _, _⟩ | ⟨k, e1, _⟩
              · cases e
              · exact ⟨k, e1⟩
            obtain ⟨km, rfl⟩ := b3
            obtain ⟨A, c, rfl, hc, hm⟩ := aSliceL_ok hx hn (by omega) (by omega) h
            obtain ⟨z, hz, hr⟩ := hm mm.toNat (by omega) (by omega) (by intro e; simp at e; omega)
            exact ⟨z, hz, _, run_slice_row u1 u2 (run_bounds_max b1 b2 g0 g1 g2 g3 hc true), hr⟩
          · exact h.elim
      · exact h.elim
    · exact h.elim
end
end Go.Proofs.Ytbnhnmpgbpejaaa
