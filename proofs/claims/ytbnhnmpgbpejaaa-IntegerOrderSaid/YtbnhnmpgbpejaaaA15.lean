/- An operation of the abstract run has one outcome, and looks at its operands and at the rows that it says. No program in sight. -/
import Derived.Test.YtbnhnmpgbpejaaaA14
namespace Go.Proofs.Ytbnhnmpgbpejaaa
set_option linter.unusedSimpArgs false
set_option linter.unusedVariables false
open Go.RowKit

section
variable {P : Program}
theorem ch_fieldAddr {t p f} {k : V → Prop} (h : aFieldAddr P t p f k) : ∃ z, k z ∧ aFieldAddr P t p f (fun z' => z' = z) := by
  unfold aFieldAddr at *
  (repeat' split at h) <;> simp_all
theorem ch_field {t x f} {k : V → Prop} (h : aField P t x f k) : ∃ z, k z ∧ aField P t x f (fun z' => z' = z) := by
  unfold aField at *
  (repeat' split at h) <;> simp_all
theorem ch_indexAddr {t x i} {k : V → Prop} (h : aIndexAddr P t x i k) : ∃ z, k z ∧ aIndexAddr P t x i (fun z' => z' = z) := by
  unfold aIndexAddr at *
  (repeat' split at h) <;> simp_all <;> grind
theorem ch_arith {op kd a b} {k : V → Prop} (h : aArith op kd a b k) : ∃ z, k z ∧ aArith op kd a b (fun z' => z' = z) := by
  unfold aArith at *
  (repeat' split at h) <;> simp_all
theorem ch_str {op a b} {k : V → Prop} (h : aStr op a b k) : ∃ z, k z ∧ aStr op a b (fun z' => z' = z) := by
  unfold aStr at *
  (repeat' split at h) <;> simp_all
theorem ch_un {op x} {k : V → Prop} (h : aUn op x k) : ∃ z, k z ∧ aUn op x (fun z' => z' = z) := by
  unfold aUn at *
  (repeat' split at h) <;> simp_all
theorem ch_len {t x} {k : V → Prop} (h : aLen P t x k) : ∃ z, k z ∧ aLen P t x (fun z' => z' = z) := by
  unfold aLen at *
  (repeat' split at h) <;> simp_all
theorem ch_min {x y} {k : V → Prop} (h : aMin x y k) : ∃ z, k z ∧ aMin x y (fun z' => z' = z) := by
  unfold aMin at *
  split at h
  · exact ⟨_, h, rfl⟩
  · exact h.elim
theorem ch_max {x y} {k : V → Prop} (h : aMax x y k) : ∃ z, k z ∧ aMax x y (fun z' => z' = z) := by
  unfold aMax at *
  split at h
  · exact ⟨_, h, rfl⟩
  · exact h.elim
theorem ch_sliceL {s x n l h0 b} {k : V → Prop} (h : aSliceL s x n l h0 b k) : ∃ z, k z ∧ aSliceL s x n l h0 b (fun z' => z' = z) := by
  unfold aSliceL at h
  by_cases hb : b = true
  · rw [if_pos hb] at h
    exact ⟨_, h, by unfold aSliceL; rw [if_pos hb]⟩
  · rw [if_neg hb] at h
    split at h
    · obtain ⟨h1, h⟩ := h
      by_cases hc : l < h0 ∨ l = 0
      · rw [if_pos hc] at h
        exact ⟨_, h, by unfold aSliceL; rw [if_neg hb]; exact ⟨h1, by rw [if_pos hc]⟩⟩
      · rw [if_neg hc] at h
        exact ⟨_, h, by unfold aSliceL; rw [if_neg hb]; exact ⟨h1, by rw [if_neg hc]⟩⟩
    · exact ⟨_, h.2, by unfold aSliceL; rw [if_neg hb]; exact ⟨h.1, rfl⟩⟩
    · exact ⟨_, h, by unfold aSliceL; rw [if_neg hb]; exact rfl⟩
    · exact ⟨_, h, by unfold aSliceL; rw [if_neg hb]⟩
    · exact h.elim
theorem ch_index {t x i} {k : V → Prop} (h : aIndex P t x i k) : ∃ z, k z ∧ aIndex P t x i (fun z' => z' = z) := by
  unfold aIndex at *
  (repeat' split at h) <;> simp_all
theorem ch_conv {t x} {k : V → Prop} (h : aConv P t x k) : ∃ z, k z ∧ aConv P t x (fun z' => z' = z) := by
  unfold aConv at *
  (repeat' split at h) <;> simp_all
theorem ch_extract {x i} {k : V → Prop} (h : aExtract x i k) : ∃ z, k z ∧ aExtract x i (fun z' => z' = z) := by
  unfold aExtract at *
  (repeat' split at h) <;> simp_all
theorem ch_pick {c x y} {k : V → Prop} (h : aPick c x y k) : ∃ z, k z ∧ aPick c x y (fun z' => z' = z) := by
  unfold aPick at *
  split at h
  · rename_i b
    split at h
    · exact ⟨_, h, rfl⟩
    · cases b with
      | true => exact ⟨_, h.1 rfl, by simp_all⟩
      | false => exact ⟨_, h.2 rfl, by simp_all⟩
  · exact h.elim
theorem ch_nil {x} {k : V → Prop} (h : aNil x k) : ∃ z, k z ∧ aNil x (fun z' => z' = z) := by
  unfold aNil at *
  (repeat' split at h) <;> simp_all
theorem ch_build {t e ps} {k : V → Prop} (h : aBuild P t e ps k) : ∃ z, k z ∧ aBuild P t e ps (fun z' => z' = z) := by
  unfold aBuild at *
  (repeat' split at h) <;> simp_all
theorem ch_nilB {op t b} {k : V → Prop} (h : nilB P op t b k) : ∃ z, k z ∧ nilB P op t b (fun z' => z' = z) := by
  unfold nilB at *
  split at h
  · exact ⟨_, h.2, h.1, rfl⟩
  · exact ⟨_, h.2, h.1, rfl⟩
  · exact h.elim
theorem ch_bin {op t x y} {k : V → Prop} (h : aBin P op t x y k) : ∃ z, k z ∧ aBin P op t x y (fun z' => z' = z) := by
  unfold aBin at *
  split at h
  · split at h
    · exact ⟨_, h.2.2, h.1, h.2.1, rfl⟩
    · exact ⟨_, h.2.2, h.1, h.2.1, rfl⟩
    · obtain ⟨z, h1, h2⟩ := ch_arith h.2
      exact ⟨z, h1, h.1, h2⟩
  · exact ch_str h
  · split at h
    · exact ⟨_, h.2, h.1, rfl⟩
    · exact ⟨_, h.2, h.1, rfl⟩
    · exact h.elim
  · exact ch_nilB h
  · exact ch_nilB h
  · exact ch_nilB h
  · exact h.elim
theorem ch_slice {t x lo hi mx} {k : V → Prop} (h : aSlice P t x lo hi mx k) : ∃ z, k z ∧ aSlice P t x lo hi mx (fun z' => z' = z) := by
  unfold aSlice at *
  split at h
  · obtain ⟨h1, h2, h⟩ := h
    split at h
    · rename_i e1 e2
      exact ⟨_, h.2, h1, h2, by simp only [e1, e2]; exact ⟨h.1, trivial⟩⟩
    · exact h.elim
  · rename_i hx
    split at h
    · rename_i el s n e1 e2
      split at h
      · rename_i l hh e3 e4
        split at h
        · obtain ⟨z, h1, h2⟩ := ch_sliceL h.2
          refine ⟨z, h1, ?_⟩
          exact ⟨h.1, h2⟩
        · rename_i m
          split at h
          · rename_i mm e5
            obtain ⟨z, h1, h2⟩ := ch_sliceL h.2.2
            refine ⟨z, h1, ?_⟩
            exact ⟨h.1, h.2.1, h2⟩
          · exact h.elim
      · exact h.elim
    · exact h.elim
end

/-- An operation that gives a value, writes rows and reads rows: one outcome, the same wherever those rows are the same. -/
def One (X : Hp → Kt → Prop) (H : Hp) (k : Kt) : Prop :=
  ∃ z ws rs, k z ws rs ∧ ∀ H' : Hp, (∀ b ∈ rs, H' b = H b) → X H' (fun z' ws' rs' => z' = z ∧ ws' = ws ∧ rs' = rs)
theorem One.of_ch {X : (V → Prop) → Prop} (hc : ∀ k, X k → ∃ z, k z ∧ X (fun z' => z' = z)) (hm : ∀ k k' : V → Prop, (∀ z, k z → k' z) → X k → X k') {H : Hp} {k : Kt} (h : X fun z => k z [] []) :
    One (fun _ k => X fun z => k z [] []) H k := by
  obtain ⟨z, h1, h2⟩ := hc _ h
  exact ⟨z, [], [], h1, fun _ _ => hm _ _ (fun z' e => ⟨e, rfl, rfl⟩) h2⟩
section
variable {P : Program}
theorem one_load {t p} {H : Hp} {k : Kt} (h : aLoad P H t p k) : One (fun H k => aLoad P H t p k) H k := by
  unfold aLoad at h
  split at h
  · rename_i b e i off
    split at h
    · rename_i x hx
      obtain ⟨he, h⟩ := h
      split at h
      · rename_i y hy
        split at h
        · rename_i z hz
          refine ⟨_, _, _, h, fun H' hH => ?_⟩
          simp only [aLoad, hH b (by simp), hx, hy, hz, he, and_self]
        · exact h.elim
      · exact h.elim
    · exact h.elim
  · split at h
    · rename_i z hz
      refine ⟨_, _, _, h, fun H' hH => ?_⟩
      simp only [aLoad, hz, and_self]
    · exact h.elim
  · exact h.elim
theorem one_store {t p x} {H : Hp} {k : Kt} (h : aStore P H t p x k) : One (fun H k => aStore P H t p x k) H k := by
  unfold aStore at h
  split at h
  · rename_i b e i off
    split at h
    · rename_i y hy
      obtain ⟨he, h⟩ := h
      split at h
      · rename_i z hz
        obtain ⟨h1, h2, h3, h⟩ := h
        refine ⟨_, _, _, h, fun H' hH => ?_⟩
        simp only [aStore, hH b (by simp), hy, hz, he, h1, h2, h3, and_self]
      · exact h.elim
    · exact h.elim
  · exact h.elim
theorem elems_loc {H H' : Hp} {x : V} {L : List V} {rs : List Nat} (h : aElems H x = some (L, rs)) (hH : ∀ b ∈ rs, H' b = H b) : aElems H' x = some (L, rs) := by
  unfold aElems at *
  split at h
  · rename_i b e o n
    cases hb : H b with
    | none => rw [hb] at h; simp at h
    | some q =>
      rw [hb] at h
      simp only at h
      split at h
      · rename_i hc
        simp only [Option.some.injEq, Prod.mk.injEq] at h
        have h1 := hH b (by rw [← h.2]; simp)
        simp only [h1, hb, hc, and_self, if_true, h.1, h.2]
      · cases h
  · exact h
  · exact h
  · exact h
  · cases h
theorem one_conv {s t x} {H : Hp} {k : Kt} (h : aConvK P s t H x k) : One (fun H k => aConvK P s t H x k) H k := by
  unfold aConvK at h
  split at h
  · obtain ⟨z, h1, h2⟩ := ch_conv h
    refine ⟨z, [], [], h1, fun H' _ => ?_⟩
    simp only [aConvK, and_self, and_true]
    exact h2
  · rename_i b
    split at h
    · rename_i hd
      exact ⟨_, _, _, h, fun H' _ => by simp only [aConvK, hd, and_self]⟩
    · rename_i e hd
      exact ⟨_, _, _, h.2.2, fun H' _ => by simp only [aConvK, hd, h.1, h.2.1, and_self]⟩
    · exact h.elim
  · rename_i n1 n2
    split at h
    · rename_i e g1 g2
      obtain ⟨g3, h⟩ := h
      split at h
      · rename_i L rs hel
        split at h
        · rename_i l hl
          refine ⟨_, _, _, h.2, fun H' hH => ?_⟩
          unfold aConvK
          split
          · exact absurd rfl (n1 _ _)
          · exact absurd rfl (n2 _)
          · simp only [g1, g2, g3, elems_loc hel hH, hl, true_and, and_true, and_self]
            exact h.1
        · exact h.elim
      · exact h.elim
    · exact h.elim
def aAppX (e : TypeId) (s by_ n : Nat) (L : List V) (rs : List Nat) (x : V) (H : Hp) (k : Kt) : Prop :=
  match x with
  | .sl b e' o m => e' = s ∧ o = 0 ∧ (match H b with
    | some q => q.t = e ∧ q.e = s ∧ m ≤ q.l.length ∧ (m + L.length ≤ maxLen ∧ (m + L.length) * by_ ≤ 140737488355328) ∧ k (.sl n s 0 (m + L.length)) [(b, none), (n, some ⟨e, s, q.l.take m ++ L⟩)] (b :: rs)
    | none => False)
  | .raw (.slice none 0 0) => (L.length ≤ maxLen ∧ L.length * by_ ≤ 140737488355328) ∧ (L = [] → k x [] rs) ∧ (L ≠ [] → k (.sl n s 0 L.length) [(n, some ⟨e, s, L⟩)] rs)
  | .emp => (L.length ≤ maxLen ∧ L.length * by_ ≤ 140737488355328) ∧ (L = [] → k x [] rs) ∧ (L ≠ [] → k (.sl n s 0 L.length) [(n, some ⟨e, s, L⟩)] rs)
  | _ => False
theorem one_append {t t' n x y} {H : Hp} {k : Kt} (h : aAppend P t t' H n x y k) : One (fun H k => aAppend P t t' H n x y k) H k := by
  unfold aAppend at h
  split at h
  · rename_i e s L rs e1 e2
    split at h
    · rename_i i z e3 e4
      obtain ⟨h1, h2, h3, h4, h5, h6, h⟩ := h
      have key : ∀ (H' : Hp) (k' : Kt), (∀ b ∈ rs, H' b = H b) → aAppX e s i n L rs x H' k' → aAppend P t t' H' n x y k' := fun H' k' hH q => by
        unfold aAppend
        simp only [e1, elems_loc e2 hH, e3, e4]
        exact ⟨h1, h2, h3, h4, h5, h6, q⟩
      split at h
      · rename_i b e' o m
        obtain ⟨g1, g2, h⟩ := h
        split at h
        · rename_i q hq
          obtain ⟨q1, q2, q3, q4, h⟩ := h
          refine ⟨_, _, _, h, fun H' hH => ?_⟩
          refine key H' _ (fun b hb => hH b (by simp [hb])) ?_
          simp only [aAppX, hH b (by simp), hq]
          exact ⟨g1, g2, q1, q2, q3, q4, by simp⟩
        · exact h.elim
      · obtain ⟨q1, q2, q3⟩ := h
        by_cases hL : L = []
        · refine ⟨_, _, _, q2 hL, fun H' hH => ?_⟩
          refine key H' _ hH ?_
          simp only [aAppX]
          exact ⟨q1, fun _ => by simp, fun h => absurd hL h⟩
        · refine ⟨_, _, _, q3 hL, fun H' hH => ?_⟩
          refine key H' _ hH ?_
          simp only [aAppX]
          exact ⟨q1, fun h => absurd h hL, fun _ => by simp⟩
      · obtain ⟨q1, q2, q3⟩ := h
        by_cases hL : L = []
        · refine ⟨_, _, _, q2 hL, fun H' hH => ?_⟩
          refine key H' _ hH ?_
          simp only [aAppX]
          exact ⟨q1, fun _ => by simp, fun h => absurd hL h⟩
        · refine ⟨_, _, _, q3 hL, fun H' hH => ?_⟩
          refine key H' _ hH ?_
          simp only [aAppX]
          exact ⟨q1, fun h => absurd h hL, fun _ => by simp⟩
      · exact h.elim
    · exact h.elim
  · exact h.elim
theorem one_copy {t x y} {H : Hp} {k : Kt} (h : aCopy P t H x y k) : One (fun H k => aCopy P t H x y k) H k := by
  unfold aCopy at h
  split at h
  · rename_i e s L rs e1 e2
    obtain ⟨h1, h2, h3, h⟩ := h
    split at h
    · rename_i b e' o m
      obtain ⟨g1, h⟩ := h
      split at h
      · rename_i q hq
        obtain ⟨q1, q2, q3, h⟩ := h
        refine ⟨_, _, _, h, fun H' hH => ?_⟩
        have e3 := elems_loc (H' := H') e2 fun b hb => hH b (by simp [hb])
        simp only [aCopy, e1, e3, hH b (by simp), hq]
        exact ⟨h1, h2, h3, g1, q1, q2, q3, by simp⟩
      · exact h.elim
    · exact h.elim
  · exact h.elim
theorem argA_loc {x : V} {H : Hp} {k : V → List Nat → Prop} (h : argA H x k) : ∃ y rs, k y rs ∧ ∀ H' : Hp, (∀ b ∈ rs, H' b = H b) → ∀ k', argA H' x k' ↔ k' y rs := by
  unfold argA at h
  split at h
  · rename_i b e o m
    split at h
    · rename_i L rs hel
      obtain ⟨hp, h⟩ := h
      refine ⟨_, _, h, fun H' hH k' => ?_⟩
      simp only [argA, elems_loc hel hH, hp, true_and]
    · exact h.elim
  · exact ⟨_, _, h, fun H' hH k' => Iff.rfl⟩
  · exact ⟨_, _, h, fun H' hH k' => Iff.rfl⟩
  · rename_i n1 n2 n3
    obtain ⟨hp, h⟩ := h
    refine ⟨_, _, h, fun H' hH k' => ?_⟩
    unfold argA
    split
    · exact absurd rfl (n1 _ _ _ _)
    · exact absurd rfl n2
    · exact absurd rfl n3
    · simp only [hp, true_and]
theorem argsA_loc {H : Hp} : ∀ (xs : List V) (k : List V → List Nat → Prop), argsA H xs k → ∃ ys rs, k ys rs ∧ ∀ H' : Hp, (∀ b ∈ rs, H' b = H b) → ∀ k', argsA H' xs k' ↔ k' ys rs
  | [], k, h => ⟨[], [], h, fun _ _ _ => Iff.rfl⟩
  | x :: xs, k, h => by
    simp only [argsA] at h
    obtain ⟨y, r, h, h1⟩ := argA_loc h
    obtain ⟨ys, rs, h, h2⟩ := argsA_loc xs _ h
    refine ⟨y :: ys, r ++ rs, h, fun H' hH k' => ?_⟩
    simp only [argsA]
    rw [h1 H' fun b hb => hH b (by simp [hb]), h2 H' fun b hb => hH b (by simp [hb])]
theorem arg1_loc {x : V} {H : Hp} {k : V → List Nat → Prop} (h : arg1 H x k) : ∃ y rs, k y rs ∧ ∀ H' : Hp, (∀ b ∈ rs, H' b = H b) → ∀ k', arg1 H' x k' ↔ k' y rs := by
  unfold arg1 at h
  by_cases ha : x.isAgg = true
  · rw [if_pos ha] at h
    by_cases hp : x.pure = true
    · rw [if_pos hp] at h
      refine ⟨_, _, h, fun H' _ k' => ?_⟩
      unfold arg1
      rw [if_pos ha, if_pos hp]
    · rw [if_neg hp] at h
      obtain ⟨hg, h⟩ := h
      obtain ⟨ys, rs, h, h1⟩ := argsA_loc x.atoms _ h
      refine ⟨_, _, h, fun H' hH k' => ?_⟩
      unfold arg1
      rw [if_pos ha, if_neg hp, h1 H' hH]
      simp [hg]
  · rw [if_neg ha] at h
    obtain ⟨y, rs, h, h1⟩ := argA_loc h
    refine ⟨y, rs, h, fun H' hH k' => ?_⟩
    unfold arg1
    rw [if_neg ha]
    exact h1 H' hH k'
theorem argsP_loc {H : Hp} : ∀ (xs : List V) (k : List V → List Nat → Prop), argsP H xs k → ∃ ys rs, k ys rs ∧ ∀ H' : Hp, (∀ b ∈ rs, H' b = H b) → ∀ k', argsP H' xs k' ↔ k' ys rs
  | [], k, h => ⟨[], [], h, fun _ _ _ => Iff.rfl⟩
  | x :: xs, k, h => by
    simp only [argsP] at h
    obtain ⟨y, r, h, h1⟩ := arg1_loc h
    obtain ⟨ys, rs, h, h2⟩ := argsP_loc xs _ h
    refine ⟨y :: ys, r ++ rs, h, fun H' hH k' => ?_⟩
    simp only [argsP]
    rw [h1 H' fun b hb => hH b (by simp [hb]), h2 H' fun b hb => hH b (by simp [hb])]
/-- The contracts of functions that work on what is owned look at no other rows than they say. -/
def GabLoc (Δ : Gab) : Prop := ∀ f args H n, (∀ p r ws rs, Δ f args H n = some (p, r, ws, rs) → ∀ H' : Hp, (∀ b ∈ rs, H' b = H b) → Δ f args H' n = some (p, r, ws, rs)) ∧ (Δ f args H n = none → ∀ H' : Hp, Δ f args H' n = none)
theorem one_callF {Γ : Tab} {Δ : Gab} (hl : GabLoc Δ) {f args n} {H : Hp} {k : Kt} (h : aCallF Γ Δ f args H n k) : One (fun H k => aCallF Γ Δ f args H n k) H k := by
  unfold aCallF at h
  split at h
  · rename_i p r ws rs hd
    obtain ⟨h1, h2, h⟩ := h
    refine ⟨_, _, _, h, fun H' hH => ?_⟩
    simp only [aCallF, (hl f args H n).1 p r ws rs hd H' hH]
    exact ⟨h1, h2, by simp⟩
  · rename_i hd
    obtain ⟨ys, ids, h, h1⟩ := argsP_loc args _ h
    split at h
    · rename_i p r hg
      obtain ⟨hp, h⟩ := h
      refine ⟨_, _, _, h, fun H' hH => ?_⟩
      simp only [aCallF, (hl f args H n).2 hd H']
      rw [h1 H' hH]
      simp only [hg]
      exact ⟨hp, by simp⟩
    · exact h.elim
end
end Go.Proofs.Ytbnhnmpgbpejaaa
