/- The abstract run of one operation is local. No program in sight. -/
import Derived.Test.YtbnhnmpgbpejaaaA15
namespace Go.Proofs.Ytbnhnmpgbpejaaa
set_option linter.unusedSimpArgs false
set_option linter.unusedVariables false
open Go.RowKit

section
variable {P : Program}
/-- An operation: one outcome, by its operands and the rows that it says. -/
def OneE (X : (Operand → V) → Hp → Kt → Prop) (xs : List Operand) (e : Operand → V) (H : Hp) (k : Kt) : Prop :=
  ∃ z ws rs, k z ws rs ∧ ∀ (e' : Operand → V) (H' : Hp), (∀ x ∈ xs, e' x = e x) → (∀ b ∈ rs, H' b = H b) → X e' H' (fun z' ws' rs' => z' = z ∧ ws' = ws ∧ rs' = rs)
theorem OneE.of_val {X : (Operand → V) → (V → Prop) → Prop} {xs : List Operand} {e : Operand → V} {H : Hp} {k : Kt} (hc : ∀ k, X e k → ∃ z, k z ∧ X e (fun z' => z' = z)) (hl : ∀ e', (∀ x ∈ xs, e' x = e x) → X e' = X e) (h : X e fun z => k z [] []) :
    OneE (fun e _ k => X e fun z => k z [] []) xs e H k := by
  obtain ⟨z, h1, h2⟩ := hc _ h
  refine ⟨z, [], [], h1, fun e' _ he _ => ?_⟩
  simp only [hl e' he, and_self, and_true]
  exact h2
theorem OneE.of_one {X : (Operand → V) → Hp → Kt → Prop} {xs : List Operand} {e : Operand → V} {H : Hp} {k : Kt} (hc : One (X e) H k) (hl : ∀ e', (∀ x ∈ xs, e' x = e x) → X e' = X e) : OneE X xs e H k := by
  obtain ⟨z, ws, rs, h1, h2⟩ := hc
  exact ⟨z, ws, rs, h1, fun e' H' he hH => by rw [hl e' he]; exact h2 H' hH⟩
theorem fill_congr {t : TypeId} {e e' : Operand → V} : ∀ (ps : List (Nat × Operand)) (x : V), (∀ y ∈ ps.map (·.2), e' y = e y) → aFill P t e' ps x = aFill P t e ps x
  | [], x, _ => rfl
  | (i, p) :: r, x, h => by
    have h1 : e' p = e p := h p (by simp)
    simp only [aFill, h1]
    split
    · split
      · exact fill_congr r _ fun y hy => h y (by simp at hy ⊢; exact .inr hy)
      · rfl
    · rfl
theorem fillL_congr {s len : Nat} {e e' : Operand → V} : ∀ (ps : List (Nat × Operand)) (l : List V), (∀ y ∈ ps.map (·.2), e' y = e y) → aFillL e' s len ps l = aFillL e s len ps l
  | [], l, _ => rfl
  | (i, p) :: r, l, h => by
    have h1 : e' p = e p := h p (by simp)
    simp only [aFillL, h1]
    split
    · exact fillL_congr r _ fun y hy => h y (by simp at hy ⊢; exact .inr hy)
    · rfl
theorem opt_congr {e e' : Operand → V} {x : Option Operand} (h : ∀ y ∈ x.toList, e' y = e y) : x.map e' = x.map e := by
  cases x with
  | none => rfl
  | some y => simp [h y (by simp)]
theorem one_op {Γ : Tab} {Δ : Gab} (hl : GabLoc Δ) {op : Op} {e : Operand → V} {n : Nat} {H : Hp} {k : Kt} (h : aop P Γ Δ op e H n k) : OneE (fun e H k => aop P Γ Δ op e H n k) op.operands.toList e H k := by
  cases op with
  | move x => exact ⟨_, _, _, h, fun e' H' he _ => by simp only [aop, he x (by simp [Op.operands]), and_self]⟩
  | assign x => exact ⟨_, _, _, h, fun e' H' he _ => by simp only [aop, he x (by simp [Op.operands]), and_self]⟩
  | pick c x y => exact OneE.of_val (X := fun e k => aPick (e c) (e x) (e y) k) (fun _ => ch_pick) (fun e' he => by simp only [he c (by simp [Op.operands]), he x (by simp [Op.operands]), he y (by simp [Op.operands])]) h
  | alloc t =>
    simp only [aop, aAlloc] at h
    split at h
    · rename_i z hz
      exact ⟨_, _, _, h.2, fun e' H' _ _ => by simp [aop, aAlloc, hz, h.1]⟩
    · exact h.elim
  | box t x =>
    simp only [aop, aBox] at h
    exact ⟨_, _, _, h.2, fun e' H' he _ => by simp [aop, aBox, he x (by simp [Op.operands]), h.1]⟩
  | build t ps =>
    refine OneE.of_val (X := fun e k => aBuild P t e ps.toList k) (fun _ => ch_build) (fun e' he => ?_) h
    funext k
    unfold aBuild
    split
    · rw [fill_congr _ _ fun y hy => he y (by simpa [Op.operands] using hy)]
    · rfl
  | buildSlice t len ps =>
    simp only [aop, aBuildSlice] at h
    split at h
    · rename_i el s e1
      split at h
      · rename_i z e2
        obtain ⟨h1, h2, h3, h⟩ := h
        split at h
        · rename_i l e3
          refine ⟨_, _, _, h, fun e' H' he _ => ?_⟩
          simp only [aop, aBuildSlice, e1, e2]
          rw [fillL_congr _ _ fun y hy => he y (by simpa [Op.operands] using hy), e3]
          simp [h1, h2, h3]
        · exact h.elim
      · exact h.elim
    · exact h.elim
  | load t p => exact OneE.of_one (X := fun e H k => aLoad P H t (e p) k) (one_load h) (fun e' he => by simp only [he p (by simp [Op.operands])])
  | store t p x => exact OneE.of_one (X := fun e H k => aStore P H t (e p) (e x) k) (one_store h) (fun e' he => by simp only [he p (by simp [Op.operands]), he x (by simp [Op.operands])])
  | nilCheck x => exact OneE.of_val (X := fun e k => aNil (e x) k) (fun _ => ch_nil) (fun e' he => by simp only [he x (by simp [Op.operands])]) h
  | binOp op t x y t' => exact OneE.of_val (X := fun e k => aBin P op t (e x) (e y) k) (fun _ => ch_bin) (fun e' he => by simp only [he x (by simp [Op.operands]), he y (by simp [Op.operands])]) h
  | unOp op t x => exact OneE.of_val (X := fun e k => aUn op (e x) k) (fun _ => ch_un) (fun e' he => by simp only [he x (by simp [Op.operands])]) h
  | convert s t x =>
    obtain ⟨z, ws, rs, h1, h2⟩ := one_conv h.2
    refine ⟨z, ws, rs, h1, fun e' H' he hH => ⟨h.1, ?_⟩⟩
    simp only [he x (by simp [Op.operands])]
    exact h2 H' hH
  | makeFunc fn first caps =>
    obtain ⟨h1, h2⟩ := h
    have c1 : ∀ e' : Operand → V, (∀ x ∈ (Op.makeFunc fn first caps).operands.toList, e' x = e x) → first.toList.map e' = first.toList.map e := fun e' he => List.map_congr_left fun x hx => he x (by simp [Op.operands]; exact .inl (by simpa using hx))
    have c2 : ∀ e' : Operand → V, (∀ x ∈ (Op.makeFunc fn first caps).operands.toList, e' x = e x) → caps.toList.map e' = caps.toList.map e := fun e' he => List.map_congr_left fun x hx => he x (by simp [Op.operands]; exact .inr (by simpa using hx))
    exact ⟨_, _, _, h2, fun e' H' he _ => by simp only [aop, c1 e' he, c2 e' he, h1, and_self]⟩
  | makeSlice t l c =>
    simp only [aop, aMake] at h
    split at h
    · rename_i kl l' kc c' el ec
      split at h
      · rename_i e' s e1
        split at h
        · rename_i z i e2 e3
          obtain ⟨h1, h2, h3, h⟩ := h
          exact ⟨_, _, _, h, fun e' H' he _ => by simp [aop, aMake, he l (by simp [Op.operands]), he c (by simp [Op.operands]), el, ec, e1, e2, e3, h1, h2, h3]⟩
        · exact h.elim
      · exact h.elim
    · exact h.elim
  | slice t x lo hi mx =>
    refine OneE.of_val (X := fun e k => aSlice P t (e x) (lo.map e) (hi.map e) (mx.map e) k) (fun _ => ch_slice) (fun e' he => ?_) h
    rw [opt_congr (x := lo) fun y hy => he y (by simp [Op.operands] at hy ⊢; simp [hy]), opt_congr (x := hi) fun y hy => he y (by simp [Op.operands] at hy ⊢; simp [hy]), opt_congr (x := mx) fun y hy => he y (by simp [Op.operands] at hy ⊢; simp [hy]), he x (by simp [Op.operands])]
  | fieldAddr t x f => exact OneE.of_val (X := fun e k => aFieldAddr P t (e x) f k) (fun _ => ch_fieldAddr) (fun e' he => by simp only [he x (by simp [Op.operands])]) h
  | field t x f => exact OneE.of_val (X := fun e k => aField P t (e x) f k) (fun _ => ch_field) (fun e' he => by simp only [he x (by simp [Op.operands])]) h
  | indexAddr t x i => exact OneE.of_val (X := fun e k => aIndexAddr P t (e x) (e i) k) (fun _ => ch_indexAddr) (fun e' he => by simp only [he x (by simp [Op.operands]), he i (by simp [Op.operands])]) h
  | index t x i => exact OneE.of_val (X := fun e k => aIndex P t (e x) (e i) k) (fun _ => ch_index) (fun e' he => by simp only [he x (by simp [Op.operands]), he i (by simp [Op.operands])]) h
  | extract t i => exact OneE.of_val (X := fun e k => aExtract (e t) i k) (fun _ => ch_extract) (fun e' he => by simp only [he t (by simp [Op.operands])]) h
  | call c =>
    simp only [aop, aCall] at h
    have hargs : ∀ e' : Operand → V, (∀ x ∈ (Op.call c).operands.toList, e' x = e x) → c.args.toList.map e' = c.args.toList.map e := fun e' he => List.map_congr_left fun x hx => he x (by simp [Op.operands, Call.operands]; exact .inr (by simpa using hx))
    split at h
    · rename_i b hb
      unfold aBuiltin at h
      split at h
      · rename_i t x e1 e2
        obtain ⟨z, h1, h2⟩ := ch_len h
        exact ⟨z, [], [], h1, fun e' _ he _ => by simp only [aop, aCall, hb, hargs e' he, e1, e2, aBuiltin, and_self, and_true]; exact h2⟩
      · rename_i t t' x y e1 e2
        obtain ⟨z, h1, h2⟩ := ch_min h
        exact ⟨z, [], [], h1, fun e' _ he _ => by simp only [aop, aCall, hb, hargs e' he, e1, e2, aBuiltin, and_self, and_true]; exact h2⟩
      · rename_i t t' x y e1 e2
        obtain ⟨z, h1, h2⟩ := ch_max h
        exact ⟨z, [], [], h1, fun e' _ he _ => by simp only [aop, aCall, hb, hargs e' he, e1, e2, aBuiltin, and_self, and_true]; exact h2⟩
      · rename_i t t' x y e1 e2
        obtain ⟨z, ws, rs, h1, h2⟩ := one_append h
        exact ⟨z, ws, rs, h1, fun e' H' he hH => by simp only [aop, aCall, hb, hargs e' he, e1, e2, aBuiltin]; exact h2 H' hH⟩
      · rename_i t t' x y e1 e2
        obtain ⟨z, ws, rs, h1, h2⟩ := one_copy h
        exact ⟨z, ws, rs, h1, fun e' H' he hH => by simp only [aop, aCall, hb, hargs e' he, e1, e2, aBuiltin]; exact h2 H' hH⟩
      · exact h.elim
    · rename_i f hf
      split at h
      · rename_i g first caps hef
        obtain ⟨z, ws, rs, h1, h2⟩ := one_callF hl h
        refine ⟨z, ws, rs, h1, fun e' H' he hH => ?_⟩
        simp only [aop, aCall, hf, hargs e' he, he f (by simp [Op.operands, Call.operands, hf]), hef]
        exact h2 H' hH
      · exact h.elim
    · exact h.elim
  | _ => exact h.elim
/-- The slots that an operation looks at. -/
theorem ev_congr {σ σ' : St} {xs : List Operand} (h : ∀ t, Operand.tmp t ∈ xs → σ'.s t = σ.s t) : ∀ x ∈ xs, σ'.ev x = σ.ev x := by
  intro x hx
  cases x with
  | tmp t => exact h t hx
  | _ => rfl
theorem vcOp_local {Γ : Tab} {Δ : Gab} (hl : GabLoc Δ) {ops : Array Oper} {o : Oper} {σ : St} {k : Kt} (h : vcOp P Γ Δ ops o σ k) :
    ∃ z ws rs, k z ws rs ∧ ∀ σ' : St, σ'.n = σ.n → σ'.N = σ.N → (∀ t ∈ o.looksAt ops, σ'.s t = σ.s t) → (∀ b ∈ rs, σ'.H b = σ.H b) → vcOp P Γ Δ ops o σ' (fun z' ws' rs' => z' = z ∧ ws' = ws ∧ rs' = rs) := by
  have look : ∀ σ' : St, (∀ t ∈ o.looksAt ops, σ'.s t = σ.s t) → ∀ x ∈ o.op.operands.toList, σ'.ev x = σ.ev x := fun σ' hs => ev_congr fun t ht => hs t (by
    unfold Oper.looksAt
    refine List.mem_append_left _ (List.mem_filterMap.2 ⟨.tmp t, ht, rfl⟩))
  unfold vcOp at h
  split at h
  · rename_i hg
    obtain ⟨z, ws, rs, h1, h2⟩ := one_op hl h
    refine ⟨z, ws, rs, h1, fun σ' hn hN hs hH => ?_⟩
    simp only [vcOp, hg, hn]
    exact h2 _ _ (look σ' hs) hH
  · rename_i j want hg
    split at h
    · rename_i hj
      exact ⟨_, _, _, h, fun σ' hn hN hs hH => by simp [vcOp, hg, hj]⟩
    · rename_i d hj
      obtain ⟨hd, h⟩ := h
      have hds : ∀ σ' : St, (∀ t ∈ o.looksAt ops, σ'.s t = σ.s t) → σ'.s d = σ.s d := fun σ' hs => hs d (by
        unfold Oper.looksAt
        rw [hg]
        simp [hj])
      split at h
      · rename_i b hb
        by_cases hbw : b = want
        · obtain ⟨z, ws, rs, h1, h2⟩ := one_op hl (h.1 hbw)
          refine ⟨z, ws, rs, h1, fun σ' hn hN hs hH => ?_⟩
          simp only [vcOp, hg, hj, hn, hN, hds σ' hs, hb]
          exact ⟨hd, fun _ => h2 _ _ (look σ' hs) hH, fun e => by subst hbw; cases b <;> cases e⟩
        · have h2 := h.2 (by cases b <;> cases want <;> simp_all)
          refine ⟨_, _, _, h2, fun σ' hn hN hs hH => ?_⟩
          simp only [vcOp, hg, hj, hn, hN, hds σ' hs, hb]
          exact ⟨hd, fun e => absurd e hbw, fun _ => by simp⟩
      · rename_i vs hb
        refine ⟨_, _, _, h, fun σ' hn hN hs hH => ?_⟩
        simp only [vcOp, hg, hj, hN, hds σ' hs, hb]
        exact ⟨hd, by simp⟩
      · exact h.elim
end
end Go.Proofs.Ytbnhnmpgbpejaaa
