/- Texts A14 A15 A16 in one. -/
import Derived.Test.YtfbogelmgdojgaaGreatR06
import Derived.OrdersIn
import Derived.ControlIn
/- The abstract run of a statement in the text's order. No program in sight. -/
namespace Go.Proofs.YtfbogelmgdojgaaGreat
set_option linter.unusedSimpArgs false
set_option linter.unusedVariables false
open Go.RowKit

def vcOp (P : Program) (Γ : Tab) (Δ : Gab) (ops : Array Oper) (o : Oper) (σ : St) (k : Kt) : Prop :=
 match o.guard with
 | none => aop P Γ Δ o.op σ.ev σ.H σ.n k
 | some (j, want) => match (ops[j]?).bind (·.dst) with
   | none => k (.raw undef) [] []
   | some d => d < σ.N ∧ (match σ.s d with
     | .raw (.bool b) => (b = want → aop P Γ Δ o.op σ.ev σ.H σ.n k) ∧ (b = !want → k (.raw undef) [] [])
     | .raw (.tuple _) => k (.raw undef) [] []
     | _ => False)
def dstOk (o : Oper) (N : Nat) : Prop := match o.dst with
 | some d => d < N
 | none => True
def vcOps (P : Program) (Γ : Tab) (Δ : Gab) (ops : Array Oper) : List Oper → St → (St → Prop) → Prop
 | [], σ, K => K σ
 | o :: os, σ, K => dstOk o σ.N ∧ vcOp P Γ Δ ops o σ fun v ws _ => vcOps P Γ Δ ops os (σ.put o.dst v ws) K

structure Stat (B : Nat → Prop) (A : Nat → Option Nat) (W : World) : Prop where
 old : ∀ b, B b → b < W.heap.size
 apart : ∀ k b, A k = some b → ¬ B b
section
variable {P : Program} {Γ : Tab} {Δ : Gab} {B : Nat → Prop} {A : Nat → Option Nat} {W : World} {ops : Array Oper} {Q : Exit → Act → World → Prop}
theorem Sim.hB {σ a w ρ} (hs : Sim B A W σ a w ρ) (st : Stat B A W) : ∀ b, B b → b < w.heap.size := fun b hb => Nat.lt_of_lt_of_le (st.old b hb) hs.grow
theorem Sim.hfar {σ a w ρ} (hs : Sim B A W σ a w ρ) (st : Stat B A W) : ∀ k x b, σ.H k = some x → ρ k = some b → ¬ B b := fun k x b h1 h2 hb => by
 rcases hs.mine k x b h1 h2 with ⟨j, h⟩ | h
 ·exact st.apart j b h hb
 ·have := st.old b hb; omega
theorem dstOk_lt {o : Oper} {N : Nat} (h : dstOk o N) : ∀ d, o.dst = some d → d < N := fun d hd => by
 unfold dstOk at h; rw [hd] at h; exact h
theorem slot_val {σ a w ρ} (hs : Sim B A W σ a w ρ) {d : Nat} (hd : d < σ.N) {u : Value} (h : σ.s d = .raw u) : a.tmps[d]? = some u := by
 have h1 := hs.slots d
 rw [h] at h1
 have h2 := RepW.raw_inv h1
 have hlt : d < a.tmps.size := by rw [hs.size]; exact hd
 rw [Array.getElem?_eq_getElem hlt, ← h2]
 simp [hlt]
def rd (r : Option Nat) : Fence := { Fence.wide with round := r }
theorem calls_rd {r : Option Nat} {n : Nat} {f : FuncId} {args : Array Value} {w : World} {R : Ending → World → Prop} (h : Calls P f args w R) : CallsIn (rd r) n P f args w R := callsIn_wide.2 h
theorem rows_rd {r : Option Nat} {n : Nat} {row : String} {args : Array Value} {w : World} {R : Value → World → Prop} (h : Rows P row args w R) : RowsIn (rd r) n P row args w R := fun c cs _ =>
 let ⟨v, w', h1, h2⟩ := h c cs
 ⟨v, w', h1, stepsIn_wide.2 h2⟩
theorem wp_rd {r : Option Nat} {o : Oper} {a : Act} {w : World} {next : Act → World → Prop} (hd : ∀ c, o.op ≠ .defer c) (h : o.wp P a w next Q) : o.wpIn (rd r) 0 P a w next Q := by
 refine ⟨fun _ _ => trivial, ?_⟩
 rw [Oper.semAt_eq _ _ _ hd]
 unfold Oper.wp at h
 have hdep : (rd r).depth.isSome = true → 1 ≤ 0 := fun h => by cases h
 generalize (execOp a.eval o).run P w = x at *
 cases x with
 | ok x w' =>
   cases x with
   | enter f args => exact ⟨hdep, (calls_rd h).mono fun e w'' he => by cases e <;> exact he⟩
   | row row args => exact ⟨hdep, (rows_rd h).mono fun _ _ he => he⟩
   | value v => exact h
   | skip => exact h
   | defer d => exact h
   | _ => exact h.elim
 | halt x w' =>
   cases x <;> first | exact h | exact h.elim
theorem vcOp_run (hΓ : TabOk P Γ) (hΔ : GabOk P Δ) (st : Stat B A W) {r : Option Nat} {σ a w ρ} (hs : Sim B A W σ a w ρ) {n : Nat} (hn : ρ n = none) {o : Oper} {k : Kt} (h : vcOp P Γ Δ ops o { σ with n := n } k) :
 ∃ z ws rs, k z ws rs ∧ ∀ (next : Act → World → Prop), (∀ v w' ρ', Step σ.H w ρ (σ.H.puts ws) w' ρ' → HRep w' (own B ρ' (σ.H.puts ws)) ρ' (σ.H.puts ws) → (∀ j, j ≠ n → ρ j = none → ρ' j = none) → RepV w' (own B ρ' (σ.H.puts ws)) ρ' z v → next (a.put o.dst v) w') →
  (if Region.wanted o (yielded ops a.tmps) then o.wpIn (rd r) 0 P a w next Q else (∀ f, o.about P w a.eval = some f → (rd r).fn f) ∧ next (a.put o.dst undef) w) := by
 have skip : ∀ (next : Act → World → Prop), (∀ v w' ρ', Step σ.H w ρ (σ.H.puts []) w' ρ' → HRep w' (own B ρ' (σ.H.puts [])) ρ' (σ.H.puts []) → (∀ j, j ≠ n → ρ j = none → ρ' j = none) → RepV w' (own B ρ' (σ.H.puts [])) ρ' (.raw undef) v → next (a.put o.dst v) w') → next (a.put o.dst undef) w := fun next hn =>
  hn undef w ρ (Step.refl _ _ _) hs.heap (fun _ _ h => h) (RepW.raw rfl)
 have run : aop P Γ Δ o.op σ.ev σ.H n k → ∃ z ws rs, k z ws rs ∧ ∀ (next : Act → World → Prop), (∀ v w' ρ', Step σ.H w ρ (σ.H.puts ws) w' ρ' → HRep w' (own B ρ' (σ.H.puts ws)) ρ' (σ.H.puts ws) → (∀ j, j ≠ n → ρ j = none → ρ' j = none) → RepV w' (own B ρ' (σ.H.puts ws)) ρ' z v → next (a.put o.dst v) w') → o.wpIn (rd r) 0 P a w next Q := fun h => by
  have hd : ∀ c, o.op ≠ .defer c := fun c e => by rw [e] at h; exact h
  obtain ⟨z, ws, rs, hk, hok⟩ := aop_ok (P := P) (a := a) (o := o) hΓ hΔ hs.heap hn (hs.hB st) (hs.hfar st) hs.ev h
  exact ⟨z, ws, rs, hk, fun next hn => wp_rd hd (hok next Q hn)⟩
 have hev : ({ σ with n := n } : St).ev = σ.ev := by funext x; cases x <;> rfl
 unfold vcOp at h
 rw [hev] at h
 split at h
 ·rename_i hg
  obtain ⟨z, ws, rs, hk, hok⟩ := run h
  refine ⟨z, ws, rs, hk, fun next hn => ?_⟩
  rw [if_pos (by simp [Region.wanted, hg])]
  exact hok next hn
 ·rename_i j want hg
  split at h
  ·rename_i hj
   refine ⟨_, _, _, h, fun next hn => ?_⟩
   rw [if_neg]
   ·exact ⟨fun _ _ => trivial, skip next hn⟩
   ·simp [Region.wanted, hg, yielded, hj]
  ·rename_i d hj
   obtain ⟨hdl, h⟩ := h
   split at h
   ·rename_i b hb
    have hv := slot_val hs hdl hb
    have hw : Region.wanted o (yielded ops a.tmps) = (b == want) := by
     simp [Region.wanted, hg, yielded, hj, hv]
    by_cases hbw : b = want
    ·obtain ⟨z, ws, rs, hk, hok⟩ := run (h.1 hbw)
     refine ⟨z, ws, rs, hk, fun next hn => ?_⟩
     rw [if_pos (by rw [hw]; simp [hbw])]
     exact hok next hn
    ·have h2 := h.2 (by cases b <;> cases want <;> simp_all)
     refine ⟨_, _, _, h2, fun next hn => ?_⟩
     rw [if_neg (by rw [hw]; simp [hbw])]
     exact ⟨fun _ _ => trivial, skip next hn⟩
   ·rename_i vs hb
    have hv := slot_val hs hdl hb
    refine ⟨_, _, _, h, fun next hn => ?_⟩
    rw [if_neg]
    ·exact ⟨fun _ _ => trivial, skip next hn⟩
    ·simp [Region.wanted, hg, yielded, hj, hv]
   ·exact h.elim
theorem vcOp_ok (hΓ : TabOk P Γ) (hΔ : GabOk P Δ) (st : Stat B A W) {r : Option Nat} {σ a w ρ} (hs : Sim B A W σ a w ρ) {o : Oper} {k : Kt} (h : vcOp P Γ Δ ops o σ k) (hd : dstOk o σ.N) :
 ∃ z ws rs, k z ws rs ∧ ∀ (next : Act → World → Prop), (∀ v w' ρ', Sim B A W (σ.put o.dst z ws) (a.put o.dst v) w' ρ' → next (a.put o.dst v) w') →
  (if Region.wanted o (yielded ops a.tmps) then o.wpIn (rd r) 0 P a w next Q else (∀ f, o.about P w a.eval = some f → (rd r).fn f) ∧ next (a.put o.dst undef) w) := by
 obtain ⟨z, ws, rs, hk, hok⟩ := vcOp_run (Q := Q) (r := r) (n := σ.n) hΓ hΔ st hs (hs.fresh _ (Nat.le_refl _)) h
 exact ⟨z, ws, rs, hk, fun next hn => hok next fun v w' ρ' h1 h2 h3 h4 => hn v w' ρ' (hs.put (dstOk_lt hd) h1 h2 h3 h4)⟩
theorem vcOps_ok (hΓ : TabOk P Γ) (hΔ : GabOk P Δ) (st : Stat B A W) {r : Option Nat} {K : St → Prop} (hK : ∀ σ a w ρ, K σ → Sim B A W σ a w ρ → Q .normal a w) : ∀ (os : List Oper) (i : Nat) (σ : St) (a : Act) (w : World) (ρ : Nat → Option Nat), ops.toList.drop i = os → Sim B A W σ a w ρ → vcOps P Γ Δ ops os σ K →
 wpOpsIn (rd r) 0 P ops Q (List.range' i os.length) a w
 | [], i, σ, a, w, ρ, _, hs, h => hK σ a w ρ h hs
 | o :: os, i, σ, a, w, ρ, hi, hs, h => by
   have hoi : ops[i]? = some o := by
    have h1 : (ops.toList.drop i)[0]? = some o := by rw [hi]; rfl
    rw [List.getElem?_drop] at h1
    simpa using h1
   have hos : ops.toList.drop (i + 1) = os := by
    rw [← List.drop_drop, hi]; rfl
   obtain ⟨hd, h⟩ := h
   obtain ⟨z, ws, rs, hk, hok⟩ := vcOp_ok (Q := Q) (P := P) (ops := ops) hΓ hΔ st hs h hd
   simp only [List.length_cons, List.range'_succ, wpOpsIn, hoi]
   have h2 := hok (wpOpsIn (rd r) 0 P ops Q (List.range' (i + 1) os.length)) fun v w' ρ' hs' => vcOps_ok hΓ hΔ st hK os (i + 1) _ _ w' ρ' hos hs' hk
   exact h2
end
end Go.Proofs.YtfbogelmgdojgaaGreat


/- An operation of the abstract run has one outcome, and looks at its operands and at the rows that it says. No program in sight. -/
namespace Go.Proofs.YtfbogelmgdojgaaGreat
set_option linter.unusedSimpArgs false
set_option linter.unusedVariables false
open Go.RowKit

section
variable {P : Program}
theorem ch_fieldAddr {t p f} {k : V → Prop} (h : aFieldAddr P t p f k) : ∃ z, k z ∧ aFieldAddr P t p f (fun z' => z' = z) := by
 unfold aFieldAddr at *
 (repeat' split at h) <;> simp_all
theorem ch_field {t x f} {k : V → Prop} (h : aField P t x f k) : ∃ z, k z ∧ aField P t x f (fun z' => z' = z) := by
 unfold aField at *
 (repeat' split at h) <;> simp_all
theorem ch_indexAddr {t x i} {k : V → Prop} (h : aIndexAddr P t x i k) : ∃ z, k z ∧ aIndexAddr P t x i (fun z' => z' = z) := by
 unfold aIndexAddr at *
 (repeat' split at h) <;> simp_all <;> grind
theorem ch_arith {op kd a b} {k : V → Prop} (h : aArith op kd a b k) : ∃ z, k z ∧ aArith op kd a b (fun z' => z' = z) := by
 unfold aArith at *
 (repeat' split at h) <;> simp_all
theorem ch_str {op a b} {k : V → Prop} (h : aStr op a b k) : ∃ z, k z ∧ aStr op a b (fun z' => z' = z) := by
 unfold aStr at *
 (repeat' split at h) <;> simp_all
theorem ch_un {op x} {k : V → Prop} (h : aUn op x k) : ∃ z, k z ∧ aUn op x (fun z' => z' = z) := by
 unfold aUn at *
 (repeat' split at h) <;> simp_all
theorem ch_len {t x} {k : V → Prop} (h : aLen P t x k) : ∃ z, k z ∧ aLen P t x (fun z' => z' = z) := by
 unfold aLen at *
 (repeat' split at h) <;> simp_all
theorem ch_min {x y} {k : V → Prop} (h : aMin x y k) : ∃ z, k z ∧ aMin x y (fun z' => z' = z) := by
 unfold aMin at *
 split at h
 ·exact ⟨_, h, rfl⟩
 ·exact h.elim
theorem ch_max {x y} {k : V → Prop} (h : aMax x y k) : ∃ z, k z ∧ aMax x y (fun z' => z' = z) := by
 unfold aMax at *
 split at h
 ·exact ⟨_, h, rfl⟩
 ·exact h.elim
theorem ch_sliceL {s x n l h0 b} {k : V → Prop} (h : aSliceL s x n l h0 b k) : ∃ z, k z ∧ aSliceL s x n l h0 b (fun z' => z' = z) := by
 unfold aSliceL at h
 by_cases hb : b = true
 ·rw [if_pos hb] at h
  exact ⟨_, h, by unfold aSliceL; rw [if_pos hb]⟩
 ·rw [if_neg hb] at h
  split at h
  ·obtain ⟨h1, h⟩ := h
   by_cases hc : l < h0 ∨ l = 0
   ·rw [if_pos hc] at h
    exact ⟨_, h, by unfold aSliceL; rw [if_neg hb]; exact ⟨h1, by rw [if_pos hc]⟩⟩
   ·rw [if_neg hc] at h
    exact ⟨_, h, by unfold aSliceL; rw [if_neg hb]; exact ⟨h1, by rw [if_neg hc]⟩⟩
  ·exact ⟨_, h.2, by unfold aSliceL; rw [if_neg hb]; exact ⟨h.1, rfl⟩⟩
  ·exact ⟨_, h, by unfold aSliceL; rw [if_neg hb]; exact rfl⟩
  ·exact ⟨_, h, by unfold aSliceL; rw [if_neg hb]⟩
  ·exact h.elim
theorem ch_index {t x i} {k : V → Prop} (h : aIndex P t x i k) : ∃ z, k z ∧ aIndex P t x i (fun z' => z' = z) := by
 unfold aIndex at *
 (repeat' split at h) <;> simp_all
theorem ch_conv {t x} {k : V → Prop} (h : aConv P t x k) : ∃ z, k z ∧ aConv P t x (fun z' => z' = z) := by
 unfold aConv at *
 (repeat' split at h) <;> simp_all
theorem ch_extract {x i} {k : V → Prop} (h : aExtract x i k) : ∃ z, k z ∧ aExtract x i (fun z' => z' = z) := by
 unfold aExtract at *
 (repeat' split at h) <;> simp_all
theorem ch_pick {c x y} {k : V → Prop} (h : aPick c x y k) : ∃ z, k z ∧ aPick c x y (fun z' => z' = z) := by
 unfold aPick at *
 split at h
 ·rename_i b
  split at h
  ·exact ⟨_, h, rfl⟩
  ·cases b with
   | true => exact ⟨_, h.1 rfl, by simp_all⟩
   | false => exact ⟨_, h.2 rfl, by simp_all⟩
 ·exact h.elim
theorem ch_nil {x} {k : V → Prop} (h : aNil x k) : ∃ z, k z ∧ aNil x (fun z' => z' = z) := by
 unfold aNil at *
 (repeat' split at h) <;> simp_all
theorem ch_build {t e ps} {k : V → Prop} (h : aBuild P t e ps k) : ∃ z, k z ∧ aBuild P t e ps (fun z' => z' = z) := by
 unfold aBuild at *
 (repeat' split at h) <;> simp_all
theorem ch_nilB {op t b} {k : V → Prop} (h : nilB P op t b k) : ∃ z, k z ∧ nilB P op t b (fun z' => z' = z) := by
 unfold nilB at *
 split at h
 ·exact ⟨_, h.2, h.1, rfl⟩
 ·exact ⟨_, h.2, h.1, rfl⟩
 ·exact h.elim
theorem ch_bin {op t x y} {k : V → Prop} (h : aBin P op t x y k) : ∃ z, k z ∧ aBin P op t x y (fun z' => z' = z) := by
 unfold aBin at *
 split at h
 ·split at h
  ·exact ⟨_, h.2.2, h.1, h.2.1, rfl⟩
  ·exact ⟨_, h.2.2, h.1, h.2.1, rfl⟩
  ·obtain ⟨z, h1, h2⟩ := ch_arith h.2
   exact ⟨z, h1, h.1, h2⟩
 ·exact ch_str h
 ·split at h
  ·exact ⟨_, h.2, h.1, rfl⟩
  ·exact ⟨_, h.2, h.1, rfl⟩
  ·exact h.elim
 ·exact ch_nilB h
 ·exact ch_nilB h
 ·exact ch_nilB h
 ·exact h.elim
theorem ch_slice {t x lo hi mx} {k : V → Prop} (h : aSlice P t x lo hi mx k) : ∃ z, k z ∧ aSlice P t x lo hi mx (fun z' => z' = z) := by
 unfold aSlice at *
 split at h
 ·obtain ⟨h1, h2, h⟩ := h
  split at h
  ·rename_i e1 e2
   exact ⟨_, h.2, h1, h2, by simp only [e1, e2]; exact ⟨h.1, trivial⟩⟩
  ·exact h.elim
 ·rename_i hx
  split at h
  ·rename_i el s n e1 e2
   split at h
   ·rename_i l hh e3 e4
    split at h
    ·obtain ⟨z, h1, h2⟩ := ch_sliceL h.2
     refine ⟨z, h1, ?_⟩
     exact ⟨h.1, h2⟩
    ·rename_i m
     split at h
     ·rename_i mm e5
      obtain ⟨z, h1, h2⟩ := ch_sliceL h.2.2
      refine ⟨z, h1, ?_⟩
      exact ⟨h.1, h.2.1, h2⟩
     ·exact h.elim
   ·exact h.elim
  ·exact h.elim
end

def One (X : Hp → Kt → Prop) (H : Hp) (k : Kt) : Prop :=
 ∃ z ws rs, k z ws rs ∧ ∀ H' : Hp, (∀ b ∈ rs, H' b = H b) → X H' (fun z' ws' rs' => z' = z ∧ ws' = ws ∧ rs' = rs)
section
variable {P : Program}
theorem one_load {t p} {H : Hp} {k : Kt} (h : aLoad P H t p k) : One (fun H k => aLoad P H t p k) H k := by
 unfold aLoad at h
 split at h
 ·rename_i b e i off
  split at h
  ·rename_i x hx
   obtain ⟨he, h⟩ := h
   split at h
   ·rename_i y hy
    split at h
    ·rename_i z hz
     refine ⟨_, _, _, h, fun H' hH => ?_⟩
     simp only [aLoad, hH b (by simp), hx, hy, hz, he, and_self]
    ·exact h.elim
   ·exact h.elim
  ·exact h.elim
 ·split at h
  ·rename_i z hz
   refine ⟨_, _, _, h, fun H' hH => ?_⟩
   simp only [aLoad, hz, and_self]
  ·exact h.elim
 ·exact h.elim
theorem one_store {t p x} {H : Hp} {k : Kt} (h : aStore P H t p x k) : One (fun H k => aStore P H t p x k) H k := by
 unfold aStore at h
 split at h
 ·rename_i b e i off
  split at h
  ·rename_i y hy
   obtain ⟨he, h⟩ := h
   split at h
   ·rename_i z hz
    obtain ⟨h1, h2, h3, h⟩ := h
    refine ⟨_, _, _, h, fun H' hH => ?_⟩
    simp only [aStore, hH b (by simp), hy, hz, he, h1, h2, h3, and_self]
   ·exact h.elim
  ·exact h.elim
 ·exact h.elim
theorem elems_loc {H H' : Hp} {x : V} {L : List V} {rs : List Nat} (h : aElems H x = some (L, rs)) (hH : ∀ b ∈ rs, H' b = H b) : aElems H' x = some (L, rs) := by
 unfold aElems at *
 split at h
 ·rename_i b e o n
  cases hb : H b with
  | none => rw [hb] at h; simp at h
  | some q =>
    rw [hb] at h
    simp only at h
    split at h
    ·rename_i hc
     simp only [Option.some.injEq, Prod.mk.injEq] at h
     have h1 := hH b (by rw [← h.2]; simp)
     simp only [h1, hb, hc, and_self, if_true, h.1, h.2]
    ·cases h
 ·exact h
 ·exact h
 ·exact h
 ·cases h
theorem one_conv {s t x} {H : Hp} {k : Kt} (h : aConvK P s t H x k) : One (fun H k => aConvK P s t H x k) H k := by
 unfold aConvK at h
 split at h
 ·obtain ⟨z, h1, h2⟩ := ch_conv h
  refine ⟨z, [], [], h1, fun H' _ => ?_⟩
  simp only [aConvK, and_self, and_true]
  exact h2
 ·rename_i b
  split at h
  ·rename_i hd
   exact ⟨_, _, _, h, fun H' _ => by simp only [aConvK, hd, and_self]⟩
  ·rename_i e hd
   exact ⟨_, _, _, h.2.2, fun H' _ => by simp only [aConvK, hd, h.1, h.2.1, and_self]⟩
  ·exact h.elim
 ·rename_i n1 n2
  split at h
  ·rename_i e g1 g2
   obtain ⟨g3, h⟩ := h
   split at h
   ·rename_i L rs hel
    split at h
    ·rename_i l hl
     refine ⟨_, _, _, h.2, fun H' hH => ?_⟩
     unfold aConvK
     split
     ·exact absurd rfl (n1 _ _)
     ·exact absurd rfl (n2 _)
     ·simp only [g1, g2, g3, elems_loc hel hH, hl, true_and, and_true, and_self]
      exact h.1
    ·exact h.elim
   ·exact h.elim
  ·exact h.elim
def aAppX (e : TypeId) (s by_ n : Nat) (L : List V) (rs : List Nat) (x : V) (H : Hp) (k : Kt) : Prop :=
 match x with
 | .sl b e' o m => e' = s ∧ o = 0 ∧ (match H b with
   | some q => q.t = e ∧ q.e = s ∧ m ≤ q.l.length ∧ (m + L.length ≤ maxLen ∧ (m + L.length) * by_ ≤ 140737488355328) ∧ k (.sl n s 0 (m + L.length)) [(b, none), (n, some ⟨e, s, q.l.take m ++ L⟩)] (b :: rs)
   | none => False)
 | .raw (.slice none 0 0) => (L.length ≤ maxLen ∧ L.length * by_ ≤ 140737488355328) ∧ (L = [] → k x [] rs) ∧ (L ≠ [] → k (.sl n s 0 L.length) [(n, some ⟨e, s, L⟩)] rs)
 | .emp => (L.length ≤ maxLen ∧ L.length * by_ ≤ 140737488355328) ∧ (L = [] → k x [] rs) ∧ (L ≠ [] → k (.sl n s 0 L.length) [(n, some ⟨e, s, L⟩)] rs)
 | _ => False
theorem one_append {t t' n x y} {H : Hp} {k : Kt} (h : aAppend P t t' H n x y k) : One (fun H k => aAppend P t t' H n x y k) H k := by
 unfold aAppend at h
 split at h
 ·rename_i e s L rs e1 e2
  split at h
  ·rename_i i z e3 e4
   obtain ⟨h1, h2, h3, h4, h5, h6, h⟩ := h
   have key : ∀ (H' : Hp) (k' : Kt), (∀ b ∈ rs, H' b = H b) → aAppX e s i n L rs x H' k' → aAppend P t t' H' n x y k' := fun H' k' hH q => by
    unfold aAppend
    simp only [e1, elems_loc e2 hH, e3, e4]
    exact ⟨h1, h2, h3, h4, h5, h6, q⟩
   split at h
   ·rename_i b e' o m
    obtain ⟨g1, g2, h⟩ := h
    split at h
    ·rename_i q hq
     obtain ⟨q1, q2, q3, q4, h⟩ := h
     refine ⟨_, _, _, h, fun H' hH => ?_⟩
     refine key H' _ (fun b hb => hH b (by simp [hb])) ?_
     simp only [aAppX, hH b (by simp), hq]
     exact ⟨g1, g2, q1, q2, q3, q4, by simp⟩
    ·exact h.elim
   ·obtain ⟨q1, q2, q3⟩ := h
    by_cases hL : L = []
    ·refine ⟨_, _, _, q2 hL, fun H' hH => ?_⟩
     refine key H' _ hH ?_
     simp only [aAppX]
     exact ⟨q1, fun _ => by simp, fun h => absurd hL h⟩
    ·refine ⟨_, _, _, q3 hL, fun H' hH => ?_⟩
     refine key H' _ hH ?_
     simp only [aAppX]
     exact ⟨q1, fun h => absurd h hL, fun _ => by simp⟩
   ·obtain ⟨q1, q2, q3⟩ := h
    by_cases hL : L = []
    ·refine ⟨_, _, _, q2 hL, fun H' hH => ?_⟩
     refine key H' _ hH ?_
     simp only [aAppX]
     exact ⟨q1, fun _ => by simp, fun h => absurd hL h⟩
    ·refine ⟨_, _, _, q3 hL, fun H' hH => ?_⟩
     refine key H' _ hH ?_
     simp only [aAppX]
     exact ⟨q1, fun h => absurd h hL, fun _ => by simp⟩
   ·exact h.elim
  ·exact h.elim
 ·exact h.elim
theorem one_copy {t x y} {H : Hp} {k : Kt} (h : aCopy P t H x y k) : One (fun H k => aCopy P t H x y k) H k := by
 unfold aCopy at h
 split at h
 ·rename_i e s L rs e1 e2
  obtain ⟨h1, h2, h3, h⟩ := h
  split at h
  ·rename_i b e' o m
   obtain ⟨g1, h⟩ := h
   split at h
   ·rename_i q hq
    obtain ⟨q1, q2, q3, h⟩ := h
    refine ⟨_, _, _, h, fun H' hH => ?_⟩
    have e3 := elems_loc (H' := H') e2 fun b hb => hH b (by simp [hb])
    simp only [aCopy, e1, e3, hH b (by simp), hq]
    exact ⟨h1, h2, h3, g1, q1, q2, q3, by simp⟩
   ·exact h.elim
  ·exact h.elim
 ·exact h.elim
def FrzLoc (F : Hp → V → (V → List Nat → Prop) → Prop) : Prop := ∀ (x : V) (H : Hp) (k : V → List Nat → Prop), F H x k → ∃ y rs, k y rs ∧ ∀ H' : Hp, (∀ b ∈ rs, H' b = H b) → ∀ k', F H' x k' ↔ k' y rs
theorem frzs_loc {F : Hp → V → (V → List Nat → Prop) → Prop} (hF : FrzLoc F) {H : Hp} : ∀ (xs : List V) (k : List V → List Nat → Prop), frzs (F H) xs k → ∃ ys rs, k ys rs ∧ ∀ H' : Hp, (∀ b ∈ rs, H' b = H b) → ∀ k', frzs (F H') xs k' ↔ k' ys rs
 | [], k, h => ⟨[], [], h, fun _ _ _ => Iff.rfl⟩
 | x :: xs, k, h => by
   simp only [frzs] at h
   obtain ⟨y, r, h, h1⟩ := hF _ _ _ h
   obtain ⟨ys, rs, h, h2⟩ := frzs_loc hF xs _ h
   refine ⟨y :: ys, r ++ rs, h, fun H' hH k' => ?_⟩
   simp only [frzs]
   rw [h1 H' fun b hb => hH b (by simp [hb]), h2 H' fun b hb => hH b (by simp [hb])]
theorem frzE_loc {F : Hp → V → (V → List Nat → Prop) → Prop} (hF : FrzLoc F) : FrzLoc fun H => frzE (F H) := by
 intro x H k h
 simp only [frzE] at h
 by_cases ha : x.isAgg = true
 ·rw [if_pos ha] at h
  by_cases hp : x.pure = true
  ·rw [if_pos hp] at h
   refine ⟨_, _, h, fun H' _ k' => ?_⟩
   simp only [frzE]
   rw [if_pos ha, if_pos hp]
  ·rw [if_neg hp] at h
   obtain ⟨hg, h⟩ := h
   obtain ⟨ys, rs, h, h1⟩ := frzs_loc hF x.atoms _ h
   refine ⟨_, _, h, fun H' hH k' => ?_⟩
   simp only [frzE]
   rw [if_pos ha, if_neg hp, h1 H' hH]
   simp [hg]
 ·rw [if_neg ha] at h
  obtain ⟨y, rs, h, h1⟩ := hF _ _ _ h
  refine ⟨y, rs, h, fun H' hH k' => ?_⟩
  simp only [frzE]
  rw [if_neg ha]
  exact h1 H' hH k'
theorem argN_loc : ∀ n : Nat, FrzLoc fun H => argN H n := by
 intro n
 induction n with
 | zero =>
   intro x H k h
   obtain ⟨hp, h⟩ := h
   exact ⟨_, _, h, fun H' _ k' => by simp only [argN, hp, true_and]⟩
 | succ n ih =>
   intro x H k h
   simp only [argN] at h
   split at h
   ·rename_i b e o m
    split at h
    ·rename_i L rs hel
     obtain ⟨L', ids, hk, h1⟩ := frzs_loc (frzE_loc ih) L _ h
     refine ⟨_, _, hk, fun H' hH k' => ?_⟩
     simp only [argN, elems_loc hel fun b hb => hH b (by simp [hb])]
     exact h1 H' (fun b hb => hH b (by simp [hb])) _
    ·exact h.elim
   ·exact ⟨_, _, h, fun H' hH k' => Iff.rfl⟩
   ·exact ⟨_, _, h, fun H' hH k' => Iff.rfl⟩
   ·rename_i b e i off
    split at h
    ·rename_i q hb
     obtain ⟨hc, h⟩ := h
     split at h
     ·rename_i z hz
      obtain ⟨z', ids, hk, h1⟩ := frzE_loc ih _ _ _ h
      refine ⟨_, _, hk, fun H' hH k' => ?_⟩
      have hb' : H' b = some q := by rw [hH b (by simp)]; exact hb
      simp only [argN, hb', hc, hz]
      have := h1 H' (fun b hb => hH b (by simp [hb])) fun z' ids => k' (.pel z') (b :: ids)
      simpa using this
     ·exact h.elim
    ·exact h.elim
   ·rename_i f first caps
    split at h
    ·rename_i hp
     exact ⟨_, _, h, fun H' _ k' => by simp only [argN]; rw [if_pos hp]⟩
    ·rename_i hp
     obtain ⟨hc, h⟩ := h
     obtain ⟨ys, ids, ⟨h2, hk⟩, h1⟩ := frzs_loc ih caps _ h
     refine ⟨_, _, hk, fun H' hH k' => ?_⟩
     simp only [argN]
     rw [if_neg hp, h1 H' hH]
     exact ⟨fun g => g.2.2, fun g => ⟨hc, h2, g⟩⟩
   ·rename_i n1 n2 n3 n4 n5
    obtain ⟨hp, h⟩ := h
    refine ⟨_, _, h, fun H' hH k' => ?_⟩
    show argN H' (n + 1) x k' ↔ k' x []
    rw [argN.eq_def]
    simp only [hp, true_and]
theorem argsP_loc {H : Hp} (xs : List V) (k : List V → List Nat → Prop) (h : argsP H xs k) : ∃ ys rs, k ys rs ∧ ∀ H' : Hp, (∀ b ∈ rs, H' b = H b) → ∀ k', argsP H' xs k' ↔ k' ys rs :=
 frzs_loc (F := fun H => frzE (argN H 3)) (frzE_loc (argN_loc 3)) xs k h
def GabLoc (Δ : Gab) : Prop := ∀ f args H n, (∀ p r ws rs, Δ f args H n = some (p, r, ws, rs) → ∀ H' : Hp, (∀ b ∈ rs, H' b = H b) → Δ f args H' n = some (p, r, ws, rs)) ∧ (Δ f args H n = none → ∀ H' : Hp, Δ f args H' n = none)
theorem one_callF {Γ : Tab} {Δ : Gab} (hl : GabLoc Δ) {f args n} {H : Hp} {k : Kt} (h : aCallF Γ Δ f args H n k) : One (fun H k => aCallF Γ Δ f args H n k) H k := by
 unfold aCallF at h
 split at h
 ·rename_i p r ws rs hd
  obtain ⟨h1, h2, h⟩ := h
  refine ⟨_, _, _, h, fun H' hH => ?_⟩
  simp only [aCallF, (hl f args H n).1 p r ws rs hd H' hH]
  exact ⟨h1, h2, by simp⟩
 ·rename_i hd
  obtain ⟨ys, ids, h, h1⟩ := argsP_loc args _ h
  split at h
  ·rename_i p r hg
   obtain ⟨hp, h⟩ := h
   refine ⟨_, _, _, h, fun H' hH => ?_⟩
   simp only [aCallF, (hl f args H n).2 hd H']
   rw [h1 H' hH]
   simp only [hg]
   exact ⟨hp, by simp⟩
  ·exact h.elim
end
end Go.Proofs.YtfbogelmgdojgaaGreat


/- The abstract run of one operation is local. No program in sight. -/
namespace Go.Proofs.YtfbogelmgdojgaaGreat
set_option linter.unusedSimpArgs false
set_option linter.unusedVariables false
open Go.RowKit

section
variable {P : Program}
def OneE (X : (Operand → V) → Hp → Kt → Prop) (xs : List Operand) (e : Operand → V) (H : Hp) (k : Kt) : Prop :=
 ∃ z ws rs, k z ws rs ∧ ∀ (e' : Operand → V) (H' : Hp), (∀ x ∈ xs, e' x = e x) → (∀ b ∈ rs, H' b = H b) → X e' H' (fun z' ws' rs' => z' = z ∧ ws' = ws ∧ rs' = rs)
theorem OneE.of_val {X : (Operand → V) → (V → Prop) → Prop} {xs : List Operand} {e : Operand → V} {H : Hp} {k : Kt} (hc : ∀ k, X e k → ∃ z, k z ∧ X e (fun z' => z' = z)) (hl : ∀ e', (∀ x ∈ xs, e' x = e x) → X e' = X e) (h : X e fun z => k z [] []) :
 OneE (fun e _ k => X e fun z => k z [] []) xs e H k := by
 obtain ⟨z, h1, h2⟩ := hc _ h
 refine ⟨z, [], [], h1, fun e' _ he _ => ?_⟩
 simp only [hl e' he, and_self, and_true]
 exact h2
theorem OneE.of_one {X : (Operand → V) → Hp → Kt → Prop} {xs : List Operand} {e : Operand → V} {H : Hp} {k : Kt} (hc : One (X e) H k) (hl : ∀ e', (∀ x ∈ xs, e' x = e x) → X e' = X e) : OneE X xs e H k := by
 obtain ⟨z, ws, rs, h1, h2⟩ := hc
 exact ⟨z, ws, rs, h1, fun e' H' he hH => by rw [hl e' he]; exact h2 H' hH⟩
theorem fill_congr {t : TypeId} {e e' : Operand → V} : ∀ (ps : List (Nat × Operand)) (x : V), (∀ y ∈ ps.map (·.2), e' y = e y) → aFill P t e' ps x = aFill P t e ps x
 | [], x, _ => rfl
 | (i, p) :: r, x, h => by
   have h1 : e' p = e p := h p (by simp)
   simp only [aFill, h1]
   split
   ·split
    ·exact fill_congr r _ fun y hy => h y (by simp at hy ⊢; exact .inr hy)
    ·rfl
   ·rfl
theorem fillL_congr {s len : Nat} {e e' : Operand → V} : ∀ (ps : List (Nat × Operand)) (l : List V), (∀ y ∈ ps.map (·.2), e' y = e y) → aFillL e' s len ps l = aFillL e s len ps l
 | [], l, _ => rfl
 | (i, p) :: r, l, h => by
   have h1 : e' p = e p := h p (by simp)
   simp only [aFillL, h1]
   split
   ·exact fillL_congr r _ fun y hy => h y (by simp at hy ⊢; exact .inr hy)
   ·rfl
theorem opt_congr {e e' : Operand → V} {x : Option Operand} (h : ∀ y ∈ x.toList, e' y = e y) : x.map e' = x.map e := by
 cases x with
 | none => rfl
 | some y => simp [h y (by simp)]
theorem one_op {Γ : Tab} {Δ : Gab} (hl : GabLoc Δ) {op : Op} {e : Operand → V} {n : Nat} {H : Hp} {k : Kt} (h : aop P Γ Δ op e H n k) : OneE (fun e H k => aop P Γ Δ op e H n k) op.operands.toList e H k := by
 cases op with
 | move x => exact ⟨_, _, _, h, fun e' H' he _ => by simp only [aop, he x (by simp [Op.operands]), and_self]⟩
 | assign x => exact ⟨_, _, _, h, fun e' H' he _ => by simp only [aop, he x (by simp [Op.operands]), and_self]⟩
 | pick c x y => exact OneE.of_val (X := fun e k => aPick (e c) (e x) (e y) k) (fun _ => ch_pick) (fun e' he => by simp only [he c (by simp [Op.operands]), he x (by simp [Op.operands]), he y (by simp [Op.operands])]) h
 | alloc t =>
   simp only [aop, aAlloc] at h
   split at h
   ·rename_i z hz
    exact ⟨_, _, _, h.2, fun e' H' _ _ => by simp [aop, aAlloc, hz, h.1]⟩
   ·exact h.elim
 | box t x =>
   simp only [aop, aBox] at h
   exact ⟨_, _, _, h.2, fun e' H' he _ => by simp [aop, aBox, he x (by simp [Op.operands]), h.1]⟩
 | build t ps =>
   refine OneE.of_val (X := fun e k => aBuild P t e ps.toList k) (fun _ => ch_build) (fun e' he => ?_) h
   funext k
   unfold aBuild
   split
   ·rw [fill_congr _ _ fun y hy => he y (by simpa [Op.operands] using hy)]
   ·rfl
 | buildSlice t len ps =>
   simp only [aop, aBuildSlice] at h
   split at h
   ·rename_i el s e1
    split at h
    ·rename_i z e2
     obtain ⟨h1, h2, h3, h⟩ := h
     split at h
     ·rename_i l e3
      refine ⟨_, _, _, h, fun e' H' he _ => ?_⟩
      simp only [aop, aBuildSlice, e1, e2]
      rw [fillL_congr _ _ fun y hy => he y (by simpa [Op.operands] using hy), e3]
      simp [h1, h2, h3]
     ·exact h.elim
    ·exact h.elim
   ·exact h.elim
 | load t p => exact OneE.of_one (X := fun e H k => aLoad P H t (e p) k) (one_load h) (fun e' he => by simp only [he p (by simp [Op.operands])])
 | store t p x => exact OneE.of_one (X := fun e H k => aStore P H t (e p) (e x) k) (one_store h) (fun e' he => by simp only [he p (by simp [Op.operands]), he x (by simp [Op.operands])])
 | nilCheck x => exact OneE.of_val (X := fun e k => aNil (e x) k) (fun _ => ch_nil) (fun e' he => by simp only [he x (by simp [Op.operands])]) h
 | binOp op t x y t' => exact OneE.of_val (X := fun e k => aBin P op t (e x) (e y) k) (fun _ => ch_bin) (fun e' he => by simp only [he x (by simp [Op.operands]), he y (by simp [Op.operands])]) h
 | unOp op t x => exact OneE.of_val (X := fun e k => aUn op (e x) k) (fun _ => ch_un) (fun e' he => by simp only [he x (by simp [Op.operands])]) h
 | convert s t x =>
   obtain ⟨z, ws, rs, h1, h2⟩ := one_conv h.2
   refine ⟨z, ws, rs, h1, fun e' H' he hH => ⟨h.1, ?_⟩⟩
   simp only [he x (by simp [Op.operands])]
   exact h2 H' hH
 | makeFunc fn first caps =>
   obtain ⟨h1, h2⟩ := h
   have c1 : ∀ e' : Operand → V, (∀ x ∈ (Op.makeFunc fn first caps).operands.toList, e' x = e x) → first.toList.map e' = first.toList.map e := fun e' he => List.map_congr_left fun x hx => he x (by simp [Op.operands]; exact .inl (by simpa using hx))
   have c2 : ∀ e' : Operand → V, (∀ x ∈ (Op.makeFunc fn first caps).operands.toList, e' x = e x) → caps.toList.map e' = caps.toList.map e := fun e' he => List.map_congr_left fun x hx => he x (by simp [Op.operands]; exact .inr (by simpa using hx))
   exact ⟨_, _, _, h2, fun e' H' he _ => by simp only [aop, c1 e' he, c2 e' he, h1, and_self]⟩
 | makeSlice t l c =>
   simp only [aop, aMake] at h
   split at h
   ·rename_i kl l' kc c' el ec
    split at h
    ·rename_i e' s e1
     split at h
     ·rename_i z i e2 e3
      obtain ⟨h1, h2, h3, h⟩ := h
      exact ⟨_, _, _, h, fun e' H' he _ => by simp [aop, aMake, he l (by simp [Op.operands]), he c (by simp [Op.operands]), el, ec, e1, e2, e3, h1, h2, h3]⟩
     ·exact h.elim
    ·exact h.elim
   ·exact h.elim
 | slice t x lo hi mx =>
   refine OneE.of_val (X := fun e k => aSlice P t (e x) (lo.map e) (hi.map e) (mx.map e) k) (fun _ => ch_slice) (fun e' he => ?_) h
   rw [opt_congr (x := lo) fun y hy => he y (by simp [Op.operands] at hy ⊢; simp [hy]), opt_congr (x := hi) fun y hy => he y (by simp [Op.operands] at hy ⊢; simp [hy]), opt_congr (x := mx) fun y hy => he y (by simp [Op.operands] at hy ⊢; simp [hy]), he x (by simp [Op.operands])]
 | fieldAddr t x f => exact OneE.of_val (X := fun e k => aFieldAddr P t (e x) f k) (fun _ => ch_fieldAddr) (fun e' he => by simp only [he x (by simp [Op.operands])]) h
 | field t x f => exact OneE.of_val (X := fun e k => aField P t (e x) f k) (fun _ => ch_field) (fun e' he => by simp only [he x (by simp [Op.operands])]) h
 | indexAddr t x i => exact OneE.of_val (X := fun e k => aIndexAddr P t (e x) (e i) k) (fun _ => ch_indexAddr) (fun e' he => by simp only [he x (by simp [Op.operands]), he i (by simp [Op.operands])]) h
 | index t x i => exact OneE.of_val (X := fun e k => aIndex P t (e x) (e i) k) (fun _ => ch_index) (fun e' he => by simp only [he x (by simp [Op.operands]), he i (by simp [Op.operands])]) h
 | extract t i => exact OneE.of_val (X := fun e k => aExtract (e t) i k) (fun _ => ch_extract) (fun e' he => by simp only [he t (by simp [Op.operands])]) h
 | call c =>
   simp only [aop, aCall] at h
   have hargs : ∀ e' : Operand → V, (∀ x ∈ (Op.call c).operands.toList, e' x = e x) → c.args.toList.map e' = c.args.toList.map e := fun e' he => List.map_congr_left fun x hx => he x (by simp [Op.operands, Call.operands]; exact .inr (by simpa using hx))
   split at h
   ·rename_i b hb
    unfold aBuiltin at h
    split at h
    ·rename_i t x e1 e2
     obtain ⟨z, h1, h2⟩ := ch_len h
     exact ⟨z, [], [], h1, fun e' _ he _ => by simp only [aop, aCall, hb, hargs e' he, e1, e2, aBuiltin, and_self, and_true]; exact h2⟩
    ·rename_i t t' x y e1 e2
     obtain ⟨z, h1, h2⟩ := ch_min h
     exact ⟨z, [], [], h1, fun e' _ he _ => by simp only [aop, aCall, hb, hargs e' he, e1, e2, aBuiltin, and_self, and_true]; exact h2⟩
    ·rename_i t t' x y e1 e2
     obtain ⟨z, h1, h2⟩ := ch_max h
     exact ⟨z, [], [], h1, fun e' _ he _ => by simp only [aop, aCall, hb, hargs e' he, e1, e2, aBuiltin, and_self, and_true]; exact h2⟩
    ·rename_i t t' x y e1 e2
     obtain ⟨z, ws, rs, h1, h2⟩ := one_append h
     exact ⟨z, ws, rs, h1, fun e' H' he hH => by simp only [aop, aCall, hb, hargs e' he, e1, e2, aBuiltin]; exact h2 H' hH⟩
    ·rename_i t t' x y e1 e2
     obtain ⟨z, ws, rs, h1, h2⟩ := one_copy h
     exact ⟨z, ws, rs, h1, fun e' H' he hH => by simp only [aop, aCall, hb, hargs e' he, e1, e2, aBuiltin]; exact h2 H' hH⟩
    ·exact h.elim
   ·rename_i f hf
    split at h
    ·rename_i g first caps hef
     obtain ⟨z, ws, rs, h1, h2⟩ := one_callF hl h
     refine ⟨z, ws, rs, h1, fun e' H' he hH => ?_⟩
     simp only [aop, aCall, hf, hargs e' he, he f (by simp [Op.operands, Call.operands, hf]), hef]
     exact h2 H' hH
    ·exact h.elim
   ·exact h.elim
 | _ => exact h.elim
theorem ev_congr {σ σ' : St} {xs : List Operand} (h : ∀ t, Operand.tmp t ∈ xs → σ'.s t = σ.s t) : ∀ x ∈ xs, σ'.ev x = σ.ev x := by
 intro x hx
 cases x with
 | tmp t => exact h t hx
 | _ => rfl
theorem vcOp_local {Γ : Tab} {Δ : Gab} (hl : GabLoc Δ) {ops : Array Oper} {o : Oper} {σ : St} {k : Kt} (h : vcOp P Γ Δ ops o σ k) :
 ∃ z ws rs, k z ws rs ∧ ∀ σ' : St, σ'.n = σ.n → σ'.N = σ.N → (∀ t ∈ o.looksAt ops, σ'.s t = σ.s t) → (∀ b ∈ rs, σ'.H b = σ.H b) → vcOp P Γ Δ ops o σ' (fun z' ws' rs' => z' = z ∧ ws' = ws ∧ rs' = rs) := by
 have look : ∀ σ' : St, (∀ t ∈ o.looksAt ops, σ'.s t = σ.s t) → ∀ x ∈ o.op.operands.toList, σ'.ev x = σ.ev x := fun σ' hs => ev_congr fun t ht => hs t (by
  unfold Oper.looksAt
  refine List.mem_append_left _ (List.mem_filterMap.2 ⟨.tmp t, ht, rfl⟩))
 unfold vcOp at h
 split at h
 ·rename_i hg
  obtain ⟨z, ws, rs, h1, h2⟩ := one_op hl h
  refine ⟨z, ws, rs, h1, fun σ' hn hN hs hH => ?_⟩
  simp only [vcOp, hg, hn]
  exact h2 _ _ (look σ' hs) hH
 ·rename_i j want hg
  split at h
  ·rename_i hj
   exact ⟨_, _, _, h, fun σ' hn hN hs hH => by simp [vcOp, hg, hj]⟩
  ·rename_i d hj
   obtain ⟨hd, h⟩ := h
   have hds : ∀ σ' : St, (∀ t ∈ o.looksAt ops, σ'.s t = σ.s t) → σ'.s d = σ.s d := fun σ' hs => hs d (by
    unfold Oper.looksAt
    rw [hg]
    simp [hj])
   split at h
   ·rename_i b hb
    by_cases hbw : b = want
    ·obtain ⟨z, ws, rs, h1, h2⟩ := one_op hl (h.1 hbw)
     refine ⟨z, ws, rs, h1, fun σ' hn hN hs hH => ?_⟩
     simp only [vcOp, hg, hj, hn, hN, hds σ' hs, hb]
     exact ⟨hd, fun _ => h2 _ _ (look σ' hs) hH, fun e => by subst hbw; cases b <;> cases e⟩
    ·have h2 := h.2 (by cases b <;> cases want <;> simp_all)
     refine ⟨_, _, _, h2, fun σ' hn hN hs hH => ?_⟩
     simp only [vcOp, hg, hj, hn, hN, hds σ' hs, hb]
     exact ⟨hd, fun e => absurd e hbw, fun _ => by simp⟩
   ·rename_i vs hb
    refine ⟨_, _, _, h, fun σ' hn hN hs hH => ?_⟩
    simp only [vcOp, hg, hj, hN, hds σ' hs, hb]
    exact ⟨hd, by simp⟩
   ·exact h.elim
end
end Go.Proofs.YtfbogelmgdojgaaGreat

