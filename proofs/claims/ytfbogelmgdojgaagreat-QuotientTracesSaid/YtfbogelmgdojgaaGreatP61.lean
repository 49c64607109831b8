/- Texts LC1 LC2 LC3 LC4 in one. -/
import Derived.Test.YtfbogelmgdojgaaGreatP59
import Derived.Test.YtfbogelmgdojgaaGreatP60
import Derived.Test.YtfbogelmgdojgaaGreatP44
import Derived.Test.YtfbogelmgdojgaaGreatP41
/- The helpers of the laws of polynomials: sanity, made, number. -/
namespace Go.Proofs.YtfbogelmgdojgaaGreat
set_option linter.unusedSimpArgs false
set_option linter.unusedVariables false
open Go.RowKit

def kSqf (k : Nat) (l : List (List Rat × Nat)) : Con := con1 pR fun a => (pSqf k a = some l ∧ SfOk k a, .lst (V.facs l))
attribute [go_sem ↓, go_sem] kSqf
theorem sqf_C (k : Nat) (l : List (List Rat × Nat)) : Ctr Tryz.prog 68 (kSqf k l) := Ctr.c1 (by kernel_rfl) fun a h => sqf_V k a l h.2 h.1
theorem b8 (l : List Int) (h : (l.all fun z => decide (-128 ≤ z) && decide (z ≤ 127)) = true) : ∀ z ∈ l, B8 z := fun z hz => by
  have := List.all_eq_true.1 h z hz
  simp only [Bool.and_eq_true, decide_eq_true_eq] at this
  exact this
theorem app_cons {α : Type} (a : α) (l m : List α) : List.append (a :: l) m = a :: List.append l m := rfl
theorem app_nil {α : Type} (m : List α) : List.append [] m = m := rfl
def kSanity3 : Con := con0 (True, .raw (.bool true))
attribute [go_sem ↓, go_sem] kSanity3
end Go.Proofs.YtfbogelmgdojgaaGreat

/- The helpers of the laws of polynomials: made, number; the arguments. -/
namespace Go.Proofs.YtfbogelmgdojgaaGreat
set_option linter.unusedSimpArgs false
set_option linter.unusedVariables false
open Go.RowKit

theorem qs_mdQ {n d : Int} (hn : B8 n) (hd : B8 d) : qs (mdQ n d) ≤ 1 := by
  unfold mdQ
  obtain ⟨h1, h2⟩ := hn
  obtain ⟨h3, h4⟩ := hd
  refine Nat.le_trans (qs_divInt _ _) ?_
  have e1 : dl n.natAbs ≤ 1 := dl_le.2 (by simp only [Nat.pow_one]; omega)
  have e2 : dl (if d = 0 then (1 : Int) else d).natAbs ≤ 1 := dl_le.2 (by simp only [Nat.pow_one]; split <;> omega)
  omega
theorem psL_sz {l : List (Int × Int)} (h : P8 l) (n : Nat) : Sz (psL l (n : Nat)) n 1 := ⟨by
  unfold psL
  refine Nat.le_trans (tr_len _) ?_
  rw [rg_len]; omega, fun i => by
  unfold psL
  rw [cf_tr, cf_rg]
  split
  · have := B8.get2 h.2 i
    exact qs_mdQ this.1 this.2
  · exact qs_0, tr_can _⟩
/-- A pair of small integers, by value. -/
def pPr : Pat (Int × Int) where
  p
    | .agg [.raw (.int .i8 x), .raw (.int .i8 y)] => some (True, (x, y))
    | _ => none
  val z := .agg [.raw (.int .i8 z.1), .raw (.int .i8 z.2)]
  ok x c a h hc := by
    split at h
    · injection h with h; injection h with h1 h2; subst h2; exact .refl _
    · cases h
@[go_sem ↓, go_sem] theorem ev_pPr {x y : Int} : pPr.p (.agg [.raw (.int .i8 x), .raw (.int .i8 y)]) = some (True, (x, y)) := rfl
@[go_sem ↓, go_sem] theorem ev_pPr_mk {z : Int × Int} : pPr.val z = .agg [.raw (.int .i8 z.1), .raw (.int .i8 z.2)] := rfl
def kNumber : Con := con1 pPr fun z => (B8 z.1 ∧ B8 z.2, .Q (mdQ z.1 z.2))
attribute [go_sem ↓, go_sem] kNumber
/-- The argument of the laws. -/
structure Th where
  A : List (Int × Int)
  B : List (Int × Int)
  C : List (Int × Int)
  X : Int × Int
def Th.v (x : Th) : V := .agg [.lst (V.prs x.A), .lst (V.prs x.B), .lst (V.prs x.C), .agg [.raw (.int .i8 x.X.1), .raw (.int .i8 x.X.2)]]
def Th.Ok (x : Th) : Prop := (P8 x.A ∧ P8 x.B ∧ P8 x.C) ∧ B8 x.X.1 ∧ B8 x.X.2
def pTh : Pat Th where
  p
    | .agg [.lst a, .lst b, .lst c, .agg [.raw (.int .i8 x), .raw (.int .i8 y)]] => (unprs a).bind fun a => (unprs b).bind fun b => (unprs c).map fun c => (True, ⟨a, b, c, (x, y)⟩)
    | _ => none
  val := Th.v
  ok x c a h hc := by
    split at h
    · rename_i a b c x y
      rcases ha : unprs a with _ | a' <;> simp only [ha, bind_none, bind_some] at h
      · cases h
      · rcases hb : unprs b with _ | b' <;> simp only [hb, bind_none, bind_some] at h
        · cases h
        · rcases hc : unprs c with _ | c' <;> rw [hc] at h
          · cases h
          · injection h with h; injection h with h1 h2; subst h2
            rw [unprs_ok _ _ ha, unprs_ok _ _ hb, unprs_ok _ _ hc]; exact .refl _
    · cases h
@[go_sem ↓, go_sem] theorem ev_pTh {a b c : List V} {x y : Int} : pTh.p (.agg [.lst a, .lst b, .lst c, .agg [.raw (.int .i8 x), .raw (.int .i8 y)]]) = (unprs a).bind fun a => (unprs b).bind fun b => (unprs c).map fun c => (True, ⟨a, b, c, (x, y)⟩) := rfl
@[go_sem ↓, go_sem] theorem ev_pTh_mk {z : Th} : pTh.val z = .agg [.lst (V.prs z.A), .lst (V.prs z.B), .lst (V.prs z.C), .agg [.raw (.int .i8 z.X.1), .raw (.int .i8 z.X.2)]] := rfl
def kMade3 : Con := con1 pTh fun z => (P8 z.A ∧ P8 z.B ∧ P8 z.C, .tup [.lst (V.rats (psL z.A 5)), .lst (V.rats (psL z.B 5)), .lst (V.rats (psL z.C 3))])
attribute [go_sem ↓, go_sem] kMade3
theorem list_prs {P : Program} {n : Nat} {e b : TypeId} (he : P.underlying e = some (.array 2 b)) (hb : P.underlying b = some (.int .i8)) : ∀ (l : List V), (∀ y ∈ l, Fits P (n + 2) e y) → ∃ A : List (Int × Int), l = V.prs A ∧ ∀ z ∈ A, B8 z.1 ∧ B8 z.2
  | [], _ => ⟨[], rfl, fun z hz => by simp at hz⟩
  | y :: l, h => by
    obtain ⟨A, rfl, hA⟩ := list_prs he hb l fun y hy => h y (by simp [hy])
    obtain ⟨m, rfl, hm⟩ := fits_arr he (h y (by simp))
    obtain ⟨x1, m1, rfl, g1, hm⟩ := fitL_cons hm
    obtain ⟨x2, m2, rfl, g2, hm⟩ := fitL_cons hm
    have := fitL_nil hm
    subst this
    obtain ⟨z1, w1, rfl⟩ := fits_int hb g1
    obtain ⟨z2, w2, rfl⟩ := fits_int hb g2
    exact ⟨(z1, z2) :: A, rfl, fun z hz => by
      rcases List.mem_cons.1 hz with rfl | hz
      · exact ⟨wf_i8 w1, wf_i8 w2⟩
      · exact hA z hz⟩
theorem fits_prs {P : Program} {n : Nat} {t e b : TypeId} {X : V} (hu : P.underlying t = some (.slice e)) (he : P.underlying e = some (.array 2 b)) (hb : P.underlying b = some (.int .i8)) (h : Fits P (n + 3) t X) : ∃ A, X = .lst (V.prs A) ∧ P8 A := by
  obtain ⟨l, rfl, hl, hy⟩ := fits_sl hu h
  obtain ⟨A, rfl, hA⟩ := list_prs he hb l hy
  rw [prs_len] at hl
  exact ⟨A, rfl, hl, hA⟩
theorem fits_pr {P : Program} {n : Nat} {e b : TypeId} {X : V} (he : P.underlying e = some (.array 2 b)) (hb : P.underlying b = some (.int .i8)) (h : Fits P (n + 2) e X) : ∃ z : Int × Int, X = .agg [.raw (.int .i8 z.1), .raw (.int .i8 z.2)] ∧ B8 z.1 ∧ B8 z.2 := by
  obtain ⟨A, e1, hA⟩ := list_prs he hb [X] fun y hy => by
    rw [List.mem_singleton.1 hy]; exact h
  match A, e1 with
  | [z], e1 =>
    injection e1 with e1 _
    exact ⟨z, e1, hA z (by simp)⟩
end Go.Proofs.YtfbogelmgdojgaaGreat

/- The law of rings: sums and products of polynomials. -/
namespace Go.Proofs.YtfbogelmgdojgaaGreat
set_option linter.unusedSimpArgs false
set_option linter.unusedVariables false
open Go.RowKit

theorem beq_len0 (l : List Rat) : ((l.length : Int) == 0) = decide (l = []) := by
  cases l with
  | nil => rfl
  | cons x l => rw [decide_eq_false (by simp)]; simp; omega
theorem pMul_nil (b : List Rat) : pMul [] b = [] := rfl
theorem pMul_comm (a b : List Rat) : pMul a b = pMul b a := ev_inj (can_pMul _ _) (can_pMul _ _) fun x => by rw [ev_pMul, ev_pMul]; grind
theorem pMul_nil' (a : List Rat) : pMul a [] = [] := by rw [pMul_comm, pMul_nil]
theorem sz_one : Sz [((1 : Int) : Rat)] 1 1 := ⟨Nat.le_refl _, PB_cons qs_1 (PB_nil (Nat.le_refl _)), fun _ => by decide +kernel⟩
end Go.Proofs.YtfbogelmgdojgaaGreat

/- The laws of derivatives and of values of polynomials. -/
namespace Go.Proofs.YtfbogelmgdojgaaGreat
set_option linter.unusedSimpArgs false
set_option linter.unusedVariables false
open Go.RowKit

end Go.Proofs.YtfbogelmgdojgaaGreat
