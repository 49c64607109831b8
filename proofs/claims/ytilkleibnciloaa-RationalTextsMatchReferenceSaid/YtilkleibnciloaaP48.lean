/- Texts F5 in one. -/
import Derived.Test.YtilkleibnciloaaP46
import Derived.Test.YtilkleibnciloaaP26
import Derived.Test.YtilkleibnciloaaP42
import Derived.Lib.Bytealg
import Derived.WalkKit
/- Contracts: texts of rational numbers. -/
namespace Go.Proofs.Ytilkleibnciloaa
set_option linter.unusedSimpArgs false
set_option linter.unusedVariables false
open Go.RowKit

def kRText : Con := con1 pI fun x => (dl x.natAbs ≤ 100000000, .raw (.string (mkB (txN x))))
attribute [go_sem ↓, go_sem] kRText
theorem rtext_C : Ctr Try.prog 55 kRText := Ctr.c1 rfl fun x h => rtext_V x h
theorem rread_C : Ctr Try.prog 51 kRead := Ctr.c1 rfl fun s _ => rread_V s
theorem rdV_dl {S : List Nat} (k : Nat) (h : S.length ≤ k) (hk : 10 ≤ k) : dl (rdV S).natAbs ≤ k := by
  unfold rdV
  split
  · rename_i hg
    have h1 := vl10_lt _ hg.2.2.2
    have h2 := ten_pow (rdD S).length
    have hl : (rdD S).length ≤ k := by
      unfold rdD
      split
      · rw [List.length_drop]; omega
      · exact h
    have h3 := pow_le' (m := (rdD S).length / 9 + 1) (n := k) (by omega)
    have e : (sgn (decide (at0 S 0 = 45)) (vl10 (rdD S))).natAbs = vl10 (rdD S) := by unfold sgn; split <;> omega
    rw [e]
    exact dl_le.2 (by omega)
  · exact Nat.zero_le _
theorem rdV_dlM (S : List Nat) : dl (rdV S).natAbs ≤ 2000 := by
  by_cases h : S.length ≤ 2000
  · exact rdV_dl 2000 h (by decide)
  · rw [(rd_big (by omega)).1]; exact Nat.zero_le _
/- The first slash. -/
def fi (S : List Nat) : Nat := (S.takeWhile (· != 47)).length
theorem fi_le (S : List Nat) : fi S ≤ S.length := (List.takeWhile_prefix _).length_le
theorem fi_cons (c : Nat) (S : List Nat) : fi (c :: S) = if c = 47 then 0 else fi S + 1 := by
  unfold fi
  rw [List.takeWhile_cons]
  by_cases h : c = 47
  · simp [h]
  · have : (c != 47) = true := bne_iff_ne.2 h
    rw [this, if_neg h]; rfl
theorem fi_lt {S : List Nat} : ∀ {k : Nat}, k < fi S → at0 S k ≠ 47 := by
  induction S with
  | nil => intro k h; exact absurd h (by simp [fi])
  | cons c S ih =>
    intro k h
    rw [fi_cons] at h
    split at h
    · omega
    · rename_i hc
      cases k with
      | zero => rw [at0_cons_zero]; exact hc
      | succ k => rw [at0_cons_succ]; exact ih (by omega)
theorem fi_at {S : List Nat} (h : fi S < S.length) : at0 S (fi S) = 47 := by
  induction S with
  | nil => exact absurd h (by simp [fi])
  | cons c S ih =>
    rw [fi_cons] at h ⊢
    split
    · rename_i hc; rw [at0_cons_zero]; exact hc
    · rename_i hc
      rw [if_neg hc] at h
      rw [at0_cons_succ]
      exact ih (by simp at h; omega)
theorem fi_miss {S : List Nat} (h : ∀ c ∈ S, c ≠ 47) : fi S = S.length := by
  induction S with
  | nil => rfl
  | cons c S ih =>
    rw [fi_cons, if_neg (h c (by simp)), ih fun d hd => h d (by simp [hd])]
    rfl
theorem fi_hit {S T : List Nat} (h : ∀ c ∈ S, c ≠ 47) : fi (S ++ 47 :: T) = S.length := by
  induction S with
  | nil => rfl
  | cons c S ih =>
    rw [List.cons_append, fi_cons, if_neg (h c (by simp)), ih fun d hd => h d (by simp [hd])]
    rfl
theorem indexByte_fi (l : List UInt8) : Go.Lib.indexByte l 47 = if fi (l.map UInt8.toNat) < l.length then (fi (l.map UInt8.toNat) : Int) else -1 := by
  induction l with
  | nil => rfl
  | cons c l ih =>
    rw [List.map_cons, fi_cons]
    unfold Go.Lib.indexByte
    by_cases h : c = 47
    · subst h
      simp
    · have h1 : (c == 47) = false := beq_eq_false_iff_ne.2 h
      have h2 : c.toNat ≠ 47 := fun e => h (UInt8.toNat_inj.1 e)
      rw [h1, if_neg h2, ih]
      simp only [Bool.false_eq_true, if_false, List.length_cons, Nat.add_lt_add_iff_right]
      by_cases h3 : fi (l.map UInt8.toNat) < l.length
      · rw [if_pos h3, if_pos h3]
        generalize fi (l.map UInt8.toNat) = k
        rw [show ((k : Int) == -1) = false from beq_eq_false_iff_ne.2 (by omega)]
        rfl
      · rw [if_neg h3, if_neg h3]
        rfl
set_option maxRecDepth 100000 in
theorem byteIdx_V (s : ByteArray) : PCall Try.prog 93 [.raw (.string s), .raw (.int .u8 47)] (.raw (.int .i64 (if fi (sbL s) < s.size then (fi (sbL s) : Int) else -1))) := by
  intro B w vs hl hr hB
  match vs, hl with
  | [a, b], _ =>
    have ha : a = .string s := RepW.raw_inv (hr 0 _ _ rfl rfl)
    have hb : b = .int .u8 47 := RepW.raw_inv (hr 1 _ _ rfl rfl)
    subst ha hb
    obtain ⟨r, e, e'⟩ : ∃ r : Int, Go.Lib.indexByte s.data.toList 47 = r ∧ (if fi (sbL s) < s.size then (fi (sbL s) : Int) else -1) = r := ⟨_, indexByte_fi _, rfl⟩
    rw [e']
    have : Calls Try.prog 93 #[.string s, .int .u8 47] w fun e w' => e = .returned (.int .i64 r) ∧ w' = w := by
      go_enter Try.func93, Try.ntmps93
      go_wp2
      rw [run_callFunc_extern Try.func101 (by kernel_rfl) (by kernel_rfl) (by kernel_rfl) (e := Extern.BytealgIndexByte.indexByte) (by kernel_rfl), Go.Lib.run_indexByteString]
      simp only [Result.andThen]
      rw [Oper.upon_value]
      go_wp2
      go_ret
      first | exact ⟨rfl, rfl⟩ | exact ⟨congrArg (fun z => Ending.returned (.int .i64 z)) e, rfl⟩
    refine this.mono ?_
    rintro e w' ⟨rfl, rfl⟩
    exact ⟨_, rfl, RepW.raw rfl, Below.refl _ _⟩
def slash : ByteArray := { data := #[47] }
def fiI (s : ByteArray) : Int := if fi (sbL s) < s.size then (fi (sbL s) : Int) else -1
def kByteIdx : Con := con2 pS (pN .u8) fun s c => (c = 47, .raw (.int .i64 (fiI s)))
attribute [go_sem ↓, go_sem] kByteIdx
theorem byteIdx_C : Ctr Try.prog 93 kByteIdx := Ctr.c2 rfl fun s c h => by
  have h : c = 47 := h
  subst h
  exact byteIdx_V s
def kIdx : Con := con2 pS pS fun s c => (c = slash, .raw (.int .i64 (fiI s)))
attribute [go_sem ↓, go_sem] kIdx
theorem idx_C : Ctr Try.prog 84 kIdx := Ctr.c2 rfl fun s c h => by
  have h : c = slash := h
  subst h
  refine PCall.of_vc (tabs mixed (tbl_cons byteIdx_C tbl_nil)) Try.func84 rfl Try.ntmps84 Try.results84 (by simp) ?_
  have e1 : slash.size = 1 := rfl
  have e2 : byteAt slash 0 = 47 := rfl
  simp only [go_sem, List.reduceReplicate, ↓reduceIte, Nat.reduceEqDiff, Nat.reduceLT, Nat.reduceLeDiff, Nat.reduceAdd, Nat.reduceSub, Nat.reduceMul, Int.reduceToNat, Int.reduceNeg, Int.reduceAdd, Int.reduceSub, Int.reduceMul, Int.reduceLT, Int.reduceLE, Int.reduceMod, Int.reducePow, Nat.reducePow, Int.reduceDiv, Nat.reduceBEq, Nat.reduceBNe, Int.reduceBEq, Int.reduceBNe, reduceCtorEq, e1, e2]
  intro h
  rw [eq_list] at h
  have h := sbL_inj (of_decide_eq_true h)
  subst h
  exact .refl _
/-- Cut at the first slash. -/
def cutA (s : ByteArray) : ByteArray := s.extract 0 (fi (sbL s))
def cutB (s : ByteArray) : ByteArray := if fi (sbL s) < s.size then s.extract (fi (sbL s) + 1) s.size else { data := #[] }
def kCut : Con := con2 pS pS fun s c => (c = slash ∧ s.size ≤ 2000, .tup [.raw (.string (cutA s)), .raw (.string (cutB s)), .raw (.bool (decide (fi (sbL s) < s.size)))])
attribute [go_sem ↓, go_sem] kCut
theorem cutA_miss {s : ByteArray} (h : ¬ fi (sbL s) < s.size) : cutA s = s := by
  apply sbL_inj
  unfold cutA
  rw [sbL_extract]
  have := fi_le (sbL s)
  rw [List.drop_zero, List.take_of_length_le]
  rw [sbL_length]; omega
theorem cut_V (s : ByteArray) (hs : s.size ≤ 2000) : PCall Try.prog 71 [.raw (.string s), .raw (.string slash)] (.tup [.raw (.string (cutA s)), .raw (.string (cutB s)), .raw (.bool (decide (fi (sbL s) < s.size)))]) := by
  refine PCall.of_vc (tabs mixed (tbl_cons idx_C tbl_nil)) Try.func71 rfl Try.ntmps71 Try.results71 (by simp) ?_
  have e1 : slash.size = 1 := rfl
  by_cases h : fi (sbL s) < s.size
  · have c1 : fiI s = (fi (sbL s) : Nat) := if_pos h
    have c2 : decide (fi (sbL s) < s.size) = true := decide_eq_true h
    have c3 : 0 ≤ ((fi (sbL s) : Nat) : Int) := by omega
    have c4 : cutB s = s.extract (fi (sbL s) + 1) s.size := if_pos h
    have c5 : ((fi (sbL s) : Nat) : Int) + 1 = ((fi (sbL s) + 1 : Nat) : Int) := by omega
    simp only [go_sem, List.reduceReplicate, ↓reduceIte, Nat.reduceEqDiff, Nat.reduceLT, Nat.reduceLeDiff, Nat.reduceAdd, Nat.reduceSub, Nat.reduceMul, Int.reduceToNat, Int.reduceNeg, Int.reduceAdd, Int.reduceSub, Int.reduceMul, Int.reduceLT, Int.reduceLE, Int.reduceMod, Int.reducePow, Nat.reducePow, Int.reduceDiv, Nat.reduceBEq, Nat.reduceBNe, Int.reduceBEq, Int.reduceBNe, reduceCtorEq, e1, c1, c2, c3, c4, c5]
    exact ⟨by omega, by omega, by omega, by rfl, .refl _⟩
  · have c1 : fiI s = -1 := if_neg h
    have c2 : decide (fi (sbL s) < s.size) = false := decide_eq_false h
    have c4 : cutB s = { data := #[] } := if_neg h
    simp only [go_sem, List.reduceReplicate, ↓reduceIte, Nat.reduceEqDiff, Nat.reduceLT, Nat.reduceLeDiff, Nat.reduceAdd, Nat.reduceSub, Nat.reduceMul, Int.reduceToNat, Int.reduceNeg, Int.reduceAdd, Int.reduceSub, Int.reduceMul, Int.reduceLT, Int.reduceLE, Int.reduceMod, Int.reducePow, Nat.reducePow, Int.reduceDiv, Nat.reduceBEq, Nat.reduceBNe, Int.reduceBEq, Int.reduceBNe, reduceCtorEq, c1, c2, c4, cutA_miss h]
theorem slCut_C : Ctr Try.prog 71 kCut := Ctr.c2 rfl fun s c h => by
  obtain ⟨h1, h2⟩ := h
  subst h1
  exact cut_V s h2
theorem cut_C : Ctr Try.prog 47 kCut := Ctr.c2 rfl fun s c h => by
  obtain ⟨h1, h2⟩ := h
  subst h1
  refine PCall.of_vc (tabs mixed (tbl_cons slCut_C tbl_nil)) Try.func47 rfl Try.ntmps47 Try.results47 (by simp) ?_
  simp only [go_sem, List.reduceReplicate, ↓reduceIte, Nat.reduceEqDiff, Nat.reduceLT, Nat.reduceLeDiff, Nat.reduceAdd, Nat.reduceSub, Nat.reduceMul, Int.reduceToNat, Int.reduceNeg, Int.reduceAdd, Int.reduceSub, Int.reduceMul, Int.reduceLT, Int.reduceLE, Int.reduceMod, Int.reducePow, Nat.reducePow, Int.reduceDiv, Nat.reduceBEq, Nat.reduceBNe, Int.reduceBEq, Int.reduceBNe, reduceCtorEq]
  exact h2
/- Read. -/
def numQ (S : List Nat) : List Nat := S.take (fi S)
def denQ (S : List Nat) : List Nat := if fi S < S.length then S.drop (fi S + 1) else [49]
/-- What Read returns. -/
def rdQ (S : List Nat) : V :=
  if 2000 < S.length then qErr 2 else if rdC (numQ S) = 0 ∧ rdC (denQ S) = 0 ∧ 0 < rdV (denQ S) then qOk (Rat.divInt (rdV (numQ S)) (rdV (denQ S))) else qErr 4
theorem sgI_le (z : Int) : sgI z ≤ 0 ↔ ¬ 0 < z := by
  rcases sg_cases z with ⟨h, e⟩ | ⟨h, e⟩ | ⟨h, e⟩ <;> rw [e] <;> omega
theorem sbL_cutA (s : ByteArray) : sbL (cutA s) = numQ (sbL s) := by
  unfold cutA numQ
  rw [sbL_extract, List.drop_zero, Nat.sub_zero]
theorem sbL_cutB {s : ByteArray} (h : fi (sbL s) < s.size) : sbL (cutB s) = denQ (sbL s) := by
  have e := sbL_length s
  unfold cutB denQ
  rw [if_pos h, if_pos (by omega), sbL_extract, List.take_of_length_le]
  rw [List.length_drop, e]; omega
theorem denQ_miss {s : ByteArray} (h : ¬ fi (sbL s) < s.size) : denQ (sbL s) = [49] := by
  have e := sbL_length s
  unfold denQ
  rw [if_neg (by omega)]
theorem sbL_1 : sbL ({ data := #[49] } : ByteArray) = [49] := rfl
set_option maxRecDepth 2000 in
theorem qRead_V (s : ByteArray) : PCall Try.prog 13 [.raw (.string s)] (rdQ (sbL s)) := by
  refine PCall.of_vc (tabs mixed (tbl_cons cut_C (tbl_cons read_C (tbl_cons sign_C (tbl_cons lowest_C tbl_nil))))) Try.func13 rfl Try.ntmps13 Try.results13 (by simp) ?_
  unfold rdQ
  have hsz := sbL_length s
  by_cases hbig : 2000 < s.size
  · have m1 : 2000 < (s.size : Int) := by omega
    rw [if_pos (by omega)]
    unfold qErr
    simp only [go_sem, List.reduceReplicate, ↓reduceIte, Nat.reduceEqDiff, Nat.reduceLT, Nat.reduceLeDiff, Nat.reduceAdd, Nat.reduceSub, Nat.reduceMul, Int.reduceToNat, Int.reduceNeg, Int.reduceAdd, Int.reduceSub, Int.reduceMul, Int.reduceLT, Int.reduceLE, Int.reduceMod, Int.reducePow, Nat.reducePow, Int.reduceDiv, Nat.reduceBEq, Nat.reduceBNe, Int.reduceBEq, Int.reduceBNe, reduceCtorEq, m1]
    exact out_P (out_In rfl) (out_In rfl)
  have m1 : ¬ 2000 < (s.size : Int) := by omega
  have m2 : s.size ≤ 2000 := by omega
  have m3 : ({ data := #[47] } : ByteArray) = slash := rfl
  rw [if_neg (by omega)]
  obtain ⟨N, hN⟩ : ∃ N, numQ (sbL s) = N := ⟨_, rfl⟩
  obtain ⟨D, hD⟩ : ∃ D, denQ (sbL s) = D := ⟨_, rfl⟩
  have dN := rdV_dlM N
  have dD := rdV_dlM D
  rw [hN, hD]
  have hA : sbL (cutA s) = N := by rw [sbL_cutA, hN]
  by_cases h : fi (sbL s) < s.size
  · have c1 : decide (fi (sbL s) < s.size) = true := decide_eq_true h
    have hB : sbL (cutB s) = D := by rw [sbL_cutB h, hD]
    by_cases g1 : rdC N = 0
    · by_cases g2 : rdC D = 0
      · by_cases g3 : 0 < rdV D
        · have q3 : ¬ sgI (rdV D) ≤ 0 := fun h => (sgI_le _).1 h g3
          have g4 : rdV D ≠ 0 := by omega
          rw [if_pos ⟨g1, g2, g3⟩]
          unfold qOk
          simp only [go_sem, List.reduceReplicate, ↓reduceIte, Nat.reduceEqDiff, Nat.reduceLT, Nat.reduceLeDiff, Nat.reduceAdd, Nat.reduceSub, Nat.reduceMul, Int.reduceToNat, Int.reduceNeg, Int.reduceAdd, Int.reduceSub, Int.reduceMul, Int.reduceLT, Int.reduceLE, Int.reduceMod, Int.reducePow, Nat.reducePow, Int.reduceDiv, Nat.reduceBEq, Nat.reduceBNe, Int.reduceBEq, Int.reduceBNe, reduceCtorEq, m1, m2, m3, c1, hA, hB, g1, g2, q3, g4]
          omega
        · have q3 : sgI (rdV D) ≤ 0 := (sgI_le _).2 g3
          rw [if_neg fun h => g3 h.2.2]
          unfold qErr
          simp only [go_sem, List.reduceReplicate, ↓reduceIte, Nat.reduceEqDiff, Nat.reduceLT, Nat.reduceLeDiff, Nat.reduceAdd, Nat.reduceSub, Nat.reduceMul, Int.reduceToNat, Int.reduceNeg, Int.reduceAdd, Int.reduceSub, Int.reduceMul, Int.reduceLT, Int.reduceLE, Int.reduceMod, Int.reducePow, Nat.reducePow, Int.reduceDiv, Nat.reduceBEq, Nat.reduceBNe, Int.reduceBEq, Int.reduceBNe, reduceCtorEq, m1, m2, m3, c1, hA, hB, g1, g2, q3]
          exact out_P (out_In rfl) (out_In rfl)
      · have q2 : (rdC D != 0) = true := bneT g2
        rw [if_neg fun h => g2 h.2.1]
        unfold qErr
        simp only [go_sem, List.reduceReplicate, ↓reduceIte, Nat.reduceEqDiff, Nat.reduceLT, Nat.reduceLeDiff, Nat.reduceAdd, Nat.reduceSub, Nat.reduceMul, Int.reduceToNat, Int.reduceNeg, Int.reduceAdd, Int.reduceSub, Int.reduceMul, Int.reduceLT, Int.reduceLE, Int.reduceMod, Int.reducePow, Nat.reducePow, Int.reduceDiv, Nat.reduceBEq, Nat.reduceBNe, Int.reduceBEq, Int.reduceBNe, reduceCtorEq, m1, m2, m3, c1, hA, hB, g1, q2]
        exact out_P (out_In rfl) (out_In rfl)
    · have q1 : (rdC N != 0) = true := bneT g1
      rw [if_neg fun h => g1 h.1]
      unfold qErr
      simp only [go_sem, List.reduceReplicate, ↓reduceIte, Nat.reduceEqDiff, Nat.reduceLT, Nat.reduceLeDiff, Nat.reduceAdd, Nat.reduceSub, Nat.reduceMul, Int.reduceToNat, Int.reduceNeg, Int.reduceAdd, Int.reduceSub, Int.reduceMul, Int.reduceLT, Int.reduceLE, Int.reduceMod, Int.reducePow, Nat.reducePow, Int.reduceDiv, Nat.reduceBEq, Nat.reduceBNe, Int.reduceBEq, Int.reduceBNe, reduceCtorEq, m1, m2, m3, c1, hA, hB, q1]
      exact out_P (out_In rfl) (out_In rfl)
  · have c1 : decide (fi (sbL s) < s.size) = false := decide_eq_false h
    have hB : sbL ({ data := #[49] } : ByteArray) = D := by rw [← hD, denQ_miss h]; rfl
    by_cases g1 : rdC N = 0
    · by_cases g2 : rdC D = 0
      · by_cases g3 : 0 < rdV D
        · have q3 : ¬ sgI (rdV D) ≤ 0 := fun h => (sgI_le _).1 h g3
          have g4 : rdV D ≠ 0 := by omega
          rw [if_pos ⟨g1, g2, g3⟩]
          unfold qOk
          simp only [go_sem, List.reduceReplicate, ↓reduceIte, Nat.reduceEqDiff, Nat.reduceLT, Nat.reduceLeDiff, Nat.reduceAdd, Nat.reduceSub, Nat.reduceMul, Int.reduceToNat, Int.reduceNeg, Int.reduceAdd, Int.reduceSub, Int.reduceMul, Int.reduceLT, Int.reduceLE, Int.reduceMod, Int.reducePow, Nat.reducePow, Int.reduceDiv, Nat.reduceBEq, Nat.reduceBNe, Int.reduceBEq, Int.reduceBNe, reduceCtorEq, m1, m2, m3, c1, hA, hB, g1, g2, q3, g4]
          omega
        · have q3 : sgI (rdV D) ≤ 0 := (sgI_le _).2 g3
          rw [if_neg fun h => g3 h.2.2]
          unfold qErr
          simp only [go_sem, List.reduceReplicate, ↓reduceIte, Nat.reduceEqDiff, Nat.reduceLT, Nat.reduceLeDiff, Nat.reduceAdd, Nat.reduceSub, Nat.reduceMul, Int.reduceToNat, Int.reduceNeg, Int.reduceAdd, Int.reduceSub, Int.reduceMul, Int.reduceLT, Int.reduceLE, Int.reduceMod, Int.reducePow, Nat.reducePow, Int.reduceDiv, Nat.reduceBEq, Nat.reduceBNe, Int.reduceBEq, Int.reduceBNe, reduceCtorEq, m1, m2, m3, c1, hA, hB, g1, g2, q3]
          exact out_P (out_In rfl) (out_In rfl)
      · have q2 : (rdC D != 0) = true := bneT g2
        rw [if_neg fun h => g2 h.2.1]
        unfold qErr
        simp only [go_sem, List.reduceReplicate, ↓reduceIte, Nat.reduceEqDiff, Nat.reduceLT, Nat.reduceLeDiff, Nat.reduceAdd, Nat.reduceSub, Nat.reduceMul, Int.reduceToNat, Int.reduceNeg, Int.reduceAdd, Int.reduceSub, Int.reduceMul, Int.reduceLT, Int.reduceLE, Int.reduceMod, Int.reducePow, Nat.reducePow, Int.reduceDiv, Nat.reduceBEq, Nat.reduceBNe, Int.reduceBEq, Int.reduceBNe, reduceCtorEq, m1, m2, m3, c1, hA, hB, g1, q2]
        exact out_P (out_In rfl) (out_In rfl)
    · have q1 : (rdC N != 0) = true := bneT g1
      rw [if_neg fun h => g1 h.1]
      unfold qErr
      simp only [go_sem, List.reduceReplicate, ↓reduceIte, Nat.reduceEqDiff, Nat.reduceLT, Nat.reduceLeDiff, Nat.reduceAdd, Nat.reduceSub, Nat.reduceMul, Int.reduceToNat, Int.reduceNeg, Int.reduceAdd, Int.reduceSub, Int.reduceMul, Int.reduceLT, Int.reduceLE, Int.reduceMod, Int.reducePow, Nat.reducePow, Int.reduceDiv, Nat.reduceBEq, Nat.reduceBNe, Int.reduceBEq, Int.reduceBNe, reduceCtorEq, m1, m2, m3, c1, hA, hB, q1]
      exact out_P (out_In rfl) (out_In rfl)
def kQRead : Con := con1 pS fun s => (True, rdQ (sbL s))
attribute [go_sem ↓, go_sem] kQRead
theorem qRead_C : Ctr Try.prog 13 kQRead := Ctr.c1 rfl fun s _ => qRead_V s
/- Text. -/
def txQ (a : Rat) : List Nat := if a.den = 1 then txN a.num else txN a.num ++ 47 :: txN a.den
theorem cat47 (l m : List Nat) : mkB l ++ ({ data := #[47] } : ByteArray) ++ mkB m = mkB (l ++ 47 :: m) := by
  apply ByteArray.ext
  simp [mkB]
theorem den_cmp (a : Rat) : (cmpI (a.den : Int) 1 == 0) = decide (a.den = 1) := cmp_one a.den
theorem l1 : dl (Int.natAbs 1) ≤ 1 := (dl_le (k := 1)).2 (by decide)
theorem qText_V (a : Rat) (h : qs a ≤ 100000000) : PCall Try.prog 15 [.Q a] (.raw (.string (mkB (txQ a)))) := by
  refine PCall.of_vc (tabs mixed (tbl_cons of_C (tbl_cons cmpZ_C (tbl_cons text_C tbl_nil)))) Try.func15 rfl Try.ntmps15 Try.results15 (by simp) ?_
  unfold txQ
  obtain ⟨a1, a2, a3⟩ := szs h
  have e1 := l1
  have t1 := txN_len (X := a.num) (k := 100000000) a1 (by decide)
  have t2 := txN_len (X := (a.den : Int)) (k := 100000000) a2 (by decide)
  rw [← mkB_size] at t1 t2
  have t3 : (({ data := #[47] } : ByteArray)).size = 1 := rfl
  by_cases hd : a.den = 1
  · rw [if_pos hd]
    have c1 : (cmpI (a.den : Int) 1 == 0) = true := by rw [den_cmp]; exact decide_eq_true hd
    simp only [go_sem, List.reduceReplicate, ↓reduceIte, Nat.reduceEqDiff, Nat.reduceLT, Nat.reduceLeDiff, Nat.reduceAdd, Nat.reduceSub, Nat.reduceMul, Int.reduceToNat, Int.reduceNeg, Int.reduceAdd, Int.reduceSub, Int.reduceMul, Int.reduceLT, Int.reduceLE, Int.reduceMod, Int.reducePow, Nat.reducePow, Int.reduceDiv, Nat.reduceBEq, Nat.reduceBNe, Int.reduceBEq, Int.reduceBNe, reduceCtorEq, c1]
    and_intros <;> first | rfl | omega
  · rw [if_neg hd]
    have c1 : (cmpI (a.den : Int) 1 == 0) = false := by rw [den_cmp]; exact decide_eq_false hd
    simp only [go_sem, List.reduceReplicate, ↓reduceIte, Nat.reduceEqDiff, Nat.reduceLT, Nat.reduceLeDiff, Nat.reduceAdd, Nat.reduceSub, Nat.reduceMul, Int.reduceToNat, Int.reduceNeg, Int.reduceAdd, Int.reduceSub, Int.reduceMul, Int.reduceLT, Int.reduceLE, Int.reduceMod, Int.reducePow, Nat.reducePow, Int.reduceDiv, Nat.reduceBEq, Nat.reduceBNe, Int.reduceBEq, Int.reduceBNe, reduceCtorEq, c1, cat47, ByteArray.size_append, t3]
    and_intros <;> first | rfl | omega
def kQText : Con := con1 pQ fun a => (qs a ≤ 100000000, .raw (.string (mkB (txQ a))))
attribute [go_sem ↓, go_sem] kQText
theorem qText_C : Ctr Try.prog 15 kQText := Ctr.c1 rfl fun a h => qText_V a h
theorem r2Text_C : Ctr Try.prog 16 kQText := Ctr.c1 rfl fun a h => by
  have h : qs a ≤ 100000000 := h
  show PCall _ _ _ (.raw (.string (mkB (txQ a))))
  refine PCall.of_vc (tabs mixed (tbl_cons rof_C (tbl_cons same_C (tbl_cons rtext_C tbl_nil)))) Try.func16 rfl Try.ntmps16 Try.results16 (by simp) ?_
  unfold txQ
  obtain ⟨a1, a2, a3⟩ := szs h
  have e1 := l1
  have t1 := txN_len (X := a.num) (k := 100000000) a1 (by decide)
  have t2 := txN_len (X := (a.den : Int)) (k := 100000000) a2 (by decide)
  rw [← mkB_size] at t1 t2
  have t3 : (({ data := #[47] } : ByteArray)).size = 1 := rfl
  by_cases hd : a.den = 1
  · rw [if_pos hd]
    have c1 : decide ((a.den : Int) = 1) = true := by rw [one_nat]; exact decide_eq_true hd
    simp only [go_sem, List.reduceReplicate, ↓reduceIte, Nat.reduceEqDiff, Nat.reduceLT, Nat.reduceLeDiff, Nat.reduceAdd, Nat.reduceSub, Nat.reduceMul, Int.reduceToNat, Int.reduceNeg, Int.reduceAdd, Int.reduceSub, Int.reduceMul, Int.reduceLT, Int.reduceLE, Int.reduceMod, Int.reducePow, Nat.reducePow, Int.reduceDiv, Nat.reduceBEq, Nat.reduceBNe, Int.reduceBEq, Int.reduceBNe, reduceCtorEq, c1]
    and_intros <;> first | rfl | omega
  · rw [if_neg hd]
    have c1 : decide ((a.den : Int) = 1) = false := by rw [one_nat]; exact decide_eq_false hd
    simp only [go_sem, List.reduceReplicate, ↓reduceIte, Nat.reduceEqDiff, Nat.reduceLT, Nat.reduceLeDiff, Nat.reduceAdd, Nat.reduceSub, Nat.reduceMul, Int.reduceToNat, Int.reduceNeg, Int.reduceAdd, Int.reduceSub, Int.reduceMul, Int.reduceLT, Int.reduceLE, Int.reduceMod, Int.reducePow, Nat.reducePow, Int.reduceDiv, Nat.reduceBEq, Nat.reduceBNe, Int.reduceBEq, Int.reduceBNe, reduceCtorEq, c1, cat47, ByteArray.size_append, t3]
    and_intros <;> first | rfl | omega
set_option maxRecDepth 2000 in
theorem r2Read_V (s : ByteArray) : PCall Try.prog 14 [.raw (.string s)] (rdQ (sbL s)) := by
  refine PCall.of_vc (tabs mixed (tbl_cons rread_C (tbl_cons rof_C (tbl_cons rsign_C (tbl_cons r2Of_C tbl_nil))))) Try.func14 rfl Try.ntmps14 Try.results14 (by simp) ?_
  unfold rdQ
  have hsz := sbL_length s
  by_cases hbig : 2000 < s.size
  · have m1 : 2000 < (s.size : Int) := by omega
    rw [if_pos (by omega)]
    unfold qErr
    simp only [go_sem, List.reduceReplicate, ↓reduceIte, Nat.reduceEqDiff, Nat.reduceLT, Nat.reduceLeDiff, Nat.reduceAdd, Nat.reduceSub, Nat.reduceMul, Int.reduceToNat, Int.reduceNeg, Int.reduceAdd, Int.reduceSub, Int.reduceMul, Int.reduceLT, Int.reduceLE, Int.reduceMod, Int.reducePow, Nat.reducePow, Int.reduceDiv, Nat.reduceBEq, Nat.reduceBNe, Int.reduceBEq, Int.reduceBNe, reduceCtorEq, m1]
    exact out_P (out_In rfl) (out_In rfl)
  have m1 : ¬ 2000 < (s.size : Int) := by omega
  have m2 : s.size ≤ 2000 := by omega
  rw [if_neg (by omega)]
  obtain ⟨F, hF⟩ : ∃ F, fi (sbL s) = F := ⟨_, rfl⟩
  have hFl := fi_le (sbL s)
  obtain ⟨N, hN⟩ : ∃ N, numQ (sbL s) = N := ⟨_, rfl⟩
  obtain ⟨D, hD⟩ : ∃ D, denQ (sbL s) = D := ⟨_, rfl⟩
  have dN := rdV_dlM N
  have dD := rdV_dlM D
  rw [hN, hD]
  simp only [go_sem, List.reduceReplicate, ↓reduceIte, Nat.reduceEqDiff, Nat.reduceLT, Nat.reduceLeDiff, Nat.reduceAdd, Nat.reduceSub, Nat.reduceMul, Int.reduceToNat, Int.reduceNeg, Int.reduceAdd, Int.reduceSub, Int.reduceMul, Int.reduceLT, Int.reduceLE, Int.reduceMod, Int.reducePow, Nat.reducePow, Int.reduceDiv, Nat.reduceBEq, Nat.reduceBNe, Int.reduceBEq, Int.reduceBNe, reduceCtorEq, m1]
  refine AWp.loops (X := { k : Nat // k ≤ F }) (fun k => mkSt [(0, .raw (.string s)), (2, .ptr 0 4 0 0), (3, .raw (.int .i64 0)), (4, .raw (.int .i64 (k.1 : Nat)))] [(0, true, ⟨29, 4, [.agg [.raw (.bool false), .raw (.slice none 0 0), .raw (.bool false), .raw (.slice none 0 0)]]⟩)] 1 62)
    (fun k => F - k.1) ⟨0, Nat.zero_le _⟩ (Wk.of [0] (by decide) ?_) ?_
  · simp only [go_sem, List.reduceReplicate, ↓reduceIte, Nat.reduceEqDiff, Nat.reduceLT, Nat.reduceLeDiff, Nat.reduceAdd, Nat.reduceSub, Nat.reduceMul, Int.reduceToNat, Int.reduceNeg, Int.reduceAdd, Int.reduceSub, Int.reduceMul, Int.reduceLT, Int.reduceLE, Int.reduceMod, Int.reducePow, Nat.reducePow, Int.reduceDiv, Nat.reduceBEq, Nat.reduceBNe, Int.reduceBEq, Int.reduceBNe, reduceCtorEq]
  · rintro ⟨k, hk⟩
    refine vc_at (tabs mixed (tbl_cons rread_C (tbl_cons rof_C (tbl_cons rsign_C (tbl_cons r2Of_C tbl_nil))))) ?_
    have n1 : (k : Int) + 1 = ((k + 1 : Nat) : Int) := by omega
    have n2 : byteAt s k = (at0 (sbL s) k : Nat) := byteAt_sbL s k
    by_cases hkF : k < F
    · have c1 : (k : Int) < s.size := by omega
      have c2 : (((at0 (sbL s) k : Nat) : Int) != 47) = true := bneT (by have := fi_lt (S := sbL s) (k := k) (by omega); omega)
      simp only [go_sem, List.reduceReplicate, ↓reduceIte, Nat.reduceEqDiff, Nat.reduceLT, Nat.reduceLeDiff, Nat.reduceAdd, Nat.reduceSub, Nat.reduceMul, Int.reduceToNat, Int.reduceNeg, Int.reduceAdd, Int.reduceSub, Int.reduceMul, Int.reduceLT, Int.reduceLE, Int.reduceMod, Int.reducePow, Nat.reducePow, Int.reduceDiv, Nat.reduceBEq, Nat.reduceBNe, Int.reduceBEq, Int.reduceBNe, reduceCtorEq, n1, n2, c1, c2]
      refine ⟨by omega, by omega, ⟨k + 1, hkF⟩, Wk.of [0] (by decide) ?_, by simp only; omega⟩
      simp only [go_sem, List.reduceReplicate, ↓reduceIte, Nat.reduceEqDiff, Nat.reduceLT, Nat.reduceLeDiff, Nat.reduceAdd, Nat.reduceSub, Nat.reduceMul, Int.reduceToNat, Int.reduceNeg, Int.reduceAdd, Int.reduceSub, Int.reduceMul, Int.reduceLT, Int.reduceLE, Int.reduceMod, Int.reducePow, Nat.reducePow, Int.reduceDiv, Nat.reduceBEq, Nat.reduceBNe, Int.reduceBEq, Int.reduceBNe, reduceCtorEq]
    · obtain rfl : k = F := by omega
      have hA : sbL (s.extract 0 k) = N := by rw [← hN, ← hF]; exact sbL_cutA s
      by_cases hF2 : k < s.size
      · have c1 : (k : Int) < s.size := by omega
        have c2 : (((at0 (sbL s) k : Nat) : Int) != 47) = false := bneF (by rw [← hF, fi_at (by omega)]; rfl)
        have hB : sbL (s.extract (k + 1) s.size) = D := by
          rw [← hD, ← sbL_cutB (by omega)]
          unfold cutB
          rw [if_pos (by omega), hF]
        by_cases g1 : rdC N = 0
        · by_cases g2 : rdC D = 0
          · by_cases g3 : 0 < rdV D
            · have q3 : ¬ sgI (rdV D) ≤ 0 := fun h => (sgI_le _).1 h g3
              have q4 : ofR (rdV N) (rdV D) = .tup [.Q (Rat.divInt (rdV N) (rdV D)), .raw (.int .i64 0)] := if_neg (by omega)
              rw [if_pos ⟨g1, g2, g3⟩]
              unfold qOk
              simp only [go_sem, List.reduceReplicate, ↓reduceIte, Nat.reduceEqDiff, Nat.reduceLT, Nat.reduceLeDiff, Nat.reduceAdd, Nat.reduceSub, Nat.reduceMul, Int.reduceToNat, Int.reduceNeg, Int.reduceAdd, Int.reduceSub, Int.reduceMul, Int.reduceLT, Int.reduceLE, Int.reduceMod, Int.reducePow, Nat.reducePow, Int.reduceDiv, Nat.reduceBEq, Nat.reduceBNe, Int.reduceBEq, Int.reduceBNe, reduceCtorEq, n1, n2, c1, c2, hA, hB, g1, g2, q3, q4]
              and_intros <;> first | rfl | omega
            · have q3 : sgI (rdV D) ≤ 0 := (sgI_le _).2 g3
              rw [if_neg fun h => g3 h.2.2]
              unfold qErr
              simp only [go_sem, List.reduceReplicate, ↓reduceIte, Nat.reduceEqDiff, Nat.reduceLT, Nat.reduceLeDiff, Nat.reduceAdd, Nat.reduceSub, Nat.reduceMul, Int.reduceToNat, Int.reduceNeg, Int.reduceAdd, Int.reduceSub, Int.reduceMul, Int.reduceLT, Int.reduceLE, Int.reduceMod, Int.reducePow, Nat.reducePow, Int.reduceDiv, Nat.reduceBEq, Nat.reduceBNe, Int.reduceBEq, Int.reduceBNe, reduceCtorEq, n1, n2, c1, c2, hA, hB, g1, g2, q3]
              and_intros <;> first | rfl | omega | exact out_P (out_In rfl) (out_In rfl)
          · have q2 : (rdC D != 0) = true := bneT g2
            rw [if_neg fun h => g2 h.2.1]
            unfold qErr
            simp only [go_sem, List.reduceReplicate, ↓reduceIte, Nat.reduceEqDiff, Nat.reduceLT, Nat.reduceLeDiff, Nat.reduceAdd, Nat.reduceSub, Nat.reduceMul, Int.reduceToNat, Int.reduceNeg, Int.reduceAdd, Int.reduceSub, Int.reduceMul, Int.reduceLT, Int.reduceLE, Int.reduceMod, Int.reducePow, Nat.reducePow, Int.reduceDiv, Nat.reduceBEq, Nat.reduceBNe, Int.reduceBEq, Int.reduceBNe, reduceCtorEq, n1, n2, c1, c2, hA, hB, g1, q2]
            and_intros <;> first | rfl | omega | exact out_P (out_In rfl) (out_In rfl)
        · have q1 : (rdC N != 0) = true := bneT g1
          rw [if_neg fun h => g1 h.1]
          unfold qErr
          simp only [go_sem, List.reduceReplicate, ↓reduceIte, Nat.reduceEqDiff, Nat.reduceLT, Nat.reduceLeDiff, Nat.reduceAdd, Nat.reduceSub, Nat.reduceMul, Int.reduceToNat, Int.reduceNeg, Int.reduceAdd, Int.reduceSub, Int.reduceMul, Int.reduceLT, Int.reduceLE, Int.reduceMod, Int.reducePow, Nat.reducePow, Int.reduceDiv, Nat.reduceBEq, Nat.reduceBNe, Int.reduceBEq, Int.reduceBNe, reduceCtorEq, n1, n2, c1, c2, hA, hB, q1]
          and_intros <;> first | rfl | omega | exact out_P (out_In rfl) (out_In rfl)
      · have c1 : ¬ (k : Int) < s.size := by omega
        have hB : D = [49] := by rw [← hD]; exact denQ_miss (by omega)
        have g2 : rdC [49] = 0 := by decide
        have q5 : rdV [49] = 1 := by decide
        have q3 : ¬ sgI 1 ≤ 0 := by decide
        subst hB
        rw [g2, q5]
        by_cases g1 : rdC N = 0
        · have q4 : ofR (rdV N) 1 = .tup [.Q (Rat.divInt (rdV N) 1), .raw (.int .i64 0)] := if_neg (by decide)
          rw [if_pos ⟨g1, rfl, by decide⟩]
          unfold qOk
          have l1 := l1
          simp only [go_sem, List.reduceReplicate, ↓reduceIte, Nat.reduceEqDiff, Nat.reduceLT, Nat.reduceLeDiff, Nat.reduceAdd, Nat.reduceSub, Nat.reduceMul, Int.reduceToNat, Int.reduceNeg, Int.reduceAdd, Int.reduceSub, Int.reduceMul, Int.reduceLT, Int.reduceLE, Int.reduceMod, Int.reducePow, Nat.reducePow, Int.reduceDiv, Nat.reduceBEq, Nat.reduceBNe, Int.reduceBEq, Int.reduceBNe, reduceCtorEq, c1, hA, g1, q3, q4]
          and_intros <;> first | rfl | omega
        · have q1 : (rdC N != 0) = true := bneT g1
          rw [if_neg fun h => g1 h.1]
          unfold qErr
          simp only [go_sem, List.reduceReplicate, ↓reduceIte, Nat.reduceEqDiff, Nat.reduceLT, Nat.reduceLeDiff, Nat.reduceAdd, Nat.reduceSub, Nat.reduceMul, Int.reduceToNat, Int.reduceNeg, Int.reduceAdd, Int.reduceSub, Int.reduceMul, Int.reduceLT, Int.reduceLE, Int.reduceMod, Int.reducePow, Nat.reducePow, Int.reduceDiv, Nat.reduceBEq, Nat.reduceBNe, Int.reduceBEq, Int.reduceBNe, reduceCtorEq, c1, hA, q1]
          and_intros <;> first | rfl | omega | exact out_P (out_In rfl) (out_In rfl)
theorem r2Read_C : Ctr Try.prog 14 kQRead := Ctr.c1 rfl fun s _ => r2Read_V s
end Go.Proofs.Ytilkleibnciloaa
