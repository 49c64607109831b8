/- Texts D4 D5 in one. -/
import Derived.Test.YtilkleibnciloaaP15
/- Rows of bytes; decimal texts. -/
namespace Go.Proofs.Ytilkleibnciloaa
set_option linter.unusedSimpArgs false
set_option linter.unusedVariables false
open Go.RowKit

@[go_sem] theorem bytes_len (l : List Nat) : (V.bytes l).length = l.length := by simp [V.bytes]
theorem bytes_get {l : List Nat} {i : Nat} (h : i < l.length) : (V.bytes l)[i]? = some (.raw (.int .u8 (at0 l i))) := by
  simp [V.bytes, at0, List.getElem?_eq_getElem h]
@[go_sem ↓, go_sem] theorem ev_bytes_get {l : List Nat} {i : Nat} {k : V → Prop} : optC (V.bytes l)[i]? k = (i < l.length ∧ k (.raw (.int .u8 (at0 l i : Nat)))) := by
  by_cases h : i < l.length
  · rw [bytes_get h]; simp [optC, h]
  · have : (V.bytes l)[i]? = none := by rw [List.getElem?_eq_none]; rw [bytes_len]; omega
    rw [this]; simp [optC, h]
@[go_sem] theorem bytes_take (l : List Nat) (n : Nat) : (V.bytes l).take n = V.bytes (l.take n) := by simp [V.bytes]
@[go_sem] theorem bytes_drop (l : List Nat) (n : Nat) : (V.bytes l).drop n = V.bytes (l.drop n) := by simp [V.bytes]
@[go_sem] theorem bytes_append (l m : List Nat) : V.bytes l ++ V.bytes m = V.bytes (l ++ m) := by simp [V.bytes]
@[go_sem] theorem bytes_wid (l : List Nat) : allWid (V.bytes l) 1 = True := by
  simp only [eq_iff_iff, iff_true]
  intro y hy
  obtain ⟨x, _, rfl⟩ := List.mem_map.1 hy
  rfl
@[go_sem] theorem bytes_wid' (l : List Nat) : (∀ y ∈ V.bytes l, y.atoms.length = 1) = True := by
  simp only [eq_iff_iff, iff_true]
  intro y hy
  obtain ⟨x, _, rfl⟩ := List.mem_map.1 hy
  rfl
@[go_sem] theorem bytes_good (l : List Nat) : allGood (V.bytes l) = True := by
  simp only [eq_iff_iff, iff_true]
  intro y hy
  obtain ⟨x, _, rfl⟩ := List.mem_map.1 hy
  rfl
@[go_sem] theorem bytes_pure (l : List Nat) : allPure (V.bytes l) = True := by
  simp only [eq_iff_iff, iff_true]
  intro y hy
  obtain ⟨x, _, rfl⟩ := List.mem_map.1 hy
  rfl
theorem bytes_set {l : List Nat} {i x : Nat} {X : Int} (h : X = x) : (V.bytes l).set i (.raw (.int .u8 X)) = V.bytes (l.set i x) := by
  subst h; simp [V.bytes, List.map_set]
@[go_sem] theorem bytes_rep (n : Nat) : List.replicate n (.raw (.int .u8 0)) = V.bytes (List.replicate n 0) := by simp [V.bytes]
@[go_sem] theorem bytes_setN (l : List Nat) (i x : Nat) : (V.bytes l).set i (.raw (.int .u8 (x : Nat))) = V.bytes (l.set i x) := bytes_set rfl
theorem bytes_nil : ([] : List V) = V.bytes [] := rfl
theorem bytes_one {x : Nat} {X : Int} (h : X = x) : [V.raw (.int .u8 X)] = V.bytes [x] := by subst h; rfl
theorem byteAt_sbL (s : ByteArray) (i : Nat) : byteAt s i = (at0 (sbL s) i : Nat) := by
  unfold byteAt at0 sbL
  rw [List.getD_eq_getElem?_getD, List.getElem?_map, Array.getElem?_toList]
  cases s.data[i]? <;> rfl
theorem sbL_extract (s : ByteArray) (i j : Nat) : sbL (s.extract i j) = ((sbL s).drop i).take (j - i) := by
  unfold sbL
  have : (s.extract i j).data = s.data.extract i j := by simp
  rw [this, Array.toList_extract, List.map_take, List.map_drop]
theorem sbL_mkB {l : List Nat} (h : ∀ x ∈ l, x < 256) : sbL (mkB l) = l := by
  unfold sbL mkB
  show List.map UInt8.toNat (List.map UInt8.ofNat l) = l
  rw [List.map_map]
  conv => rhs; rw [← List.map_id l]
  refine List.map_congr_left fun x hx => ?_
  have := h x hx
  simp; omega
theorem sbL_lt (s : ByteArray) : ∀ x ∈ sbL s, x < 256 := by
  intro x hx
  obtain ⟨y, _, rfl⟩ := List.mem_map.1 hx
  exact y.toNat_lt
theorem mkB_inj {l m : List Nat} (hl : ∀ x ∈ l, x < 256) (hm : ∀ x ∈ m, x < 256) (h : mkB l = mkB m) : l = m := by
  rw [← sbL_mkB hl, h, sbL_mkB hm]
theorem sbL_inj {s t : ByteArray} (h : sbL s = sbL t) : s = t := by rw [← mkS_sbL s, h, mkS_sbL]

/-- The decimal digits of a number (none for 0). -/
def dcs : Nat → Nat → List Nat
  | 0, _ => []
  | f + 1, n => if n = 0 then [] else dcs f (n / 10) ++ [48 + n % 10]
def dcm (n : Nat) : List Nat := dcs n n
/-- The text of an integer. -/
def txN (z : Int) : List Nat := if z = 0 then [48] else if z < 0 then 45 :: dcm z.natAbs else dcm z.natAbs
theorem dcs_fuel : ∀ (f g n : Nat), n ≤ f → n ≤ g → dcs f n = dcs g n := by
  intro f
  induction f with
  | zero => intro g n h _; obtain rfl : n = 0 := by omega
            cases g <;> simp [dcs]
  | succ f ih =>
    intro g n h1 h2
    cases g with
    | zero => obtain rfl : n = 0 := by omega
              simp [dcs]
    | succ g =>
      unfold dcs
      by_cases h : n = 0
      · rw [if_pos h, if_pos h]
      · rw [if_neg h, if_neg h, ih g (n / 10) (by omega) (by omega)]
theorem dcm_zero : dcm 0 = [] := rfl
theorem dcm_step {n : Nat} (h : n ≠ 0) : dcm n = dcm (n / 10) ++ [48 + n % 10] := by
  obtain ⟨m, rfl⟩ : ∃ m, n = m + 1 := ⟨n - 1, by omega⟩
  show dcs (m + 1) (m + 1) = _
  rw [dcs, if_neg h]
  unfold dcm
  rw [dcs_fuel m ((m + 1) / 10) _ (by omega) (Nat.le_refl _)]
theorem dcm_len : ∀ (k n : Nat), n < 10 ^ k → (dcm n).length ≤ k := by
  intro k
  induction k with
  | zero => intro n h; obtain rfl : n = 0 := by simpa using h
            simp [dcm_zero]
  | succ k ih =>
    intro n h
    by_cases h0 : n = 0
    · subst h0; simp [dcm_zero]
    · rw [dcm_step h0, List.length_append]
      have := ih (n / 10) (by rw [Nat.pow_succ] at h; omega)
      simp; exact this
theorem dcm_pos {n : Nat} (h : n ≠ 0) : 1 ≤ (dcm n).length := by
  rw [dcm_step h, List.length_append]; simp
theorem dcm_len_lv {l : List Nat} (h : Lim l) : (dcm (lv l)).length ≤ 10 * l.length := by
  apply dcm_len
  have h1 := lv_lt h
  have h2 : (10 : Nat) ^ (10 * l.length) = (10 ^ 10) ^ l.length := Nat.pow_mul 10 10 _
  have h3 : (4294967296 : Nat) ^ l.length ≤ (10 ^ 10) ^ l.length := Nat.pow_le_pow_left (by decide) _
  omega
/-- A digit more. -/
theorem dcm_more {T a x : Nat} {Z L : List Nat} (hT : T ≠ 0) (h : Z = dcm T ++ L.drop (a + 1)) (hx : x = T % 10) (ha : a < L.length) : Z = dcm (T / 10) ++ (L.set a (48 + x)).drop a := by
  have e : (L.set a (48 + x)).drop a = (48 + x) :: L.drop (a + 1) := by
    apply List.ext_getElem?
    intro i
    rw [List.getElem?_drop]
    cases i with
    | zero => rw [Nat.add_zero, List.getElem?_set_self ha]; rfl
    | succ i => rw [List.getElem?_set_ne (by omega), List.getElem?_cons_succ, List.getElem?_drop]; congr 1; omega
  rw [e, h, dcm_step hT, hx, List.append_assoc]; rfl
theorem dcm_lt (n : Nat) : ∀ x ∈ dcm n, 48 ≤ x ∧ x ≤ 57 := by
  induction n using Nat.strongRecOn with
  | ind n ih =>
    intro x hx
    by_cases h : n = 0
    · subst h; simp [dcm_zero] at hx
    · rw [dcm_step h, List.mem_append] at hx
      rcases hx with hx | hx
      · exact ih (n / 10) (by omega) x hx
      · simp at hx; omega
theorem txN_sv {s : Bool} {l : List Nat} (hl : Canon l) (h0 : l ≠ []) : txN (sv s l) = (if s = true then [45] else []) ++ dcm (lv l) := by
  have hp := lv_pos hl h0
  unfold txN
  rw [sv_natAbs]
  cases s
  · rw [sv_false, if_neg (by omega), if_neg (by omega)]; rfl
  · rw [sv_true, if_neg (by omega), if_pos (by omega)]; rfl
/- reading -/
def vl10 (l : List Nat) : Nat := l.foldl (fun a c => a * 10 + (c - 48)) 0
def isDg (c : Nat) : Bool := decide (48 ≤ c ∧ c ≤ 57)
def dgsL (l : List Nat) : Bool := l.all isDg
theorem vl10_take (l : List Nat) (i : Nat) (h : i < l.length) : vl10 (l.take (i + 1)) = vl10 (l.take i) * 10 + (at0 l i - 48) := by
  rw [List.take_succ_eq_append_getElem h]
  unfold vl10 at0
  rw [List.foldl_append, List.getD_eq_getElem?_getD, List.getElem?_eq_getElem h]; rfl
theorem dgsL_take (l : List Nat) (i : Nat) (h : i < l.length) : dgsL (l.take (i + 1)) = (dgsL (l.take i) && decide (48 ≤ at0 l i ∧ at0 l i ≤ 57)) := by
  rw [List.take_succ_eq_append_getElem h]
  unfold dgsL at0 isDg
  rw [List.all_append, List.getD_eq_getElem?_getD, List.getElem?_eq_getElem h]; simp
theorem dgsL_bad (l : List Nat) (i : Nat) (h : i < l.length) (hb : ¬ (48 ≤ at0 l i ∧ at0 l i ≤ 57)) : dgsL l = false := by
  have := dgsL_take l i h
  rw [show decide (48 ≤ at0 l i ∧ at0 l i ≤ 57) = false from by simpa using hb, Bool.and_false] at this
  have e : dgsL l = (dgsL (l.take (i + 1)) && dgsL (l.drop (i + 1))) := by unfold dgsL; rw [← List.all_append, List.take_append_drop]
  rw [e, this]; rfl
theorem vl10_lt (l : List Nat) (h : dgsL l = true) : vl10 l < 10 ^ l.length := by
  have key : ∀ (l : List Nat) (a : Nat), dgsL l = true → l.foldl (fun a c => a * 10 + (c - 48)) a < (a + 1) * 10 ^ l.length := by
    intro l
    induction l with
    | nil => intro a _; simp
    | cons c l ih =>
      intro a hd
      unfold dgsL at hd
      rw [List.all_cons, Bool.and_eq_true] at hd
      have hc := hd.1
      unfold isDg at hc
      simp only [decide_eq_true_eq] at hc
      rw [List.foldl_cons, List.length_cons, Nat.pow_succ]
      have := ih (a * 10 + (c - 48)) hd.2
      have h2 : (a * 10 + (c - 48) + 1) * 10 ^ l.length ≤ (a + 1) * 10 * 10 ^ l.length := Nat.mul_le_mul_right _ (by omega)
      rw [Nat.mul_comm (10 ^ l.length) 10, ← Nat.mul_assoc]
      omega
  have := key l 0 h
  simpa [vl10] using this
/-- What Read gives. -/
def rdD (S : List Nat) : List Nat := if at0 S 0 = 45 then S.drop 1 else S
def rdV (S : List Nat) : Int := if S.length ≤ 2000 ∧ rdD S ≠ [] ∧ (at0 (rdD S) 0 = 48 → S = [48]) ∧ dgsL (rdD S) = true then sgn (decide (at0 S 0 = 45)) (vl10 (rdD S)) else 0
def rdC (S : List Nat) : Int := if 2000 < S.length then 2 else if rdD S ≠ [] ∧ (at0 (rdD S) 0 = 48 → S = [48]) ∧ dgsL (rdD S) = true then 0 else 4
end Go.Proofs.Ytilkleibnciloaa

/- Contracts: Text. -/
namespace Go.Proofs.Ytilkleibnciloaa
set_option linter.unusedSimpArgs false
set_option linter.unusedVariables false
open Go.RowKit

theorem split9 (T n : Nat) (hn : n ≤ 9) : T / 10 ^ n = T / 1000000000 * 10 ^ (9 - n) + T % 1000000000 / 10 ^ n := by
  have e : 1000000000 = 10 ^ n * 10 ^ (9 - n) := by rw [← Nat.pow_add, show n + (9 - n) = 9 from by omega]
  have h : T = 10 ^ n * (T / 1000000000 * 10 ^ (9 - n)) + T % 1000000000 := by
    rw [Nat.mul_left_comm, ← e, Nat.mul_comm]
    exact (Nat.div_add_mod T 1000000000).symm
  conv => lhs; rw [h]
  rw [Nat.mul_add_div (Nat.pow_pos (by decide))]
theorem digit9 (T n : Nat) (hn : n < 9) : T % 1000000000 / 10 ^ n % 10 = T / 10 ^ n % 10 := by
  have h := split9 T n (by omega)
  have e : 10 ^ (9 - n) = 10 ^ (8 - n) * 10 := by rw [← Nat.pow_succ]; congr 1; omega
  rw [e, ← Nat.mul_assoc] at h
  omega
theorem sum_zero9 {a p D : Nat} (hp : 0 < p) (h : 0 = a * p + D) : a = 0 ∧ D = 0 := by
  have h1 : a * p = 0 := by omega
  rcases Nat.mul_eq_zero.1 h1 with h2 | h2 <;> omega
theorem cast9 {D : Nat} (h : D < 1000000000) : 0 ≤ (D : Int) ∧ (D : Int) ≤ 4294967295 ∧ (48 + (D : Int) % 10) % 4294967296 % 256 = ((48 + D % 10 : Nat) : Int) := by omega
theorem next9 (T n : Nat) : T % 1000000000 / 10 ^ n / 10 = T % 1000000000 / 10 ^ (n + 1) := by rw [Nat.div_div_eq_div_mul, Nat.pow_succ]
theorem nextT (T n : Nat) : T / 10 ^ n / 10 = T / 10 ^ (n + 1) := by rw [Nat.div_div_eq_div_mul, Nat.pow_succ]
set_option maxRecDepth 2000 in
theorem text_V (x : Int) (hx : dl x.natAbs ≤ 1000000000) :
    PCall Try.prog 54 [.I x] (.raw (.string (mkB (txN x)))) := by
  obtain ⟨s, l, hz, hl, hs, e1, e2, e3⟩ := sv_open x
  refine PCall.of_vc (tabs mixed (tbl_cons short_C (tbl_cons norm_C tbl_nil))) Try.func54 rfl Try.ntmps54 Try.results54 (by simp) ?_
  by_cases h0 : l = []
  · have hx0 : x = 0 := by rw [hz]; exact (sv_zero hl).2 h0
    subst h0 hx0
    simp only [go_sem, List.reduceReplicate, ↓reduceIte, Nat.reduceEqDiff, Nat.reduceLT, Nat.reduceLeDiff, Nat.reduceAdd, Nat.reduceSub, Nat.reduceMul, Int.reduceToNat, Int.reduceNeg, Int.reduceAdd, Int.reduceSub, Int.reduceMul, Int.reduceLT, Int.reduceLE, Int.reduceMod, Int.reducePow, Nat.reducePow, Int.reduceDiv, Nat.reduceBEq, Nat.reduceBNe, Int.reduceBEq, Int.reduceBNe, reduceCtorEq, e1]
    exact .refl _
  · have hp : 0 < l.length := List.length_pos_iff.2 h0
    have c0 : ((l.length : Int) == 0) = false := by simp; omega
    have a1 : 10 * (l.length : Int) + 10 = ((10 * l.length + 10 : Nat) : Int) := by omega
    simp only [go_sem, List.reduceReplicate, ↓reduceIte, Nat.reduceEqDiff, Nat.reduceLT, Nat.reduceLeDiff, Nat.reduceAdd, Nat.reduceSub, Nat.reduceMul, Int.reduceToNat, Int.reduceNeg, Int.reduceAdd, Int.reduceSub, Int.reduceMul, Int.reduceLT, Int.reduceLE, Int.reduceMod, Int.reducePow, Nat.reducePow, Int.reduceDiv, Nat.reduceBEq, Nat.reduceBNe, Int.reduceBEq, Int.reduceBNe, reduceCtorEq, e1, e2, c0, a1]
    refine ⟨by omega, by omega, by omega, ?_⟩
    obtain ⟨B, hB⟩ : ∃ B, B = 10 * l.length + 10 := ⟨_, rfl⟩
    obtain ⟨Z, hZ⟩ : ∃ Z, Z = lv l := ⟨_, rfl⟩
    have hdl := dcm_len_lv hl.1
    have hZ0 := lv_pos hl h0
    rw [← hZ] at hdl hZ0
    rw [← hB]
    refine AWp.loops (X := { a : Nat × Nat × List Nat // a.1 ≤ Z ∧ dcm Z = dcm a.1 ++ a.2.2.drop a.2.1 ∧ a.2.2.length = B ∧ a.2.1 ≤ B })
      (fun a => mkSt [(1, .ptr 0 2 0 0), (3, .sl 1 1 0 B), (4, .raw (.int .i64 (a.1.2.1 : Nat))), (5, .lst (V.limbs (dg a.1.1)))]
        [(0, true, ⟨27, 2, [.I x]⟩), (1, true, ⟨5, 1, V.bytes a.1.2.2⟩)] 2 69)
      (fun a => a.1.1) ⟨(Z, B, List.replicate B 0), Nat.le_refl _, by simp, by simp, Nat.le_refl _⟩ (Wk.of [0, 11] (by decide) ?_) ?_
    · rw [hZ, ← dg_of_canon hl rfl]
      simp only [go_sem, List.reduceReplicate, ↓reduceIte, Nat.reduceEqDiff, Nat.reduceLT, Nat.reduceLeDiff, Nat.reduceAdd, Nat.reduceSub, Nat.reduceMul, Int.reduceToNat, Int.reduceNeg, Int.reduceAdd, Int.reduceSub, Int.reduceMul, Int.reduceLT, Int.reduceLE, Int.reduceMod, Int.reducePow, Nat.reducePow, Int.reduceDiv, Nat.reduceBEq, Nat.reduceBNe, Int.reduceBEq, Int.reduceBNe, reduceCtorEq]
    · rintro ⟨⟨T, i, buf⟩, hT, hd, hbl, hi⟩
      simp only at hT hd hbl hi
      refine vc_at (tabs mixed (tbl_cons short_C (tbl_cons norm_C tbl_nil))) ?_
      have hlen : (dcm Z).length = (dcm T).length + (B - i) := by rw [hd, List.length_append, List.length_drop, hbl]
      by_cases hT0 : T = 0
      · subst hT0
        have hi10 : 10 ≤ i := by rw [dcm_zero] at hlen; simp at hlen; omega
        rw [dcm_zero, List.nil_append] at hd
        have b1 : (i : Int) - 1 = ((i - 1 : Nat) : Int) := by omega
        have hx : txN x = (if s = true then [45] else []) ++ dcm Z := by rw [hz, hZ]; exact txN_sv hl h0
        have hiB : i < B := by
          have := dcm_pos (n := Z) (by omega)
          rw [dcm_zero] at hlen; simp at hlen; omega
        cases s
        · have g2 : i + (B - i) ≤ B := by omega
          simp only [go_sem, List.reduceReplicate, ↓reduceIte, Nat.reduceEqDiff, Nat.reduceLT, Nat.reduceLeDiff, Nat.reduceAdd, Nat.reduceSub, Nat.reduceMul, Int.reduceToNat, Int.reduceNeg, Int.reduceAdd, Int.reduceSub, Int.reduceMul, Int.reduceLT, Int.reduceLE, Int.reduceMod, Int.reducePow, Nat.reducePow, Int.reduceDiv, Nat.reduceBEq, Nat.reduceBNe, Int.reduceBEq, Int.reduceBNe, reduceCtorEq, e2, dg_zero, hbl, hiB, g2]
          refine ⟨by omega, ?_⟩
          rw [hx, List.take_of_length_le (by rw [List.length_drop]; omega), ← hd]
          exact .refl _
        · have g1 : i - 1 < B := by omega
          have g2 : i - 1 + (B - (i - 1)) ≤ B := by omega
          have g3 : (V.bytes buf).set (i - 1) (V.raw (Value.int IntKind.u8 45)) = V.bytes (buf.set (i - 1) 45) := bytes_set rfl
          simp only [go_sem, List.reduceReplicate, ↓reduceIte, Nat.reduceEqDiff, Nat.reduceLT, Nat.reduceLeDiff, Nat.reduceAdd, Nat.reduceSub, Nat.reduceMul, Int.reduceToNat, Int.reduceNeg, Int.reduceAdd, Int.reduceSub, Int.reduceMul, Int.reduceLT, Int.reduceLE, Int.reduceMod, Int.reducePow, Nat.reducePow, Int.reduceDiv, Nat.reduceBEq, Nat.reduceBNe, Int.reduceBEq, Int.reduceBNe, reduceCtorEq, e2, dg_zero, b1, hbl, g1, g2, g3, List.length_set]
          refine ⟨by omega, by omega, by omega, ?_⟩
          have e : (buf.set (i - 1) 45).drop (i - 1) = 45 :: buf.drop i := by
            have h1 : i - 1 < (buf.set (i - 1) 45).length := by rw [List.length_set]; omega
            rw [List.drop_eq_getElem_cons h1, List.getElem_set_self, List.drop_set_of_lt (by omega), show i - 1 + 1 = i from by omega]
          rw [hx, List.take_of_length_le (by rw [List.length_drop, List.length_set]; omega), e, ← hd]
          exact .refl _
      · have c1 : 0 < (((dg T).length : Nat) : Int) := by
          have := dl_eq_zero (n := T)
          unfold dl at this
          omega
        have s1 : sv false (nl (dg T).length (T / 1000000000)) = ((T / 1000000000 : Nat) : Int) := by
          rw [sv_false, lv_nl]
          exact Nat.lt_of_le_of_lt (Nat.div_le_self _ _) (by have := lt_pow_dl T; exact this)
        simp only [go_sem, List.reduceReplicate, ↓reduceIte, Nat.reduceEqDiff, Nat.reduceLT, Nat.reduceLeDiff, Nat.reduceAdd, Nat.reduceSub, Nat.reduceMul, Int.reduceToNat, Int.reduceNeg, Int.reduceAdd, Int.reduceSub, Int.reduceMul, Int.reduceLT, Int.reduceLE, Int.reduceMod, Int.reducePow, Nat.reducePow, Int.reduceDiv, Nat.reduceBEq, Nat.reduceBNe, Int.reduceBEq, Int.reduceBNe, reduceCtorEq, c1, lv_dg, s1, Int.natAbs_natCast]
        have hdT : dl T ≤ 1000000000 := Nat.le_trans (dl_mono hT) (by rw [hZ]; exact Nat.le_trans (dl_le_of_lim hl.1) (by omega))
        refine ⟨⟨dg_lim _, ?_⟩, ⟨nl_lim _ _, ?_⟩, ?_⟩
        · show dl T ≤ _
          omega
        · rw [nl_length]; show dl T ≤ _; omega
        refine AWp.loops (X := { a : Nat × Nat × List Nat // a.1 ≤ 9 ∧ dcm Z = dcm (T / 10 ^ a.1) ++ a.2.2.drop a.2.1 ∧ a.2.2.length = B ∧ a.2.1 ≤ B })
          (fun a => mkSt [(1, .ptr 0 2 0 0), (3, .sl 1 1 0 B), (4, .raw (.int .i64 (a.1.2.1 : Nat))), (5, .lst (V.limbs (dg (T / 1000000000)))), (7, .raw (.int .u32 (T % 1000000000 / 10 ^ a.1.1 : Nat))), (8, .raw (.int .i64 (a.1.1 : Nat)))]
            [(0, true, ⟨27, 2, [.I x]⟩), (1, true, ⟨5, 1, V.bytes a.1.2.2⟩)] 2 69)
          (fun a => 9 - a.1.1) ⟨(0, i, buf), by simp, by simpa using hd, hbl, hi⟩ (Wk.of [0, 1] (by decide) ?_) ?_
        · simp only [go_sem, List.reduceReplicate, ↓reduceIte, Nat.reduceEqDiff, Nat.reduceLT, Nat.reduceLeDiff, Nat.reduceAdd, Nat.reduceSub, Nat.reduceMul, Int.reduceToNat, Int.reduceNeg, Int.reduceAdd, Int.reduceSub, Int.reduceMul, Int.reduceLT, Int.reduceLE, Int.reduceMod, Int.reducePow, Nat.reducePow, Int.reduceDiv, Nat.reduceBEq, Nat.reduceBNe, Int.reduceBEq, Int.reduceBNe, reduceCtorEq, Nat.pow_zero, Nat.div_one]
        · rintro ⟨⟨n, j, buf'⟩, hn, hd', hbl', hj⟩
          simp only at hn hd' hbl' hj
          refine vc_at (tabs mixed (tbl_cons short_C (tbl_cons norm_C tbl_nil))) ?_
          have hlen' : (dcm Z).length = (dcm (T / 10 ^ n)).length + (B - j) := by rw [hd', List.length_append, List.length_drop, hbl']
          have n1 : (n : Int) + 1 = ((n + 1 : Nat) : Int) := by omega
          have n2 : (j : Int) - 1 = ((j - 1 : Nat) : Int) := by omega
          by_cases hn9 : n < 9
          · have c2 : (n : Int) < 9 := by omega
            have hsp := split9 T n hn
            have hdlt : T % 1000000000 / 10 ^ n < 1000000000 := Nat.lt_of_le_of_lt (Nat.div_le_self _ _) (Nat.mod_lt _ (by decide))
            have hmx : IntKind.u32.max = 4294967295 := by decide
            by_cases hz0 : T / 10 ^ n = 0
            · obtain ⟨q0, d0⟩ := sum_zero9 (p := 10 ^ (9 - n)) (Nat.pow_pos (by decide)) (by rw [← hsp, hz0])
              simp only [go_sem, List.reduceReplicate, ↓reduceIte, Nat.reduceEqDiff, Nat.reduceLT, Nat.reduceLeDiff, Nat.reduceAdd, Nat.reduceSub, Nat.reduceMul, Int.reduceToNat, Int.reduceNeg, Int.reduceAdd, Int.reduceSub, Int.reduceMul, Int.reduceLT, Int.reduceLE, Int.reduceMod, Int.reducePow, Nat.reducePow, Int.reduceDiv, Nat.reduceBEq, Nat.reduceBNe, Int.reduceBEq, Int.reduceBNe, reduceCtorEq, c2, q0, d0, dg_zero]
              refine ⟨⟨(0, j, buf'), Nat.zero_le _, by simpa [hz0] using hd', hbl', hj⟩, Wk.of [0, 1] (by decide) ?_, by simp only; omega⟩
              simp only [go_sem, List.reduceReplicate, ↓reduceIte, Nat.reduceEqDiff, Nat.reduceLT, Nat.reduceLeDiff, Nat.reduceAdd, Nat.reduceSub, Nat.reduceMul, Int.reduceToNat, Int.reduceNeg, Int.reduceAdd, Int.reduceSub, Int.reduceMul, Int.reduceLT, Int.reduceLE, Int.reduceMod, Int.reducePow, Nat.reducePow, Int.reduceDiv, Nat.reduceBEq, Nat.reduceBNe, Int.reduceBEq, Int.reduceBNe, reduceCtorEq, dg_zero]
            · have hl1 := dcm_pos hz0
              have hj1 : j - 1 < buf'.length := by omega
              obtain ⟨d1, d2, dig⟩ := cast9 hdlt
              have nx : ((T % 1000000000 / 10 ^ n : Nat) : Int) / 10 = ((T % 1000000000 / 10 ^ (n + 1) : Nat) : Int) := by rw [← next9]; rfl
              have hfin : dcm Z = dcm (T / 10 ^ (n + 1)) ++ (buf'.set (j - 1) (48 + T % 1000000000 / 10 ^ n % 10)).drop (j - 1) := by
                rw [← nextT]
                exact dcm_more hz0 (by rw [hd', show j - 1 + 1 = j from by omega]) (digit9 T n hn9) hj1
              by_cases hq : T / 1000000000 = 0
              · have d0 : 0 < ((T % 1000000000 / 10 ^ n : Nat) : Int) := Int.natCast_pos.2 (Nat.pos_of_ne_zero fun h => hz0 (by rw [hsp, hq, h]; simp))
                simp only [go_sem, List.reduceReplicate, ↓reduceIte, Nat.reduceEqDiff, Nat.reduceLT, Nat.reduceLeDiff, Nat.reduceAdd, Nat.reduceSub, Nat.reduceMul, Int.reduceToNat, Int.reduceNeg, Int.reduceAdd, Int.reduceSub, Int.reduceMul, Int.reduceLT, Int.reduceLE, Int.reduceMod, Int.reducePow, Nat.reducePow, Int.reduceDiv, Nat.reduceBEq, Nat.reduceBNe, Int.reduceBEq, Int.reduceBNe, reduceCtorEq, c2, n1, n2, hq, dg_zero, d0, d1, d2, dig, nx, hmx]
                and_intros
                any_goals omega
                refine ⟨⟨(n + 1, j - 1, buf'.set (j - 1) (48 + T % 1000000000 / 10 ^ n % 10)), hn9, hfin, by simpa using hbl', by simp only; omega⟩, Wk.of [0, 1] (by decide) ?_, by simp only; omega⟩
                simp only [go_sem, List.reduceReplicate, ↓reduceIte, Nat.reduceEqDiff, Nat.reduceLT, Nat.reduceLeDiff, Nat.reduceAdd, Nat.reduceSub, Nat.reduceMul, Int.reduceToNat, Int.reduceNeg, Int.reduceAdd, Int.reduceSub, Int.reduceMul, Int.reduceLT, Int.reduceLE, Int.reduceMod, Int.reducePow, Nat.reducePow, Int.reduceDiv, Nat.reduceBEq, Nat.reduceBNe, Int.reduceBEq, Int.reduceBNe, reduceCtorEq, dg_zero, hq]
              · have c3 : 0 < (((dg (T / 1000000000)).length : Nat) : Int) := by
                  have := dl_eq_zero (n := T / 1000000000)
                  unfold dl at this
                  omega
                simp only [go_sem, List.reduceReplicate, ↓reduceIte, Nat.reduceEqDiff, Nat.reduceLT, Nat.reduceLeDiff, Nat.reduceAdd, Nat.reduceSub, Nat.reduceMul, Int.reduceToNat, Int.reduceNeg, Int.reduceAdd, Int.reduceSub, Int.reduceMul, Int.reduceLT, Int.reduceLE, Int.reduceMod, Int.reducePow, Nat.reducePow, Int.reduceDiv, Nat.reduceBEq, Nat.reduceBNe, Int.reduceBEq, Int.reduceBNe, reduceCtorEq, c2, n1, n2, c3, d1, d2, dig, nx, hmx]
                and_intros
                any_goals omega
                refine ⟨⟨(n + 1, j - 1, buf'.set (j - 1) (48 + T % 1000000000 / 10 ^ n % 10)), hn9, hfin, by simpa using hbl', by simp only; omega⟩, Wk.of [0, 1] (by decide) ?_, by simp only; omega⟩
                simp only [go_sem, List.reduceReplicate, ↓reduceIte, Nat.reduceEqDiff, Nat.reduceLT, Nat.reduceLeDiff, Nat.reduceAdd, Nat.reduceSub, Nat.reduceMul, Int.reduceToNat, Int.reduceNeg, Int.reduceAdd, Int.reduceSub, Int.reduceMul, Int.reduceLT, Int.reduceLE, Int.reduceMod, Int.reducePow, Nat.reducePow, Int.reduceDiv, Nat.reduceBEq, Nat.reduceBNe, Int.reduceBEq, Int.reduceBNe, reduceCtorEq]
          · have c2 : ¬ (n : Int) < 9 := by omega
            obtain rfl : n = 9 := by omega
            simp only [go_sem, List.reduceReplicate, ↓reduceIte, Nat.reduceEqDiff, Nat.reduceLT, Nat.reduceLeDiff, Nat.reduceAdd, Nat.reduceSub, Nat.reduceMul, Int.reduceToNat, Int.reduceNeg, Int.reduceAdd, Int.reduceSub, Int.reduceMul, Int.reduceLT, Int.reduceLE, Int.reduceMod, Int.reducePow, Nat.reducePow, Int.reduceDiv, Nat.reduceBEq, Nat.reduceBNe, Int.reduceBEq, Int.reduceBNe, reduceCtorEq, c2]
            refine ⟨⟨(T / 1000000000, j, buf'), Nat.le_trans (Nat.div_le_self _ _) hT, hd', hbl', hj⟩, Wk.of [0, 1] (by decide) ?_, by simp only; omega⟩
            simp only [go_sem, List.reduceReplicate, ↓reduceIte, Nat.reduceEqDiff, Nat.reduceLT, Nat.reduceLeDiff, Nat.reduceAdd, Nat.reduceSub, Nat.reduceMul, Int.reduceToNat, Int.reduceNeg, Int.reduceAdd, Int.reduceSub, Int.reduceMul, Int.reduceLT, Int.reduceLE, Int.reduceMod, Int.reducePow, Nat.reducePow, Int.reduceDiv, Nat.reduceBEq, Nat.reduceBNe, Int.reduceBEq, Int.reduceBNe, reduceCtorEq]
def kText : Con := con1 pI fun x => (dl x.natAbs ≤ 1000000000, .raw (.string (mkB (txN x))))
attribute [go_sem ↓, go_sem] kText
theorem text_C : Ctr Try.prog 54 kText := Ctr.c1 rfl fun x h => text_V x h
end Go.Proofs.Ytilkleibnciloaa
