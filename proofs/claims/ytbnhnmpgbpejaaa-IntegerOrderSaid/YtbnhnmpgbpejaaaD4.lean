/- Rows of bytes; decimal texts. -/
import Derived.Test.YtbnhnmpgbpejaaaD3
namespace Go.Proofs.Ytbnhnmpgbpejaaa
set_option linter.unusedSimpArgs false
set_option linter.unusedVariables false
open Go.RowKit

@[go_sem] theorem bytes_len (l : List Nat) : (V.bytes l).length = l.length := by simp [V.bytes]
theorem bytes_get {l : List Nat} {i : Nat} (h : i < l.length) : (V.bytes l)[i]? = some (.raw (.int .u8 (at0 l i))) := by
  simp [V.bytes, at0, List.getElem?_eq_getElem h]
@[go_sem ↓, go_sem] theorem ev_bytes_get {l : List Nat} {i : Nat} {k : V → Prop} : optC (V.bytes l)[i]? k = (i < l.length ∧ k (.raw (.int .u8 (at0 l i : Nat)))) := by
  by_cases h : i < l.length
  · rw [bytes_get h]; simp [optC, h]
  · have : (V.bytes l)[i]? = none := by rw [List.getElem?_eq_none]; rw [bytes_len]; omega
    rw [this]; simp [optC, h]
@[go_sem] theorem bytes_take (l : List Nat) (n : Nat) : (V.bytes l).take n = V.bytes (l.take n) := by simp [V.bytes]
@[go_sem] theorem bytes_drop (l : List Nat) (n : Nat) : (V.bytes l).drop n = V.bytes (l.drop n) := by simp [V.bytes]
@[go_sem] theorem bytes_append (l m : List Nat) : V.bytes l ++ V.bytes m = V.bytes (l ++ m) := by simp [V.bytes]
@[go_sem] theorem bytes_wid (l : List Nat) : allWid (V.bytes l) 1 = True := by
  simp only [eq_iff_iff, iff_true]
  intro y hy
  obtain ⟨x, _, rfl⟩ := List.mem_map.1 hy
  rfl
@[go_sem] theorem bytes_wid' (l : List Nat) : (∀ y ∈ V.bytes l, y.atoms.length = 1) = True := by
  simp only [eq_iff_iff, iff_true]
  intro y hy
  obtain ⟨x, _, rfl⟩ := List.mem_map.1 hy
  rfl
@[go_sem] theorem bytes_good (l : List Nat) : allGood (V.bytes l) = True := by
  simp only [eq_iff_iff, iff_true]
  intro y hy
  obtain ⟨x, _, rfl⟩ := List.mem_map.1 hy
  rfl
@[go_sem] theorem bytes_pure (l : List Nat) : allPure (V.bytes l) = True := by
  simp only [eq_iff_iff, iff_true]
  intro y hy
  obtain ⟨x, _, rfl⟩ := List.mem_map.1 hy
  rfl
theorem bytes_set {l : List Nat} {i x : Nat} {X : Int} (h : X = x) : (V.bytes l).set i (.raw (.int .u8 X)) = V.bytes (l.set i x) := by
  subst h; simp [V.bytes, List.map_set]
@[go_sem] theorem bytes_rep (n : Nat) : List.replicate n (.raw (.int .u8 0)) = V.bytes (List.replicate n 0) := by simp [V.bytes]
@[go_sem] theorem bytes_setN (l : List Nat) (i x : Nat) : (V.bytes l).set i (.raw (.int .u8 (x : Nat))) = V.bytes (l.set i x) := bytes_set rfl
theorem bytes_nil : ([] : List V) = V.bytes [] := rfl
theorem bytes_one {x : Nat} {X : Int} (h : X = x) : [V.raw (.int .u8 X)] = V.bytes [x] := by subst h; rfl
theorem byteAt_sbL (s : ByteArray) (i : Nat) : byteAt s i = (at0 (sbL s) i : Nat) := by
  unfold byteAt at0 sbL
  rw [List.getD_eq_getElem?_getD, List.getElem?_map, Array.getElem?_toList]
  cases s.data[i]? <;> rfl
theorem sbL_extract (s : ByteArray) (i j : Nat) : sbL (s.extract i j) = ((sbL s).drop i).take (j - i) := by
  unfold sbL
  have : (s.extract i j).data = s.data.extract i j := by simp
  rw [this, Array.toList_extract, List.map_take, List.map_drop]
theorem sbL_mkB {l : List Nat} (h : ∀ x ∈ l, x < 256) : sbL (mkB l) = l := by
  unfold sbL mkB
  show List.map UInt8.toNat (List.map UInt8.ofNat l) = l
  rw [List.map_map]
  conv => rhs; rw [← List.map_id l]
  refine List.map_congr_left fun x hx => ?_
  have := h x hx
  simp; omega
theorem sbL_lt (s : ByteArray) : ∀ x ∈ sbL s, x < 256 := by
  intro x hx
  obtain ⟨y, _, rfl⟩ := List.mem_map.1 hx
  exact y.toNat_lt
theorem mkB_inj {l m : List Nat} (hl : ∀ x ∈ l, x < 256) (hm : ∀ x ∈ m, x < 256) (h : mkB l = mkB m) : l = m := by
  rw [← sbL_mkB hl, h, sbL_mkB hm]
theorem sbL_inj {s t : ByteArray} (h : sbL s = sbL t) : s = t := by rw [← mkS_sbL s, h, mkS_sbL]

/-- The decimal digits of a number (none for 0). -/
def dcs : Nat → Nat → List Nat
  | 0, _ => []
  | f + 1, n => if n = 0 then [] else dcs f (n / 10) ++ [48 + n % 10]
def dcm (n : Nat) : List Nat := dcs n n
/-- The text of an integer. -/
def txN (z : Int) : List Nat := if z = 0 then [48] else if z < 0 then 45 :: dcm z.natAbs else dcm z.natAbs
theorem dcs_fuel : ∀ (f g n : Nat), n ≤ f → n ≤ g → dcs f n = dcs g n := by
  intro f
  induction f with
  | zero => intro g n h _; obtain rfl : n = 0 := by omega
            cases g <;> simp [dcs]
  | succ f ih =>
    intro g n h1 h2
    cases g with
    | zero => obtain rfl : n = 0 := by omega
              simp [dcs]
    | succ g =>
      unfold dcs
      by_cases h : n = 0
      · rw [if_pos h, if_pos h]
      · rw [if_neg h, if_neg h, ih g (n / 10) (by omega) (by omega)]
theorem dcm_zero : dcm 0 = [] := rfl
theorem dcm_step {n : Nat} (h : n ≠ 0) : dcm n = dcm (n / 10) ++ [48 + n % 10] := by
  obtain ⟨m, rfl⟩ : ∃ m, n = m + 1 := ⟨n - 1, by omega⟩
  show dcs (m + 1) (m + 1) = _
  rw [dcs, if_neg h]
  unfold dcm
  rw [dcs_fuel m ((m + 1) / 10) _ (by omega) (Nat.le_refl _)]
theorem dcm_len : ∀ (k n : Nat), n < 10 ^ k → (dcm n).length ≤ k := by
  intro k
  induction k with
  | zero => intro n h; obtain rfl : n = 0 := by simpa using h
            simp [dcm_zero]
  | succ k ih =>
    intro n h
    by_cases h0 : n = 0
    · subst h0; simp [dcm_zero]
    · rw [dcm_step h0, List.length_append]
      have := ih (n / 10) (by rw [Nat.pow_succ] at h; omega)
      simp; exact this
theorem dcm_pos {n : Nat} (h : n ≠ 0) : 1 ≤ (dcm n).length := by
  rw [dcm_step h, List.length_append]; simp
theorem dcm_len_lv {l : List Nat} (h : Lim l) : (dcm (lv l)).length ≤ 10 * l.length := by
  apply dcm_len
  have h1 := lv_lt h
  have h2 : (10 : Nat) ^ (10 * l.length) = (10 ^ 10) ^ l.length := Nat.pow_mul 10 10 _
  have h3 : (4294967296 : Nat) ^ l.length ≤ (10 ^ 10) ^ l.length := Nat.pow_le_pow_left (by decide) _
  omega
/-- A digit more. -/
theorem dcm_more {T a x : Nat} {Z L : List Nat} (hT : T ≠ 0) (h : Z = dcm T ++ L.drop (a + 1)) (hx : x = T % 10) (ha : a < L.length) : Z = dcm (T / 10) ++ (L.set a (48 + x)).drop a := by
  have e : (L.set a (48 + x)).drop a = (48 + x) :: L.drop (a + 1) := by
    apply List.ext_getElem?
    intro i
    rw [List.getElem?_drop]
    cases i with
    | zero => rw [Nat.add_zero, List.getElem?_set_self ha]; rfl
    | succ i => rw [List.getElem?_set_ne (by omega), List.getElem?_cons_succ, List.getElem?_drop]; congr 1; omega
  rw [e, h, dcm_step hT, hx, List.append_assoc]; rfl
theorem dcm_lt (n : Nat) : ∀ x ∈ dcm n, 48 ≤ x ∧ x ≤ 57 := by
  induction n using Nat.strongRecOn with
  | ind n ih =>
    intro x hx
    by_cases h : n = 0
    · subst h; simp [dcm_zero] at hx
    · rw [dcm_step h, List.mem_append] at hx
      rcases hx with hx | hx
      · exact ih (n / 10) (by omega) x hx
      · simp at hx; omega
theorem txN_sv {s : Bool} {l : List Nat} (hl : Canon l) (h0 : l ≠ []) : txN (sv s l) = (if s = true then [45] else []) ++ dcm (lv l) := by
  have hp := lv_pos hl h0
  unfold txN
  rw [sv_natAbs]
  cases s
  · rw [sv_false, if_neg (by omega), if_neg (by omega)]; rfl
  · rw [sv_true, if_neg (by omega), if_pos (by omega)]; rfl
/- reading -/
def vl10 (l : List Nat) : Nat := l.foldl (fun a c => a * 10 + (c - 48)) 0
def isDg (c : Nat) : Bool := decide (48 ≤ c ∧ c ≤ 57)
def dgsL (l : List Nat) : Bool := l.all isDg
theorem vl10_take (l : List Nat) (i : Nat) (h : i < l.length) : vl10 (l.take (i + 1)) = vl10 (l.take i) * 10 + (at0 l i - 48) := by
  rw [List.take_succ_eq_append_getElem h]
  unfold vl10 at0
  rw [List.foldl_append, List.getD_eq_getElem?_getD, List.getElem?_eq_getElem h]; rfl
theorem dgsL_take (l : List Nat) (i : Nat) (h : i < l.length) : dgsL (l.take (i + 1)) = (dgsL (l.take i) && decide (48 ≤ at0 l i ∧ at0 l i ≤ 57)) := by
  rw [List.take_succ_eq_append_getElem h]
  unfold dgsL at0 isDg
  rw [List.all_append, List.getD_eq_getElem?_getD, List.getElem?_eq_getElem h]; simp
theorem dgsL_bad (l : List Nat) (i : Nat) (h : i < l.length) (hb : ¬ (48 ≤ at0 l i ∧ at0 l i ≤ 57)) : dgsL l = false := by
  have := dgsL_take l i h
  rw [show decide (48 ≤ at0 l i ∧ at0 l i ≤ 57) = false from by simpa using hb, Bool.and_false] at this
  have e : dgsL l = (dgsL (l.take (i + 1)) && dgsL (l.drop (i + 1))) := by unfold dgsL; rw [← List.all_append, List.take_append_drop]
  rw [e, this]; rfl
theorem vl10_lt (l : List Nat) (h : dgsL l = true) : vl10 l < 10 ^ l.length := by
  have key : ∀ (l : List Nat) (a : Nat), dgsL l = true → l.foldl (fun a c => a * 10 + (c - 48)) a < (a + 1) * 10 ^ l.length := by
    intro l
    induction l with
    | nil => intro a _; simp
    | cons c l ih =>
      intro a hd
      unfold dgsL at hd
      rw [List.all_cons, Bool.and_eq_true] at hd
      have hc := hd.1
      unfold isDg at hc
      simp only [decide_eq_true_eq] at hc
      rw [List.foldl_cons, List.length_cons, Nat.pow_succ]
      have := ih (a * 10 + (c - 48)) hd.2
      have h2 : (a * 10 + (c - 48) + 1) * 10 ^ l.length ≤ (a + 1) * 10 * 10 ^ l.length := Nat.mul_le_mul_right _ (by omega)
      rw [Nat.mul_comm (10 ^ l.length) 10, ← Nat.mul_assoc]
      omega
  have := key l 0 h
  simpa [vl10] using this
/-- What Read gives. -/
def rdD (S : List Nat) : List Nat := if at0 S 0 = 45 then S.drop 1 else S
def rdV (S : List Nat) : Int := if S.length ≤ 2000 ∧ rdD S ≠ [] ∧ (at0 (rdD S) 0 = 48 → S = [48]) ∧ dgsL (rdD S) = true then sgn (decide (at0 S 0 = 45)) (vl10 (rdD S)) else 0
def rdC (S : List Nat) : Int := if 2000 < S.length then 2 else if rdD S ≠ [] ∧ (at0 (rdD S) 0 = 48 → S = [48]) ∧ dgsL (rdD S) = true then 0 else 4
end Go.Proofs.Ytbnhnmpgbpejaaa
