/- Texts MX1 MX2 MX3 MXS MC1 MC2 in one. -/
import Derived.Test.YtjjebokgckmnjaaGreatR23
import Derived.Test.YtjjebokgckmnjaaGreatR21
import Derived.Test.YtjjebokgckmnjaaGreatR25
/- Gauss-Jordan elimination: rows and steps. No program in sight. -/
namespace Go.Proofs.YtjjebokgckmnjaaGreat
set_option linter.unusedSimpArgs false
set_option linter.unusedVariables false

abbrev ent (M : List (List Rat)) (i k : Nat) : Rat := cf (M.getD i []) k
def Wid (w : Nat) (M : List (List Rat)) : Prop := ∀ i, i < M.length → (M.getD i []).length = w
/-- A list by its elements. -/
def mkr (F : Nat → Rat) (n : Nat) : List Rat := (List.range n).map F
theorem mkr_len (F : Nat → Rat) (n : Nat) : (mkr F n).length = n := by simp [mkr]
theorem mkr_succ (F : Nat → Rat) (n : Nat) : mkr F (n + 1) = mkr F n ++ [F n] := by unfold mkr; rw [List.range_succ, List.map_append]; rfl
theorem cf_mkr (F : Nat → Rat) (n k : Nat) : cf (mkr F n) k = if k < n then F k else 0 := by
  unfold cf mkr
  rw [List.getD_eq_getElem?_getD, List.getElem?_map]
  by_cases h : k < n
  · rw [List.getElem?_range h, if_pos h]; rfl
  · rw [List.getElem?_eq_none (by simp; omega), if_neg h]; rfl
theorem l_ext {a b : List Rat} (h : a.length = b.length) (hc : ∀ k, k < a.length → cf a k = cf b k) : a = b := by
  refine List.ext_getElem h fun i h1 h2 => ?_
  have := hc i h1
  rwa [cf_lt h1, cf_lt h2] at this
theorem mkr_eq {F : Nat → Rat} {n : Nat} {l : List Rat} (h : l.length = n) (hc : ∀ k, k < n → F k = cf l k) : mkr F n = l :=
  l_ext (by rw [mkr_len, h]) fun k hk => by rw [mkr_len] at hk; rw [cf_mkr, if_pos hk, hc k hk]
theorem mkr_congr {F G : Nat → Rat} {n : Nat} (h : ∀ k, k < n → F k = G k) : mkr F n = mkr G n := mkr_eq (mkr_len _ _) fun k hk => by rw [cf_mkr, if_pos hk, h k hk]
/-- Rows by their numbers. -/
def mkm (F : Nat → List Rat) (n : Nat) : List (List Rat) := (List.range n).map F
theorem mkm_len (F : Nat → List Rat) (n : Nat) : (mkm F n).length = n := by simp [mkm]
theorem mkm_succ (F : Nat → List Rat) (n : Nat) : mkm F (n + 1) = mkm F n ++ [F n] := by unfold mkm; rw [List.range_succ, List.map_append]; rfl
theorem gd_mkm (F : Nat → List Rat) (n i : Nat) : (mkm F n).getD i [] = if i < n then F i else [] := by
  unfold mkm
  rw [List.getD_eq_getElem?_getD, List.getElem?_map]
  by_cases h : i < n
  · rw [List.getElem?_range h, if_pos h]; rfl
  · rw [List.getElem?_eq_none (by simp; omega), if_neg h]; rfl
theorem gd_ge {M : List (List Rat)} {i : Nat} (h : M.length ≤ i) : M.getD i [] = [] := by
  rw [List.getD_eq_getElem?_getD, List.getElem?_eq_none h]; rfl
theorem gd_lt {M : List (List Rat)} {i : Nat} (h : i < M.length) : M.getD i [] = M[i] := by
  rw [List.getD_eq_getElem?_getD, List.getElem?_eq_getElem h]; rfl
theorem m_ext {A B : List (List Rat)} (h : A.length = B.length) (hc : ∀ k, k < A.length → A.getD k [] = B.getD k []) : A = B := by
  refine List.ext_getElem h fun i h1 h2 => ?_
  have := hc i h1
  rwa [gd_lt h1, gd_lt h2] at this
theorem ent_ge {M : List (List Rat)} {i : Nat} (h : M.length ≤ i) (k : Nat) : ent M i k = 0 := by
  show cf _ _ = 0
  rw [gd_ge h]; rfl
/-- A row times a number; a row less a multiple of another. -/
def rw1 (p : List Rat) (x : Rat) : List Rat := mkr (fun k => cf p k * x) p.length
def rw2 (r p : List Rat) (f : Rat) : List Rat := mkr (fun k => cf r k - f * cf p k) r.length
theorem rw1_len (p : List Rat) (x : Rat) : (rw1 p x).length = p.length := mkr_len _ _
theorem rw2_len (r p : List Rat) (f : Rat) : (rw2 r p f).length = r.length := mkr_len _ _
theorem cf_rw1 (p : List Rat) (x : Rat) (k : Nat) : cf (rw1 p x) k = cf p k * x := by
  unfold rw1
  rw [cf_mkr]
  split
  · rfl
  · rw [cf_ge (by omega)]; grind
theorem cf_rw2 {r p : List Rat} (h : p.length ≤ r.length) (f : Rat) (k : Nat) : cf (rw2 r p f) k = cf r k - f * cf p k := by
  unfold rw2
  rw [cf_mkr]
  split
  · rfl
  · rw [cf_ge (by omega), cf_ge (by omega)]; grind
theorem rw2_zero (r p : List Rat) : rw2 r p 0 = r := mkr_eq rfl fun k _ => by grind
/-- The first row from row n on whose element in column c is not 0. -/
def srch (M : List (List Rat)) (c : Nat) : Nat → Nat → Option Nat
  | 0, _ => none
  | s + 1, i => if ent M i c = 0 then srch M c s (i + 1) else some i
def srF (M : List (List Rat)) (n c : Nat) : Option Nat := srch M c (M.length - n) n
theorem srch_some {M : List (List Rat)} {c : Nat} : ∀ {s i a : Nat}, srch M c s i = some a → (i ≤ a ∧ a < i + s) ∧ ent M a c ≠ 0 ∧ ∀ j, i ≤ j → j < a → ent M j c = 0
  | 0, _, _, h => by cases h
  | s + 1, i, a, h => by
    unfold srch at h
    split at h
    · rename_i h0
      obtain ⟨h1, h2, h3⟩ := srch_some h
      refine ⟨by omega, h2, fun j hj1 hj2 => ?_⟩
      by_cases e : j = i
      · rw [e]; exact h0
      · exact h3 j (by omega) hj2
    · rename_i h0
      injection h with h
      subst h
      exact ⟨by omega, h0, fun j hj1 hj2 => by omega⟩
theorem srch_none {M : List (List Rat)} {c : Nat} : ∀ {s i : Nat}, srch M c s i = none → ∀ j, i ≤ j → j < i + s → ent M j c = 0
  | 0, _, _, j, hj1, hj2 => by omega
  | s + 1, i, h, j, hj1, hj2 => by
    unfold srch at h
    split at h
    · rename_i h0
      by_cases e : j = i
      · rw [e]; exact h0
      · exact srch_none h j (by omega) (by omega)
    · cases h
theorem srF_some {M : List (List Rat)} {n c a : Nat} (h : srF M n c = some a) : (n ≤ a ∧ a < M.length) ∧ ent M a c ≠ 0 := by
  obtain ⟨h1, h2, _⟩ := srch_some h
  exact ⟨by omega, h2⟩
theorem srF_none {M : List (List Rat)} {n c : Nat} (h : srF M n c = none) : ∀ j, n ≤ j → j < M.length → ent M j c = 0 := fun j h1 h2 => srch_none h j h1 (by omega)
theorem srF_is {M : List (List Rat)} {n c a : Nat} (h1 : n ≤ a) (h2 : a < M.length) (h3 : ent M a c ≠ 0) (h4 : ∀ j, n ≤ j → j < a → ent M j c = 0) : srF M n c = some a := by
  rcases h : srF M n c with _ | b
  · exact absurd (srF_none h a h1 h2) h3
  · obtain ⟨g1, g2, g3⟩ := srch_some h
    have : a = b := by
      rcases Nat.lt_trichotomy a b with hlt | heq | hgt
      · exact absurd (g3 a h1 hlt) h3
      · exact heq
      · exact absurd (h4 b g1.1 hgt) g2
    rw [this]
theorem srF_no {M : List (List Rat)} {n c : Nat} (h : ∀ j, n ≤ j → j < M.length → ent M j c = 0) : srF M n c = none := by
  rcases h' : srF M n c with _ | b
  · rfl
  · obtain ⟨g1, g2⟩ := srF_some h'
    exact absurd (h b g1.1 g1.2) g2
/-- Row n is made the one with the pivot of column c; the rows below i are cleared. -/
def pvR (M : List (List Rat)) (n c : Nat) : List Rat := rw1 (M.getD n []) (1 / ent M n c)
def pvI (M : List (List Rat)) (n c i : Nat) : List (List Rat) := mkm (fun j => if j = n then pvR M n c else if j < i then rw2 (M.getD j []) (pvR M n c) (ent M j c) else M.getD j []) M.length
def pvt (M : List (List Rat)) (n c : Nat) : List (List Rat) := pvI M n c M.length
theorem pvI_len (M : List (List Rat)) (n c i : Nat) : (pvI M n c i).length = M.length := mkm_len _ _
theorem pvI_get {M : List (List Rat)} {n c i j : Nat} (hj : j < M.length) : (pvI M n c i).getD j [] = if j = n then pvR M n c else if j < i then rw2 (M.getD j []) (pvR M n c) (ent M j c) else M.getD j [] := by
  unfold pvI
  rw [gd_mkm, if_pos hj]
theorem pvI_zero {M : List (List Rat)} {n : Nat} (c : Nat) (hn : n < M.length) : pvI M n c 0 = M.set n (pvR M n c) :=
  m_ext (by rw [pvI_len, List.length_set]) fun j hj => by
    rw [pvI_len] at hj
    rw [pvI_get hj, gd_set hn]
    by_cases e : j = n
    · rw [if_pos e, if_pos e]
    · rw [if_neg e, if_neg e, if_neg (by omega)]
theorem pvI_self {M : List (List Rat)} {n c : Nat} : pvI M n c n.succ = pvI M n c n := by
  unfold pvI
  congr 1
  funext j
  by_cases e : j = n
  · rw [if_pos e, if_pos e]
  · rw [if_neg e, if_neg e]
    by_cases h : j < n
    · rw [if_pos h, if_pos (by omega)]
    · rw [if_neg h, if_neg (by omega)]
theorem pvI_succ {M : List (List Rat)} {n i : Nat} (c : Nat) (hi : i < M.length) (hne : i ≠ n) : pvI M n c (i + 1) = (pvI M n c i).set i (rw2 (M.getD i []) (pvR M n c) (ent M i c)) :=
  m_ext (by rw [pvI_len, List.length_set, pvI_len]) fun j hj => by
    rw [pvI_len] at hj
    rw [pvI_get hj, gd_set (by rw [pvI_len]; exact hi), pvI_get hj]
    by_cases e : j = n
    · rw [if_pos e, if_neg (by omega), if_pos e]
    · rw [if_neg e, if_neg e]
      by_cases e2 : j = i
      · rw [if_pos e2, if_pos (by omega), e2]
      · rw [if_neg e2]
        by_cases h : j < i
        · rw [if_pos h, if_pos (by omega)]
        · rw [if_neg h, if_neg (by omega)]
theorem pvI_skip {M : List (List Rat)} {n c i : Nat} (hi : i < M.length) (h0 : ent M i c = 0) : pvI M n c (i + 1) = pvI M n c i :=
  m_ext (by rw [pvI_len, pvI_len]) fun j hj => by
    rw [pvI_len] at hj
    rw [pvI_get hj, pvI_get hj]
    by_cases e : j = n
    · rw [if_pos e, if_pos e]
    · rw [if_neg e, if_neg e]
      by_cases e2 : j = i
      · rw [if_pos (by omega), if_neg (by omega), e2, h0, rw2_zero]
      · by_cases h : j < i
        · rw [if_pos h, if_pos (by omega)]
        · rw [if_neg h, if_neg (by omega)]
theorem pvt_len (M : List (List Rat)) (n c : Nat) : (pvt M n c).length = M.length := pvI_len _ _ _ _
theorem pvt_wid {M : List (List Rat)} {n c i w : Nat} (hW : Wid w M) (hn : n < M.length) : Wid w (pvI M n c i) := fun j hj => by
  rw [pvI_len] at hj
  rw [pvI_get hj]
  split
  · unfold pvR; rw [rw1_len]; exact hW n hn
  · split
    · rw [rw2_len]; exact hW j hj
    · exact hW j hj
theorem ent_pvt {M : List (List Rat)} {n c w : Nat} (hW : Wid w M) (hn : n < M.length) {i : Nat} (hi : i < M.length) (k : Nat) : ent (pvt M n c) i k = if i = n then ent M n k * (1 / ent M n c) else ent M i k - ent M i c * (ent M n k * (1 / ent M n c)) := by
  show cf ((pvI M n c M.length).getD i []) k = _
  rw [pvI_get hi, if_pos hi]
  split
  · unfold pvR; rw [cf_rw1]
  · rw [cf_rw2 (by unfold pvR; rw [rw1_len, hW n hn, hW i hi]; exact Nat.le_refl _)]
    unfold pvR
    rw [cf_rw1]
theorem swM_self {M : List (List Rat)} {k : Nat} (hk : k < M.length) : swM M k k = M :=
  m_ext (swM_len _ _ _) fun j hj => by
    rw [swM_get hk hk]
    split
    · rename_i e; rw [e]
    · rfl
theorem swM_wid {M : List (List Rat)} {k p w : Nat} (hW : Wid w M) (hk : k < M.length) (hp : p < M.length) : Wid w (swM M k p) := fun j hj => by
  rw [swM_len] at hj
  rw [swM_get hk hp]
  split
  · exact hW p hp
  · split
    · exact hW k hk
    · exact hW j hj
theorem ent_swM {M : List (List Rat)} {k p : Nat} (hk : k < M.length) (hp : p < M.length) (i j : Nat) : ent (swM M k p) i j = if i = k then ent M p j else if i = p then ent M k j else ent M i j := by
  show cf ((swM M k p).getD i []) j = _
  rw [swM_get hk hp]
  split
  · rfl
  · split <;> rfl
/-- Subspaces. -/
structure Lin (S : (Nat → Rat) → Prop) : Prop where
  zero : S fun _ => 0
  add : ∀ f g, S f → S g → S fun k => f k + g k
  mul : ∀ c f, S f → S fun k => c * f k
def AllS (S : (Nat → Rat) → Prop) (M : List (List Rat)) : Prop := ∀ i, i < M.length → S (cf (M.getD i []))
theorem Lin.comb {S : (Nat → Rat) → Prop} (h : Lin S) {f g : Nat → Rat} (c : Rat) (hf : S f) (hg : S g) {u : Nat → Rat} (e : ∀ k, u k = f k + c * g k) : S u := by
  have := h.add _ _ hf (h.mul c _ hg)
  rwa [show u = fun k => f k + c * g k from funext e]
theorem Lin.scale {S : (Nat → Rat) → Prop} (h : Lin S) {f : Nat → Rat} (c : Rat) (hf : S f) {u : Nat → Rat} (e : ∀ k, u k = c * f k) : S u := by
  have := h.mul c _ hf
  rwa [show u = fun k => c * f k from funext e]
theorem AllS.swap1 {S : (Nat → Rat) → Prop} {M : List (List Rat)} {k p : Nat} (hk : k < M.length) (hp : p < M.length) (h : AllS S M) : AllS S (swM M k p) := fun i hi => by
  rw [swM_len] at hi
  rw [swM_get hk hp]
  split
  · exact h p hp
  · split
    · exact h k hk
    · exact h i hi
theorem swM_swM {M : List (List Rat)} {k p : Nat} (hk : k < M.length) (hp : p < M.length) : swM (swM M k p) k p = M :=
  m_ext (by rw [swM_len, swM_len]) fun j hj => by
    rw [swM_get (by rw [swM_len]; exact hk) (by rw [swM_len]; exact hp), swM_get hk hp, swM_get hk hp, swM_get hk hp]
    by_cases e1 : j = k
    · subst e1
      rw [if_pos rfl]
      by_cases e2 : p = j
      · rw [if_pos e2, e2]
      · rw [if_neg e2, if_pos rfl]
    · rw [if_neg e1]
      by_cases e2 : j = p
      · rw [if_pos e2, if_pos rfl, e2]
      · rw [if_neg e2, if_neg e1, if_neg e2]
theorem AllS.swap {S : (Nat → Rat) → Prop} {M : List (List Rat)} {k p : Nat} (hk : k < M.length) (hp : p < M.length) : AllS S (swM M k p) ↔ AllS S M := by
  refine ⟨fun h => ?_, AllS.swap1 hk hp⟩
  have := AllS.swap1 (M := swM M k p) (k := k) (p := p) (by rw [swM_len]; exact hk) (by rw [swM_len]; exact hp) h
  rwa [swM_swM hk hp] at this
theorem AllS.piv {S : (Nat → Rat) → Prop} (hS : Lin S) {M : List (List Rat)} {n c w : Nat} (hW : Wid w M) (hn : n < M.length) (h0 : ent M n c ≠ 0) : AllS S (pvt M n c) ↔ AllS S M := by
  have hr : ∀ k, ent M n k = ent M n c * ent (pvt M n c) n k := fun k => by
    rw [ent_pvt hW hn hn, if_pos rfl]; grind
  have hs : ∀ k, ent (pvt M n c) n k = (1 / ent M n c) * ent M n k := fun k => by
    rw [ent_pvt hW hn hn, if_pos rfl]; grind
  have hi1 : ∀ i, i < M.length → i ≠ n → ∀ k, ent (pvt M n c) i k = ent M i k + (- ent M i c) * ent (pvt M n c) n k := fun i hi hne k => by
    rw [ent_pvt hW hn hi, if_neg hne, hs]; grind
  constructor
  · intro h i hi
    have hn' := h n (by rw [pvt_len]; exact hn)
    by_cases e : i = n
    · subst e
      exact hS.scale (ent M i c) hn' hr
    · exact hS.comb (ent M i c) (h i (by rw [pvt_len]; exact hi)) hn' fun k => by
        have := hi1 i hi e k
        show ent M i k = ent (pvt M n c) i k + ent M i c * ent (pvt M n c) n k
        rw [this]; grind
  · intro h i hi
    rw [pvt_len] at hi
    have hn' : S (cf ((pvt M n c).getD n [])) := hS.scale (1 / ent M n c) (h n hn) hs
    by_cases e : i = n
    · subst e; exact hn'
    · exact hS.comb (- ent M i c) (h i hi) hn' (hi1 i hi e)
/-- The elimination. -/
structure ES where
  M : List (List Rat)
  p : List Nat
  d : Rat
def stA (s : ES) (a c : Nat) : ES := ⟨pvt (swM s.M s.p.length a) s.p.length c, s.p ++ [c], (if a = s.p.length then s.d else -s.d) * ent s.M a c⟩
def stp (s : ES) (c : Nat) : ES := match srF s.M s.p.length c with
  | none => s
  | some a => stA s a c
def elm (M : List (List Rat)) : Nat → ES
  | 0 => ⟨M, [], 1⟩
  | c + 1 => stp (elm M c) c
def pv (p : List Nat) (i : Nat) : Nat := p.getD i 0
theorem pv_snoc (p : List Nat) (c i : Nat) : pv (p ++ [c]) i = if i < p.length then pv p i else if i = p.length then c else 0 := by
  unfold pv
  rw [List.getD_eq_getElem?_getD]
  split
  · rename_i h; rw [List.getElem?_append_left h, List.getD_eq_getElem?_getD]
  · rename_i h
    rw [List.getElem?_append_right (by omega)]
    split
    · rename_i e; rw [e, Nat.sub_self]; rfl
    · rw [List.getElem?_eq_none (by simp; omega)]; rfl
structure EI (M : List (List Rat)) (w c : Nat) (s : ES) : Prop where
  len : s.M.length = M.length
  wid : Wid w s.M
  n : s.p.length ≤ M.length
  lt : ∀ i, i < s.p.length → pv s.p i < c
  inc : ∀ i j, i < j → j < s.p.length → pv s.p i < pv s.p j
  unit : ∀ i, i < M.length → ∀ j, j < s.p.length → ent s.M i (pv s.p j) = if i = j then 1 else 0
  zero : ∀ i k, k < c → (i < s.p.length → k < pv s.p i) → ent s.M i k = 0
  sub : ∀ S, Lin S → (AllS S s.M ↔ AllS S M)
theorem EI.start {M : List (List Rat)} {w : Nat} (hW : Wid w M) : EI M w 0 ⟨M, [], 1⟩ :=
  ⟨rfl, hW, Nat.zero_le _, fun i h => absurd h (Nat.not_lt_zero _), fun i j _ h => absurd h (Nat.not_lt_zero _), fun i _ j h => absurd h (Nat.not_lt_zero _), fun i k h => absurd h (Nat.not_lt_zero _), fun _ _ => Iff.rfl⟩
theorem EI.stA {M : List (List Rat)} {w c : Nat} {s : ES} (h : EI M w c s) {a : Nat} (h1 : s.p.length ≤ a) (h2 : a < M.length) (h3 : ent s.M a c ≠ 0) : EI M w (c + 1) (stA s a c) := by
  obtain ⟨e1, e2, e3, e4, e5, e6, e7, e8⟩ := h
  have hn : s.p.length < M.length := by omega
  have hns : s.p.length < s.M.length := by omega
  have has : a < s.M.length := by omega
  have hW1 := swM_wid e2 hns has
  have hl1 := swM_len s.M s.p.length a
  have by0 : ent (swM s.M s.p.length a) s.p.length c ≠ 0 := by rw [ent_swM hns has, if_pos rfl]; exact h3
  have E : ∀ i, i < M.length → ∀ k, ent (pvt (swM s.M s.p.length a) s.p.length c) i k = if i = s.p.length then ent (swM s.M s.p.length a) s.p.length k * (1 / ent (swM s.M s.p.length a) s.p.length c) else ent (swM s.M s.p.length a) i k - ent (swM s.M s.p.length a) i c * (ent (swM s.M s.p.length a) s.p.length k * (1 / ent (swM s.M s.p.length a) s.p.length c)) := fun i hi k =>
    ent_pvt hW1 (by omega) (by omega) k
  have u1 : ∀ i, i < M.length → ∀ j, j < s.p.length → ent (swM s.M s.p.length a) i (pv s.p j) = if i = j then 1 else 0 := fun i hi j hj => by
    rw [ent_swM hns has]
    split
    · rename_i e
      rw [e6 a h2 j hj, if_neg (by omega), if_neg (by omega)]
    · split
      · rw [e6 _ hn j hj, if_neg (by omega), if_neg (by omega)]
      · exact e6 i hi j hj
  have z1 : ∀ i k, k < c → (i < s.p.length → k < pv s.p i) → ent (swM s.M s.p.length a) i k = 0 := fun i k hk hi => by
    rw [ent_swM hns has]
    split
    · exact e7 a k hk fun h => by omega
    · split
      · exact e7 _ k hk fun h => by omega
      · exact e7 i k hk hi
  refine ⟨?_, ?_, ?_, fun i hi => ?_, fun i j hij hj => ?_, fun i hi j hj => ?_, fun i k hk hi => ?_, fun S hS => ?_⟩
  · show (pvt _ _ _).length = _
    rw [pvt_len, swM_len, e1]
  · exact pvt_wid hW1 (by omega)
  · show (s.p ++ [c]).length ≤ _
    simp; omega
  · show pv (s.p ++ [c]) i < c + 1
    have hi : i < (s.p ++ [c]).length := hi
    simp at hi
    rw [pv_snoc]
    split
    · rename_i h; have := e4 i h; omega
    · rw [if_pos (by omega)]; omega
  · show pv (s.p ++ [c]) i < pv (s.p ++ [c]) j
    have hj : j < (s.p ++ [c]).length := hj
    simp at hj
    rw [pv_snoc, pv_snoc, if_pos (by omega)]
    split
    · rename_i h; exact e5 i j hij h
    · rw [if_pos (by omega)]; exact e4 i (by omega)
  · show ent (pvt _ _ _) i (pv (s.p ++ [c]) j) = _
    have hj : j < (s.p ++ [c]).length := hj
    simp at hj
    rw [E i hi, pv_snoc]
    by_cases hjn : j < s.p.length
    · rw [if_pos hjn]
      by_cases e : i = s.p.length
      · rw [if_pos e, u1 _ hn j hjn, if_neg (show ¬ s.p.length = j by omega), if_neg (show ¬ i = j by omega)]; grind
      · rw [if_neg e, u1 _ hn j hjn, if_neg (show ¬ s.p.length = j by omega), u1 i hi j hjn]; grind
    · obtain rfl : j = s.p.length := by omega
      rw [if_neg hjn, if_pos rfl]
      by_cases e : i = s.p.length
      · rw [if_pos e, if_pos e]; grind
      · rw [if_neg e, if_neg e]; grind
  · show ent (pvt _ _ _) i k = 0
    have hi : i < (s.p ++ [c]).length → k < pv (s.p ++ [c]) i := hi
    by_cases hl : i < M.length
    · rw [E i hl]
      by_cases e : i = s.p.length
      · have hk' : k < c := by
          have := hi (by simp; omega)
          rw [pv_snoc, if_neg (by omega), if_pos e] at this
          exact this
        rw [if_pos e, z1 s.p.length k hk' (fun h => by omega)]; grind
      · rw [if_neg e]
        by_cases hk' : k < c
        · rw [z1 s.p.length k hk' (fun h => by omega), z1 i k hk' fun h => by
            have := hi (by simp; omega)
            rw [pv_snoc, if_pos h] at this
            exact this]
          grind
        · obtain rfl : k = c := by omega
          grind
    · exact ent_ge (by rw [pvt_len, swM_len]; omega) k
  · show AllS S (pvt _ _ _) ↔ _
    rw [AllS.piv hS hW1 (by omega) by0, AllS.swap hns has]
    exact e8 S hS
theorem EI.step {M : List (List Rat)} {w c : Nat} {s : ES} (h : EI M w c s) : EI M w (c + 1) (stp s c) := by
  unfold stp
  split
  · rename_i hn
    refine ⟨h.len, h.wid, h.n, fun i hi => by have := h.lt i hi; omega, h.inc, h.unit, fun i k hk hi => ?_, h.sub⟩
    by_cases hk' : k < c
    · exact h.zero i k hk' hi
    · obtain rfl : k = c := by omega
      by_cases hi' : i < s.p.length
      · have := hi hi'; have := h.lt i hi'; omega
      · by_cases hl : i < s.M.length
        · exact srF_none hn i (by omega) hl
        · exact ent_ge (by omega) k
  · rename_i a ha
    obtain ⟨h1, h2⟩ := srF_some ha
    exact h.stA h1.1 (by rw [← h.len]; exact h1.2) h2
theorem elm_EI {M : List (List Rat)} {w : Nat} (hW : Wid w M) : ∀ c, EI M w c (elm M c)
  | 0 => EI.start hW
  | c + 1 => (elm_EI hW c).step
end Go.Proofs.YtjjebokgckmnjaaGreat


/- Reduced row echelon forms: uniqueness. No program in sight. -/
namespace Go.Proofs.YtjjebokgckmnjaaGreat
set_option linter.unusedSimpArgs false
set_option linter.unusedVariables false

structure RE (w : Nat) (p : List Nat) (A : List (List Rat)) : Prop where
  len : A.length = p.length
  wid : Wid w A
  lt : ∀ i, i < p.length → pv p i < w
  inc : ∀ i j, i < j → j < p.length → pv p i < pv p j
  unit : ∀ i, i < p.length → ∀ j, j < p.length → ent A i (pv p j) = if i = j then 1 else 0
  zero : ∀ i k, i < p.length → k < pv p i → ent A i k = 0
theorem gd_take (M : List (List Rat)) (n i : Nat) : (M.take n).getD i [] = if i < n then M.getD i [] else [] := by
  rw [List.getD_eq_getElem?_getD, List.getElem?_take]
  split
  · rw [List.getD_eq_getElem?_getD]
  · rfl
theorem ent_take (M : List (List Rat)) {n i : Nat} (h : i < n) (k : Nat) : ent (M.take n) i k = ent M i k := by
  show cf _ _ = cf _ _
  rw [gd_take, if_pos h]
/-- The form that the elimination gives. -/
def rre (M : List (List Rat)) (w : Nat) : List (List Rat) := (elm M w).M.take (elm M w).p.length
theorem elm_RE {M : List (List Rat)} {w : Nat} (hW : Wid w M) : RE w (elm M w).p (rre M w) := by
  obtain ⟨e1, e2, e3, e4, e5, e6, e7, _⟩ := elm_EI hW w
  have hl : (rre M w).length = (elm M w).p.length := by unfold rre; rw [List.length_take]; omega
  refine ⟨hl, fun i hi => ?_, e4, e5, fun i hi j hj => ?_, fun i k hi hk => ?_⟩
  · rw [hl] at hi
    unfold rre
    rw [gd_take, if_pos hi]
    exact e2 i (by omega)
  · unfold rre
    rw [ent_take _ hi]
    exact e6 i (by omega) j hj
  · unfold rre
    rw [ent_take _ hi]
    exact e7 i k (by have := e4 i hi; omega) fun _ => hk
/-- The combinations of the rows. -/
def SpA (p : List Nat) (A : List (List Rat)) (v : Nat → Rat) : Prop := ∀ k, v k = sm p.length fun i => v (pv p i) * ent A i k
theorem RE.sp {w : Nat} {p : List Nat} {A : List (List Rat)} (h : RE w p A) : AllS (SpA p A) A := fun j hj k => by
  rw [h.len] at hj
  rw [sm_one j hj fun i hi hne => by
    have := h.unit j hj i hi
    rw [if_neg (fun e => hne e.symm)] at this
    show ent A j (pv p i) * _ = 0
    rw [this]; grind]
  have := h.unit j hj j hj
  rw [if_pos rfl] at this
  show ent A j k = ent A j (pv p j) * ent A j k
  rw [this]; grind
end Go.Proofs.YtjjebokgckmnjaaGreat


/- Kernels and ranks by reduced row echelon forms. No program in sight. -/
namespace Go.Proofs.YtjjebokgckmnjaaGreat
set_option linter.unusedSimpArgs false
set_option linter.unusedVariables false

/-- The vector of the kernel that belongs to a free column. -/
def nvF (p : List Nat) (A : List (List Rat)) (c k : Nat) : Rat := (if k = c then 1 else 0) + sm p.length fun i => if k = pv p i then - ent A i c else 0
theorem nvF_free {p : List Nat} {A : List (List Rat)} {c k : Nat} (h : ∀ i, i < p.length → pv p i ≠ k) : nvF p A c k = if k = c then 1 else 0 := by
  unfold nvF
  rw [sm_zero fun i hi => if_neg fun e => h i hi e.symm]
  grind
theorem RE.pinj {w : Nat} {p : List Nat} {A : List (List Rat)} (h : RE w p A) {i j : Nat} (hi : i < p.length) (hj : j < p.length) (e : pv p i = pv p j) : i = j := by
  rcases Nat.lt_trichotomy i j with hlt | heq | hgt
  · have := h.inc i j hlt hj; omega
  · exact heq
  · have := h.inc j i hgt hi; omega
theorem nvF_piv {w : Nat} {p : List Nat} {A : List (List Rat)} (h : RE w p A) {c i : Nat} (hc : ∀ i, i < p.length → pv p i ≠ c) (hi : i < p.length) : nvF p A c (pv p i) = - ent A i c := by
  unfold nvF
  rw [if_neg (hc i hi), sm_one i hi fun j hj hne => if_neg fun e => hne (h.pinj hi hj e).symm, if_pos rfl]
  grind
/-- The transpose. -/
def trM (M : List (List Rat)) (w : Nat) : List (List Rat) := mkm (fun k => mkr (fun i => ent M i k) M.length) w
theorem trM_len (M : List (List Rat)) (w : Nat) : (trM M w).length = w := mkm_len _ _
theorem trM_wid (M : List (List Rat)) (w : Nat) : Wid M.length (trM M w) := fun i hi => by
  rw [trM_len] at hi
  unfold trM
  rw [gd_mkm, if_pos hi, mkr_len]
theorem ent_trM (M : List (List Rat)) {w i : Nat} (hi : i < w) (k : Nat) : ent (trM M w) i k = ent M k i := by
  show cf _ _ = _
  unfold trM
  rw [gd_mkm, if_pos hi, cf_mkr]
  split
  · rfl
  · exact (ent_ge (by omega) i).symm
def rk (M : List (List Rat)) (w : Nat) : Nat := (elm M w).p.length
end Go.Proofs.YtjjebokgckmnjaaGreat


/- Sizes along the elimination. No program in sight. -/
namespace Go.Proofs.YtjjebokgckmnjaaGreat
set_option linter.unusedSimpArgs false
set_option linter.unusedVariables false
open Go.RowKit

def sS (S : Nat) : Nat → Nat
  | 0 => S
  | k + 1 => 4 * sS S k + 2
def dS (S : Nat) : Nat → Nat
  | 0 => 1
  | k + 1 => dS S k + sS S k
theorem sS_mono (S : Nat) {j : Nat} : ∀ {k}, j ≤ k → sS S j ≤ sS S k
  | 0, h => by rw [show j = 0 from by omega]; exact Nat.le_refl _
  | k + 1, h => by
    by_cases e : j = k + 1
    · rw [e]; exact Nat.le_refl _
    · have := sS_mono S (j := j) (k := k) (by omega)
      rw [sS]; omega
theorem dS_mono (S : Nat) {j : Nat} : ∀ {k}, j ≤ k → dS S j ≤ dS S k
  | 0, h => by rw [show j = 0 from by omega]; exact Nat.le_refl _
  | k + 1, h => by
    by_cases e : j = k + 1
    · rw [e]; exact Nat.le_refl _
    · have := dS_mono S (j := j) (k := k) (by omega)
      rw [dS]; omega
theorem pvt_sz {M : List (List Rat)} {n c w S : Nat} (hW : Wid w M) (hn : n < M.length) (hS : ∀ i k, qs (ent M i k) ≤ S) (i k : Nat) : qs (ent (pvt M n c) i k) ≤ 4 * S + 2 := by
  have h1 := qs_pos (ent M n c)
  have h2 := hS n c
  by_cases hi : i < M.length
  · rw [ent_pvt hW hn hi]
    have a1 := hS n k
    have a2 := Nat.le_trans (qs_div 1 (ent M n c)) (Nat.add_le_add qs_1 (hS n c))
    have a3 := qs_mul (ent M n k) (1 / ent M n c)
    split
    · omega
    · have a4 := qs_mul (ent M i c) (ent M n k * (1 / ent M n c))
      have a5 := hS i c
      have a6 := hS i k
      have a7 := qs_sub (ent M i k) (ent M i c * (ent M n k * (1 / ent M n c)))
      omega
  · rw [ent_ge (by rw [pvt_len]; omega)]
    have := qs_0
    omega
theorem swM_sz {M : List (List Rat)} {a b S : Nat} (ha : a < M.length) (hb : b < M.length) (hS : ∀ i k, qs (ent M i k) ≤ S) (i k : Nat) : qs (ent (swM M a b) i k) ≤ S := by
  rw [ent_swM ha hb]
  split
  · exact hS _ _
  · split <;> exact hS _ _
theorem elm_sz {M : List (List Rat)} {w S : Nat} (hW : Wid w M) (hS : ∀ i k, qs (ent M i k) ≤ S) : ∀ c, (∀ i k, qs (ent (elm M c).M i k) ≤ sS S c) ∧ qs (elm M c).d ≤ dS S c
  | 0 => ⟨hS, qs_1⟩
  | c + 1 => by
    obtain ⟨h1, h2⟩ := elm_sz hW hS c
    have hE := elm_EI hW c
    have e : elm M (c + 1) = stp (elm M c) c := rfl
    rw [e]
    unfold stp
    split
    · refine ⟨fun i k => Nat.le_trans (h1 i k) (sS_mono S (by omega)), Nat.le_trans h2 (dS_mono S (by omega))⟩
    · rename_i a ha
      obtain ⟨g1, g2⟩ := srF_some ha
      have hn : (elm M c).p.length < (elm M c).M.length := by omega
      refine ⟨fun i k => ?_, ?_⟩
      · exact pvt_sz (swM_wid hE.wid hn g1.2) (by rw [swM_len]; exact hn) (swM_sz hn g1.2 h1) i k
      · show qs ((if a = (elm M c).p.length then (elm M c).d else -(elm M c).d) * ent (elm M c).M a c) ≤ dS S c + sS S c
        have b1 := qs_mul (if a = (elm M c).p.length then (elm M c).d else -(elm M c).d) (ent (elm M c).M a c)
        have b2 := h1 a c
        have b3 : qs (if a = (elm M c).p.length then (elm M c).d else -(elm M c).d) ≤ dS S c := by
          split
          · exact h2
          · rw [qs_neg]; exact h2
        omega
end Go.Proofs.YtjjebokgckmnjaaGreat


/- Contracts: the closures of the elimination. -/
namespace Go.Proofs.YtjjebokgckmnjaaGreat
set_option linter.unusedSimpArgs false
set_option linter.unusedVariables false
open Go.RowKit

theorem up_far {H : Hp} {n k : Nat} (h : k < n) (c : Nat) (x : Option Blk) : (H.up (n + c) x) k = H k := by
  unfold Hp.up
  rw [if_neg (by omega)]
theorem up_far0 {H : Hp} {n k : Nat} (h : k < n) (x : Option Blk) : (H.up n x) k = H k := up_far h 0 x
theorem cl2_H {H : Hp} {n0 k kp ki kr w : Nat} {R : List Rat} {y : Rat} (hc : ClosedH n0 H) (hp : H kp = some ⟨40, 1, [.sl kr 4 0 w]⟩) (hi : H ki = some ⟨36, 4, [.Q y]⟩) (hr : H kr = some ⟨36, 4, V.rats R⟩) (hw : R.length = w) (hk : k < w)
    (l1 : kp < n0) (l2 : ki < n0) (l3 : kr < n0) (q1 : qs (cf R k) ≤ 5000000000000) (q2 : qs y ≤ 5000000000000) :
    HCall Tryz.prog 65 [.raw (.int .i64 (k : Nat)), .ptr kp 1 0 0, .ptr ki 4 0 0] H n0 n0 (.Q (cf R k * y)) H n0 := by
  have T := (tabs mixed (tbl_cons qMul_C tbl_nil))
  refine HCall.of Tryz.func65 rfl (by kernel_rfl) Tryz.ntmps65 Tryz.results65 (by simp) ?_
  refine vc_ok T _ _ _ ?_
  have e1 : (kp = n0) = False := eq_false (by omega)
  have e2 : (ki = n0) = False := eq_false (by omega)
  have e3 : (kr = n0) = False := eq_false (by omega)
  have c3 : 0 ≤ (k : Int) := by omega
  subst hw
  simp only [go_sem, hp, hi, hr, e1, e2, e3, c3, hk, q1, q2]
  have hs := wkS_ren (θ := List.range n0) (s := upS (fun _ => .any) 0 (.Q (cf R k * y))) [(0, .Q (cf R k * y))] (by simp only [go_sem])
  refine ⟨by omega, chk_map (rnn n0) (by simp only [List.map_cons, List.map_nil, mapF, rnn_lo l1, rnn_lo l2, rnn_lo l3, rnn_n]; rfl), Wk.low n0 rfl rfl rfl (Nat.le_refl _) rfl ?_ hs.2 hc fun j hj => ?_⟩
  · exact (wkS_ren [(0, .Q (cf R k * y))] (by simp only [go_sem])).1
  · simp only [up_far0 hj]
/-- A row less a multiple of another. -/
theorem cl3_H {H : Hp} {n0 k kq kf kp ks kr w : Nat} {R S : List Rat} {f : Rat} (hc : ClosedH n0 H) (hq : H kq = some ⟨40, 1, [.sl ks 4 0 w]⟩) (hf : H kf = some ⟨36, 4, [.Q f]⟩) (hp : H kp = some ⟨40, 1, [.sl kr 4 0 w]⟩)
    (hs : H ks = some ⟨36, 4, V.rats S⟩) (hr : H kr = some ⟨36, 4, V.rats R⟩) (hw : R.length = w) (hw2 : S.length = w) (hk : k < w)
    (l1 : kq < n0) (l2 : kf < n0) (l3 : kp < n0) (l4 : ks < n0) (l5 : kr < n0) (q1 : qs (cf S k) ≤ 5000000000000) (q2 : qs f ≤ 5000000000000) (q3 : qs (cf R k) ≤ 5000000000000) (q4 : qs (f * cf R k) ≤ 5000000000000) :
    HCall Tryz.prog 66 [.raw (.int .i64 (k : Nat)), .ptr kq 1 0 0, .ptr kf 4 0 0, .ptr kp 1 0 0] H n0 n0 (.Q (cf S k - f * cf R k)) H n0 := by
  have T := (tabs mixed (tbl_cons qMul_C (tbl_cons qSub_C tbl_nil)))
  refine HCall.of Tryz.func66 rfl (by kernel_rfl) Tryz.ntmps66 Tryz.results66 (by simp) ?_
  refine vc_ok T _ _ _ ?_
  have e1 : (kq = n0) = False := eq_false (by omega)
  have e2 : (kf = n0) = False := eq_false (by omega)
  have e3 : (kp = n0) = False := eq_false (by omega)
  have e4 : (ks = n0) = False := eq_false (by omega)
  have e5 : (kr = n0) = False := eq_false (by omega)
  have c3 : 0 ≤ (k : Int) := by omega
  subst hw
  have hkS : k < S.length := by omega
  simp only [go_sem, hq, hf, hp, hs, hr, e1, e2, e3, e4, e5, c3, hk, hkS, hw2, q1, q2, q3, q4]
  have hv := wkS_ren (θ := List.range n0) (s := upS (fun _ => .any) 0 (.Q (cf S k - f * cf R k))) [(0, .Q (cf S k - f * cf R k))] (by simp only [go_sem])
  refine ⟨by omega, by omega, chk_map (rnn n0) (by simp only [List.map_cons, List.map_nil, mapF, rnn_lo l1, rnn_lo l2, rnn_lo l3, rnn_lo l4, rnn_lo l5, rnn_n]; rfl), Wk.low n0 rfl rfl rfl (Nat.le_refl _) rfl ?_ hv.2 hc fun j hj => ?_⟩
  · exact (wkS_ren [(0, .Q (cf S k - f * cf R k))] (by simp only [go_sem])).1
  · simp only [up_far0 hj]
end Go.Proofs.YtjjebokgckmnjaaGreat


/- Contracts: a row is set element by element. -/
namespace Go.Proofs.YtjjebokgckmnjaaGreat
set_option linter.unusedSimpArgs false
set_option linter.unusedVariables false
open Go.RowKit

theorem each_H {o b m i w n0 : Nat} {base : Hp} {M : List (List Rat)} {F : Nat → Rat} {g : FuncId} {caps : List V} (ids : List Nat) (hn0 : b + M.length ≤ n0) (ho : o < b) (hmb : m ≤ b) (hbase : ClosedH n0 base) (hlive : ∀ k, k < m → k ≠ o → (base k).isSome = true) (hi : i < M.length) (hR : (M.getD i []).length = w) (hw : w ≤ 1000000)
    (hcap : ∀ θ : List Nat, (∀ k ∈ ids, θ[k]? = some k) → RenCs θ caps caps) (hnt : caps.all V.noTup = true) (hids : ∀ k ∈ ids, k < n0 ∧ (k ≠ o ∧ ¬ (b ≤ k ∧ k < b + M.length)) ∧ (base k).isSome = true)
    (hcl : ∀ n k, n0 ≤ n → k < w → HCall Tryz.prog g (.raw (.int .i64 (k : Nat)) :: caps) (matH o b 40 36 w (M.set i (mkr (fun j => if k + 1 ≤ j then F j else cf (M.getD i []) j) w)) base) n n (.Q (F k)) (matH o b 40 36 w (M.set i (mkr (fun j => if k + 1 ≤ j then F j else cf (M.getD i []) j) w)) base) n) :
    HCall Tryz.prog 64 [.sl (rid b i) 4 0 w, .clo (.func g) [] caps] (matH o b 40 36 w M base) n0 m .any (matH o b 40 36 w (M.set i (mkr F w)) base) n0 := by
  have T := (tabs mixed tbl_nil)
  refine HCall.of Tryz.func64 rfl (by kernel_rfl) Tryz.ntmps64 Tryz.results64 (by simp) ?_
  refine vc_ok T _ _ _ ?_
  obtain ⟨R, eR⟩ : ∃ R, M.getD i [] = R := ⟨_, rfl⟩
  rw [eR] at hR hcl
  have len : ∀ l, (M.set i l).length = M.length := fun l => List.length_set
  have hcM : ∀ l, ClosedH n0 (matH o b 40 36 w (M.set i l) base) := fun l => closed_mat (by omega) (by rw [len]; omega) hbase
  have st0 : mkr (fun j => if w ≤ j then F j else cf R j) w = R := mkr_eq hR fun k hk => if_neg (by omega)
  have stE : mkr (fun j => if 0 ≤ j then F j else cf R j) w = mkr F w := mkr_congr fun k hk => if_pos (Nat.zero_le _)
  have hset : M.set i R = M := m_ext (len R) fun j hj => by
    rw [gd_set hi]
    split
    · rename_i e; rw [e, eR]
    · rfl
  have kn : ∀ k ∈ ids, k < n0 := fun k hk => (hids k hk).1
  have ri : rid b i < n0 := by unfold rid; omega
  have rcap : RenV (List.range n0) (.clo (.func g) [] caps) (.clo (.func g) [] caps) := ⟨rfl, trivial, hcap _ fun k hk => List.getElem?_range (kn k hk)⟩
  have rsl : ∀ θ : List Nat, θ[rid b i]? = some (rid b i) → RenV θ (.sl (rid b i) 4 0 w) (.sl (rid b i) 4 0 w) := fun θ h => ⟨h, rfl, rfl, rfl⟩
  simp only [go_sem]
  refine ⟨by omega, ?_⟩
  refine AWp.loops (X := { c : Nat // c ≤ w }) (fun c => { s := mkS [(0, .sl (rid b i) 4 0 w), (1, .clo (.func g) [] caps), (4, .raw (.int .i64 ((c.1 : Int) - 1)))], H := matH o b 40 36 w (M.set i (mkr (fun j => if c.1 ≤ j then F j else cf R j) w)) base, n := n0, N := 18, m := m }) (fun c => c.1) ⟨w, Nat.le_refl _⟩ ?_ ?_
  · have hs := wkS_ren (θ := List.range n0) [(0, V.sl (rid b i) 4 0 w), (1, .clo (.func g) [] caps), (4, .raw (.int .i64 ((w : Int) - 1)))] (s := mkS [(0, V.sl (rid b i) 4 0 w), (1, .clo (.func g) [] caps), (4, .raw (.int .i64 ((w : Int) - 1)))]) ⟨⟨rfl, rsl _ (List.getElem?_range ri)⟩, ⟨rfl, rcap⟩, ⟨rfl, renV_pure rfl⟩, trivial⟩
    refine Wk.low n0 rfl rfl rfl ?_ rfl ?_ hs.2 (hcM _) fun k hk => ?_
    · show m ≤ n0
      omega
    · refine (wkS_ren [(0, V.sl (rid b i) 4 0 w), (1, .clo (.func g) [] caps), (4, .raw (.int .i64 ((w : Int) - 1)))] ?_).1
      simp only [go_sem]
      exact ⟨List.getElem?_range ri, rcap.2.2⟩
    · show _ = matH o b _ _ w (M.set i (mkr (fun j => if w ≤ j then F j else cf R j) w)) base k
      rw [st0, hset]
  rintro ⟨c, hc⟩
  refine AWp.seq (vc_ok T _ _ _ ?_)
  rcases c with _ | c
  · have d1 : ¬ (0 : Int) ≤ ((0 : Nat) : Int) - 1 := by omega
    simp only [go_sem, d1, stE]
    refine Wk.low n0 rfl rfl rfl (by show m ≤ n0; omega) rfl (fun t => trivial) (fun t l h => by cases h) (hcM _) fun k hk => rfl
  · have d1 : (0 : Int) ≤ (c : Int) := by omega
    have d2 : ((c + 1 : Nat) : Int) - 1 = (c : Int) := by omega
    simp only [go_sem, d1, d2]
    refine AWp.seq (AWp.block (AWp.regs ?_))
    refine RegI.cut T 0 4 rfl rfl (by decide) ?_
    simp only [go_sem, d2]
    refine ⟨_, Wk.refl _, ?_⟩
    have lv : ∀ l k, k < b → (k ≠ o → (base k).isSome = true) → ((matH o b 40 36 w (M.set i l) base) k).isSome = true := fun l k hk h => by
      by_cases e : k = o
      · rw [e, matH_o]; rfl
      · rw [matH_lo e hk]; exact h e
    obtain ⟨L, eL⟩ : ∃ L, mkr (fun j => if c + 1 ≤ j then F j else cf R j) w = L := ⟨_, rfl⟩
    have lL : L.length = w := by rw [← eL, mkr_len]
    have hrow : matH o b 40 36 w (M.set i L) base (rid b i) = some ⟨36, 4, V.rats L⟩ := by
      have := matH_row (tO := 40) (t := 36) (w := w) (M := M.set i L) (H := base) (i := i) ho (by rw [len]; exact hi)
      rw [gd_set hi, if_pos rfl] at this
      exact this
    have nx : L.set c (F c) = mkr (fun j => if c ≤ j then F j else cf R j) w := by
      refine l_ext (by rw [List.length_set, lL, mkr_len]) fun k hk => ?_
      rw [List.length_set, lL] at hk
      rw [cf_setL (by omega), cf_mkr, if_pos hk, ← eL, cf_mkr, if_pos hk]
      by_cases e : k = c
      · rw [if_pos e, if_pos (by omega), e]
      · rw [if_neg e]
        by_cases e2 : c + 1 ≤ k
        · rw [if_pos e2, if_pos (by omega)]
        · rw [if_neg e2, if_neg (by omega)]
    rw [eL]
    refine RegI.callH (dst := some 16) 4 rfl rfl rfl rfl rfl hnt (n0 + 6) (by show m ≤ n0 + 6; omega) (liveTo_of fun k hk => lv L k (Nat.lt_of_lt_of_le hk hmb) (hlive k hk)) [(0, .sl (rid b i) 4 0 w), (1, .clo (.func g) [] caps), (4, .raw (.int .i64 (c : Nat))), (12, .sl (rid b i) 4 0 w), (13, .raw (.int .i64 (c : Nat)))] ?_ rfl (by show (16 : Nat) < 18; decide) (by have := hcl (n0 + 6) c (by omega) hc; rw [eL] at this; exact this) ?_
    · have r1 := lvT_get (m := n0 + 6) (H := matH o b 40 36 w (M.set i L) base) (n := n0 + 6) (show rid b i < n0 + 6 by omega) (by rw [hrow]; rfl)
      simp only [go_sem]
      refine ⟨r1, hcap _ fun k hk => ?_, r1⟩
      obtain ⟨k1, ⟨k2, k3⟩, k4⟩ := hids k hk
      refine lvT_get (by omega) ?_
      unfold matH
      rw [if_neg k2, if_neg (by rw [len]; exact k3)]
      exact k4
    refine RegI.fin T 5 rfl ?_
    have c0 : c < w := by omega
    have c2 : 0 ≤ (c : Int) := by omega
    have up5 : ∀ l, (matH o b 40 36 w (M.set i L) base).up (rid b i) (some ⟨36, 4, V.rats l⟩) = matH o b 40 36 w (M.set i l) base := fun l => by
      rw [matH_up ho (by rw [len]; exact hi), List.set_set]
    simp only [go_sem, hrow, c2, hc, lL, up5, nx]
    refine ⟨by omega, hc, vc_ok T _ _ _ ?_⟩
    simp only [go_sem]
    refine ⟨⟨by omega, by omega⟩, ⟨c, by omega⟩, Wk.low n0 rfl rfl rfl (by show m ≤ n0; omega) rfl ?_ (wkS_ren (θ := List.range n0) (s := mkS [(0, V.sl (rid b i) 4 0 w), (1, .clo (.func g) [] caps), (4, .raw (.int .i64 ((c : Int) - 1)))]) _ ?_).2 (hcM _) (fun k hk => rfl), by simp only; omega⟩
    · refine (wkS_ren [(0, V.sl (rid b i) 4 0 w), (1, .clo (.func g) [] caps), (4, .raw (.int .i64 ((c : Int) - 1)))] ?_).1
      simp only [go_sem]
      exact ⟨List.getElem?_range ri, rcap.2.2⟩
    · exact ⟨⟨rfl, rsl _ (List.getElem?_range ri)⟩, ⟨rfl, rcap⟩, ⟨rfl, renV_pure rfl⟩, trivial⟩
end Go.Proofs.YtjjebokgckmnjaaGreat

