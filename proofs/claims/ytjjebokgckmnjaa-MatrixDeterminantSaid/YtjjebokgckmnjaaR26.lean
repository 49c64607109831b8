/- Texts MX1 MX2 MX3 MXS in one. -/
import Derived.Test.YtjjebokgckmnjaaR23
import Derived.Test.YtjjebokgckmnjaaR21
/- Gauss-Jordan elimination: rows and steps. No program in sight. -/
namespace Go.Proofs.Ytjjebokgckmnjaa
set_option linter.unusedSimpArgs false
set_option linter.unusedVariables false

abbrev ent (M : List (List Rat)) (i k : Nat) : Rat := cf (M.getD i []) k
def Wid (w : Nat) (M : List (List Rat)) : Prop := ∀ i, i < M.length → (M.getD i []).length = w
/-- A list by its elements. -/
def mkr (F : Nat → Rat) (n : Nat) : List Rat := (List.range n).map F
theorem mkr_len (F : Nat → Rat) (n : Nat) : (mkr F n).length = n := by simp [mkr]
theorem mkr_succ (F : Nat → Rat) (n : Nat) : mkr F (n + 1) = mkr F n ++ [F n] := by unfold mkr; rw [List.range_succ, List.map_append]; rfl
theorem cf_mkr (F : Nat → Rat) (n k : Nat) : cf (mkr F n) k = if k < n then F k else 0 := by
  unfold cf mkr
  rw [List.getD_eq_getElem?_getD, List.getElem?_map]
  by_cases h : k < n
  · rw [List.getElem?_range h, if_pos h]; rfl
  · rw [List.getElem?_eq_none (by simp; omega), if_neg h]; rfl
theorem l_ext {a b : List Rat} (h : a.length = b.length) (hc : ∀ k, k < a.length → cf a k = cf b k) : a = b := by
  refine List.ext_getElem h fun i h1 h2 => ?_
  have := hc i h1
  rwa [cf_lt h1, cf_lt h2] at this
theorem mkr_eq {F : Nat → Rat} {n : Nat} {l : List Rat} (h : l.length = n) (hc : ∀ k, k < n → F k = cf l k) : mkr F n = l :=
  l_ext (by rw [mkr_len, h]) fun k hk => by rw [mkr_len] at hk; rw [cf_mkr, if_pos hk, hc k hk]
theorem mkr_congr {F G : Nat → Rat} {n : Nat} (h : ∀ k, k < n → F k = G k) : mkr F n = mkr G n := mkr_eq (mkr_len _ _) fun k hk => by rw [cf_mkr, if_pos hk, h k hk]
/-- Rows by their numbers. -/
def mkm (F : Nat → List Rat) (n : Nat) : List (List Rat) := (List.range n).map F
theorem mkm_len (F : Nat → List Rat) (n : Nat) : (mkm F n).length = n := by simp [mkm]
theorem mkm_succ (F : Nat → List Rat) (n : Nat) : mkm F (n + 1) = mkm F n ++ [F n] := by unfold mkm; rw [List.range_succ, List.map_append]; rfl
theorem gd_mkm (F : Nat → List Rat) (n i : Nat) : (mkm F n).getD i [] = if i < n then F i else [] := by
  unfold mkm
  rw [List.getD_eq_getElem?_getD, List.getElem?_map]
  by_cases h : i < n
  · rw [List.getElem?_range h, if_pos h]; rfl
  · rw [List.getElem?_eq_none (by simp; omega), if_neg h]; rfl
theorem gd_ge {M : List (List Rat)} {i : Nat} (h : M.length ≤ i) : M.getD i [] = [] := by
  rw [List.getD_eq_getElem?_getD, List.getElem?_eq_none h]; rfl
theorem gd_lt {M : List (List Rat)} {i : Nat} (h : i < M.length) : M.getD i [] = M[i] := by
  rw [List.getD_eq_getElem?_getD, List.getElem?_eq_getElem h]; rfl
theorem m_ext {A B : List (List Rat)} (h : A.length = B.length) (hc : ∀ k, k < A.length → A.getD k [] = B.getD k []) : A = B := by
  refine List.ext_getElem h fun i h1 h2 => ?_
  have := hc i h1
  rwa [gd_lt h1, gd_lt h2] at this
theorem mkm_eq {F : Nat → List Rat} {n : Nat} {M : List (List Rat)} (h : M.length = n) (hc : ∀ k, k < n → F k = M.getD k []) : mkm F n = M :=
  m_ext (by rw [mkm_len, h]) fun k hk => by rw [mkm_len] at hk; rw [gd_mkm, if_pos hk, hc k hk]
theorem ent_ge {M : List (List Rat)} {i : Nat} (h : M.length ≤ i) (k : Nat) : ent M i k = 0 := by
  show cf _ _ = 0
  rw [gd_ge h]; rfl
theorem ent_wide {M : List (List Rat)} {w : Nat} (h : Wid w M) (i : Nat) {k : Nat} (hk : w ≤ k) : ent M i k = 0 := by
  by_cases hi : i < M.length
  · exact cf_ge (by rw [h i hi]; exact hk)
  · exact ent_ge (by omega) k
/-- A row times a number; a row less a multiple of another. -/
def rw1 (p : List Rat) (x : Rat) : List Rat := mkr (fun k => cf p k * x) p.length
def rw2 (r p : List Rat) (f : Rat) : List Rat := mkr (fun k => cf r k - f * cf p k) r.length
theorem rw1_len (p : List Rat) (x : Rat) : (rw1 p x).length = p.length := mkr_len _ _
theorem rw2_len (r p : List Rat) (f : Rat) : (rw2 r p f).length = r.length := mkr_len _ _
theorem cf_rw1 (p : List Rat) (x : Rat) (k : Nat) : cf (rw1 p x) k = cf p k * x := by
  unfold rw1
  rw [cf_mkr]
  split
  · rfl
  · rw [cf_ge (by omega)]; grind
theorem cf_rw2 {r p : List Rat} (h : p.length ≤ r.length) (f : Rat) (k : Nat) : cf (rw2 r p f) k = cf r k - f * cf p k := by
  unfold rw2
  rw [cf_mkr]
  split
  · rfl
  · rw [cf_ge (by omega), cf_ge (by omega)]; grind
theorem rw2_zero (r p : List Rat) : rw2 r p 0 = r := mkr_eq rfl fun k _ => by grind
/-- The first row from row n on whose element in column c is not 0. -/
def srch (M : List (List Rat)) (c : Nat) : Nat → Nat → Option Nat
  | 0, _ => none
  | s + 1, i => if ent M i c = 0 then srch M c s (i + 1) else some i
def srF (M : List (List Rat)) (n c : Nat) : Option Nat := srch M c (M.length - n) n
theorem srch_some {M : List (List Rat)} {c : Nat} : ∀ {s i a : Nat}, srch M c s i = some a → (i ≤ a ∧ a < i + s) ∧ ent M a c ≠ 0 ∧ ∀ j, i ≤ j → j < a → ent M j c = 0
  | 0, _, _, h => by cases h
  | s + 1, i, a, h => by
    unfold srch at h
    split at h
    · rename_i h0
      obtain ⟨h1, h2, h3⟩ := srch_some h
      refine ⟨by omega, h2, fun j hj1 hj2 => ?_⟩
      by_cases e : j = i
      · rw [e]; exact h0
      · exact h3 j (by omega) hj2
    · rename_i h0
      injection h with h
      subst h
      exact ⟨by omega, h0, fun j hj1 hj2 => by omega⟩
theorem srch_none {M : List (List Rat)} {c : Nat} : ∀ {s i : Nat}, srch M c s i = none → ∀ j, i ≤ j → j < i + s → ent M j c = 0
  | 0, _, _, j, hj1, hj2 => by omega
  | s + 1, i, h, j, hj1, hj2 => by
    unfold srch at h
    split at h
    · rename_i h0
      by_cases e : j = i
      · rw [e]; exact h0
      · exact srch_none h j (by omega) (by omega)
    · cases h
theorem srF_some {M : List (List Rat)} {n c a : Nat} (h : srF M n c = some a) : (n ≤ a ∧ a < M.length) ∧ ent M a c ≠ 0 := by
  obtain ⟨h1, h2, _⟩ := srch_some h
  exact ⟨by omega, h2⟩
theorem srF_none {M : List (List Rat)} {n c : Nat} (h : srF M n c = none) : ∀ j, n ≤ j → j < M.length → ent M j c = 0 := fun j h1 h2 => srch_none h j h1 (by omega)
theorem srF_is {M : List (List Rat)} {n c a : Nat} (h1 : n ≤ a) (h2 : a < M.length) (h3 : ent M a c ≠ 0) (h4 : ∀ j, n ≤ j → j < a → ent M j c = 0) : srF M n c = some a := by
  rcases h : srF M n c with _ | b
  · exact absurd (srF_none h a h1 h2) h3
  · obtain ⟨g1, g2, g3⟩ := srch_some h
    have : a = b := by
      rcases Nat.lt_trichotomy a b with hlt | heq | hgt
      · exact absurd (g3 a h1 hlt) h3
      · exact heq
      · exact absurd (h4 b g1.1 hgt) g2
    rw [this]
theorem srF_no {M : List (List Rat)} {n c : Nat} (h : ∀ j, n ≤ j → j < M.length → ent M j c = 0) : srF M n c = none := by
  rcases h' : srF M n c with _ | b
  · rfl
  · obtain ⟨g1, g2⟩ := srF_some h'
    exact absurd (h b g1.1 g1.2) g2
/-- Row n is made the one with the pivot of column c; the rows below i are cleared. -/
def pvR (M : List (List Rat)) (n c : Nat) : List Rat := rw1 (M.getD n []) (1 / ent M n c)
def pvI (M : List (List Rat)) (n c i : Nat) : List (List Rat) := mkm (fun j => if j = n then pvR M n c else if j < i then rw2 (M.getD j []) (pvR M n c) (ent M j c) else M.getD j []) M.length
def pvt (M : List (List Rat)) (n c : Nat) : List (List Rat) := pvI M n c M.length
theorem pvI_len (M : List (List Rat)) (n c i : Nat) : (pvI M n c i).length = M.length := mkm_len _ _
theorem pvI_get {M : List (List Rat)} {n c i j : Nat} (hj : j < M.length) : (pvI M n c i).getD j [] = if j = n then pvR M n c else if j < i then rw2 (M.getD j []) (pvR M n c) (ent M j c) else M.getD j [] := by
  unfold pvI
  rw [gd_mkm, if_pos hj]
theorem pvI_zero {M : List (List Rat)} {n : Nat} (c : Nat) (hn : n < M.length) : pvI M n c 0 = M.set n (pvR M n c) :=
  m_ext (by rw [pvI_len, List.length_set]) fun j hj => by
    rw [pvI_len] at hj
    rw [pvI_get hj, gd_set hn]
    by_cases e : j = n
    · rw [if_pos e, if_pos e]
    · rw [if_neg e, if_neg e, if_neg (by omega)]
theorem pvI_self {M : List (List Rat)} {n c : Nat} : pvI M n c n.succ = pvI M n c n := by
  unfold pvI
  congr 1
  funext j
  by_cases e : j = n
  · rw [if_pos e, if_pos e]
  · rw [if_neg e, if_neg e]
    by_cases h : j < n
    · rw [if_pos h, if_pos (by omega)]
    · rw [if_neg h, if_neg (by omega)]
theorem pvI_succ {M : List (List Rat)} {n i : Nat} (c : Nat) (hi : i < M.length) (hne : i ≠ n) : pvI M n c (i + 1) = (pvI M n c i).set i (rw2 (M.getD i []) (pvR M n c) (ent M i c)) :=
  m_ext (by rw [pvI_len, List.length_set, pvI_len]) fun j hj => by
    rw [pvI_len] at hj
    rw [pvI_get hj, gd_set (by rw [pvI_len]; exact hi), pvI_get hj]
    by_cases e : j = n
    · rw [if_pos e, if_neg (by omega), if_pos e]
    · rw [if_neg e, if_neg e]
      by_cases e2 : j = i
      · rw [if_pos e2, if_pos (by omega), e2]
      · rw [if_neg e2]
        by_cases h : j < i
        · rw [if_pos h, if_pos (by omega)]
        · rw [if_neg h, if_neg (by omega)]
theorem pvI_skip {M : List (List Rat)} {n c i : Nat} (hi : i < M.length) (h0 : ent M i c = 0) : pvI M n c (i + 1) = pvI M n c i :=
  m_ext (by rw [pvI_len, pvI_len]) fun j hj => by
    rw [pvI_len] at hj
    rw [pvI_get hj, pvI_get hj]
    by_cases e : j = n
    · rw [if_pos e, if_pos e]
    · rw [if_neg e, if_neg e]
      by_cases e2 : j = i
      · rw [if_pos (by omega), if_neg (by omega), e2, h0, rw2_zero]
      · by_cases h : j < i
        · rw [if_pos h, if_pos (by omega)]
        · rw [if_neg h, if_neg (by omega)]
theorem pvt_len (M : List (List Rat)) (n c : Nat) : (pvt M n c).length = M.length := pvI_len _ _ _ _
theorem pvt_wid {M : List (List Rat)} {n c i w : Nat} (hW : Wid w M) (hn : n < M.length) : Wid w (pvI M n c i) := fun j hj => by
  rw [pvI_len] at hj
  rw [pvI_get hj]
  split
  · unfold pvR; rw [rw1_len]; exact hW n hn
  · split
    · rw [rw2_len]; exact hW j hj
    · exact hW j hj
theorem ent_pvt {M : List (List Rat)} {n c w : Nat} (hW : Wid w M) (hn : n < M.length) {i : Nat} (hi : i < M.length) (k : Nat) : ent (pvt M n c) i k = if i = n then ent M n k * (1 / ent M n c) else ent M i k - ent M i c * (ent M n k * (1 / ent M n c)) := by
  show cf ((pvI M n c M.length).getD i []) k = _
  rw [pvI_get hi, if_pos hi]
  split
  · unfold pvR; rw [cf_rw1]
  · rw [cf_rw2 (by unfold pvR; rw [rw1_len, hW n hn, hW i hi]; exact Nat.le_refl _)]
    unfold pvR
    rw [cf_rw1]
theorem swM_self {M : List (List Rat)} {k : Nat} (hk : k < M.length) : swM M k k = M :=
  m_ext (swM_len _ _ _) fun j hj => by
    rw [swM_get hk hk]
    split
    · rename_i e; rw [e]
    · rfl
theorem swM_wid {M : List (List Rat)} {k p w : Nat} (hW : Wid w M) (hk : k < M.length) (hp : p < M.length) : Wid w (swM M k p) := fun j hj => by
  rw [swM_len] at hj
  rw [swM_get hk hp]
  split
  · exact hW p hp
  · split
    · exact hW k hk
    · exact hW j hj
theorem ent_swM {M : List (List Rat)} {k p : Nat} (hk : k < M.length) (hp : p < M.length) (i j : Nat) : ent (swM M k p) i j = if i = k then ent M p j else if i = p then ent M k j else ent M i j := by
  show cf ((swM M k p).getD i []) j = _
  rw [swM_get hk hp]
  split
  · rfl
  · split <;> rfl
/-- Subspaces. -/
structure Lin (S : (Nat → Rat) → Prop) : Prop where
  zero : S fun _ => 0
  add : ∀ f g, S f → S g → S fun k => f k + g k
  mul : ∀ c f, S f → S fun k => c * f k
def AllS (S : (Nat → Rat) → Prop) (M : List (List Rat)) : Prop := ∀ i, i < M.length → S (cf (M.getD i []))
theorem Lin.comb {S : (Nat → Rat) → Prop} (h : Lin S) {f g : Nat → Rat} (c : Rat) (hf : S f) (hg : S g) {u : Nat → Rat} (e : ∀ k, u k = f k + c * g k) : S u := by
  have := h.add _ _ hf (h.mul c _ hg)
  rwa [show u = fun k => f k + c * g k from funext e]
theorem Lin.scale {S : (Nat → Rat) → Prop} (h : Lin S) {f : Nat → Rat} (c : Rat) (hf : S f) {u : Nat → Rat} (e : ∀ k, u k = c * f k) : S u := by
  have := h.mul c _ hf
  rwa [show u = fun k => c * f k from funext e]
theorem AllS.swap1 {S : (Nat → Rat) → Prop} {M : List (List Rat)} {k p : Nat} (hk : k < M.length) (hp : p < M.length) (h : AllS S M) : AllS S (swM M k p) := fun i hi => by
  rw [swM_len] at hi
  rw [swM_get hk hp]
  split
  · exact h p hp
  · split
    · exact h k hk
    · exact h i hi
theorem swM_swM {M : List (List Rat)} {k p : Nat} (hk : k < M.length) (hp : p < M.length) : swM (swM M k p) k p = M :=
  m_ext (by rw [swM_len, swM_len]) fun j hj => by
    rw [swM_get (by rw [swM_len]; exact hk) (by rw [swM_len]; exact hp), swM_get hk hp, swM_get hk hp, swM_get hk hp]
    by_cases e1 : j = k
    · subst e1
      rw [if_pos rfl]
      by_cases e2 : p = j
      · rw [if_pos e2, e2]
      · rw [if_neg e2, if_pos rfl]
    · rw [if_neg e1]
      by_cases e2 : j = p
      · rw [if_pos e2, if_pos rfl, e2]
      · rw [if_neg e2, if_neg e1, if_neg e2]
theorem AllS.swap {S : (Nat → Rat) → Prop} {M : List (List Rat)} {k p : Nat} (hk : k < M.length) (hp : p < M.length) : AllS S (swM M k p) ↔ AllS S M := by
  refine ⟨fun h => ?_, AllS.swap1 hk hp⟩
  have := AllS.swap1 (M := swM M k p) (k := k) (p := p) (by rw [swM_len]; exact hk) (by rw [swM_len]; exact hp) h
  rwa [swM_swM hk hp] at this
theorem AllS.piv {S : (Nat → Rat) → Prop} (hS : Lin S) {M : List (List Rat)} {n c w : Nat} (hW : Wid w M) (hn : n < M.length) (h0 : ent M n c ≠ 0) : AllS S (pvt M n c) ↔ AllS S M := by
  have hr : ∀ k, ent M n k = ent M n c * ent (pvt M n c) n k := fun k => by
    rw [ent_pvt hW hn hn, if_pos rfl]; grind
  have hs : ∀ k, ent (pvt M n c) n k = (1 / ent M n c) * ent M n k := fun k => by
    rw [ent_pvt hW hn hn, if_pos rfl]; grind
  have hi1 : ∀ i, i < M.length → i ≠ n → ∀ k, ent (pvt M n c) i k = ent M i k + (- ent M i c) * ent (pvt M n c) n k := fun i hi hne k => by
    rw [ent_pvt hW hn hi, if_neg hne, hs]; grind
  constructor
  · intro h i hi
    have hn' := h n (by rw [pvt_len]; exact hn)
    by_cases e : i = n
    · subst e
      exact hS.scale (ent M i c) hn' hr
    · exact hS.comb (ent M i c) (h i (by rw [pvt_len]; exact hi)) hn' fun k => by
        have := hi1 i hi e k
        show ent M i k = ent (pvt M n c) i k + ent M i c * ent (pvt M n c) n k
        rw [this]; grind
  · intro h i hi
    rw [pvt_len] at hi
    have hn' : S (cf ((pvt M n c).getD n [])) := hS.scale (1 / ent M n c) (h n hn) hs
    by_cases e : i = n
    · subst e; exact hn'
    · exact hS.comb (- ent M i c) (h i hi) hn' (hi1 i hi e)
/-- The elimination. -/
structure ES where
  M : List (List Rat)
  p : List Nat
  d : Rat
def stA (s : ES) (a c : Nat) : ES := ⟨pvt (swM s.M s.p.length a) s.p.length c, s.p ++ [c], (if a = s.p.length then s.d else -s.d) * ent s.M a c⟩
def stp (s : ES) (c : Nat) : ES := match srF s.M s.p.length c with
  | none => s
  | some a => stA s a c
def elm (M : List (List Rat)) : Nat → ES
  | 0 => ⟨M, [], 1⟩
  | c + 1 => stp (elm M c) c
def pv (p : List Nat) (i : Nat) : Nat := p.getD i 0
theorem pv_snoc (p : List Nat) (c i : Nat) : pv (p ++ [c]) i = if i < p.length then pv p i else if i = p.length then c else 0 := by
  unfold pv
  rw [List.getD_eq_getElem?_getD]
  split
  · rename_i h; rw [List.getElem?_append_left h, List.getD_eq_getElem?_getD]
  · rename_i h
    rw [List.getElem?_append_right (by omega)]
    split
    · rename_i e; rw [e, Nat.sub_self]; rfl
    · rw [List.getElem?_eq_none (by simp; omega)]; rfl
structure EI (M : List (List Rat)) (w c : Nat) (s : ES) : Prop where
  len : s.M.length = M.length
  wid : Wid w s.M
  n : s.p.length ≤ M.length
  lt : ∀ i, i < s.p.length → pv s.p i < c
  inc : ∀ i j, i < j → j < s.p.length → pv s.p i < pv s.p j
  unit : ∀ i, i < M.length → ∀ j, j < s.p.length → ent s.M i (pv s.p j) = if i = j then 1 else 0
  zero : ∀ i k, k < c → (i < s.p.length → k < pv s.p i) → ent s.M i k = 0
  sub : ∀ S, Lin S → (AllS S s.M ↔ AllS S M)
theorem EI.start {M : List (List Rat)} {w : Nat} (hW : Wid w M) : EI M w 0 ⟨M, [], 1⟩ :=
  ⟨rfl, hW, Nat.zero_le _, fun i h => absurd h (Nat.not_lt_zero _), fun i j _ h => absurd h (Nat.not_lt_zero _), fun i _ j h => absurd h (Nat.not_lt_zero _), fun i k h => absurd h (Nat.not_lt_zero _), fun _ _ => Iff.rfl⟩
theorem EI.stA {M : List (List Rat)} {w c : Nat} {s : ES} (h : EI M w c s) {a : Nat} (h1 : s.p.length ≤ a) (h2 : a < M.length) (h3 : ent s.M a c ≠ 0) : EI M w (c + 1) (stA s a c) := by
  obtain ⟨e1, e2, e3, e4, e5, e6, e7, e8⟩ := h
  have hn : s.p.length < M.length := by omega
  have hns : s.p.length < s.M.length := by omega
  have has : a < s.M.length := by omega
  have hW1 := swM_wid e2 hns has
  have hl1 := swM_len s.M s.p.length a
  have by0 : ent (swM s.M s.p.length a) s.p.length c ≠ 0 := by rw [ent_swM hns has, if_pos rfl]; exact h3
  have E : ∀ i, i < M.length → ∀ k, ent (pvt (swM s.M s.p.length a) s.p.length c) i k = if i = s.p.length then ent (swM s.M s.p.length a) s.p.length k * (1 / ent (swM s.M s.p.length a) s.p.length c) else ent (swM s.M s.p.length a) i k - ent (swM s.M s.p.length a) i c * (ent (swM s.M s.p.length a) s.p.length k * (1 / ent (swM s.M s.p.length a) s.p.length c)) := fun i hi k =>
    ent_pvt hW1 (by omega) (by omega) k
  have u1 : ∀ i, i < M.length → ∀ j, j < s.p.length → ent (swM s.M s.p.length a) i (pv s.p j) = if i = j then 1 else 0 := fun i hi j hj => by
    rw [ent_swM hns has]
    split
    · rename_i e
      rw [e6 a h2 j hj, if_neg (by omega), if_neg (by omega)]
    · split
      · rw [e6 _ hn j hj, if_neg (by omega), if_neg (by omega)]
      · exact e6 i hi j hj
  have z1 : ∀ i k, k < c → (i < s.p.length → k < pv s.p i) → ent (swM s.M s.p.length a) i k = 0 := fun i k hk hi => by
    rw [ent_swM hns has]
    split
    · exact e7 a k hk fun h => by omega
    · split
      · exact e7 _ k hk fun h => by omega
      · exact e7 i k hk hi
  refine ⟨?_, ?_, ?_, fun i hi => ?_, fun i j hij hj => ?_, fun i hi j hj => ?_, fun i k hk hi => ?_, fun S hS => ?_⟩
  · show (pvt _ _ _).length = _
    rw [pvt_len, swM_len, e1]
  · exact pvt_wid hW1 (by omega)
  · show (s.p ++ [c]).length ≤ _
    simp; omega
  · show pv (s.p ++ [c]) i < c + 1
    have hi : i < (s.p ++ [c]).length := hi
    simp at hi
    rw [pv_snoc]
    split
    · rename_i h; have := e4 i h; omega
    · rw [if_pos (by omega)]; omega
  · show pv (s.p ++ [c]) i < pv (s.p ++ [c]) j
    have hj : j < (s.p ++ [c]).length := hj
    simp at hj
    rw [pv_snoc, pv_snoc, if_pos (by omega)]
    split
    · rename_i h; exact e5 i j hij h
    · rw [if_pos (by omega)]; exact e4 i (by omega)
  · show ent (pvt _ _ _) i (pv (s.p ++ [c]) j) = _
    have hj : j < (s.p ++ [c]).length := hj
    simp at hj
    rw [E i hi, pv_snoc]
    by_cases hjn : j < s.p.length
    · rw [if_pos hjn]
      by_cases e : i = s.p.length
      · rw [if_pos e, u1 _ hn j hjn, if_neg (show ¬ s.p.length = j by omega), if_neg (show ¬ i = j by omega)]; grind
      · rw [if_neg e, u1 _ hn j hjn, if_neg (show ¬ s.p.length = j by omega), u1 i hi j hjn]; grind
    · obtain rfl : j = s.p.length := by omega
      rw [if_neg hjn, if_pos rfl]
      by_cases e : i = s.p.length
      · rw [if_pos e, if_pos e]; grind
      · rw [if_neg e, if_neg e]; grind
  · show ent (pvt _ _ _) i k = 0
    have hi : i < (s.p ++ [c]).length → k < pv (s.p ++ [c]) i := hi
    by_cases hl : i < M.length
    · rw [E i hl]
      by_cases e : i = s.p.length
      · have hk' : k < c := by
          have := hi (by simp; omega)
          rw [pv_snoc, if_neg (by omega), if_pos e] at this
          exact this
        rw [if_pos e, z1 s.p.length k hk' (fun h => by omega)]; grind
      · rw [if_neg e]
        by_cases hk' : k < c
        · rw [z1 s.p.length k hk' (fun h => by omega), z1 i k hk' fun h => by
            have := hi (by simp; omega)
            rw [pv_snoc, if_pos h] at this
            exact this]
          grind
        · obtain rfl : k = c := by omega
          grind
    · exact ent_ge (by rw [pvt_len, swM_len]; omega) k
  · show AllS S (pvt _ _ _) ↔ _
    rw [AllS.piv hS hW1 (by omega) by0, AllS.swap hns has]
    exact e8 S hS
theorem EI.step {M : List (List Rat)} {w c : Nat} {s : ES} (h : EI M w c s) : EI M w (c + 1) (stp s c) := by
  unfold stp
  split
  · rename_i hn
    refine ⟨h.len, h.wid, h.n, fun i hi => by have := h.lt i hi; omega, h.inc, h.unit, fun i k hk hi => ?_, h.sub⟩
    by_cases hk' : k < c
    · exact h.zero i k hk' hi
    · obtain rfl : k = c := by omega
      by_cases hi' : i < s.p.length
      · have := hi hi'; have := h.lt i hi'; omega
      · by_cases hl : i < s.M.length
        · exact srF_none hn i (by omega) hl
        · exact ent_ge (by omega) k
  · rename_i a ha
    obtain ⟨h1, h2⟩ := srF_some ha
    exact h.stA h1.1 (by rw [← h.len]; exact h1.2) h2
theorem elm_EI {M : List (List Rat)} {w : Nat} (hW : Wid w M) : ∀ c, EI M w c (elm M c)
  | 0 => EI.start hW
  | c + 1 => (elm_EI hW c).step
end Go.Proofs.Ytjjebokgckmnjaa


/- Reduced row echelon forms: uniqueness. No program in sight. -/
namespace Go.Proofs.Ytjjebokgckmnjaa
set_option linter.unusedSimpArgs false
set_option linter.unusedVariables false

structure RE (w : Nat) (p : List Nat) (A : List (List Rat)) : Prop where
  len : A.length = p.length
  wid : Wid w A
  lt : ∀ i, i < p.length → pv p i < w
  inc : ∀ i j, i < j → j < p.length → pv p i < pv p j
  unit : ∀ i, i < p.length → ∀ j, j < p.length → ent A i (pv p j) = if i = j then 1 else 0
  zero : ∀ i k, i < p.length → k < pv p i → ent A i k = 0
theorem gd_take (M : List (List Rat)) (n i : Nat) : (M.take n).getD i [] = if i < n then M.getD i [] else [] := by
  rw [List.getD_eq_getElem?_getD, List.getElem?_take]
  split
  · rw [List.getD_eq_getElem?_getD]
  · rfl
theorem ent_take (M : List (List Rat)) {n i : Nat} (h : i < n) (k : Nat) : ent (M.take n) i k = ent M i k := by
  show cf _ _ = cf _ _
  rw [gd_take, if_pos h]
/-- The form that the elimination gives. -/
def rre (M : List (List Rat)) (w : Nat) : List (List Rat) := (elm M w).M.take (elm M w).p.length
theorem elm_RE {M : List (List Rat)} {w : Nat} (hW : Wid w M) : RE w (elm M w).p (rre M w) := by
  obtain ⟨e1, e2, e3, e4, e5, e6, e7, _⟩ := elm_EI hW w
  have hl : (rre M w).length = (elm M w).p.length := by unfold rre; rw [List.length_take]; omega
  refine ⟨hl, fun i hi => ?_, e4, e5, fun i hi j hj => ?_, fun i k hi hk => ?_⟩
  · rw [hl] at hi
    unfold rre
    rw [gd_take, if_pos hi]
    exact e2 i (by omega)
  · unfold rre
    rw [ent_take _ hi]
    exact e6 i (by omega) j hj
  · unfold rre
    rw [ent_take _ hi]
    exact e7 i k (by have := e4 i hi; omega) fun _ => hk
theorem rre_AllS {M : List (List Rat)} {w : Nat} (hW : Wid w M) {S : (Nat → Rat) → Prop} (hS : Lin S) : AllS S (rre M w) ↔ AllS S M := by
  obtain ⟨e1, e2, e3, e4, e5, e6, e7, e8⟩ := elm_EI hW w
  have hl : (rre M w).length = (elm M w).p.length := by unfold rre; rw [List.length_take]; omega
  rw [← e8 S hS]
  constructor
  · intro h i hi
    by_cases hi' : i < (elm M w).p.length
    · have := h i (by omega)
      unfold rre at this
      rwa [gd_take, if_pos hi'] at this
    · have h0 : cf ((elm M w).M.getD i []) = fun _ => 0 := by
        funext k
        by_cases hk : k < w
        · exact e7 i k hk fun h => absurd h hi'
        · exact ent_wide e2 i (by omega)
      rw [h0]; exact hS.zero
  · intro h i hi
    rw [hl] at hi
    unfold rre
    rw [gd_take, if_pos hi]
    exact h i (by omega)
/-- The combinations of the rows. -/
def SpA (p : List Nat) (A : List (List Rat)) (v : Nat → Rat) : Prop := ∀ k, v k = sm p.length fun i => v (pv p i) * ent A i k
theorem SpA_lin (p : List Nat) (A : List (List Rat)) : Lin (SpA p A) where
  zero k := (sm_zero fun i _ => by grind).symm
  add f g hf hg k := by
    show f k + g k = _
    rw [hf k, hg k, ← sm_add]
    exact sm_congr fun i _ => by grind
  mul c f hf k := by
    show c * f k = _
    rw [hf k, ← sm_mul]
    exact sm_congr fun i _ => by grind
theorem RE.sp {w : Nat} {p : List Nat} {A : List (List Rat)} (h : RE w p A) : AllS (SpA p A) A := fun j hj k => by
  rw [h.len] at hj
  rw [sm_one j hj fun i hi hne => by
    have := h.unit j hj i hi
    rw [if_neg (fun e => hne e.symm)] at this
    show ent A j (pv p i) * _ = 0
    rw [this]; grind]
  have := h.unit j hj j hj
  rw [if_pos rfl] at this
  show ent A j k = ent A j (pv p j) * ent A j k
  rw [this]; grind
theorem first_nz (v : Nat → Rat) : ∀ n, (∀ i, i < n → v i = 0) ∨ ∃ i, i < n ∧ v i ≠ 0 ∧ ∀ j, j < i → v j = 0
  | 0 => .inl fun i h => absurd h (Nat.not_lt_zero _)
  | n + 1 => by
    rcases first_nz v n with h | ⟨i, h1, h2, h3⟩
    · by_cases h0 : v n = 0
      · refine .inl fun i hi => ?_
        by_cases e : i = n
        · rw [e]; exact h0
        · exact h i (by omega)
      · exact .inr ⟨n, by omega, h0, h⟩
    · exact .inr ⟨i, by omega, h2, h3⟩
theorem RE.lead {w : Nat} {p : List Nat} {A : List (List Rat)} (h : RE w p A) {v : Nat → Rat} (hv : SpA p A v) {c : Nat} (h0 : v c ≠ 0) (hz : ∀ k, k < c → v k = 0) : ∃ i, i < p.length ∧ pv p i = c := by
  rcases first_nz (fun i => v (pv p i)) p.length with hn | ⟨i, h1, h2, h3⟩
  · exact absurd ((hv c).trans (sm_zero fun i hi => by rw [show v (pv p i) = 0 from hn i hi]; grind)) h0
  · have hc : c ≤ pv p i := by
      rcases Nat.lt_or_ge (pv p i) c with hlt | hge
      · exact absurd (hz _ hlt) h2
      · exact hge
    have hk : v c = v (pv p i) * ent A i c := by
      rw [hv c]
      refine sm_one i h1 fun j hj hne => ?_
      by_cases hji : j < i
      · rw [show v (pv p j) = 0 from h3 j hji]; grind
      · rw [h.zero j c hj (by have := h.inc i j (by omega) hj; omega)]; grind
    refine ⟨i, h1, ?_⟩
    rcases Nat.lt_or_ge c (pv p i) with hlt | hge
    · rw [h.zero i c h1 hlt] at hk
      exact absurd (by rw [hk]; grind) h0
    · omega
theorem inc_same {p q : List Nat} (hp : ∀ i j, i < j → j < p.length → pv p i < pv p j) (hq : ∀ i j, i < j → j < q.length → pv q i < pv q j)
    (h1 : ∀ i, i < p.length → ∃ j, j < q.length ∧ pv q j = pv p i) (h2 : ∀ j, j < q.length → ∃ i, i < p.length ∧ pv p i = pv q j) : ∀ n i, i < n → i < p.length → i < q.length ∧ pv p i = pv q i
  | 0, i, h, _ => absurd h (Nat.not_lt_zero _)
  | n + 1, i, _, hi => by
    have ih := inc_same hp hq h1 h2 n
    have le : ∀ {l : List Nat}, (∀ i j, i < j → j < l.length → pv l i < pv l j) → ∀ a b, a ≤ b → b < l.length → pv l a ≤ pv l b := fun hl a b hab hb => by
      by_cases e : a = b
      · rw [e]; exact Nat.le_refl _
      · exact Nat.le_of_lt (hl a b (by omega) hb)
    obtain ⟨j, j1, j2⟩ := h1 i hi
    have hij : i ≤ j := by
      rcases Nat.lt_or_ge j i with hlt | hge
      · have := ih j (by omega) (by omega)
        have := hp j i hlt hi
        omega
      · exact hge
    have hiq : i < q.length := by omega
    obtain ⟨l, l1, l2⟩ := h2 i hiq
    have hil : i ≤ l := by
      rcases Nat.lt_or_ge l i with hlt | hge
      · have := ih l (by omega) l1
        have := hq l i hlt hiq
        omega
      · exact hge
    have a1 := le hq i j hij j1
    have a2 := le hp i l hil l1
    exact ⟨hiq, by omega⟩
theorem inc_eq {p q : List Nat} (hp : ∀ i j, i < j → j < p.length → pv p i < pv p j) (hq : ∀ i j, i < j → j < q.length → pv q i < pv q j)
    (h1 : ∀ i, i < p.length → ∃ j, j < q.length ∧ pv q j = pv p i) (h2 : ∀ j, j < q.length → ∃ i, i < p.length ∧ pv p i = pv q j) : p = q := by
  have k1 := fun i => inc_same hp hq h1 h2 (i + 1) i (by omega)
  have k2 := fun i => inc_same hq hp h2 h1 (i + 1) i (by omega)
  have hl : p.length = q.length := by
    rcases Nat.lt_trichotomy p.length q.length with h | h | h
    · have := (k2 p.length h).1; omega
    · exact h
    · have := (k1 q.length h).1; omega
  refine List.ext_getElem hl fun i e1 e2 => ?_
  have := (k1 i e1).2
  unfold pv at this
  rwa [List.getD_eq_getElem?_getD, List.getD_eq_getElem?_getD, List.getElem?_eq_getElem e1, List.getElem?_eq_getElem e2] at this
theorem RE.cover {w : Nat} {p q : List Nat} {A B : List (List Rat)} (hA : RE w p A) (hB : RE w q B) (h : AllS (SpA p A) B) : ∀ j, j < q.length → ∃ i, i < p.length ∧ pv p i = pv q j := fun j hj => by
  refine hA.lead (h j (by rw [hB.len]; exact hj)) ?_ fun k hk => hB.zero j k hj hk
  have := hB.unit j hj j hj
  rw [if_pos rfl] at this
  show ent B j (pv q j) ≠ 0
  rw [this]; decide
/-- A subspace has one reduced row echelon form. -/
theorem RE.uniq {w : Nat} {p q : List Nat} {A B : List (List Rat)} (hA : RE w p A) (hB : RE w q B) (h : ∀ S, Lin S → (AllS S A ↔ AllS S B)) : p = q ∧ A = B := by
  have hAB := (h _ (SpA_lin p A)).1 hA.sp
  have hBA := (h _ (SpA_lin q B)).2 hB.sp
  have e : p = q := inc_eq hA.inc hB.inc (hB.cover hA hBA) (hA.cover hB hAB)
  subst e
  refine ⟨rfl, m_ext (by rw [hA.len, hB.len]) fun j hj => ?_⟩
  have hjp : j < p.length := by rw [← hA.len]; exact hj
  have wA := hA.wid j hj
  have wB := hB.wid j (by rw [hB.len]; exact hjp)
  refine l_ext (by rw [wA, wB]) fun k _ => ?_
  have h1 : ent B j k = _ := hAB j (by rw [hB.len]; exact hjp) k
  rw [sm_one j hjp fun i hi hne => by
    have := hB.unit j hjp i hi
    rw [if_neg (fun e => hne e.symm)] at this
    show ent B j (pv p i) * _ = 0
    rw [this]; grind] at h1
  have h2 := hB.unit j hjp j hjp
  rw [if_pos rfl] at h2
  show ent A j k = ent B j k
  rw [h1]
  show _ = ent B j (pv p j) * _
  rw [h2]; grind
theorem rre_same {M N : List (List Rat)} {w : Nat} (hM : Wid w M) (hN : Wid w N) (h : ∀ S, Lin S → (AllS S M ↔ AllS S N)) : (elm M w).p = (elm N w).p ∧ rre M w = rre N w :=
  (elm_RE hM).uniq (elm_RE hN) fun S hS => (rre_AllS hM hS).trans ((h S hS).trans (rre_AllS hN hS).symm)
end Go.Proofs.Ytjjebokgckmnjaa


/- Kernels and ranks by reduced row echelon forms. No program in sight. -/
namespace Go.Proofs.Ytjjebokgckmnjaa
set_option linter.unusedSimpArgs false
set_option linter.unusedVariables false

/-- The vector of the kernel that belongs to a free column. -/
def nvF (p : List Nat) (A : List (List Rat)) (c k : Nat) : Rat := (if k = c then 1 else 0) + sm p.length fun i => if k = pv p i then - ent A i c else 0
theorem nvF_free {p : List Nat} {A : List (List Rat)} {c k : Nat} (h : ∀ i, i < p.length → pv p i ≠ k) : nvF p A c k = if k = c then 1 else 0 := by
  unfold nvF
  rw [sm_zero fun i hi => if_neg fun e => h i hi e.symm]
  grind
/-- The rows that a vector solves. -/
def Ker (w : Nat) (v : Nat → Rat) (f : Nat → Rat) : Prop := (sm w fun k => f k * v k) = 0
theorem Ker_lin (w : Nat) (v : Nat → Rat) : Lin (Ker w v) where
  zero := sm_zero fun i _ => by grind
  add f g hf hg := by
    have hf : (sm w fun k => f k * v k) = 0 := hf
    have hg : (sm w fun k => g k * v k) = 0 := hg
    show (sm w fun k => (f k + g k) * v k) = 0
    rw [show (fun k => (f k + g k) * v k) = fun k => f k * v k + g k * v k from funext fun k => by grind, sm_add, hf, hg]
    grind
  mul c f hf := by
    have hf : (sm w fun k => f k * v k) = 0 := hf
    show (sm w fun k => (c * f k) * v k) = 0
    rw [show (fun k => (c * f k) * v k) = fun k => c * (f k * v k) from funext fun k => by grind, sm_mul, hf]
    grind
theorem sm_if (w j : Nat) (f : Nat → Rat) (x : Rat) (hj : j < w) : (sm w fun k => f k * (if k = j then x else 0)) = f j * x := by
  rw [sm_one j hj fun i _ hne => by rw [if_neg hne]; grind, if_pos rfl]
theorem nvF_ker {w : Nat} {p : List Nat} {A : List (List Rat)} (h : RE w p A) {c : Nat} (hcw : c < w) : AllS (Ker w (nvF p A c)) A := fun i hi => by
  rw [h.len] at hi
  show (sm w fun k => ent A i k * nvF p A c k) = 0
  have e1 : (fun k => ent A i k * nvF p A c k) = fun k => ent A i k * (if k = c then 1 else 0) + sm p.length (fun j => ent A i k * (if k = pv p j then - ent A j c else 0)) := funext fun k => by
    unfold nvF
    rw [sm_mul]; grind
  rw [e1, sm_add, sm_if w c _ _ hcw, sm_swap]
  have e2 : (sm p.length fun j => sm w fun k => ent A i k * (if k = pv p j then - ent A j c else 0)) = - ent A i c := by
    rw [sm_congr fun j hj => sm_if w (pv p j) (fun k => ent A i k) (- ent A j c) (h.lt j hj)]
    rw [sm_one i hi fun j hj hne => by
      have := h.unit i hi j hj
      rw [if_neg (fun e => hne e.symm)] at this
      show ent A i (pv p j) * _ = 0
      rw [this]; grind]
    have := h.unit i hi i hi
    rw [if_pos rfl] at this
    show ent A i (pv p i) * _ = _
    rw [this]; grind
  rw [e2]; grind
/-- A free column. -/
theorem free_ex {p : List Nat} {w : Nat} (hlt : ∀ i, i < p.length → pv p i < w) (hinc : ∀ i j, i < j → j < p.length → pv p i < pv p j) (h : p.length < w) : ∃ c, c < w ∧ ∀ i, i < p.length → pv p i ≠ c := by
  have ge : ∀ i, i < p.length → i ≤ pv p i := fun i => by
    induction i with
    | zero => intro _; omega
    | succ i ih => intro hi; have := ih (by omega); have := hinc i (i + 1) (by omega) hi; omega
  rcases (show (∀ i, i < p.length → pv p i = i) ∨ ∃ i, i < p.length ∧ pv p i ≠ i ∧ ∀ j, j < i → pv p j = j from by
    have key : ∀ n, n ≤ p.length → (∀ i, i < n → pv p i = i) ∨ ∃ i, i < p.length ∧ pv p i ≠ i ∧ ∀ j, j < i → pv p j = j := fun n => by
      induction n with
      | zero => intro _; exact .inl fun i h => absurd h (Nat.not_lt_zero _)
      | succ n ih =>
        intro hn
        rcases ih (by omega) with h1 | h1
        · by_cases e : pv p n = n
          · refine .inl fun i hi => ?_
            by_cases e2 : i = n
            · rw [e2]; exact e
            · exact h1 i (by omega)
          · exact .inr ⟨n, by omega, e, h1⟩
        · exact .inr h1
    exact key p.length (Nat.le_refl _)) with h1 | ⟨i, h1, h2, h3⟩
  · exact ⟨p.length, h, fun i hi => by rw [h1 i hi]; omega⟩
  · have := hlt i h1
    have := ge i h1
    refine ⟨i, by omega, fun j hj => ?_⟩
    by_cases e : j < i
    · rw [h3 j e]; omega
    · by_cases e2 : j = i
      · rw [e2]; exact h2
      · have := hinc i j (by omega) hj; omega
/-- More unknowns than equations. -/
theorem dep_ex (D : Nat → Nat → Rat) {r s : Nat} (h : r < s) : ∃ x : Nat → Rat, (∃ j, j < s ∧ x j ≠ 0) ∧ ∀ i, i < r → (sm s fun j => D i j * x j) = 0 := by
  have hW : Wid s (mkm (fun i => mkr (D i) s) r) := fun i hi => by
    rw [mkm_len] at hi
    rw [gd_mkm, if_pos hi, mkr_len]
  have hE := elm_RE hW
  have hn := (elm_EI hW s).n
  rw [mkm_len] at hn
  obtain ⟨c, h1, h2⟩ := free_ex hE.lt hE.inc (by omega)
  refine ⟨nvF (elm (mkm (fun i => mkr (D i) s) r) s).p (rre (mkm (fun i => mkr (D i) s) r) s) c, ⟨c, h1, ?_⟩, fun i hi => ?_⟩
  · rw [nvF_free h2, if_pos rfl]; decide
  · have hk := (rre_AllS hW (Ker_lin s _)).1 (nvF_ker hE h1) i (by rw [mkm_len]; exact hi)
    rw [gd_mkm, if_pos hi] at hk
    refine Eq.trans (sm_congr fun j hj => ?_) hk
    rw [cf_mkr, if_pos hj]
/-- Combinations of some vectors. -/
def SpF (r : Nat) (b : Nat → Nat → Rat) (f : Nat → Rat) : Prop := ∃ D : Nat → Rat, ∀ k, f k = sm r fun i => D i * b i k
theorem SpF_lin (r : Nat) (b : Nat → Nat → Rat) : Lin (SpF r b) where
  zero := ⟨fun _ => 0, fun k => (sm_zero fun i _ => by grind).symm⟩
  add f g hf hg := by
    obtain ⟨D, hD⟩ := hf
    obtain ⟨E, hE⟩ := hg
    refine ⟨fun i => D i + E i, fun k => ?_⟩
    show f k + g k = _
    rw [hD k, hE k, ← sm_add]
    exact sm_congr fun i _ => by grind
  mul c f hf := by
    obtain ⟨D, hD⟩ := hf
    refine ⟨fun i => c * D i, fun k => ?_⟩
    show c * f k = _
    rw [hD k, ← sm_mul]
    exact sm_congr fun i _ => by grind
theorem RE.rank_le {w : Nat} {p : List Nat} {A : List (List Rat)} (h : RE w p A) {r : Nat} {b : Nat → Nat → Rat} (hb : AllS (SpF r b) A) : p.length ≤ r := by
  rcases Nat.lt_or_ge r p.length with hlt | hge
  · exfalso
    have hD : ∀ j, ∃ D : Nat → Rat, j < p.length → ∀ k, ent A j k = sm r fun i => D i * b i k := fun j => by
      by_cases hj : j < p.length
      · obtain ⟨D, hD⟩ := hb j (by rw [h.len]; exact hj)
        exact ⟨D, fun _ => hD⟩
      · exact ⟨fun _ => 0, fun h => absurd h hj⟩
    obtain ⟨D, hD⟩ := Classical.axiomOfChoice hD
    obtain ⟨x, ⟨j0, hj0, hx⟩, hs⟩ := dep_ex (fun i j => D j i) hlt
    have e1 : (sm p.length fun j => x j * ent A j (pv p j0)) = 0 := by
      have : (sm p.length fun j => x j * ent A j (pv p j0)) = sm p.length fun j => sm r fun i => x j * (D j i * b i (pv p j0)) := sm_congr fun j hj => by
        rw [hD j hj, sm_mul]
      rw [this, sm_swap]
      refine sm_zero fun i hi => ?_
      have e2 : (fun j => x j * (D j i * b i (pv p j0))) = fun j => b i (pv p j0) * (D j i * x j) := funext fun j => by grind
      rw [e2, sm_mul, hs i hi]
      grind
    rw [sm_one j0 hj0 fun j hj hne => by
      have := h.unit j hj j0 hj0
      rw [if_neg hne] at this
      show x j * ent A j (pv p j0) = 0
      rw [this]; grind] at e1
    have := h.unit j0 hj0 j0 hj0
    rw [if_pos rfl] at this
    have e3 : x j0 * ent A j0 (pv p j0) = 0 := e1
    rw [this] at e3
    exact hx (by rw [← e3]; grind)
  · exact hge
/-- The transpose. -/
def trM (M : List (List Rat)) (w : Nat) : List (List Rat) := mkm (fun k => mkr (fun i => ent M i k) M.length) w
theorem trM_len (M : List (List Rat)) (w : Nat) : (trM M w).length = w := mkm_len _ _
theorem trM_wid (M : List (List Rat)) (w : Nat) : Wid M.length (trM M w) := fun i hi => by
  rw [trM_len] at hi
  unfold trM
  rw [gd_mkm, if_pos hi, mkr_len]
theorem ent_trM (M : List (List Rat)) {w i : Nat} (hi : i < w) (k : Nat) : ent (trM M w) i k = ent M k i := by
  show cf _ _ = _
  unfold trM
  rw [gd_mkm, if_pos hi, cf_mkr]
  split
  · rfl
  · exact (ent_ge (by omega) i).symm
theorem trM_trM {M : List (List Rat)} {w : Nat} (hW : Wid w M) : trM (trM M w) M.length = M := by
  unfold trM
  refine mkm_eq rfl fun i hi => ?_
  rw [show (mkm (fun k => mkr (fun i => ent M i k) M.length) w).length = w from mkm_len _ _]
  refine mkr_eq (hW i hi) fun k hk => ?_
  exact ent_trM M hk i
def rk (M : List (List Rat)) (w : Nat) : Nat := (elm M w).p.length
theorem rk_tr {M : List (List Rat)} {w : Nat} (hW : Wid w M) : rk (trM M w) M.length ≤ rk M w := by
  have hE := elm_RE hW
  have hE' := elm_RE (trM_wid M w)
  refine hE'.rank_le (r := rk M w) (b := fun i k => ent M k (pv (elm M w).p i)) ((rre_AllS (trM_wid M w) (SpF_lin _ _)).2 fun j hj => ?_)
  rw [trM_len] at hj
  refine ⟨fun i => ent (rre M w) i j, fun k => ?_⟩
  show ent (trM M w) j k = _
  rw [ent_trM M hj]
  by_cases hk : k < M.length
  · have := (rre_AllS hW (SpA_lin (elm M w).p (rre M w))).1 hE.sp k hk j
    refine this.trans (sm_congr fun i _ => ?_)
    show ent M k _ * _ = _
    grind
  · rw [ent_ge (by omega)]
    exact (sm_zero fun i _ => by
      show _ * ent M k _ = 0
      rw [ent_ge (by omega)]; grind).symm
theorem rk_trM {M : List (List Rat)} {w : Nat} (hW : Wid w M) : rk (trM M w) M.length = rk M w := by
  have h1 := rk_tr hW
  have h2 := rk_tr (trM_wid M w)
  rw [trM_trM hW, trM_len] at h2
  omega
theorem rk_rows {M : List (List Rat)} {w : Nat} (hW : Wid w M) : rk M w ≤ M.length := (elm_EI hW w).n
theorem rk_cols {M : List (List Rat)} {w : Nat} (hW : Wid w M) : rk M w ≤ w := by
  have := rk_rows (trM_wid M w)
  rw [rk_trM hW, trM_len] at this
  exact this
end Go.Proofs.Ytjjebokgckmnjaa


/- Sizes along the elimination. No program in sight. -/
namespace Go.Proofs.Ytjjebokgckmnjaa
set_option linter.unusedSimpArgs false
set_option linter.unusedVariables false
open Go.RowKit

def sS (S : Nat) : Nat → Nat
  | 0 => S
  | k + 1 => 4 * sS S k + 2
def dS (S : Nat) : Nat → Nat
  | 0 => 1
  | k + 1 => dS S k + sS S k
theorem sS_mono (S : Nat) {j : Nat} : ∀ {k}, j ≤ k → sS S j ≤ sS S k
  | 0, h => by rw [show j = 0 from by omega]; exact Nat.le_refl _
  | k + 1, h => by
    by_cases e : j = k + 1
    · rw [e]; exact Nat.le_refl _
    · have := sS_mono S (j := j) (k := k) (by omega)
      rw [sS]; omega
theorem dS_mono (S : Nat) {j : Nat} : ∀ {k}, j ≤ k → dS S j ≤ dS S k
  | 0, h => by rw [show j = 0 from by omega]; exact Nat.le_refl _
  | k + 1, h => by
    by_cases e : j = k + 1
    · rw [e]; exact Nat.le_refl _
    · have := dS_mono S (j := j) (k := k) (by omega)
      rw [dS]; omega
theorem pvt_sz {M : List (List Rat)} {n c w S : Nat} (hW : Wid w M) (hn : n < M.length) (hS : ∀ i k, qs (ent M i k) ≤ S) (i k : Nat) : qs (ent (pvt M n c) i k) ≤ 4 * S + 2 := by
  have h1 := qs_pos (ent M n c)
  have h2 := hS n c
  by_cases hi : i < M.length
  · rw [ent_pvt hW hn hi]
    have a1 := hS n k
    have a2 := Nat.le_trans (qs_div 1 (ent M n c)) (Nat.add_le_add qs_1 (hS n c))
    have a3 := qs_mul (ent M n k) (1 / ent M n c)
    split
    · omega
    · have a4 := qs_mul (ent M i c) (ent M n k * (1 / ent M n c))
      have a5 := hS i c
      have a6 := hS i k
      have a7 := qs_sub (ent M i k) (ent M i c * (ent M n k * (1 / ent M n c)))
      omega
  · rw [ent_ge (by rw [pvt_len]; omega)]
    have := qs_0
    omega
theorem swM_sz {M : List (List Rat)} {a b S : Nat} (ha : a < M.length) (hb : b < M.length) (hS : ∀ i k, qs (ent M i k) ≤ S) (i k : Nat) : qs (ent (swM M a b) i k) ≤ S := by
  rw [ent_swM ha hb]
  split
  · exact hS _ _
  · split <;> exact hS _ _
theorem elm_sz {M : List (List Rat)} {w S : Nat} (hW : Wid w M) (hS : ∀ i k, qs (ent M i k) ≤ S) : ∀ c, (∀ i k, qs (ent (elm M c).M i k) ≤ sS S c) ∧ qs (elm M c).d ≤ dS S c
  | 0 => ⟨hS, qs_1⟩
  | c + 1 => by
    obtain ⟨h1, h2⟩ := elm_sz hW hS c
    have hE := elm_EI hW c
    have e : elm M (c + 1) = stp (elm M c) c := rfl
    rw [e]
    unfold stp
    split
    · refine ⟨fun i k => Nat.le_trans (h1 i k) (sS_mono S (by omega)), Nat.le_trans h2 (dS_mono S (by omega))⟩
    · rename_i a ha
      obtain ⟨g1, g2⟩ := srF_some ha
      have hn : (elm M c).p.length < (elm M c).M.length := by omega
      refine ⟨fun i k => ?_, ?_⟩
      · exact pvt_sz (swM_wid hE.wid hn g1.2) (by rw [swM_len]; exact hn) (swM_sz hn g1.2 h1) i k
      · show qs ((if a = (elm M c).p.length then (elm M c).d else -(elm M c).d) * ent (elm M c).M a c) ≤ dS S c + sS S c
        have b1 := qs_mul (if a = (elm M c).p.length then (elm M c).d else -(elm M c).d) (ent (elm M c).M a c)
        have b2 := h1 a c
        have b3 : qs (if a = (elm M c).p.length then (elm M c).d else -(elm M c).d) ≤ dS S c := by
          split
          · exact h2
          · rw [qs_neg]; exact h2
        omega
end Go.Proofs.Ytjjebokgckmnjaa

