/- Texts SZ8 SZ9 J8 SZ10 LQ5 in one. -/
import Derived.Test.YtfbogelmgdojgaaGreatR32
import Derived.Test.YtfbogelmgdojgaaGreatR27
import Derived.Test.YtfbogelmgdojgaaGreatR30
import Derived.Test.YtfbogelmgdojgaaGreatR28
/- Sizes in Yun's algorithm, by computation over all types of polynomials. No program in sight. -/
namespace Go.Proofs.YtfbogelmgdojgaaGreat
set_option linter.unusedSimpArgs false
set_option linter.unusedVariables false
open Go.RowKit

/-- The sizes in Euclid's algorithm when the length of the greatest common divisor is known. -/
def gtX (lb l t : Nat) : Bool := (decide (l ≠ 0) && decide (l < t)) || (decide (l = 0) && decide (lb ≠ t))
def gtC : Nat → Nat → Nat → Nat → Nat → Nat → Bool
  | 0, _, _, _, _, _ => false
  | n + 1, la, sa, lb, sb, t => (dvC la sa lb sb && decide (sa ≤ 2500000000000)) && (if lb = 0 then true else if la < lb then gtC n lb sb la sa t else allB lb fun l => gtX lb l t || gtC n lb sb l (rmB la sa lb sb) t)
def gtM : Nat → Nat → Nat → Nat → Nat → Nat → Nat
  | 0, _, _, _, _, _ => 0
  | n + 1, la, sa, lb, sb, t => if lb = 0 then sa else if la < lb then gtM n lb sb la sa t else mxB lb fun l => if gtX lb l t = true then 0 else gtM n lb sb l (rmB la sa lb sb) t
theorem gtX_no {b r : List Rat} {t : Nat} (hb : Can b) (hr : Can r) (h : (pG b r).length = t) (b0 : b ≠ []) : gtX b.length r.length t = false := by
  unfold gtX
  by_cases r0 : r = []
  · subst r0
    rw [pG_nil] at h
    simp [h]
  · have := List.length_pos_iff.2 r0
    have := (dvd_len hr (can_pG hb hr) (pG_dvd hb hr).2 r0).1
    have h1 : r.length ≠ 0 := by omega
    have h2 : ¬ r.length < t := by omega
    simp [h2, h1, r0]
theorem gtC_ok : ∀ (n : Nat) {la sa lb sb t : Nat} {a b : List Rat}, gtC n la sa lb sb t = true → Can a → Can b → a.length = la → b.length = lb → PB a sa → PB b sb → (pG a b).length = t → GcOk n a b ∧ PB (pG a b) (gtM n la sa lb sb t)
  | 0, _, _, _, _, _, _, _, h, _, _, _, _, _, _, _ => by cases h
  | n + 1, la, sa, lb, sb, t, a, b, h, ca, cb, e1, e2, pa, pb, ht => by
    subst e1 e2
    simp only [gtC, Bool.and_eq_true, decide_eq_true_eq] at h
    obtain ⟨⟨h1, h2⟩, h3⟩ := h
    have dv := dvC_ok h1 ca cb (Nat.le_refl _) rfl pa pb
    by_cases b0 : b = []
    · subst b0
      exact ⟨⟨dv, by rw [if_pos rfl]; exact ⟨sa, pa, h2⟩⟩, by rw [pG_nil]; exact pa⟩
    · have hbl := List.length_pos_iff.2 b0
      rw [if_neg (by omega)] at h3
      unfold GcOk gtM
      rw [if_neg b0, if_neg (by omega)]
      rw [pG_step ca cb b0] at ht ⊢
      by_cases hlt : a.length < b.length
      · rw [if_pos hlt] at h3 ⊢
        rw [(dm_small ca cb hlt).2] at ht ⊢
        have := gtC_ok n h3 cb ca rfl rfl pb pa ht
        exact ⟨⟨dv, this.1⟩, this.2⟩
      · rw [if_neg hlt] at h3 ⊢
        obtain ⟨⟨_, cr⟩, hr, _⟩ := dm_ok ca cb b0
        have hx := gtX_no cb cr ht b0
        have h4 := allB_ok h3 _ hr
        rw [hx, Bool.false_or] at h4
        have := gtC_ok n h4 cb cr rfl rfl pb (rm_PB ca cb b0 pa pb) ht
        have hm := mxB_ok (f := fun l => if gtX b.length l t = true then 0 else gtM n b.length sb l (rmB a.length sa b.length sb) t) _ hr
        simp only [hx, Bool.false_eq_true, if_false] at hm
        exact ⟨⟨dv, this.1⟩, this.2.mono hm⟩
/-- The sizes of the steps. -/
def dvB' (la sa lb sb : Nat) : Nat := 2 ^ (la - lb + 1) * (sa + 2 * sb + 1)
def yuC : List Nat → Nat → Nat → Bool
  | [], _, _ => true
  | d :: ds, sb, sc => if d + ds.sum = 0 then true else
    (decide (sb ≤ 2500000000000) && decide (sc ≤ 2500000000000)) &&
    (gtC 24 (d + ds.sum + 1) sb (if ds.sum = 0 then 0 else d + ds.sum) (sc + sb + 2) (d + 1) &&
    (decide (2 * gtM 24 (d + ds.sum + 1) sb (if ds.sum = 0 then 0 else d + ds.sum) (sc + sb + 2) (d + 1) + 1 ≤ 200000000000) && (if d = 0 then (dvC (d + ds.sum + 1) sb 1 1 && dvC (if ds.sum = 0 then 0 else d + ds.sum) (sc + sb + 2) 1 1) && yuC ds sb (sc + sb + 2) else
      (dvC (d + ds.sum + 1) sb (d + 1) (2 * gtM 24 (d + ds.sum + 1) sb (if ds.sum = 0 then 0 else d + ds.sum) (sc + sb + 2) (d + 1) + 1) &&
       dvC (if ds.sum = 0 then 0 else d + ds.sum) (sc + sb + 2) (d + 1) (2 * gtM 24 (d + ds.sum + 1) sb (if ds.sum = 0 then 0 else d + ds.sum) (sc + sb + 2) (d + 1) + 1)) &&
      (if ds.sum = 0 then true else yuC ds (dvB' (d + ds.sum + 1) sb (d + 1) (2 * gtM 24 (d + ds.sum + 1) sb (if ds.sum = 0 then 0 else d + ds.sum) (sc + sb + 2) (d + 1) + 1))
        (dvB' (if ds.sum = 0 then 0 else d + ds.sum) (sc + sb + 2) (d + 1) (2 * gtM 24 (d + ds.sum + 1) sb (if ds.sum = 0 then 0 else d + ds.sum) (sc + sb + 2) (d + 1) + 1))))))
theorem qs_natMul {i : Nat} {x : Rat} (hi : i < 4294967296) : qs ((i : Rat) * x) ≤ qs x + 1 := by
  have h1 := qs_mul (i : Rat) x
  have h2 := qs_nat hi
  omega
theorem diff_PB {a : List Rat} {s : Nat} (h : PB a s) (hl : a.length ≤ 1000) : PB (pDiff a) (s + 1) := fun i => by
  rw [cf_pDiff]
  by_cases hi : i + 1 < a.length
  · exact Nat.le_trans (qs_natMul (by omega)) (by have := h (i + 1); omega)
  · rw [cf_ge (l := a) (by omega), Rat.mul_zero]
    exact Nat.le_trans qs_0 (by omega)
theorem gcd_one_PB {a b : List Rat} (ha : Can a) (hb : Can b) (h : (pG a b).length = 1) : pGcd a b = [1] := pMonic_one (can_pG ha hb) h
theorem sub_PB {a b : List Rat} {j k : Nat} (ha : PB a j) (hb : PB b k) : PB (pSub a b) (j + k + 1) := fun i => by
  rw [cf_pSub]
  have h1 := qs_sub (cf a i) (cf b i)
  have h2 := ha i
  have h3 := hb i
  omega
theorem exact_PB {a g : List Rat} {la sa lg sg : Nat} (ha : Can a) (hg : Can g) (g0 : g ≠ []) (el : a.length = la) (eg : g.length = lg) (pa : PB a sa) (pg : PB g sg) : PB (pDiv a g) (dvB' la sa lg sg) := by
  subst el eg
  unfold dvB'
  exact (div_PB ha hg g0 pa pg (Nat.le_refl _)).1
theorem sq_ok {l : Fac} (hl : Good l) {c : Rat} (hc : c ≠ 0) : ∀ (k n sb sc K : Nat), (∀ y ∈ l, y.2 < n + k) → k + 1 ≤ K → (dsL l n k).sum ≤ 100 → PB (yB l c n) sb → PB (yC l c n) sc → yuC (dsL l n k) sb sc = true → SqOk K (yB l c n) (yC l c n) ∧ ∀ j, n ≤ j → PB (PiL (l.filter fun y => y.2 == j)) 200000000000
  | k, n, sb, sc, 0, _, hK, _, _, _, _ => by omega
  | k, n, sb, sc, K + 1, hk, hK, h100, pb, pc, hy => by
    have gL := hl.filter (f := fun y => decide (n ≤ y.2))
    have lb : (yB l c n).length = (dsL l n k).sum + 1 := by
      unfold yB
      rw [len_pSc' hc (can_PiL _), len_PiL_sum hl k n hk]
    have one1 : PB ([1] : List Rat) 1 := PB_cons qs_1 (PB_nil (Nat.le_refl _))
    unfold SqOk
    by_cases hb1 : (yB l c n).length ≤ 1
    · rw [if_pos hb1]
      refine ⟨trivial, fun j hj => ?_⟩
      have hL : (l.filter fun y => decide (n ≤ y.2)) = [] := (len_sc1 hc _ gL).1 hb1
      have : (l.filter fun y => y.2 == j) = [] := List.filter_eq_nil_iff.2 fun y hy => by
        have := List.filter_eq_nil_iff.1 hL y hy
        simp at this ⊢; omega
      rw [this]
      exact one1.mono (by decide)
    rw [if_neg hb1]
    cases k with
    | zero => rw [lb] at hb1; exact absurd (Nat.le_refl 1) hb1
    | succ k =>
      rw [dsL, List.sum_cons] at lb h100
      have hk' : ∀ y ∈ l, y.2 < n + 1 + k := fun y hy => by have := hk y hy; omega
      have gL' := hl.filter (f := fun y => decide (n + 1 ≤ y.2))
      have gZ := hl.filter (f := fun y => y.2 == n)
      obtain ⟨z1, z0, _⟩ := lead_PiL gZ
      have zl := List.length_pos_iff.2 z0
      have lZ : (PiL (l.filter fun y => y.2 == n)).length = dgL l n + 1 := by unfold dgL; omega
      have l1 := len_PiL_sum hl k (n + 1) hk'
      have l0 := len_PiL hl n
      obtain ⟨⟨g1, g2, g3⟩, hY⟩ := yun_step hl hc n
      rw [dsL, yuC] at hy
      generalize hS : (dsL l (n + 1) k).sum = S at *
      have hne : ¬ dgL l n + S = 0 := by omega
      rw [if_neg hne] at hy
      simp only [Bool.and_eq_true, decide_eq_true_eq] at hy
      obtain ⟨⟨y1, y2⟩, y3, y9, y4⟩ := hy
      have cB : Can (yB l c n) := can_pSc _ _
      have cC : Can (yC l c n) := can_pSc _ _
      have cY : Can (pSub (yC l c n) (pDiff (yB l c n))) := can_pSub _ _
      -- the lengths
      have lC : (yC l c n).length ≤ dgL l n + S := by
        unfold yC
        refine Nat.le_trans (len_pSc _ _) (Nat.le_trans (WL_top _ gL).1 ?_)
        rw [l0, l1]; omega
      have lY : (pSub (yC l c n) (pDiff (yB l c n))).length = if S = 0 then 0 else dgL l n + S := by
        rw [hY, len_pSc' hc (can_WL _ _)]
        by_cases h0 : S = 0
        · rw [if_pos h0, WL_zero]
          · rfl
          · intro y hy'
            obtain ⟨m1, m2⟩ := List.mem_filter.1 hy'
            have m2 : n ≤ y.2 := by simpa using m2
            have : ¬ n + 1 ≤ y.2 := fun h => by
              have m3 : y ∈ l.filter fun y => decide (n + 1 ≤ y.2) := List.mem_filter.2 ⟨m1, by simpa using h⟩
              have := (lead_PiL gL').2.2 (List.ne_nil_of_mem m3)
              omega
            show (y.2 : Rat) - (n : Rat) = 0
            rw [show y.2 = n from by omega]; grind
        · have w1 : ∀ y ∈ l.filter (fun y => decide (n ≤ y.2)), 0 ≤ (y.2 : Rat) - (n : Rat) := fun y hy' => by
            have m2 := (List.mem_filter.1 hy').2
            have m2 : n ≤ y.2 := by simpa using m2
            have : (n : Rat) ≤ (y.2 : Rat) := by exact_mod_cast m2
            grind
          have w2 : ∃ y ∈ l.filter (fun y => decide (n ≤ y.2)), 0 < (y.2 : Rat) - (n : Rat) := by
            have m3 : (l.filter fun y => decide (n + 1 ≤ y.2)) ≠ [] := fun e => by
              rw [e] at l1
              have : (PiL []).length = 1 := rfl
              omega
            obtain ⟨y, hy'⟩ := List.exists_mem_of_ne_nil _ m3
            obtain ⟨m1, m2⟩ := List.mem_filter.1 hy'
            have m2 : n + 1 ≤ y.2 := by simpa using m2
            refine ⟨y, List.mem_filter.2 ⟨m1, by simp; omega⟩, ?_⟩
            have : (n : Rat) < (y.2 : Rat) := by exact_mod_cast (show n < y.2 by omega)
            grind
          rw [if_neg h0, len_WL gL w1 w2, l0, l1]
          omega
      have pD := diff_PB pb (by omega)
      have pY : PB (pSub (yC l c n) (pDiff (yB l c n))) (sc + sb + 2) := (sub_PB pc pD).mono (by omega)
      have hG : (pG (yB l c n) (pSub (yC l c n) (pDiff (yB l c n)))).length = dgL l n + 1 := by
        rw [← len_pMonic (can_pG cB cY), ← lZ, ← g1]; rfl
      obtain ⟨gk, gp⟩ := gtC_ok 24 y3 cB cY (by rw [lb]) lY pb pY hG
      have gZP : PB (PiL (l.filter fun y => y.2 == n)) (2 * gtM 24 (dgL l n + S + 1) sb (if S = 0 then 0 else dgL l n + S) (sc + sb + 2) (dgL l n + 1) + 1) := by
        rw [← g1]; exact monic_PB gp
      rw [g1]
      have hBC : ((yB l c n).length ≤ 1000000 ∧ (yC l c n).length ≤ 1000000) ∧ PB (yB l c n) 5000000000000 ∧ PB (yC l c n) 5000000000000 ∧ PB (pDiff (yB l c n)) 5000000000000 := ⟨⟨by omega, by omega⟩, pb.mono (by omega), pc.mono (by omega), pD.mono (by omega)⟩
      by_cases d0 : dgL l n = 0
      · rw [if_pos d0] at y4
        have eZ : PiL (l.filter fun y => y.2 == n) = [1] := by rw [← g1]; exact gcd_one_PB cB cY (by rw [hG, d0])
        have g2' := g2
        have g3' := g3
        rw [eZ] at g2' g3'
        rw [pDiv_one cB] at g2'
        rw [pDiv_one cY] at g3'
        simp only [Bool.and_eq_true] at y4
        obtain ⟨⟨y5, y6⟩, y7⟩ := y4
        have dv1 := dvC_ok y5 cB can_one (Nat.le_of_eq lb) rfl pb one1
        have dv2 := dvC_ok y6 cY can_one (Nat.le_of_eq lY) rfl pY one1
        have ih := sq_ok hl hc k (n + 1) sb (sc + sb + 2) K hk' (by omega) (by omega) (by rw [← g2']; exact pb) (by rw [← g3']; exact pY) y7
        rw [eZ] at g2 g3
        refine ⟨⟨hBC, ⟨24, gk⟩, by rw [eZ]; exact ⟨dv1, dv2⟩, by rw [eZ]; simp, by rw [eZ, g2, g3]; exact ih.1⟩, fun j hj => ?_⟩
        by_cases ej : j = n
        · rw [ej, eZ]; exact one1.mono (by decide)
        · exact ih.2 j (by omega)
      · rw [if_neg d0] at y4
        simp only [Bool.and_eq_true] at y4
        obtain ⟨⟨y5, y6⟩, y7⟩ := y4
        have dv1 := dvC_ok y5 cB (can_PiL _) (Nat.le_of_eq (by rw [lb])) lZ pb gZP
        have dv2 := dvC_ok y6 cY (can_PiL _) (Nat.le_of_eq lY) lZ pY gZP
        by_cases h0 : S = 0
        · rw [g2, g3]
          have lb' : (yB l c (n + 1)).length ≤ 1 := by
            unfold yB
            rw [len_pSc' hc (can_PiL _), l1, h0]; exact Nat.le_refl _
          refine ⟨⟨hBC, ⟨24, gk⟩, ⟨dv1, dv2⟩, z0, ?_⟩, fun j hj => ?_⟩
          · cases K with
            | zero => omega
            | succ K =>
              unfold SqOk
              rw [if_pos lb']; trivial
          · by_cases ej : j = n
            · rw [ej]; exact gZP.mono y9
            · have hL : (l.filter fun y => decide (n + 1 ≤ y.2)) = [] := (len_sc1 hc _ gL').1 lb'
              have : (l.filter fun y => y.2 == j) = [] := List.filter_eq_nil_iff.2 fun y hy => by
                have := List.filter_eq_nil_iff.1 hL y hy
                simp at this ⊢; omega
              rw [this]
              exact one1.mono (by decide)
        · rw [if_neg h0] at y7
          have ih := sq_ok hl hc k (n + 1) _ _ K hk' (by omega) (by omega) (by rw [← g2]; exact exact_PB cB (can_PiL _) z0 lb lZ pb gZP) (by rw [← g3]; exact exact_PB cY (can_PiL _) z0 lY lZ pY gZP) y7
          refine ⟨⟨hBC, ⟨24, gk⟩, ⟨dv1, dv2⟩, z0, by rw [g2, g3]; exact ih.1⟩, fun j hj => ?_⟩
          by_cases ej : j = n
          · rw [ej]; exact gZP.mono y9
          · exact ih.2 j (by omega)
/-- All types of polynomials of one degree. -/
def tyC : Nat → Nat → Nat → (List Nat → Bool) → Bool
  | 0, _, r, f => if r = 0 then f [] else true
  | k + 1, n, r, f => allB (r / n + 1) fun d => tyC k (n + 1) (r - n * d) fun ds => f (d :: ds)
theorem tyC_ok : ∀ (k n r : Nat) (f : List Nat → Bool), 1 ≤ n → tyC k n r f = true → ∀ ds : List Nat, ds.length = k → wsm n ds = r → f ds = true
  | 0, n, r, f, _, h, ds, hl, hw => by
    obtain rfl := List.eq_nil_of_length_eq_zero hl
    have : r = 0 := by rw [← hw]; rfl
    rw [tyC, if_pos this] at h
    exact h
  | k + 1, n, r, f, hn, h, ds, hl, hw => by
    match ds, hl with
    | d :: ds, hl =>
      rw [wsm] at hw
      rw [tyC] at h
      have hd : d < r / n + 1 := by
        have : d ≤ r / n := (Nat.le_div_iff_mul_le (by omega)).2 (by rw [Nat.mul_comm]; omega)
        omega
      exact tyC_ok k (n + 1) (r - n * d) (fun ds => f (d :: ds)) (by omega) (allB_ok h d hd) ds (by simpa using hl) (by omega)
def sfT (N S : Nat) (ds : List Nat) : Bool :=
  (decide (S ≤ 2500000000000 - 1) && gtC 24 (N + 1) S N (S + 1) (N - ds.sum + 1)) &&
  (if N - ds.sum = 0 then (dvC (N + 1) S 1 1 && dvC N (S + 1) 1 1) && yuC ds S (S + 1) else
    (dvC (N + 1) S (N - ds.sum + 1) (2 * gtM 24 (N + 1) S N (S + 1) (N - ds.sum + 1) + 1) && dvC N (S + 1) (N - ds.sum + 1) (2 * gtM 24 (N + 1) S N (S + 1) (N - ds.sum + 1) + 1)) &&
    yuC ds (dvB' (N + 1) S (N - ds.sum + 1) (2 * gtM 24 (N + 1) S N (S + 1) (N - ds.sum + 1) + 1)) (dvB' N (S + 1) (N - ds.sum + 1) (2 * gtM 24 (N + 1) S N (S + 1) (N - ds.sum + 1) + 1)))
def sfC (N S : Nat) : Bool := decide (1 ≤ N) && (decide (N ≤ 100) && tyC N 1 N (sfT N S))
/-- The size of the squarefree part. -/
def rdX (N S : Nat) (ds : List Nat) : Nat := if N - ds.sum = 0 then S else dvB' (N + 1) S (N - ds.sum + 1) (2 * gtM 24 (N + 1) S N (S + 1) (N - ds.sum + 1) + 1)
/-- The sizes of the decomposition of a polynomial of a given degree. -/
theorem sf_ok {a : List Rat} {N S K : Nat} (hC : sfC N S = true) (ha : Can a) (hN : a.length = N + 1) (pa : PB a S) {c : Rat} {l : Fac} (hc : c ≠ 0) (hl : Good l) (e : ∀ x, ev a x = c * ev (PwL l) x) (hK : N + 1 ≤ K ∧ K ≤ 1000000) : (SfOk K a ∧ ∀ j, 1 ≤ j → PB (PiL (l.filter fun y => y.2 == j)) 200000000000) ∧ PB (pSc c (PiL l)) (rdX N S (dsL l 1 N)) := by
  simp only [sfC, Bool.and_eq_true, decide_eq_true_eq] at hC
  obtain ⟨hN1, hN2, hT⟩ := hC
  have e1 : a = pSc c (PwL l) := ev_inj ha (can_pSc _ _) fun x => by rw [e x, ev_pSc]
  have hl1 : (PwL l).length = N + 1 := by rw [← hN, e1, len_pSc' hc (can_PwL l)]
  obtain ⟨⟨p1, p2⟩, p3⟩ := lead_PwL hl
  have hle : ∀ y ∈ l, y.2 ≤ N := fun y hy => by have := p3 y hy; omega
  have hw : wsm 1 (dsL l 1 N) = N := by
    rw [wsm_dgW N hl hle]
    have := len_PwL hl
    omega
  have hf := tyC_ok N 1 N (sfT N S) (Nat.le_refl _) hT (dsL l 1 N) (dsL_len l N 1) hw
  have f1 : (l.filter fun y => decide (1 ≤ y.2)) = l := List.filter_eq_self.2 fun y hy => by have := (hl.mem y hy).2; simp; omega
  have lPi := len_PiL_sum hl N 1 (fun y hy => by have := hle y hy; omega)
  rw [f1] at lPi
  obtain ⟨g1, g0⟩ := lead_GL hl
  obtain ⟨_, q0, _⟩ := lead_PiL hl
  have f2 : (fun e : Nat => (e : Rat) - ((1 : Nat) : Rat) + 1) = fun e : Nat => (e : Rat) := funext fun e => by
    have : ((1 : Nat) : Rat) = 1 := rfl
    rw [this]; grind
  have eB : yB l c 1 = pSc c (PiL l) := by unfold yB; rw [f1]
  have eC : yC l c 1 = pSc c (WL (fun e => (e : Rat)) l) := by unfold yC; rw [f1, f2]
  obtain ⟨r1, r2, r3⟩ := gcd_out ha (can_pDiff a) (can_GL l) (can_pSc c (PiL l)) (can_pSc c (WL (fun e => (e : Rat)) l)) g0 g1 (fun x => by rw [e x, GL_Pi hl x, ev_pSc]; grind) (fun x => by
    rw [e1, ev_pDiff_sc, diff_PwL hl x, ev_pSc]; grind) (cop.sc hc (cop.symm (cop.sc hc (cop.symm (cop_W hl fun y hy h => by
      have h1 := (hl.mem y hy).2
      have h3 : (y.2 : Rat) = ((0 : Nat) : Rat) := h
      have : y.2 = 0 := by exact_mod_cast h3
      omega)))))
  have lG : (GL l).length = N - (dsL l 1 N).sum + 1 := by
    have e2 : PwL l = pMul (GL l) (PiL l) := ev_inj (can_PwL _) (can_pMul _ _) fun x => by rw [GL_Pi hl x, ev_pMul]
    have h := len_pMul (can_GL l) (can_PiL l) g0 q0
    rw [← e2] at h
    have := List.length_pos_iff.2 g0
    have := List.length_pos_iff.2 q0
    omega
  have hsum : (dsL l 1 N).sum ≤ N := by have := PiL_len hl; omega
  generalize hds : dsL l 1 N = ds at *
  unfold sfT at hf
  simp only [Bool.and_eq_true, decide_eq_true_eq] at hf
  obtain ⟨⟨t0, t1⟩, t2⟩ := hf
  have cd := can_pDiff a
  have ld : (pDiff a).length = N := by rw [len_pDiff ha]; omega
  have pd := diff_PB pa (by omega)
  have hG : (pG a (pDiff a)).length = N - ds.sum + 1 := by
    rw [← len_pMonic (can_pG ha cd), ← lG, ← r1]; rfl
  obtain ⟨gk, gp⟩ := gtC_ok 24 t1 ha cd hN ld pa pd hG
  have gG : PB (GL l) (2 * gtM 24 (N + 1) S N (S + 1) (N - ds.sum + 1) + 1) := by rw [← r1]; exact monic_PB gp
  unfold rdX
  by_cases h0 : N - ds.sum = 0
  · rw [if_pos h0] at t2 ⊢
    simp only [Bool.and_eq_true] at t2
    obtain ⟨⟨t3, t4⟩, t5⟩ := t2
    have eG : GL l = [1] := by rw [← r1]; exact gcd_one_PB ha cd (by rw [hG, h0])
    have one1 : PB ([1] : List Rat) 1 := PB_cons qs_1 (PB_nil (Nat.le_refl _))
    have r2' := r2
    have r3' := r3
    rw [eG] at r2' r3'
    rw [pDiv_one ha] at r2'
    rw [pDiv_one cd] at r3'
    have h := sq_ok hl hc N 1 S (S + 1) K (fun y hy => by have := hle y hy; omega) (by omega) (by rw [hds]; omega) (by rw [eB, ← r2']; exact pa) (by rw [eC, ← r3']; exact pd) (by rw [hds]; exact t5)
    rw [eB, eC] at h
    refine ⟨⟨⟨hK.2, by omega, fun _ => ⟨pa.mono (by omega), ⟨24, gk⟩, ?_⟩⟩, h.2⟩, by rw [← r2']; exact pa⟩
    rw [r1, r2, r3, eG]
    exact ⟨⟨dvC_ok t3 ha can_one (Nat.le_of_eq hN) rfl pa one1, dvC_ok t4 cd can_one (Nat.le_of_eq ld) rfl pd one1⟩, by simp, h.1⟩
  · rw [if_neg h0] at t2 ⊢
    simp only [Bool.and_eq_true] at t2
    obtain ⟨⟨t3, t4⟩, t5⟩ := t2
    have pB : PB (pSc c (PiL l)) (dvB' (N + 1) S (N - ds.sum + 1) (2 * gtM 24 (N + 1) S N (S + 1) (N - ds.sum + 1) + 1)) := by rw [← r2]; exact exact_PB ha (can_GL l) g0 hN lG pa gG
    have pC : PB (pSc c (WL (fun e => (e : Rat)) l)) (dvB' N (S + 1) (N - ds.sum + 1) (2 * gtM 24 (N + 1) S N (S + 1) (N - ds.sum + 1) + 1)) := by rw [← r3]; exact exact_PB cd (can_GL l) g0 ld lG pd gG
    have h := sq_ok hl hc N 1 _ _ K (fun y hy => by have := hle y hy; omega) (by omega) (by rw [hds]; omega) (by rw [eB]; exact pB) (by rw [eC]; exact pC) (by rw [hds]; exact t5)
    rw [eB, eC] at h
    refine ⟨⟨⟨hK.2, by omega, fun _ => ⟨pa.mono (by omega), ⟨24, gk⟩, ?_⟩⟩, h.2⟩, pB⟩
    rw [r1, r2, r3]
    exact ⟨⟨dvC_ok t3 ha (can_GL l) (Nat.le_of_eq hN) lG pa gG, dvC_ok t4 cd (can_GL l) (Nat.le_of_eq ld) lG pd gG⟩, g0, h.1⟩
end Go.Proofs.YtfbogelmgdojgaaGreat


/- Sizes in the computation of minimal polynomials. No program in sight. -/
namespace Go.Proofs.YtfbogelmgdojgaaGreat
set_option linter.unusedSimpArgs false
set_option linter.unusedVariables false
open Go.RowKit

/-- At most one entry in a row. -/
def OneR (n : Nat) (D : Mat) : Prop := ∀ i, i < n → ∃ p, ∀ j, j < n → j ≠ p → D i j = 0
theorem OneR.minor {n : Nat} {D : Mat} (h : OneR (n + 1) D) (k : Nat) : OneR n (minor D k) := fun i hi => by
  obtain ⟨p, hp⟩ := h (i + 1) (by omega)
  refine ⟨if p < k then p else p - 1, fun j hj hne => ?_⟩
  unfold Go.Proofs.YtfbogelmgdojgaaGreat.minor
  by_cases hp' : p < k
  · rw [if_pos hp'] at hne
    exact hp _ (by split <;> omega) (by split <;> omega)
  · rw [if_neg hp'] at hne
    by_cases h0 : p = 0
    · subst h0
      refine hp _ (by split <;> omega) ?_
      split <;> omega
    · exact hp _ (by split <;> omega) (by split <;> omega)
/-- The powers. -/
def pwZ (n k : Nat) : Nat → Nat
  | 0 => 2 ^ (7 - n) * (2 * k + 2)
  | i + 1 => 2 ^ (max 1 (n - 2)) * ((n - 1) * (pwZ n k i + 2 ^ (7 - n) * (2 * k + 2) + 1) + 1 + (2 * k + 1))
theorem Md0.rsz {q a : List Rat} {n k : Nat} (hq : Md0 q n k) (ha : Sz a 6 1) : Sz (pMod a q) (n - 1) (2 ^ (7 - n) * (2 * k + 2)) := by
  have q0 := hq.ne
  have hl := hq.len
  have n5 := hq.cs0
  obtain ⟨⟨_, cr⟩, hr, _⟩ := dm_ok ha.can hq.can q0
  refine ⟨by omega, ?_, cr⟩
  refine ((div_PB (S := 2 * k + 2) ha.can hq.can q0 ha.pb hq.pb (by omega)).2).mono (Nat.mul_le_mul_right _ (Nat.pow_le_pow_right (by decide) ?_))
  have := ha.len
  omega
theorem Md0.mulr {q b r : List Rat} {n k E R : Nat} (hq : Md0 q n k) (hb : Sz b (n - 1) E) (hr : Sz r (n - 1) R) : Sz (pMod (pMul b r) q) (n - 1) (2 ^ (max 1 (n - 2)) * ((n - 1) * (E + R + 1) + 1 + (2 * k + 1))) ∧
    (2 ^ (max 1 (n - 2)) * ((n - 1) * (E + R + 1) + 1 + (2 * k + 1)) ≤ 2500000000000 → (b.length + r.length ≤ 1000000 ∧ ∃ j k, (PB b j ∧ PB r k) ∧ b.length * (j + k + 1) ≤ 4999999999999) ∧ DvOk (pMul b r) q ∧ q ≠ []) := by
  have q0 := hq.ne
  have hl := hq.len
  have n5 := hq.cs0
  have hm := hb.mul hr
  obtain ⟨⟨_, cr⟩, hrl, _⟩ := dm_ok hm.can hq.can q0
  have hml := hm.len
  have e : (pMul b r).length - q.length + 1 ≤ max 1 (n - 2) := by omega
  have p1 : (1 : Nat) ≤ 2 ^ (max 1 (n - 2)) := Nat.one_le_two_pow
  refine ⟨⟨by omega, ?_, cr⟩, fun h => ⟨?_, ⟨⟨hm.can, hq.can⟩, by omega, _, k, ⟨hm.pb, hq.pb⟩, ?_⟩, q0⟩⟩
  · refine ((div_PB (S := (n - 1) * (E + R + 1) + 1 + (2 * k + 1)) hm.can hq.can q0 hm.pb hq.pb (by omega)).2).mono (Nat.mul_le_mul_right _ (Nat.pow_le_pow_right (by decide) e))
  · refine Sz.cm hb hr ⟨by omega, ?_⟩
    have := Nat.mul_le_mul_right ((n - 1) * (E + R + 1) + 1 + (2 * k + 1)) p1
    omega
  · refine Nat.le_trans (Nat.mul_le_mul_right _ (Nat.pow_le_pow_right (by decide) e)) (Nat.le_trans ?_ h)
    exact Nat.mul_le_mul_left _ (by omega)
def pwC6 (n k : Nat) : Bool := allB (n - 1) fun i => decide (pwZ n k i ≤ 30000000)
theorem Md0.pw {q a : List Rat} {n k : Nat} (hq : Md0 q n k) (ha : Sz a 6 1) : ∀ i, Sz (pwE q (pMod a q) i) (n - 1) (pwZ n k i)
  | 0 => hq.rsz ha
  | i + 1 => (hq.mulr (hq.pw ha i) (hq.rsz ha)).1
theorem Md0.tr2 {q u : List Rat} {n k E : Nat} (hq : Md0 q n k) (hu : Sz u (n - 1) E) (hE : E ≤ 30000000) : TrOk q u ∧ qs (trQ q u) ≤ 140000000 := by
  have q0 := hq.ne
  have hl := hq.len
  have n5 := hq.cs0
  have hul := hu.len
  have er : pMod u q = u := (dm_small hu.can hq.can (by omega)).2
  have hn := nwL_sz hq.mon.1 hq.mon.2 u.length (by omega)
  have hn' : PB (nwL (pMonic q) u.length) (nwZ 11009 4) := hn.mono (nwZ_step _ (by omega))
  have hS : nwZ 11009 4 ≤ 4000000 := by decide
  generalize nwZ 11009 4 = Y at hS hn'
  unfold TrOk trQ
  rw [er]
  refine ⟨⟨⟨⟨⟨hu.can, hq.can⟩, by omega, E, k, ⟨hu.pb, hq.pb⟩, ?_⟩, q0⟩, fun _ => hq.po (by omega), hu.pb.mono (by omega), hn'.mono (by omega), fun i hi => ⟨?_, ?_⟩⟩, ?_⟩
  · rw [show u.length - q.length + 1 = 1 from by omega]; omega
  · refine Nat.le_trans (trF_sz hu.pb hn' i) ?_
    have : i * (E + Y + 1) ≤ 4 * (E + Y + 1) := Nat.mul_le_mul_right _ (by omega)
    omega
  · have e2 := qs_mul (cf u i) (cf (nwR (pMonic q) u.length) i)
    have e3 := hu.pb i
    have e4 := hn' i
    exact Nat.le_trans e2 (by show _ + qs (cf (nwL (pMonic q) u.length) i) ≤ _; omega)
  · refine Nat.le_trans (trF_sz hu.pb hn' _) ?_
    have : u.length * (E + Y + 1) ≤ 4 * (E + Y + 1) := Nat.mul_le_mul_right _ (by omega)
    omega
/-- The coefficients from the traces. -/
theorem mnS_sz {d t : List Rat} {C T : Nat} (hd : PB d C) (ht : PB t T) (k : Nat) : ∀ i, qs (mnS d t k i) ≤ i * (C + T + 1) + 1
  | 0 => by rw [mnS, Nat.zero_mul]; exact qs_0
  | i + 1 => by
    have ih := mnS_sz hd ht k i
    rw [mnS, Nat.succ_mul]
    have e1 := qs_add (mnS d t k i) (cf d i * cf t (k - i))
    have e2 := qs_mul (cf d i) (cf t (k - i))
    have e3 := hd i
    have e4 := ht (k - i)
    omega
def mnZ (T : Nat) : Nat → Nat
  | 0 => 1
  | k + 1 => (k + 1) * (mnZ T k + T + 1) + 2 + mnZ T k
theorem mnL_sz {t : List Rat} {T : Nat} (ht : PB t T) : ∀ k, k < 1000 → PB (mnL t k) (mnZ T k)
  | 0, _ => PB_cons (Nat.le_trans (show qs ((1 : Int) : Rat) ≤ 1 from qs_1) (Nat.le_refl _)) (PB_nil (Nat.le_refl _))
  | k + 1, hk => fun i => by
    have ih := mnL_sz ht k (by omega)
    rw [mnL, cf_snoc, mnL_len, mnZ]
    split
    · have h1 := mnS_sz ih ht (k + 1) (k + 1)
      have h2 := qs_div (-(mnS (mnL t k) t (k + 1) (k + 1))) (((k + 1 : Nat) : Int) : Rat)
      have h3 : qs (((k + 1 : Nat) : Int) : Rat) ≤ 1 := qs_nat (z := k + 1) (by omega)
      rw [qs_neg] at h2
      omega
    · have := ih i; omega
def cntT (ds : List Nat) : Bool := decide ((ds.filter fun d => decide (d ≠ 0)).length ≤ 2)
end Go.Proofs.YtfbogelmgdojgaaGreat


/- Contracts: the minimal polynomial as a function; values at residues. -/
namespace Go.Proofs.YtfbogelmgdojgaaGreat
set_option linter.unusedSimpArgs false
set_option linter.unusedVariables false
open Go.RowKit

def minP (q a : List Rat) : List Rat :=
  match pSqf q.length (tr (mnL (trs q (pMod a q) (q.length - 1)) (q.length - 1)).reverse) with
  | some fs => prd fs fs.length
  | none => []
def kMinF : Con := con2 pR pR fun q a => (∃ fs, MnOk q a q.length fs, .lst (V.rats (minP q a)))
attribute [go_sem ↓, go_sem] kMinF
theorem minF_C : Ctr Tryz.prog 27 kMinF := Ctr.c2 (by kernel_rfl) fun q a h => by
  obtain ⟨fs, h⟩ := h
  show PCall _ _ _ (.lst (V.rats (minP q a)))
  have e : minP q a = prd fs fs.length := by unfold minP; rw [h.sqf.1]
  rw [e]
  exact (min_C q.length fs).2 [.lst (V.rats q), .lst (V.rats a)] (MnOk q a q.length fs) _ (by simp only [go_sem]) h
end Go.Proofs.YtfbogelmgdojgaaGreat


/- The sizes of a minimal polynomial, put together. No program in sight. -/
namespace Go.Proofs.YtfbogelmgdojgaaGreat
set_option linter.unusedSimpArgs false
set_option linter.unusedVariables false
open Go.RowKit

theorem partsL_len {l : Fac} (hl : Good l) : ∀ k n, (partsL l k n).length = ((dsL l n k).filter fun d => decide (d ≠ 0)).length
  | 0, _ => rfl
  | k + 1, n => by
    have gZ := hl.filter (f := fun y => y.2 == n)
    rw [partsL, dsL, List.filter_cons]
    by_cases h : (l.filter fun y => y.2 == n) = []
    · have : dgL l n = 0 := by unfold dgL; rw [h]; rfl
      rw [if_pos h, this, if_neg (by decide), partsL_len hl k (n + 1)]
    · have := (lead_PiL gZ).2.2 h
      have : dgL l n ≠ 0 := by unfold dgL; omega
      rw [if_neg h, if_pos (by simpa using this), List.length_cons, List.length_cons, partsL_len hl k (n + 1)]
theorem part_len {l : Fac} (hl : Good l) (f : List Rat × Nat → Bool) : (PiL (l.filter f)).length ≤ (PiL l).length := by
  refine (dvd_len (can_PiL l) (can_PiL _) ⟨PiL (l.filter fun y => !f y), can_PiL _, fun x => ?_⟩ (lead_PiL hl).2.1).1
  rw [filt_Pi f l x]; grind
theorem mnZ_le : ∀ k, k ≤ 4 → mnZ 140000000 k ≤ 20000000000
  | 0, _ => by decide
  | 1, _ => by decide
  | 2, _ => by decide
  | 3, _ => by decide
  | 4, _ => by decide
  | k + 5, h => by omega
theorem mn_core {q a : List Rat} {n k S : Nat} {l : Fac} (hq : Md0 q n k) (ha : Sz a 6 1) (pχ : PB (chi q a) S) (c1 : pwC6 n k = true) (c2 : sfC (n - 1) S = true) (c4 : tyC (n - 1) 1 (n - 1) cntT = true) (hl : Good l) (e : ∀ x, ev (chi q a) x = 1 * ev (PwL l) x) :
    (((∃ fs, MnOk q a q.length fs) ∧ minP q a = PiL l) ∧ PB (PiL l) (rdX (n - 1) S (dsL l 1 (n - 1)))) ∧ wsm 1 (dsL l 1 (n - 1)) = n - 1 ∧ (PiL l).length = (dsL l 1 (n - 1)).sum + 1 := by
  have n5 := hq.cs0
  have hlen := hq.len
  have h2 := hq.two
  have q0 := hq.ne
  have one0 : (1 : Rat) ≠ 0 := by decide
  have hχ := chi_length q a
  obtain ⟨⟨sf, sfp⟩, sfr⟩ := sf_ok (K := q.length) c2 (chi_can q a) (by omega) pχ one0 hl e ⟨by omega, by omega⟩
  have hy := yun (chi_can q a) (by omega) one0 hl e (k := q.length) (by omega)
  have e1 : chi q a = PwL l := ev_inj (chi_can q a) (can_PwL l) fun x => by rw [e x]; grind
  have eR : pSc 1 (PiL l) = PiL l := ev_inj (can_pSc _ _) (can_PiL l) fun x => by rw [ev_pSc]; grind
  rw [eR] at sfr
  have hlw : (PwL l).length = n := by rw [← e1]; omega
  have hle : ∀ y ∈ l, y.2 ≤ n - 1 := fun y hy => by have := (lead_PwL hl).2 y hy; omega
  have hw : wsm 1 (dsL l 1 (n - 1)) = n - 1 := by
    rw [wsm_dgW (n - 1) hl hle]
    have := len_PwL hl
    omega
  have ht := tyC_ok (n - 1) 1 (n - 1) cntT (Nat.le_refl _) c4 (dsL l 1 (n - 1)) (dsL_len l (n - 1) 1) hw
  have f1 : (l.filter fun y => decide (1 ≤ y.2)) = l := List.filter_eq_self.2 fun y hy => by have := (hl.mem y hy).2; simp; omega
  have lPi := len_PiL_sum hl (n - 1) 1 (fun y hy => by have := hle y hy; omega)
  rw [f1] at lPi
  have lPn : (PiL l).length ≤ n := by have := PiL_len hl; omega
  have hpl := partsL_len hl (n - 1) 1
  generalize hds : dsL l 1 (n - 1) = ds at *
  have t4 : (ds.filter fun d => decide (d ≠ 0)).length ≤ 2 := of_decide_eq_true ht
  have mc := min_chi ha.can hq.can h2
  have T1 : ∀ i, i < n - 1 → pwZ n k i ≤ 30000000 := fun i hi => by
    have := allB_ok c1 i hi
    simpa using this
  have tPB : PB (trs q (pMod a q) (q.length - 1)) 140000000 := by
    unfold trs
    refine PB_cons (Nat.le_trans (show qs (((q.length - 1 : Nat) : Int) : Rat) ≤ 1 from qs_nat (z := q.length - 1) (by omega)) (by decide)) fun i => ?_
    unfold cf
    rw [List.getD_eq_getElem?_getD, List.getElem?_map]
    by_cases hi : i < q.length - 1
    · rw [List.getElem?_range hi]
      exact (hq.tr2 (hq.pw ha i) (T1 i (by omega))).2
    · rw [List.getElem?_eq_none (by simp; omega)]
      exact Nat.le_trans qs_0 (by decide)
  have prs : (partsL l (q.length - 1) 1).length ≤ 1000000 ∧ ∀ i, i < (partsL l (q.length - 1) 1).length → (prd (partsL l (q.length - 1) 1) i).length + ((partsL l (q.length - 1) 1).getD i ([], 0)).1.length ≤ 1000000 ∧ ∃ j k, (PB (prd (partsL l (q.length - 1) 1) i) j ∧ PB ((partsL l (q.length - 1) 1).getD i ([], 0)).1 k) ∧ (prd (partsL l (q.length - 1) 1) i).length * (j + k + 1) ≤ 4999999999999 := by
    rw [hlen]
    refine ⟨by omega, fun i hi => ?_⟩
    have part : ∀ i, i < (partsL l (n - 1) 1).length → PB ((partsL l (n - 1) 1).getD i ([], 0)).1 200000000000 ∧ ((partsL l (n - 1) 1).getD i ([], 0)).1.length ≤ 5 := fun i hi => by
      have hm : (partsL l (n - 1) 1).getD i ([], 0) ∈ partsL l (n - 1) 1 := by
        rw [List.getD_eq_getElem?_getD, List.getElem?_eq_getElem hi]
        exact List.getElem_mem hi
      obtain ⟨m1, m2, _⟩ := partsL_mem _ _ _ hm
      rw [m2]
      have := part_len hl (fun z => z.2 == ((partsL l (n - 1) 1).getD i ([], 0)).2)
      exact ⟨sfp _ m1.1, by omega⟩
    obtain ⟨p1, p2⟩ := part i hi
    have one1 : PB [((1 : Int) : Rat)] 1 := PB_cons (show qs ((1 : Int) : Rat) ≤ 1 from qs_1) (PB_nil (Nat.le_refl _))
    have s1 : Sz [((1 : Int) : Rat)] 1 1 := ⟨Nat.le_refl _, one1, can1⟩
    rcases i with _ | i
    · refine ⟨by rw [prd]; show 1 + _ ≤ _; omega, 1, 200000000000, ⟨one1, p1⟩, by rw [prd]; decide⟩
    · obtain rfl : i = 0 := by omega
      obtain ⟨p3, p4⟩ := part 0 (by omega)
      have hb : (prd (partsL l (n - 1) 1) (0 + 1)).length ≤ 5 ∧ PB (prd (partsL l (n - 1) 1) (0 + 1)) 200000000003 := by
        rw [prd, prd]
        have hc : Can ((partsL l (n - 1) 1).getD 0 ([], 0)).1 := by
          have hm : (partsL l (n - 1) 1).getD 0 ([], 0) ∈ partsL l (n - 1) 1 := by
            rw [List.getD_eq_getElem?_getD, List.getElem?_eq_getElem (show 0 < (partsL l (n - 1) 1).length by omega)]
            exact List.getElem_mem _
          rw [(partsL_mem _ _ _ hm).2.1]
          exact can_PiL _
        have := Sz.mul s1 (⟨p4, p3, hc⟩ : Sz _ 5 200000000000)
        exact ⟨Nat.le_trans this.len (by decide), this.pb.mono (by decide)⟩
      refine ⟨by omega, 200000000003, 200000000000, ⟨hb.2, p1⟩, ?_⟩
      have := Nat.mul_le_mul_right (200000000003 + 200000000000 + 1) hb.1
      omega
  have MN : MnOk q a q.length (partsL l (q.length - 1) 1) := by
    refine ⟨⟨h2, by omega⟩, hq.dv ha (by decide), ⟨by omega, fun i hi => ?_⟩, fun i hi => (hq.tr2 (hq.pw ha i) (T1 i (by omega))).1, tPB.mono (by decide), fun j hj => ?_, ⟨by rw [mc]; exact hy, by rw [mc]; exact sf⟩, prs⟩
    · exact (hq.mulr (hq.pw ha i) (hq.rsz ha)).2 (Nat.le_trans (T1 (i + 1) (by omega)) (by decide))
    · have h3 := mnL_sz tPB j (by omega)
      have h4 := mnZ_le j (by omega)
      have h5 := h3.mono h4
      refine ⟨h5.mono (by decide), fun i hi => ⟨?_, ?_⟩⟩
      · refine Nat.le_trans (mnS_sz h5 tPB (j + 1) i) ?_
        exact Nat.le_trans (Nat.add_le_add_right (Nat.mul_le_mul_right _ (show i ≤ 5 by omega)) 1) (by decide)
      · have h6 := qs_mul (cf (mnL (trs q (pMod a q) (q.length - 1)) j) i) (cf (trs q (pMod a q) (q.length - 1)) (j + 1 - i))
        have h7 := h5 i
        have h8 := tPB (j + 1 - i)
        omega
  have hmin : minP q a = PiL l := by
    unfold minP
    rw [mc, hy]
    show prd (partsL l (q.length - 1) 1) (partsL l (q.length - 1) 1).length = PiL l
    rw [prd_Pi, hlen, rad_parts hl hle]
  exact ⟨⟨⟨⟨_, MN⟩, hmin⟩, sfr⟩, hw, lPi⟩
end Go.Proofs.YtfbogelmgdojgaaGreat


/- The law of minimal polynomials. -/
namespace Go.Proofs.YtfbogelmgdojgaaGreat
set_option linter.unusedSimpArgs false
set_option linter.unusedVariables false
open Go.RowKit

end Go.Proofs.YtfbogelmgdojgaaGreat

