/- Texts SZ8 SZ13 PM20 in one. -/
import Derived.Test.YthhpmapbhdebeaaGreatR30
import Derived.Test.YthhpmapbhdebeaaGreatR25
import Derived.Test.YthhpmapbhdebeaaGreatR28
import Derived.Test.YthhpmapbhdebeaaGreatR22
/- Sizes in Yun's algorithm, by computation over all types of polynomials. No program in sight. -/
namespace Go.Proofs.YthhpmapbhdebeaaGreat
set_option linter.unusedSimpArgs false
set_option linter.unusedVariables false
open Go.RowKit

/-- The sizes in Euclid's algorithm when the length of the greatest common divisor is known. -/
def gtX (lb l t : Nat) : Bool := (decide (l ≠ 0) && decide (l < t)) || (decide (l = 0) && decide (lb ≠ t))
def gtC : Nat → Nat → Nat → Nat → Nat → Nat → Bool
  | 0, _, _, _, _, _ => false
  | n + 1, la, sa, lb, sb, t => (dvC la sa lb sb && decide (sa ≤ 2500000000000)) && (if lb = 0 then true else if la < lb then gtC n lb sb la sa t else allB lb fun l => gtX lb l t || gtC n lb sb l (rmB la sa lb sb) t)
def gtM : Nat → Nat → Nat → Nat → Nat → Nat → Nat
  | 0, _, _, _, _, _ => 0
  | n + 1, la, sa, lb, sb, t => if lb = 0 then sa else if la < lb then gtM n lb sb la sa t else mxB lb fun l => if gtX lb l t = true then 0 else gtM n lb sb l (rmB la sa lb sb) t
theorem gtX_no {b r : List Rat} {t : Nat} (hb : Can b) (hr : Can r) (h : (pG b r).length = t) (b0 : b ≠ []) : gtX b.length r.length t = false := by
  unfold gtX
  by_cases r0 : r = []
  · subst r0
    rw [pG_nil] at h
    simp [h]
  · have := List.length_pos_iff.2 r0
    have := (dvd_len hr (can_pG hb hr) (pG_dvd hb hr).2 r0).1
    have h1 : r.length ≠ 0 := by omega
    have h2 : ¬ r.length < t := by omega
    simp [h2, h1, r0]
theorem gtC_ok : ∀ (n : Nat) {la sa lb sb t : Nat} {a b : List Rat}, gtC n la sa lb sb t = true → Can a → Can b → a.length = la → b.length = lb → PB a sa → PB b sb → (pG a b).length = t → GcOk n a b ∧ PB (pG a b) (gtM n la sa lb sb t)
  | 0, _, _, _, _, _, _, _, h, _, _, _, _, _, _, _ => by cases h
  | n + 1, la, sa, lb, sb, t, a, b, h, ca, cb, e1, e2, pa, pb, ht => by
    subst e1 e2
    simp only [gtC, Bool.and_eq_true, decide_eq_true_eq] at h
    obtain ⟨⟨h1, h2⟩, h3⟩ := h
    have dv := dvC_ok h1 ca cb (Nat.le_refl _) rfl pa pb
    by_cases b0 : b = []
    · subst b0
      exact ⟨⟨dv, by rw [if_pos rfl]; exact ⟨sa, pa, h2⟩⟩, by rw [pG_nil]; exact pa⟩
    · have hbl := List.length_pos_iff.2 b0
      rw [if_neg (by omega)] at h3
      unfold GcOk gtM
      rw [if_neg b0, if_neg (by omega)]
      rw [pG_step ca cb b0] at ht ⊢
      by_cases hlt : a.length < b.length
      · rw [if_pos hlt] at h3 ⊢
        rw [(dm_small ca cb hlt).2] at ht ⊢
        have := gtC_ok n h3 cb ca rfl rfl pb pa ht
        exact ⟨⟨dv, this.1⟩, this.2⟩
      · rw [if_neg hlt] at h3 ⊢
        obtain ⟨⟨_, cr⟩, hr, _⟩ := dm_ok ca cb b0
        have hx := gtX_no cb cr ht b0
        have h4 := allB_ok h3 _ hr
        rw [hx, Bool.false_or] at h4
        have := gtC_ok n h4 cb cr rfl rfl pb (rm_PB ca cb b0 pa pb) ht
        have hm := mxB_ok (f := fun l => if gtX b.length l t = true then 0 else gtM n b.length sb l (rmB a.length sa b.length sb) t) _ hr
        simp only [hx, Bool.false_eq_true, if_false] at hm
        exact ⟨⟨dv, this.1⟩, this.2.mono hm⟩
/-- The sizes of the steps. -/
def dvB' (la sa lb sb : Nat) : Nat := 2 ^ (la - lb + 1) * (sa + 2 * sb + 1)
theorem qs_natMul {i : Nat} {x : Rat} (hi : i < 4294967296) : qs ((i : Rat) * x) ≤ qs x + 1 := by
  have h1 := qs_mul (i : Rat) x
  have h2 := qs_nat hi
  omega
theorem diff_PB {a : List Rat} {s : Nat} (h : PB a s) (hl : a.length ≤ 1000) : PB (pDiff a) (s + 1) := fun i => by
  rw [cf_pDiff]
  by_cases hi : i + 1 < a.length
  · exact Nat.le_trans (qs_natMul (by omega)) (by have := h (i + 1); omega)
  · rw [cf_ge (l := a) (by omega), Rat.mul_zero]
    exact Nat.le_trans qs_0 (by omega)
theorem gcd_one_PB {a b : List Rat} (ha : Can a) (hb : Can b) (h : (pG a b).length = 1) : pGcd a b = [1] := pMonic_one (can_pG ha hb) h
theorem sub_PB {a b : List Rat} {j k : Nat} (ha : PB a j) (hb : PB b k) : PB (pSub a b) (j + k + 1) := fun i => by
  rw [cf_pSub]
  have h1 := qs_sub (cf a i) (cf b i)
  have h2 := ha i
  have h3 := hb i
  omega
theorem exact_PB {a g : List Rat} {la sa lg sg : Nat} (ha : Can a) (hg : Can g) (g0 : g ≠ []) (el : a.length = la) (eg : g.length = lg) (pa : PB a sa) (pg : PB g sg) : PB (pDiv a g) (dvB' la sa lg sg) := by
  subst el eg
  unfold dvB'
  exact (div_PB ha hg g0 pa pg (Nat.le_refl _)).1
/-- All types of polynomials of one degree. -/
def tyC : Nat → Nat → Nat → (List Nat → Bool) → Bool
  | 0, _, r, f => if r = 0 then f [] else true
  | k + 1, n, r, f => allB (r / n + 1) fun d => tyC k (n + 1) (r - n * d) fun ds => f (d :: ds)
theorem tyC_ok : ∀ (k n r : Nat) (f : List Nat → Bool), 1 ≤ n → tyC k n r f = true → ∀ ds : List Nat, ds.length = k → wsm n ds = r → f ds = true
  | 0, n, r, f, _, h, ds, hl, hw => by
    obtain rfl := List.eq_nil_of_length_eq_zero hl
    have : r = 0 := by rw [← hw]; rfl
    rw [tyC, if_pos this] at h
    exact h
  | k + 1, n, r, f, hn, h, ds, hl, hw => by
    match ds, hl with
    | d :: ds, hl =>
      rw [wsm] at hw
      rw [tyC] at h
      have hd : d < r / n + 1 := by
        have : d ≤ r / n := (Nat.le_div_iff_mul_le (by omega)).2 (by rw [Nat.mul_comm]; omega)
        omega
      exact tyC_ok k (n + 1) (r - n * d) (fun ds => f (d :: ds)) (by omega) (allB_ok h d hd) ds (by simpa using hl) (by omega)
end Go.Proofs.YthhpmapbhdebeaaGreat


/- Sizes in Yun's algorithm when the parts are known to be small. No program in sight. -/
namespace Go.Proofs.YthhpmapbhdebeaaGreat
set_option linter.unusedSimpArgs false
set_option linter.unusedVariables false
open Go.RowKit

def yuD (T sb : Nat) : List Nat → Nat → Bool
  | [], _ => true
  | d :: ds, sc => if d + ds.sum = 0 then true else
    (decide (sb ≤ 2500000000000) && decide (sc ≤ 2500000000000)) &&
    (gtC 24 (d + ds.sum + 1) sb (if ds.sum = 0 then 0 else d + ds.sum) (sc + sb + 2) (d + 1) &&
    (if d = 0 then (dvC (d + ds.sum + 1) sb 1 1 && dvC (if ds.sum = 0 then 0 else d + ds.sum) (sc + sb + 2) 1 1) && yuD T sb ds (sc + sb + 2) else
      (dvC (d + ds.sum + 1) sb (d + 1) T && dvC (if ds.sum = 0 then 0 else d + ds.sum) (sc + sb + 2) (d + 1) T) &&
      (if ds.sum = 0 then true else yuD T sb ds (dvB' (if ds.sum = 0 then 0 else d + ds.sum) (sc + sb + 2) (d + 1) T))))
def sfT2 (T sb N S : Nat) (ds : List Nat) : Bool :=
  (decide (S ≤ 2500000000000 - 1) && gtC 24 (N + 1) S N (S + 1) (N - ds.sum + 1)) &&
  (if N - ds.sum = 0 then (dvC (N + 1) S 1 1 && dvC N (S + 1) 1 1) && yuD T sb ds (S + 1) else
    (dvC (N + 1) S (N - ds.sum + 1) T && dvC N (S + 1) (N - ds.sum + 1) T) &&
    yuD T sb ds (dvB' N (S + 1) (N - ds.sum + 1) T))
def sfC2 (T sb N S : Nat) : Bool := decide (1 ≤ N) && (decide (N ≤ 100) && tyC N 1 N (sfT2 T sb N S))
theorem sq_ok2 {l : Fac} (hl : Good l) {c : Rat} (hc : c ≠ 0) {T sb : Nat} (hb : ∀ n, PB (yB l c n) sb) (hp : ∀ n, PB (PiL (l.filter fun y => y.2 == n)) T) : ∀ (k n sc K : Nat), (∀ y ∈ l, y.2 < n + k) → k + 1 ≤ K → (dsL l n k).sum ≤ 100 → PB (yC l c n) sc → yuD T sb (dsL l n k) sc = true → SqOk K (yB l c n) (yC l c n)
  | k, n, sc, 0, _, hK, _, _, _ => by omega
  | k, n, sc, K + 1, hk, hK, h100, pc, hy => by
    have pb := hb n
    have gL := hl.filter (f := fun y => decide (n ≤ y.2))
    have lb : (yB l c n).length = (dsL l n k).sum + 1 := by
      unfold yB
      rw [len_pSc' hc (can_PiL _), len_PiL_sum hl k n hk]
    have one1 : PB ([1] : List Rat) 1 := PB_cons qs_1 (PB_nil (Nat.le_refl _))
    unfold SqOk
    by_cases hb1 : (yB l c n).length ≤ 1
    · rw [if_pos hb1]
      trivial
    rw [if_neg hb1]
    cases k with
    | zero => rw [lb] at hb1; exact absurd (Nat.le_refl 1) hb1
    | succ k =>
      rw [dsL, List.sum_cons] at lb h100
      have hk' : ∀ y ∈ l, y.2 < n + 1 + k := fun y hy => by have := hk y hy; omega
      have gL' := hl.filter (f := fun y => decide (n + 1 ≤ y.2))
      have gZ := hl.filter (f := fun y => y.2 == n)
      obtain ⟨z1, z0, _⟩ := lead_PiL gZ
      have zl := List.length_pos_iff.2 z0
      have lZ : (PiL (l.filter fun y => y.2 == n)).length = dgL l n + 1 := by unfold dgL; omega
      have l1 := len_PiL_sum hl k (n + 1) hk'
      have l0 := len_PiL hl n
      obtain ⟨⟨g1, g2, g3⟩, hY⟩ := yun_step hl hc n
      rw [dsL, yuD] at hy
      generalize hS : (dsL l (n + 1) k).sum = S at *
      have hne : ¬ dgL l n + S = 0 := by omega
      rw [if_neg hne] at hy
      simp only [Bool.and_eq_true, decide_eq_true_eq] at hy
      obtain ⟨⟨y1, y2⟩, y3, y4⟩ := hy
      have cB : Can (yB l c n) := can_pSc _ _
      have cC : Can (yC l c n) := can_pSc _ _
      have cY : Can (pSub (yC l c n) (pDiff (yB l c n))) := can_pSub _ _
      -- the lengths
      have lC : (yC l c n).length ≤ dgL l n + S := by
        unfold yC
        refine Nat.le_trans (len_pSc _ _) (Nat.le_trans (WL_top _ gL).1 ?_)
        rw [l0, l1]; omega
      have lY : (pSub (yC l c n) (pDiff (yB l c n))).length = if S = 0 then 0 else dgL l n + S := by
        rw [hY, len_pSc' hc (can_WL _ _)]
        by_cases h0 : S = 0
        · rw [if_pos h0, WL_zero]
          · rfl
          · intro y hy'
            obtain ⟨m1, m2⟩ := List.mem_filter.1 hy'
            have m2 : n ≤ y.2 := by simpa using m2
            have : ¬ n + 1 ≤ y.2 := fun h => by
              have m3 : y ∈ l.filter fun y => decide (n + 1 ≤ y.2) := List.mem_filter.2 ⟨m1, by simpa using h⟩
              have := (lead_PiL gL').2.2 (List.ne_nil_of_mem m3)
              omega
            show (y.2 : Rat) - (n : Rat) = 0
            rw [show y.2 = n from by omega]; grind
        · have w1 : ∀ y ∈ l.filter (fun y => decide (n ≤ y.2)), 0 ≤ (y.2 : Rat) - (n : Rat) := fun y hy' => by
            have m2 := (List.mem_filter.1 hy').2
            have m2 : n ≤ y.2 := by simpa using m2
            have : (n : Rat) ≤ (y.2 : Rat) := by exact_mod_cast m2
            grind
          have w2 : ∃ y ∈ l.filter (fun y => decide (n ≤ y.2)), 0 < (y.2 : Rat) - (n : Rat) := by
            have m3 : (l.filter fun y => decide (n + 1 ≤ y.2)) ≠ [] := fun e => by
              rw [e] at l1
              have : (PiL []).length = 1 := rfl
              omega
            obtain ⟨y, hy'⟩ := List.exists_mem_of_ne_nil _ m3
            obtain ⟨m1, m2⟩ := List.mem_filter.1 hy'
            have m2 : n + 1 ≤ y.2 := by simpa using m2
            refine ⟨y, List.mem_filter.2 ⟨m1, by simp; omega⟩, ?_⟩
            have : (n : Rat) < (y.2 : Rat) := by exact_mod_cast (show n < y.2 by omega)
            grind
          rw [if_neg h0, len_WL gL w1 w2, l0, l1]
          omega
      have pD := diff_PB pb (by omega)
      have pY : PB (pSub (yC l c n) (pDiff (yB l c n))) (sc + sb + 2) := (sub_PB pc pD).mono (by omega)
      have hG : (pG (yB l c n) (pSub (yC l c n) (pDiff (yB l c n)))).length = dgL l n + 1 := by
        rw [← len_pMonic (can_pG cB cY), ← lZ, ← g1]; rfl
      obtain ⟨gk, _⟩ := gtC_ok 24 y3 cB cY (by rw [lb]) lY pb pY hG
      have gZP := hp n
      rw [g1]
      have hBC : ((yB l c n).length ≤ 1000000 ∧ (yC l c n).length ≤ 1000000) ∧ PB (yB l c n) 5000000000000 ∧ PB (yC l c n) 5000000000000 ∧ PB (pDiff (yB l c n)) 5000000000000 := ⟨⟨by omega, by omega⟩, pb.mono (by omega), pc.mono (by omega), pD.mono (by omega)⟩
      by_cases d0 : dgL l n = 0
      · rw [if_pos d0] at y4
        have eZ : PiL (l.filter fun y => y.2 == n) = [1] := by rw [← g1]; exact gcd_one_PB cB cY (by rw [hG, d0])
        have g2' := g2
        have g3' := g3
        rw [eZ] at g2' g3'
        rw [pDiv_one cB] at g2'
        rw [pDiv_one cY] at g3'
        simp only [Bool.and_eq_true] at y4
        obtain ⟨⟨y5, y6⟩, y7⟩ := y4
        have dv1 := dvC_ok y5 cB can_one (Nat.le_of_eq lb) rfl pb one1
        have dv2 := dvC_ok y6 cY can_one (Nat.le_of_eq lY) rfl pY one1
        have ih := sq_ok2 hl hc hb hp k (n + 1) (sc + sb + 2) K hk' (by omega) (by omega) (by rw [← g3']; exact pY) y7
        rw [eZ] at g2 g3
        exact ⟨hBC, ⟨24, gk⟩, by rw [eZ]; exact ⟨dv1, dv2⟩, by rw [eZ]; simp, by rw [eZ, g2, g3]; exact ih⟩
      · rw [if_neg d0] at y4
        simp only [Bool.and_eq_true] at y4
        obtain ⟨⟨y5, y6⟩, y7⟩ := y4
        have dv1 := dvC_ok y5 cB (can_PiL _) (Nat.le_of_eq (by rw [lb])) lZ pb gZP
        have dv2 := dvC_ok y6 cY (can_PiL _) (Nat.le_of_eq lY) lZ pY gZP
        by_cases h0 : S = 0
        · rw [g2, g3]
          have lb' : (yB l c (n + 1)).length ≤ 1 := by
            unfold yB
            rw [len_pSc' hc (can_PiL _), l1, h0]; exact Nat.le_refl _
          refine ⟨hBC, ⟨24, gk⟩, ⟨dv1, dv2⟩, z0, ?_⟩
          cases K with
          | zero => omega
          | succ K =>
            unfold SqOk
            rw [if_pos lb']; trivial
        · rw [if_neg h0] at y7
          have ih := sq_ok2 hl hc hb hp k (n + 1) _ K hk' (by omega) (by omega) (by rw [← g3]; exact exact_PB cY (can_PiL _) z0 lY lZ pY gZP) y7
          exact ⟨hBC, ⟨24, gk⟩, ⟨dv1, dv2⟩, z0, by rw [g2, g3]; exact ih⟩
theorem sf_ok2 {a : List Rat} {N S K T sb : Nat} (hC : sfC2 T sb N S = true) (ha : Can a) (hN : a.length = N + 1) (pa : PB a S) {c : Rat} {l : Fac} (hc : c ≠ 0) (hl : Good l) (e : ∀ x, ev a x = c * ev (PwL l) x) (hK : N + 1 ≤ K ∧ K ≤ 1000000) (hb : ∀ n, PB (yB l c n) sb) (hp : ∀ n, PB (PiL (l.filter fun y => y.2 == n)) T) (gG : PB (GL l) T) : SfOk K a := by
  simp only [sfC2, Bool.and_eq_true, decide_eq_true_eq] at hC
  obtain ⟨hN1, hN2, hT⟩ := hC
  have e1 : a = pSc c (PwL l) := ev_inj ha (can_pSc _ _) fun x => by rw [e x, ev_pSc]
  have hl1 : (PwL l).length = N + 1 := by rw [← hN, e1, len_pSc' hc (can_PwL l)]
  obtain ⟨⟨p1, p2⟩, p3⟩ := lead_PwL hl
  have hle : ∀ y ∈ l, y.2 ≤ N := fun y hy => by have := p3 y hy; omega
  have hw : wsm 1 (dsL l 1 N) = N := by
    rw [wsm_dgW N hl hle]
    have := len_PwL hl
    omega
  have hf := tyC_ok N 1 N (sfT2 T sb N S) (Nat.le_refl _) hT (dsL l 1 N) (dsL_len l N 1) hw
  have f1 : (l.filter fun y => decide (1 ≤ y.2)) = l := List.filter_eq_self.2 fun y hy => by have := (hl.mem y hy).2; simp; omega
  have lPi := len_PiL_sum hl N 1 (fun y hy => by have := hle y hy; omega)
  rw [f1] at lPi
  obtain ⟨g1, g0⟩ := lead_GL hl
  obtain ⟨_, q0, _⟩ := lead_PiL hl
  have f2 : (fun e : Nat => (e : Rat) - ((1 : Nat) : Rat) + 1) = fun e : Nat => (e : Rat) := funext fun e => by
    have : ((1 : Nat) : Rat) = 1 := rfl
    rw [this]; grind
  have eB : yB l c 1 = pSc c (PiL l) := by unfold yB; rw [f1]
  have eC : yC l c 1 = pSc c (WL (fun e => (e : Rat)) l) := by unfold yC; rw [f1, f2]
  obtain ⟨r1, r2, r3⟩ := gcd_out ha (can_pDiff a) (can_GL l) (can_pSc c (PiL l)) (can_pSc c (WL (fun e => (e : Rat)) l)) g0 g1 (fun x => by rw [e x, GL_Pi hl x, ev_pSc]; grind) (fun x => by
    rw [e1, ev_pDiff_sc, diff_PwL hl x, ev_pSc]; grind) (cop.sc hc (cop.symm (cop.sc hc (cop.symm (cop_W hl fun y hy h => by
      have h1 := (hl.mem y hy).2
      have h3 : (y.2 : Rat) = ((0 : Nat) : Rat) := h
      have : y.2 = 0 := by exact_mod_cast h3
      omega)))))
  have lG : (GL l).length = N - (dsL l 1 N).sum + 1 := by
    have e2 : PwL l = pMul (GL l) (PiL l) := ev_inj (can_PwL _) (can_pMul _ _) fun x => by rw [GL_Pi hl x, ev_pMul]
    have h := len_pMul (can_GL l) (can_PiL l) g0 q0
    rw [← e2] at h
    have := List.length_pos_iff.2 g0
    have := List.length_pos_iff.2 q0
    omega
  have hsum : (dsL l 1 N).sum ≤ N := by have := PiL_len hl; omega
  generalize hds : dsL l 1 N = ds at *
  unfold sfT2 at hf
  simp only [Bool.and_eq_true, decide_eq_true_eq] at hf
  obtain ⟨⟨t0, t1⟩, t2⟩ := hf
  have cd := can_pDiff a
  have ld : (pDiff a).length = N := by rw [len_pDiff ha]; omega
  have pd := diff_PB pa (by omega)
  have hG : (pG a (pDiff a)).length = N - ds.sum + 1 := by
    rw [← len_pMonic (can_pG ha cd), ← lG, ← r1]; rfl
  obtain ⟨gk, _⟩ := gtC_ok 24 t1 ha cd hN ld pa pd hG
  by_cases h0 : N - ds.sum = 0
  · rw [if_pos h0] at t2
    simp only [Bool.and_eq_true] at t2
    obtain ⟨⟨t3, t4⟩, t5⟩ := t2
    have eG : GL l = [1] := by rw [← r1]; exact gcd_one_PB ha cd (by rw [hG, h0])
    have one1 : PB ([1] : List Rat) 1 := PB_cons qs_1 (PB_nil (Nat.le_refl _))
    have r2' := r2
    have r3' := r3
    rw [eG] at r2' r3'
    rw [pDiv_one ha] at r2'
    rw [pDiv_one cd] at r3'
    have h := sq_ok2 hl hc hb hp N 1 (S + 1) K (fun y hy => by have := hle y hy; omega) (by omega) (by rw [hds]; omega) (by rw [eC, ← r3']; exact pd) (by rw [hds]; exact t5)
    rw [eB, eC] at h
    refine ⟨hK.2, by omega, fun _ => ⟨pa.mono (by omega), ⟨24, gk⟩, ?_⟩⟩
    rw [r1, r2, r3, eG]
    exact ⟨⟨dvC_ok t3 ha can_one (Nat.le_of_eq hN) rfl pa one1, dvC_ok t4 cd can_one (Nat.le_of_eq ld) rfl pd one1⟩, by simp, h⟩
  · rw [if_neg h0] at t2
    simp only [Bool.and_eq_true] at t2
    obtain ⟨⟨t3, t4⟩, t5⟩ := t2
    have pC : PB (pSc c (WL (fun e => (e : Rat)) l)) (dvB' N (S + 1) (N - ds.sum + 1) T) := by rw [← r3]; exact exact_PB cd (can_GL l) g0 ld lG pd gG
    have h := sq_ok2 hl hc hb hp N 1 _ K (fun y hy => by have := hle y hy; omega) (by omega) (by rw [hds]; omega) (by rw [eC]; exact pC) (by rw [hds]; exact t5)
    rw [eB, eC] at h
    refine ⟨hK.2, by omega, fun _ => ⟨pa.mono (by omega), ⟨24, gk⟩, ?_⟩⟩
    rw [r1, r2, r3]
    exact ⟨⟨dvC_ok t3 ha (can_GL l) (Nat.le_of_eq hN) lG pa gG, dvC_ok t4 cd (can_GL l) (Nat.le_of_eq ld) lG pd gG⟩, g0, h⟩
#eval (List.range 8).map fun n => sfC2 6 23 (n+1) 16
end Go.Proofs.YthhpmapbhdebeaaGreat


/- Monic factors of integer polynomials. No program in sight. -/
namespace Go.Proofs.YthhpmapbhdebeaaGreat
set_option linter.unusedSimpArgs false
set_option linter.unusedVariables false

/-- A prime number. -/
def Prm (r : Nat) : Prop := 2 ≤ r ∧ ∀ x y : Int, (r : Int) ∣ x * y → (r : Int) ∣ x ∨ (r : Int) ∣ y
theorem least {Q : Nat → Prop} {n : Nat} (h : Q n) : ∃ m, Q m ∧ ∀ k, Q k → m ≤ k := by
  by_cases hn : ∃ m, m < n ∧ Q m
  · obtain ⟨m, h1, h2⟩ := hn
    exact least h2
  · exact ⟨n, h, fun k hk => Nat.le_of_not_lt fun hlt => hn ⟨k, hlt, hk⟩⟩
termination_by n
theorem nat_dvd {r : Nat} {x : Int} : (r : Int) ∣ x ↔ r ∣ x.natAbs := by
  rw [← Int.natAbs_dvd_natAbs, Int.natAbs_natCast]
theorem prm_dvd {n : Nat} (hn : 2 ≤ n) : ∃ r, Prm r ∧ r ∣ n := by
  obtain ⟨r, ⟨h1, h2⟩, h3⟩ := least (Q := fun r => 2 ≤ r ∧ r ∣ n) ⟨hn, Nat.dvd_refl n⟩
  refine ⟨r, ⟨h1, fun x y hxy => ?_⟩, h2⟩
  by_cases hx : (r : Int) ∣ x
  · exact .inl hx
  · refine .inr ?_
    have hx' : ¬ r ∣ x.natAbs := fun h => hx (nat_dvd.2 h)
    have hg : Nat.gcd r x.natAbs = 1 := by
      have g1 := Nat.gcd_dvd_left r x.natAbs
      have g2 := Nat.gcd_dvd_right r x.natAbs
      have g0 : 0 < Nat.gcd r x.natAbs := Nat.pos_of_dvd_of_pos g1 (by omega)
      by_cases e : Nat.gcd r x.natAbs = 1
      · exact e
      · have := h3 _ ⟨by omega, Nat.dvd_trans g1 h2⟩
        have hle := Nat.le_of_dvd (by omega) g1
        have e : Nat.gcd r x.natAbs = r := by omega
        rw [e] at g2
        exact absurd g2 hx'
    have h4 : r ∣ x.natAbs * y.natAbs := by rw [← Int.natAbs_mul]; exact nat_dvd.1 hxy
    exact nat_dvd.2 (Nat.Coprime.dvd_of_dvd_mul_left hg h4)
/-- An integer; an integer that n divides. -/
def IsI (x : Rat) : Prop := ∃ z : Int, x = (z : Rat)
def Dv (n : Nat) (x : Rat) : Prop := ∃ z : Int, x = ((n * z : Int) : Rat)
theorem IsI.add {x y : Rat} : IsI x → IsI y → IsI (x + y) := fun ⟨a, h⟩ ⟨b, g⟩ => ⟨a + b, by rw [h, g, Rat.intCast_add]⟩
theorem IsI.mul {x y : Rat} : IsI x → IsI y → IsI (x * y) := fun ⟨a, h⟩ ⟨b, g⟩ => ⟨a * b, by rw [h, g, Rat.intCast_mul]⟩
theorem IsI.sub {x y : Rat} : IsI x → IsI y → IsI (x - y) := fun ⟨a, h⟩ ⟨b, g⟩ => ⟨a - b, by rw [h, g, Rat.intCast_sub]⟩
theorem IsI.int (z : Int) : IsI (z : Rat) := ⟨z, rfl⟩
theorem Dv.sub {n : Nat} {x y : Rat} : Dv n x → Dv n y → Dv n (x - y) := fun ⟨a, h⟩ ⟨b, g⟩ => ⟨a - b, by rw [h, g, ← Rat.intCast_sub]; congr 1; rw [Int.mul_sub]⟩
theorem Dv.mul {n : Nat} {x y : Rat} : Dv n x → IsI y → Dv n (x * y) := fun ⟨a, h⟩ ⟨b, g⟩ => ⟨a * b, by rw [h, g, ← Rat.intCast_mul]; congr 1; rw [Int.mul_assoc]⟩
theorem intCast_inj {a b : Int} (h : (a : Rat) = (b : Rat)) : a = b := by exact_mod_cast h
theorem Prm.dv {r : Nat} (hr : Prm r) {x y : Rat} (hx : IsI x) (hy : IsI y) (h : Dv r (x * y)) : Dv r x ∨ Dv r y := by
  obtain ⟨a, rfl⟩ := hx
  obtain ⟨b, rfl⟩ := hy
  obtain ⟨z, h⟩ := h
  rw [← Rat.intCast_mul] at h
  rcases hr.2 a b ⟨z, intCast_inj h⟩ with ⟨w, e⟩ | ⟨w, e⟩
  · exact .inl ⟨w, by rw [e]⟩
  · exact .inr ⟨w, by rw [e]⟩
theorem cf_mulL_z (c : Rat) (a b : List Rat) : cf (mulL (c :: a) b) 0 = c * cf b 0 := by
  unfold mulL
  rw [cf_addL, cf_scL, cf_zero]; grind
theorem cf_mulL_s (c : Rat) (a b : List Rat) (k : Nat) : cf (mulL (c :: a) b) (k + 1) = c * cf b (k + 1) + cf (mulL a b) k := by
  rw [mulL, cf_addL, cf_scL, cf_succ]
theorem cf_mulL_comm (a b : List Rat) (k : Nat) : cf (mulL a b) k = cf (mulL b a) k := cf_of_ev (fun x => by rw [ev_mulL, ev_mulL]; grind) k
/-- If the first coefficient is not divisible, the other factor is. -/
theorem prm_head {r : Nat} (hr : Prm r) {c : Rat} {a : List Rat} (ha : ∀ i, IsI (cf (c :: a) i)) (hc : ¬ Dv r c) : ∀ (b : List Rat), (∀ i, IsI (cf b i)) → (∀ k, Dv r (cf (mulL (c :: a) b) k)) → ∀ i, Dv r (cf b i)
  | [], _, _, i => ⟨0, by rw [cf_nil, Int.mul_zero]; rfl⟩
  | d :: b, hb, h, i => by
    have h0 : Dv r d := by
      have h1 := h 0
      rw [cf_mulL_z] at h1
      exact (hr.dv (ha 0) (hb 0) h1).resolve_left hc
    cases i with
    | zero => exact h0
    | succ i =>
      refine prm_head hr ha hc b (fun i => hb (i + 1)) (fun k => ?_) i
      have h1 := h (k + 1)
      rw [cf_mulL_comm, cf_mulL_s, cf_mulL_comm b] at h1
      have h2 := h1.sub (h0.mul (ha (k + 1)))
      rwa [show d * cf (c :: a) (k + 1) + cf (mulL (c :: a) b) k - d * cf (c :: a) (k + 1) = cf (mulL (c :: a) b) k from by grind] at h2
theorem prm_mul {r : Nat} (hr : Prm r) {b : List Rat} (hb : ∀ i, IsI (cf b i)) : ∀ (a : List Rat), (∀ i, IsI (cf a i)) → (∀ k, Dv r (cf (mulL a b) k)) → (∀ i, Dv r (cf a i)) ∨ ∀ i, Dv r (cf b i)
  | [], _, _ => .inl fun i => ⟨0, by rw [cf_nil, Int.mul_zero]; rfl⟩
  | c :: a, ha, h => by
    by_cases hc : Dv r c
    · rcases prm_mul hr hb a (fun i => ha (i + 1)) (fun k => by
        have h1 := (h (k + 1)).sub (hc.mul (hb (k + 1)))
        rw [cf_mulL_s] at h1
        rwa [show c * cf b (k + 1) + cf (mulL a b) k - c * cf b (k + 1) = cf (mulL a b) k from by grind] at h1) with h1 | h1
      · refine .inl fun i => ?_
        cases i with
        | zero => exact hc
        | succ i => exact h1 i
      · exact .inr h1
    · exact .inr (prm_head hr ha hc b hb h)
/-- What divides all coefficients of a multiple of a primitive polynomial divides the multiple. -/
theorem prim_cont {c : Nat → Rat} (hc : ∀ r, Prm r → ∃ k, ¬ Dv r (c k)) (hI : ∀ k, IsI (c k)) (n : Nat) (L : Int) (hn : 1 ≤ n) (h : ∀ k, Dv n ((L : Rat) * c k)) : (n : Int) ∣ L := by
  by_cases h1 : n = 1
  · subst h1; exact Int.one_dvd L
  · obtain ⟨r, hr, n', e⟩ := prm_dvd (show 2 ≤ n by omega)
    have hn' : 1 ≤ n' := by
      rcases Nat.eq_zero_or_pos n' with h0 | h0
      · rw [h0, Nat.mul_zero] at e; omega
      · exact h0
    have hr2 := hr.1
    have hlt : n' < n := by rw [e]; exact Nat.lt_of_lt_of_le (by omega) (Nat.mul_le_mul_right n' hr2)
    obtain ⟨k0, hk0⟩ := hc r hr
    have hL : Dv r (L : Rat) := by
      obtain ⟨z, hz⟩ := h k0
      refine (hr.dv (IsI.int L) (hI k0) ⟨n' * z, ?_⟩).resolve_right hk0
      rw [hz, e]; congr 1; push_cast; rw [Int.mul_assoc]
    obtain ⟨L', hL'⟩ := hL
    have hL' := intCast_inj hL'
    have ih := prim_cont hc hI n' L' hn' fun k => by
      obtain ⟨z, hz⟩ := h k
      refine ⟨z, ?_⟩
      have hr0 : ((r : Int) : Rat) ≠ 0 := fun h0 => by
        have : (r : Int) = 0 := intCast_inj h0
        omega
      rw [hL', e] at hz
      have hz2 : ((r : Int) : Rat) * ((L' : Rat) * c k) = ((r : Int) : Rat) * ((n' * z : Int) : Rat) := by
        rw [← Rat.intCast_mul, ← Rat.mul_assoc, ← Rat.intCast_mul, hz]; congr 1; push_cast; rw [Int.mul_assoc]
      have := congrArg (fun t => ((r : Int) : Rat)⁻¹ * t) hz2
      simp only [← Rat.mul_assoc, Rat.inv_mul_cancel _ hr0, Rat.one_mul] at this
      exact this
    obtain ⟨w, hw⟩ := ih
    exact ⟨w, by rw [hL', hw, e]; push_cast; rw [Int.mul_assoc]⟩
termination_by n
/-- Integer values and bounds. -/
def iP (d : Nat) (p : List Rat) : Prop := ∀ i, IsI ((d : Rat) * cf p i)
theorem IsI.den (x : Rat) : IsI ((x.den : Rat) * x) := ⟨x.num, by
  have h0 : (x.den : Rat) ≠ 0 := fun h => x.den_nz (by exact_mod_cast h)
  have h1 : x = (x.num : Rat) / (x.den : Rat) := by
    have := Rat.divInt_eq_div x.num (x.den : Int)
    rw [Rat.num_divInt_den] at this
    exact this
  have h2 : (x.den : Rat) * ((x.num : Rat) / (x.den : Rat)) = (x.num : Rat) := by
    rw [Rat.div_def, Rat.mul_comm, Rat.mul_assoc, Rat.inv_mul_cancel _ h0, Rat.mul_one]
  rw [← h1] at h2
  exact h2⟩
theorem iP_ex : ∀ p : List Rat, ∃ d, 1 ≤ d ∧ iP d p
  | [] => ⟨1, Nat.le_refl _, fun i => ⟨0, by rw [cf_nil, Rat.mul_zero]; rfl⟩⟩
  | c :: p => by
    obtain ⟨d, h1, h2⟩ := iP_ex p
    have hc := c.den_pos
    refine ⟨c.den * d, Nat.mul_pos hc h1, fun i => ?_⟩
    rw [Rat.natCast_mul]
    cases i with
    | zero =>
      have := (IsI.den c).mul (IsI.int (d : Int))
      rw [cf_zero]
      rwa [show (c.den : Rat) * c * ((d : Int) : Rat) = (c.den : Rat) * (d : Rat) * c from by
        rw [show ((d : Int) : Rat) = (d : Rat) from rfl]; grind] at this
    | succ i =>
      have := (IsI.int (c.den : Int)).mul (h2 i)
      rw [cf_succ]
      rwa [show ((c.den : Int) : Rat) * ((d : Rat) * cf p i) = (c.den : Rat) * (d : Rat) * cf p i from by
        rw [show ((c.den : Int) : Rat) = (c.den : Rat) from rfl]; grind] at this
theorem scI (d : Nat) (p : List Rat) (i : Nat) : cf (scL (d : Rat) p) i = (d : Rat) * cf p i := cf_scL _ _ _
theorem natR_ne {r : Nat} (h : 1 ≤ r) : (r : Rat) ≠ 0 := fun h0 => by
  have : ((r : Int) : Rat) = ((0 : Int) : Rat) := h0
  have := intCast_inj this
  omega
/-- The least multiple of a monic polynomial is primitive. -/
theorem iP_prim {p : List Rat} (h1 : lead p = 1) {d : Nat} (hd : 1 ≤ d) (hm : ∀ k, 1 ≤ k ∧ iP k p → d ≤ k) : ∀ r, Prm r → ∃ i, ¬ Dv r ((d : Rat) * cf p i) := by
  intro r hr
  have hr2 := hr.1
  by_cases hall : ∀ i, Dv r ((d : Rat) * cf p i)
  · exfalso
    obtain ⟨z, hz⟩ := hall (p.length - 1)
    have e : (d : Rat) * cf p (p.length - 1) = ((d : Int) : Rat) := by
      rw [show cf p (p.length - 1) = 1 from h1, Rat.mul_one]; rfl
    rw [e] at hz
    have hz := intCast_inj hz
    obtain ⟨d', hd'⟩ : ∃ d' : Nat, d = r * d' := by
      have : (r : Int) ∣ (d : Int) := ⟨z, hz⟩
      exact Int.natCast_dvd_natCast.1 this
    have hd0 : 1 ≤ d' := by
      rcases Nat.eq_zero_or_pos d' with h0 | h0
      · rw [h0, Nat.mul_zero] at hd'; omega
      · exact h0
    have hle := hm d' ⟨hd0, fun i => by
      obtain ⟨w, hw⟩ := hall i
      refine ⟨w, ?_⟩
      have hr0 := natR_ne (r := r) (by omega)
      have h2 : (r : Rat) * ((d' : Rat) * cf p i) = (r : Rat) * (w : Rat) := by
        rw [← Rat.mul_assoc, ← Rat.natCast_mul, ← hd', hw, Rat.intCast_mul]; rfl
      have := congrArg (fun t => (r : Rat)⁻¹ * t) h2
      simp only [← Rat.mul_assoc, Rat.inv_mul_cancel _ hr0, Rat.one_mul] at this
      exact this⟩
    have : 2 * d' ≤ r * d' := Nat.mul_le_mul_right d' hr2
    omega
  · exact Classical.not_forall.1 hall
/-- Gauss: factors of an integer polynomial. -/
theorem gauss {A p q : List Rat} {L : Int} (hA : ∀ i, IsI (cf A i)) (hp : lead p = 1) (hq : lead q = 1) (e : ∀ x, ev A x = (L : Rat) * (ev p x * ev q x)) : ∃ d f : Nat, (1 ≤ d ∧ 1 ≤ f) ∧ iP d p ∧ iP f q ∧ ((d * f : Nat) : Int) ∣ L := by
  obtain ⟨d, ⟨d1, d2⟩, d3⟩ := least (Q := fun d => 1 ≤ d ∧ iP d p) (iP_ex p).choose_spec
  obtain ⟨f, ⟨f1, f2⟩, f3⟩ := least (Q := fun d => 1 ≤ d ∧ iP d q) (iP_ex q).choose_spec
  refine ⟨d, f, ⟨d1, f1⟩, d2, f2, ?_⟩
  have pI : ∀ i, IsI (cf (scL (d : Rat) p) i) := fun i => by rw [scI]; exact d2 i
  have qI : ∀ i, IsI (cf (scL (f : Rat) q) i) := fun i => by rw [scI]; exact f2 i
  have cI : ∀ (a b : List Rat), (∀ i, IsI (cf a i)) → (∀ i, IsI (cf b i)) → ∀ k, IsI (cf (mulL a b) k) := fun a => by
    induction a with
    | nil => intro b _ _ k; exact ⟨0, rfl⟩
    | cons c a ih =>
      intro b ha hb k
      cases k with
      | zero => rw [cf_mulL_z]; exact (ha 0).mul (hb 0)
      | succ k => rw [cf_mulL_s]; exact ((ha 0).mul (hb (k + 1))).add (ih b (fun i => ha (i + 1)) hb k)
  refine prim_cont (c := fun k => cf (mulL (scL (d : Rat) p) (scL (f : Rat) q)) k) (fun r hr => ?_) (cI _ _ pI qI) (d * f) L (Nat.mul_pos d1 f1) fun k => ?_
  · by_cases hall : ∀ k, Dv r (cf (mulL (scL (d : Rat) p) (scL (f : Rat) q)) k)
    · exfalso
      rcases prm_mul hr qI _ pI hall with h | h
      · obtain ⟨i, hi⟩ := iP_prim hp d1 d3 r hr
        exact hi (by rw [← scI]; exact h i)
      · obtain ⟨i, hi⟩ := iP_prim hq f1 f3 r hr
        exact hi (by rw [← scI]; exact h i)
    · exact Classical.not_forall.1 hall
  · have e1 : cf (scL (L : Rat) (mulL (scL (d : Rat) p) (scL (f : Rat) q))) k = cf (scL ((d * f : Nat) : Rat) A) k := cf_of_ev (fun x => by
      rw [ev_scL, ev_mulL, ev_scL, ev_scL, ev_scL, e x, Rat.natCast_mul]; grind) k
    rw [cf_scL, cf_scL] at e1
    obtain ⟨z, hz⟩ := hA k
    exact ⟨z, by rw [e1, hz, Rat.intCast_mul]; rfl⟩
/-- Bounds. -/
def Bd (M : Nat) (x : Rat) : Prop := -(M : Rat) ≤ x ∧ x ≤ (M : Rat)
theorem natR_le {m n : Nat} (h : m ≤ n) : (m : Rat) ≤ (n : Rat) := by exact_mod_cast h
theorem natR_add (m n : Nat) : ((m + n : Nat) : Rat) = (m : Rat) + (n : Rat) := by exact_mod_cast rfl
theorem natR_mul (m n : Nat) : ((m * n : Nat) : Rat) = (m : Rat) * (n : Rat) := by exact_mod_cast rfl
theorem natR_nn (m : Nat) : (0 : Rat) ≤ (m : Rat) := by exact_mod_cast Nat.zero_le m
theorem Bd.mono {M N : Nat} {x : Rat} (h : Bd M x) (hn : M ≤ N) : Bd N x := by
  have := natR_le hn
  exact ⟨by have := h.1; grind, by have := h.2; grind⟩
theorem Bd.add {M N : Nat} {x y : Rat} (h : Bd M x) (g : Bd N y) : Bd (M + N) (x + y) := by
  obtain ⟨h1, h2⟩ := h
  obtain ⟨g1, g2⟩ := g
  unfold Bd
  rw [natR_add]
  exact ⟨by grind, by grind⟩
theorem Bd.neg {M : Nat} {x : Rat} (h : Bd M x) : Bd M (-x) := by
  obtain ⟨h1, h2⟩ := h
  exact ⟨by grind, by grind⟩
theorem Bd.sub {M N : Nat} {x y : Rat} (h : Bd M x) (g : Bd N y) : Bd (M + N) (x - y) := by
  rw [show x - y = x + -y from by grind]
  exact h.add g.neg
theorem Bd.natMul {M : Nat} {x : Rat} (h : Bd M x) {k n : Nat} (hk : k ≤ n) : Bd (n * M) ((k : Rat) * x) := by
  obtain ⟨h1, h2⟩ := h
  have k0 := natR_nn k
  have kn := natR_le hk
  have m0 := natR_nn M
  have a1 : (k : Rat) * x ≤ (k : Rat) * (M : Rat) := Rat.mul_le_mul_of_nonneg_left h2 k0
  have a2 : (k : Rat) * -(M : Rat) ≤ (k : Rat) * x := Rat.mul_le_mul_of_nonneg_left h1 k0
  have a3 : (k : Rat) * (M : Rat) ≤ (n : Rat) * (M : Rat) := Rat.mul_le_mul_of_nonneg_right kn m0
  unfold Bd
  rw [natR_mul]
  exact ⟨by grind, by grind⟩
/-- Division by x - k. -/
def sdv (k : Rat) : List Rat → List Rat
  | [] => []
  | _ :: l => addL l (scL k (sdv k l))
theorem sdv_len (k : Rat) : ∀ l : List Rat, (sdv k l).length = l.length - 1
  | [] => rfl
  | c :: l => by
    rw [sdv, len_addL, len_scL, sdv_len k l, List.length_cons]
    omega
theorem sdv_ev (k : Rat) (x : Rat) : ∀ l : List Rat, ev l x = ev l k + (x - k) * ev (sdv k l) x
  | [] => by show (0 : Rat) = 0 + (x - k) * 0; grind
  | c :: l => by
    have ih := sdv_ev k x l
    rw [sdv, ev_addL, ev_scL]
    show c + x * ev l x = c + k * ev l k + _
    grind
theorem sdv_cf (k : Rat) (l : List Rat) (i : Nat) : cf l i = (if i = 0 then ev l k else cf (sdv k l) (i - 1)) - k * cf (sdv k l) i := by
  have h := cf_of_ev (a := l) (b := addL [ev l k] (mulL [-k, 1] (sdv k l))) (fun x => by
    rw [ev_addL, ev_mulL, sdv_ev k x l]
    simp only [ev]; grind) i
  rw [h, cf_addL]
  cases i with
  | zero => rw [cf_mulL_z, if_pos rfl, cf_zero]; grind
  | succ i =>
    rw [cf_mulL_s, if_neg (by omega), cf_succ, cf_nil, Nat.add_sub_cancel]
    have : cf (mulL [1] (sdv k l)) i = cf (sdv k l) i := cf_of_ev (fun x => by rw [ev_mulL]; simp only [ev]; grind) i
    rw [this]; grind
/-- Roots: fewer than coefficients. -/
theorem roots_lt : ∀ (ks : List Nat) (A : List Rat), ks.Nodup → (∃ i, cf A i ≠ 0) → (∀ k ∈ ks, ev A (k : Rat) = 0) → ks.length < A.length
  | [], A, _, ⟨i, hi⟩, _ => by
    rcases Nat.eq_zero_or_pos A.length with h | h
    · exact absurd (cf_ge (by omega)) hi
    · exact h
  | k :: ks, A, hn, ⟨i, hi⟩, hr => by
    rw [List.nodup_cons] at hn
    have h0 := hr k (by simp)
    have ih := roots_lt ks (sdv (k : Rat) A) hn.2 (by
      by_cases h : ∃ i, cf (sdv (k : Rat) A) i ≠ 0
      · exact h
      · exfalso
        have hz : ∀ i, cf (sdv (k : Rat) A) i = 0 := fun i => Classical.byContradiction fun e => h ⟨i, e⟩
        have h2 := sdv_cf (k : Rat) A i
        rw [hz, hz, h0] at h2
        exact hi (by rw [h2]; split <;> grind)) fun j hj => by
      have h2 := sdv_ev (k : Rat) (j : Rat) A
      rw [hr j (by simp [hj]), h0] at h2
      have hne : (j : Rat) - (k : Rat) ≠ 0 := fun e => by
        have e : ((j : Nat) : Rat) = ((k : Nat) : Rat) := by grind
        have : j = k := by exact_mod_cast e
        rw [this] at hj
        exact hn.1 hj
      have h3 : ((j : Rat) - (k : Rat)) * ev (sdv (k : Rat) A) (j : Rat) = 0 := by grind
      rcases Rat.mul_eq_zero.1 h3 with h4 | h4
      · exact absurd h4 hne
      · exact h4
    rw [sdv_len] at ih
    rw [List.length_cons]
    omega
/-- Coefficients from values at small places. -/
def ipB : Nat → Nat → Nat
  | 0, _ => 0
  | n + 1, V => V + 17 * ipB n (2 * V)
theorem interp : ∀ (n V : Nat) (P : List Rat) (ks : List Nat), P.length ≤ n → n ≤ ks.length → ks.Nodup → (∀ k ∈ ks, k ≤ 16) → (∀ k ∈ ks, Bd V (ev P (k : Rat))) → ∀ i, Bd (ipB n V) (cf P i)
  | 0, V, P, ks, hP, _, _, _, _, i => by
    rw [cf_ge (by omega)]
    show -((0 : Nat) : Rat) ≤ 0 ∧ (0 : Rat) ≤ ((0 : Nat) : Rat)
    decide
  | n + 1, V, P, [], _, hk, _, _, _, i => by simp at hk
  | n + 1, V, P, k :: ks, hP, hk, hn, hb, hv, i => by
    rw [List.nodup_cons] at hn
    have hk16 := hb k (by simp)
    have ih := interp n (2 * V) (sdv (k : Rat) P) ks (by rw [sdv_len]; omega) (by simpa using hk) hn.2 (fun j hj => hb j (by simp [hj])) fun j hj => by
      have h1 := (hv j (by simp [hj])).sub (hv k (by simp))
      have h2 := sdv_ev (k : Rat) (j : Rat) P
      have h3 : ev P (j : Rat) - ev P (k : Rat) = ((j : Rat) - (k : Rat)) * ev (sdv (k : Rat) P) (j : Rat) := by grind
      rw [h3] at h1
      have hne : j ≠ k := fun e => by rw [e] at hj; exact hn.1 hj
      generalize ev (sdv (k : Rat) P) (j : Rat) = y at h1
      have e2 : V + V = 2 * V := by omega
      rw [e2] at h1
      have step : ∀ (a b : Nat), b < a → ∀ y : Rat, Bd (2 * V) (((a : Rat) - (b : Rat)) * y) → Bd (2 * V) y := fun a b hab y hy => by
        obtain ⟨c, rfl⟩ : ∃ c, a = b + 1 + c := ⟨a - (b + 1), by omega⟩
        have ec : ((b + 1 + c : Nat) : Rat) - (b : Rat) = 1 + (c : Rat) := by rw [natR_add, natR_add]; grind
        rw [ec] at hy
        obtain ⟨y1, y2⟩ := hy
        have c0 := natR_nn c
        generalize (c : Rat) = c at *
        unfold Bd
        generalize ((2 * V : Nat) : Rat) = W at *
        by_cases h0 : 0 ≤ y
        · have := Rat.mul_nonneg c0 h0
          exact ⟨by grind, by grind⟩
        · have h0 : 0 ≤ -y := by grind
          have := Rat.mul_nonneg c0 h0
          exact ⟨by grind, by grind⟩
      by_cases hlt : k < j
      · exact step j k hlt y h1
      · have h4 := h1.neg
        rw [show -(((j : Rat) - (k : Rat)) * y) = ((k : Rat) - (j : Rat)) * y from by grind] at h4
        exact step k j (by omega) y h4
    rw [sdv_cf (k : Rat) P i, ipB]
    have h5 : Bd (V + ipB n (2 * V)) (if i = 0 then ev P (k : Rat) else cf (sdv (k : Rat) P) (i - 1)) := by
      split
      · exact (hv k (by simp)).mono (by omega)
      · exact (ih _).mono (by omega)
    have h6 := (ih i).natMul hk16
    exact (h5.sub h6).mono (by omega)
/-- Values of a bounded polynomial at small places. -/
def vlB (H : Nat) : Nat → Nat
  | 0 => 0
  | n + 1 => H + 16 * vlB H n
theorem val_Bd {H : Nat} {k : Nat} (hk : k ≤ 16) : ∀ (n : Nat) (A : List Rat), A.length ≤ n → (∀ i, Bd H (cf A i)) → Bd (vlB H n) (ev A (k : Rat))
  | n, [], _, _ => by
    have : Bd 0 (0 : Rat) := ⟨by decide, by decide⟩
    exact this.mono (Nat.zero_le _)
  | 0, _ :: A, h, _ => by simp at h
  | n + 1, _ :: A, h, hb => by
    have ih := (val_Bd hk n A (by simpa using h) fun i => hb (i + 1)).natMul hk
    exact (hb 0).add ih
theorem IsI.nat (k : Nat) : IsI (k : Rat) := ⟨(k : Int), rfl⟩
theorem IsI.ev (k : Nat) : ∀ A : List Rat, (∀ i, IsI (cf A i)) → IsI (ev A (k : Rat))
  | [], _ => ⟨0, rfl⟩
  | _ :: A, h => (h 0).add ((IsI.nat k).mul (IsI.ev k A fun i => h (i + 1)))
/-- An integer polynomial with bounded coefficients. -/
def IB (H : Nat) (A : List Rat) : Prop := ∀ i, IsI (cf A i) ∧ Bd H (cf A i)
theorem Bd_int {M : Nat} {z : Int} : Bd M (z : Rat) ↔ z.natAbs ≤ M := by
  unfold Bd
  constructor
  · rintro ⟨h1, h2⟩
    have h1 : ((-(M : Int) : Int) : Rat) ≤ (z : Rat) := by rw [Rat.intCast_neg]; exact h1
    have h2 : (z : Rat) ≤ ((M : Int) : Rat) := h2
    have h1 := Rat.intCast_le_intCast.1 h1
    have h2 := Rat.intCast_le_intCast.1 h2
    omega
  · intro h
    have h1 : ((-(M : Int) : Int) : Rat) ≤ (z : Rat) := Rat.intCast_le_intCast.2 (by omega)
    have h2 : (z : Rat) ≤ ((M : Int) : Rat) := Rat.intCast_le_intCast.2 (by omega)
    rw [Rat.intCast_neg] at h1
    exact ⟨h1, h2⟩
/-- The coefficients of a monic factor. -/
theorem fac_bd {H : Nat} {A p : List Rat} {L : Int} (cA : Can A) (hA : IB H A) (lA : A.length ≤ 9) (hL : L ≠ 0) (hp : Can p) (p1 : lead p = 1) {q : List Rat} (hq : Can q) (q1 : lead q = 1) (e : ∀ x, ev A x = (L : Rat) * (ev p x * ev q x)) :
    ∃ d : Nat, 1 ≤ d ∧ d ≤ H ∧ ∀ i, ∃ z : Int, (d : Rat) * cf p i = (z : Rat) ∧ z.natAbs ≤ ipB 9 (vlB H 9) := by
  obtain ⟨d, f, ⟨d1, f1⟩, hd, hf, hdf⟩ := gauss (fun i => (hA i).1) p1 q1 e
  have p0 : p ≠ [] := fun h => by rw [h] at p1; exact absurd p1 (by decide)
  have q0 : q ≠ [] := fun h => by rw [h] at q1; exact absurd q1 (by decide)
  have eA : A = pSc (L : Rat) (pMul p q) := ev_inj cA (can_pSc _ _) fun x => by rw [e x, ev_pSc, ev_pMul]
  have hLr : (L : Rat) ≠ 0 := fun h => hL (intCast_inj h)
  have lpq := len_pMul hp hq p0 q0
  have lAe : A.length = p.length + q.length - 1 := by rw [eA, len_pSc' hLr (can_pMul p q), lpq]
  have hq0 := List.length_pos_iff.2 q0
  have hp0 := List.length_pos_iff.2 p0
  have leA : cf A (A.length - 1) = (L : Rat) := by
    have h1 : lead A = (L : Rat) := by
      rw [eA, lead_pSc hLr (can_pMul p q), lead_pMul hp hq p0 q0, p1, q1]; grind
    exact h1
  have hLH : L.natAbs ≤ H := by
    have := (hA (A.length - 1)).2
    rw [leA] at this
    exact Bd_int.1 this
  have hdL : d * f ≤ L.natAbs := Nat.le_of_dvd (by omega) (nat_dvd.1 hdf)
  have hdH : d ≤ H := by
    have : d * 1 ≤ d * f := Nat.mul_le_mul_left d f1
    omega
  refine ⟨d, d1, hdH, fun i => ?_⟩
  obtain ⟨z, hz⟩ := hd i
  refine ⟨z, hz, ?_⟩
  rw [← Bd_int, ← hz, ← scI]
  have hAne : ∃ i, cf A i ≠ 0 := ⟨A.length - 1, by rw [leA]; exact hLr⟩
  obtain ⟨ks, eks⟩ : ∃ ks, (List.range 17).filter (fun k : Nat => decide (ev A (k : Rat) = 0)) = ks := ⟨_, rfl⟩
  obtain ⟨ns, ens⟩ : ∃ ns, (List.range 17).filter (fun k : Nat => !decide (ev A (k : Rat) = 0)) = ns := ⟨_, rfl⟩
  have hlen : ks.length + ns.length = 17 := by
    rw [← eks, ← ens]
    have : ∀ (l : List Nat) (P : Nat → Bool), (l.filter P).length + (l.filter fun k => !P k).length = l.length := fun l P => by
      induction l with
      | nil => rfl
      | cons a l ih =>
        by_cases hPa : P a = true
        · simp only [List.filter_cons, hPa, if_true, Bool.not_true, Bool.false_eq_true, if_false, List.length_cons]; omega
        · have hPa : P a = false := by simpa using hPa
          simp only [List.filter_cons, hPa, Bool.not_false, if_true, Bool.false_eq_true, if_false, List.length_cons]; omega
    have h := this (List.range 17) fun k : Nat => decide (ev A (k : Rat) = 0)
    rw [List.length_range] at h
    exact h
  have hr := roots_lt ks A (by rw [← eks]; exact List.Nodup.sublist List.filter_sublist List.nodup_range) hAne fun k hk => by
    rw [← eks, List.mem_filter] at hk
    exact of_decide_eq_true hk.2
  refine interp 9 (vlB H 9) _ ns (by rw [len_scL]; omega) (by omega) (by rw [← ens]; exact List.Nodup.sublist List.filter_sublist List.nodup_range) (fun k hk => by
    rw [← ens, List.mem_filter, List.mem_range] at hk
    omega) (fun k hk => ?_) i
  rw [← ens, List.mem_filter, List.mem_range] at hk
  have hk16 : k ≤ 16 := by omega
  have hne : ev A (k : Rat) ≠ 0 := fun h => by simp [h] at hk
  have vA := val_Bd hk16 9 A lA fun i => (hA i).2
  obtain ⟨a, ha⟩ := IsI.ev k A fun i => (hA i).1
  obtain ⟨u, hu⟩ := IsI.ev k (scL (d : Rat) p) fun i => by rw [scI]; exact hd i
  obtain ⟨v, hv⟩ := IsI.ev k (scL (f : Rat) q) fun i => by rw [scI]; exact hf i
  obtain ⟨m, hm⟩ := hdf
  rw [hu]
  rw [ha] at vA hne
  have ha0 : a ≠ 0 := fun h => hne (by rw [h]; rfl)
  have hprod : a = m * (u * v) := by
    refine intCast_inj ?_
    rw [Rat.intCast_mul, Rat.intCast_mul, ← ha, ← hu, ← hv, e, hm, Rat.intCast_mul, ev_scL, ev_scL]
    rw [show (((d * f : Nat) : Int) : Rat) = (d : Rat) * (f : Rat) from natR_mul d f]
    grind
  rw [Bd_int] at vA ⊢
  have hdv : u.natAbs ∣ a.natAbs := by
    rw [hprod, Int.natAbs_mul, Int.natAbs_mul]
    exact Nat.dvd_mul_left_of_dvd (Nat.dvd_mul_right _ _) _
  exact Nat.le_trans (Nat.le_of_dvd (by omega) hdv) vA
end Go.Proofs.YthhpmapbhdebeaaGreat

