/- Texts CH2 CH3 in one. -/
import Derived.Test.YtfbogelmgdojgaaGreatR31
import Derived.Test.YtfbogelmgdojgaaGreatR29
/- The characteristic polynomial: traces of powers. No program in sight. -/
namespace Go.Proofs.YtfbogelmgdojgaaGreat
set_option linter.unusedSimpArgs false
set_option linter.unusedVariables false

theorem det_sc (c : Rat) : ∀ (n : Nat) (M : Mat), det n (fun i j => c * M i j) = c ^ n * det n M
 | 0, M => by rw [Rat.pow_zero]; show (1 : Rat) = 1 * 1; grind
 | n + 1, M => by
   rw [det, det, ← sm_mul]
   refine sm_congr fun k _ => ?_
   have : minor (fun i j => c * M i j) k = fun i j => c * minor M k i j := rfl
   rw [this, det_sc c n, Rat.pow_succ]
   grind
theorem ev_taylor : ∀ (P : List Rat) (t : Rat), ∃ R : List Rat, ∀ h, ev P (t + h) = ev P t + h * ev (dL P) t + h * h * ev R h
 | [], t => ⟨[], fun h => by show (0 : Rat) = 0 + h * 0 + h * h * 0; grind⟩
 | c :: P, t => by
   obtain ⟨R, hR⟩ := ev_taylor P t
   refine ⟨addL (addL [ev (dL P) t] (scL t R)) (0 :: R), fun h => ?_⟩
   have e1 : ev (dL (c :: P)) t = ev P t + t * ev (dL P) t := by
    rw [ev_dL_cons]
   simp only [ev_addL, ev_scL, ev]
   rw [hR h, e1]
   grind
theorem ev_comp_sc (d : Rat) : ∀ R : List Rat, ∃ S : List Rat, ∀ h, ev R (h * d) = ev S h
 | [] => ⟨[], fun _ => rfl⟩
 | c :: R => by
   obtain ⟨S, hS⟩ := ev_comp_sc d R
   refine ⟨c :: scL d S, fun h => ?_⟩
   simp only [ev, ev_scL]
   rw [hS h]; grind
theorem lin_uniq {c x y : Rat} {R S : List Rat} (h : ∀ h : Rat, c + h * x + h * h * ev R h = c + h * y + h * h * ev S h) : x = y := by
 have := cf_of_ev (a := c :: x :: R) (b := c :: y :: S) (fun t => by
  have := h t
  simp only [ev]
  grind) 1
 exact this
def TrM (q b : List Rat) : Rat := sm (q.length - 1) (fun j => MA q b j j)
theorem pMul_com (a b : List Rat) : pMul a b = pMul b a := ev_inj (can_pMul _ _) (can_pMul _ _) fun t => by rw [ev_pMul, ev_pMul]; grind
theorem MA_lin {q u : List Rat} (hq : Can q) (q0 : q ≠ []) {n : Nat} (hu : u.length ≤ n) (i d : Nat) : MA q u i d = sm n (fun k => cf u k * MA q (mon 1 k) i d) := by
 unfold MA
 rw [show xs i u = pMul u (mon 1 i) from pMul_com _ _, mod_comb hq q0 d n u hu]
 refine sm_congr fun k _ => ?_
 rw [xs_mon, xs_mon, Nat.add_comm]
theorem TrM_lin {q u : List Rat} (hq : Can q) (q0 : q ≠ []) {n : Nat} (hu : u.length ≤ n) : TrM q u = sm n (fun k => cf u k * TrM q (mon 1 k)) := by
 unfold TrM
 rw [sm_congr fun j _ => MA_lin hq q0 hu j j, sm_swap]
 exact sm_congr fun k _ => by rw [sm_mul]
theorem MA_mod {q u : List Rat} (hu : Can u) (hq : Can q) (q0 : q ≠ []) : MA q (pMod u q) = MA q u := by
 funext i j
 unfold MA
 rw [show pMod (xs i (pMod u q)) q = pMod (xs i u) q from mod_mul_r hu hq q0]
theorem TrM_mod {q u : List Rat} (hu : Can u) (hq : Can q) (q0 : q ≠ []) : TrM q (pMod u q) = TrM q u := by
 unfold TrM
 rw [MA_mod hu hq q0]
theorem MA_less {q a : List Rat} (t : Rat) (hq : Can q) (ha : Can a) (h2 : 2 ≤ q.length) {i j : Nat} (hi : i < q.length - 1) : MA q (pSub (tr [t]) a) i j = - MA q a i j + t * one i j := by
 have q0 : q ≠ [] := fun e => by rw [e] at h2; simp at h2
 unfold MA
 have e1 : xs i (pSub (tr [t]) a) = pAdd (pSc t (mon 1 i)) (pSc (-1) (xs i a)) := ev_inj (can_xs _ _) (can_pAdd _ _) fun x => by
  rw [ev_xs, ev_pSub, ev_pAdd, ev_pSc, ev_pSc, ev_xs, ev_tr, ev_mon]
  show _ * (t + x * 0 - _) = _
  grind
 rw [e1, mod_add (can_pSc _ _) (can_pSc _ _) hq q0, cf_pAdd, mod_sc _ (mon_can i (by decide)) hq q0, mod_sc _ (can_xs _ _) hq q0, cf_pSc, cf_pSc, (dm_small (mon_can i (by decide)) hq (by rw [mon_len]; omega)).2]
 have e2 : cf (mon 1 i) j = one i j := by
  unfold one
  by_cases e : i = j
  ·rw [if_pos e, e, mon_top]
  ·rw [if_neg e, mon_low _ _ _ (fun h => e h.symm)]
 rw [e2]; grind
theorem chi_norm {q a : List Rat} (t : Rat) (hq : Can q) (ha : Can a) (h2 : 2 ≤ q.length) : Nm q (pSub (tr [t]) a) = ev (chi q a) t := by
 rw [Nm_MA, chi_ev]
 exact (det_ML _).congr fun i hi j _ => by rw [MA_less t hq ha h2 hi]; rfl
def chT (q a : List Rat) (t : Rat) : List Rat := lsF (fun k => ev (chU q a k) t) (q.length - 1)
theorem chT_mul {q a : List Rat} (t : Rat) (hq : Can q) (h2 : 2 ≤ q.length) : pMod (pMul (chT q a t) a) q = pSub (pSc t (chT q a t)) (tr [ev (chi q a) t]) := by
 have q0 : q ≠ [] := fun e => by rw [e] at h2; simp at h2
 obtain ⟨⟨_, cr⟩, hr, _⟩ := dm_ok (can_pMul (chT q a t) a) hq q0
 refine can_ext cr (can_pSub _ _) fun j => ?_
 rw [cf_pSub, cf_const, cf_pSc]
 by_cases hj : j < q.length - 1
 ·have h := chU_sum a h2 t hj
  rw [MA_row hq q0 (u := chT q a t) (len_lsF _ _), sm_congr (g := fun k => ev (chU q a k) t * MA q a k j) fun k hk => by
   show cf (lsF _ _) k * _ = _
   rw [cf_lsF, if_pos hk]]
  have e1 : cf (chT q a t) j = ev (chU q a j) t := by
   show cf (lsF _ _) j = _
   rw [cf_lsF, if_pos hj]
  have e2 : sm (q.length - 1) (fun k => ev (chU q a k) t * (- MA q a k j + t * one k j)) = - sm (q.length - 1) (fun k => ev (chU q a k) t * MA q a k j) + t * ev (chU q a j) t := by
   rw [sm_congr (g := fun k => (-1) * (ev (chU q a k) t * MA q a k j) + t * (ev (chU q a k) t * one k j)) fun k _ => by grind, sm_add, sm_mul, sm_mul, sm_one_r _ hj]
   grind
  rw [e2] at h
  rw [e1, ← h]
  grind
 ·rw [cf_ge (by omega), if_neg (show ¬ j = 0 by omega)]
  have : cf (chT q a t) j = 0 := by
   show cf (lsF _ _) j = 0
   rw [cf_lsF, if_neg hj]
  rw [this]; grind
theorem Nm_res {q u v : List Rat} (hu : Can u) (hv : Can v) (hq : Can q) (q0 : q ≠ []) (h : pMod u q = pMod v q) : Nm q u = Nm q v := by
 rw [← Nm_mod hu hq q0, h, Nm_mod hv hq q0]
theorem MA_one {q : List Rat} (hq : Can q) (h2 : 2 ≤ q.length) {i : Nat} (j : Nat) (hi : i < q.length - 1) : MA q [1] i j = one i j := by
 unfold MA
 have e : xs i [1] = mon 1 i := xs_mon i 0
 rw [e, (dm_small (mon_can i (by decide)) hq (by rw [mon_len]; omega)).2]
 unfold one
 by_cases e : i = j
 ·rw [if_pos e, e, mon_top]
 ·rw [if_neg e, mon_low _ _ _ (fun h => e h.symm)]
theorem chi_der {q a : List Rat} {t : Rat} (hq : Can q) (ha : Can a) (h2 : 2 ≤ q.length) (h0 : ev (chi q a) t ≠ 0) : ev (dL (chi q a)) t = TrM q (chT q a t) := by
 have q0 : q ≠ [] := fun e => by rw [e] at h2; simp at h2
 obtain ⟨c, ec⟩ : ∃ c, ev (chi q a) t = c := ⟨_, rfl⟩
 have e1 : ∀ h, Nm q (chT q a t) * ev (chi q a) (t + h) = c ^ (q.length - 1) * det (q.length - 1) (lnM one (MA q (chT q a t)) (h * (1 / c))) := fun h => by
  rw [← chi_norm _ hq ha h2, ← Nm_mul hq (b := chT q a t) (can_lsF _ _) (can_pSub _ _) q0]
  rw [Nm_res (v := pAdd (tr [c]) (pSc h (chT q a t))) (can_pMul _ _) (can_pAdd _ _) hq q0 ?_]
  ·rw [Nm_MA, ← det_sc]
   refine (det_ML _).congr fun i hi j _ => ?_
   unfold MA
   have e1 : xs i (pAdd (tr [c]) (pSc h (chT q a t))) = pAdd (pSc c (mon 1 i)) (pSc h (xs i (chT q a t))) := ev_inj (can_xs _ _) (can_pAdd _ _) fun x => by
    rw [ev_xs, ev_pAdd, ev_pAdd, ev_pSc, ev_pSc, ev_pSc, ev_xs, ev_tr, ev_mon]
    show _ * (c + x * 0 + _) = _
    grind
   rw [e1, mod_add (can_pSc _ _) (can_pSc _ _) hq q0, cf_pAdd, mod_sc _ (mon_can i (by decide)) hq q0, mod_sc _ (can_xs _ _) hq q0, cf_pSc, cf_pSc, (dm_small (mon_can i (by decide)) hq (by rw [mon_len]; omega)).2]
   have e2 : cf (mon 1 i) j = one i j := by
    unfold one
    by_cases e : i = j
    ·rw [if_pos e, e, mon_top]
    ·rw [if_neg e, mon_low _ _ _ (fun h => e h.symm)]
   rw [e2]
   show _ = c * (one i j + h * (1 / c) * cf (pMod (xs i (chT q a t)) q) j)
   rw [ec] at h0
   grind
  ·have e1 : pMul (chT q a t) (pSub (tr [t + h]) a) = pAdd (pSc (t + h) (chT q a t)) (pSc (-1) (pMul (chT q a t) a)) := ev_inj (can_pMul _ _) (can_pAdd _ _) fun x => by
    rw [ev_pMul, ev_pSub, ev_pAdd, ev_pSc, ev_pSc, ev_pMul, ev_tr]
    show _ * (t + h + x * 0 - _) = _
    grind
   have lt : (chT q a t).length < q.length := by have := len_lsF (fun k => ev (chU q a k) t) (q.length - 1); unfold chT; omega
   have ct : Can (chT q a t) := can_lsF _ _
   have l1 := tr_len [c]
   have l2 := len_pSc h (chT q a t)
   have l3 := len_pAdd (tr [c]) (pSc h (chT q a t))
   simp only [List.length_cons, List.length_nil] at l1
   rw [e1, mod_add (can_pSc _ _) (can_pSc _ _) hq q0, mod_sc _ ct hq q0, mod_sc _ (can_pMul _ _) hq q0, chT_mul t hq h2, (dm_small ct hq lt).2]
   rw [(dm_small (can_pAdd _ _) hq (show (pAdd (tr [c]) (pSc h (chT q a t))).length < q.length by omega)).2]
   refine ev_inj (can_pAdd _ _) (can_pAdd _ _) fun x => ?_
   simp only [ev_pAdd, ev_pSc, ev_pSub, ev_tr, ec]
   grind
 obtain ⟨R, hR⟩ := det_near (q.length - 1) (MA q (chT q a t))
 obtain ⟨S, hS⟩ := ev_comp_sc (1 / c) R
 obtain ⟨Q, hQ⟩ := ev_taylor (chi q a) t
 rw [ec] at h0
 -- the norm of the adjoint element
 have n1 := e1 0
 rw [hR, show t + 0 = t from by grind, ec] at n1
 have n2 : Nm q (chT q a t) * c = c ^ (q.length - 1) := by grind
 have n3 : c ^ (q.length - 1) ≠ 0 := powq_ne h0 _
 have n4 : Nm q (chT q a t) ≠ 0 := fun e => n3 (by rw [← n2, e]; grind)
 refine lin_uniq (c := c) (R := Q) (S := scL (1 / c) S) fun h => ?_
 have n5 := e1 h
 rw [hR, hS, hQ, ec, ← n2] at n5
 have n6 : c + h * ev (dL (chi q a)) t + h * h * ev Q h = c * (1 + h * (1 / c) * sm (q.length - 1) (fun i => MA q (chT q a t) i i) + h * (1 / c) * (h * (1 / c)) * ev S h) := by
  have : Nm q (chT q a t) * (c + h * ev (dL (chi q a)) t + h * h * ev Q h) = Nm q (chT q a t) * (c * (1 + h * (1 / c) * sm (q.length - 1) (fun i => MA q (chT q a t) i i) + h * (1 / c) * (h * (1 / c)) * ev S h)) := by
   rw [n5]; grind
  have h3 : Nm q (chT q a t) * ((c + h * ev (dL (chi q a)) t + h * h * ev Q h) - (c * (1 + h * (1 / c) * sm (q.length - 1) (fun i => MA q (chT q a t) i i) + h * (1 / c) * (h * (1 / c)) * ev S h))) = 0 := by grind
  rcases Rat.mul_eq_zero.1 h3 with h3 | h3
  ·exact absurd h3 n4
  ·grind
 rw [n6, ev_scL]
 unfold TrM
 generalize sm (q.length - 1) (fun i => MA q (chT q a t) i i) = w
 generalize ev S h = v
 have : c * (1 / c) = 1 := by grind
 grind
end Go.Proofs.YtfbogelmgdojgaaGreat


/- Newton's identities. No program in sight. -/
namespace Go.Proofs.YtfbogelmgdojgaaGreat
set_option linter.unusedSimpArgs false
set_option linter.unusedVariables false

theorem chi_tr {q a : List Rat} (hq : Can q) (ha : Can a) (h2 : 2 ≤ q.length) (s : Nat) : ((s + 1 : Nat) : Rat) * cf (chi q a) (s + 1) = TrM q (chB q a (s + 1)) := by
 have q0 : q ≠ [] := fun e => by rw [e] at h2; simp at h2
 have e1 : ∀ t, ev (smP (q.length - 1) (fun k => scL (TrM q (mon 1 k)) (chU q a k))) t = TrM q (chT q a t) := fun t => by
  rw [ev_smP, TrM_lin hq q0 (u := chT q a t) (len_lsF _ _)]
  refine sm_congr fun k hk => ?_
  rw [ev_scL]
  show _ = cf (lsF _ _) k * _
  rw [cf_lsF, if_pos hk]; grind
 have e2 : pMul (pSub (pDiff (chi q a)) (tr (smP (q.length - 1) (fun k => scL (TrM q (mon 1 k)) (chU q a k))))) (chi q a) = [] := ev_inj (can_pMul _ _) Can_nil fun t => by
  rw [ev_pMul, ev_pSub, ev_tr, e1, ev_pDiff]
  show _ = (0 : Rat)
  by_cases h0 : ev (chi q a) t = 0
  ·rw [h0]; grind
  ·rw [chi_der hq ha h2 h0]; grind
 have e3 : cf (pSub (pDiff (chi q a)) (tr (smP (q.length - 1) (fun k => scL (TrM q (mon 1 k)) (chU q a k))))) s = 0 := by
  rcases (pMul_eq_nil (can_pSub _ _) (chi_can q a)).1 e2 with e | e
  ·rw [e]; rfl
  ·have := chi_length q a
   rw [e] at this; simp at this
 rw [cf_pSub, cf_pDiff, cf_tr, cf_smP] at e3
 rw [TrM_lin hq q0 (u := chB q a (s + 1)) (len_lsF _ _)]
 have e4 : sm (q.length - 1) (fun k => cf (chB q a (s + 1)) k * TrM q (mon 1 k)) = sm (q.length - 1) (fun i => cf (scL (TrM q (mon 1 i)) (chU q a i)) s) := sm_congr fun k hk => by
  show cf (lsF _ _) k * _ = _
  rw [cf_lsF, if_pos hk, cf_scL]; grind
 rw [e4]
 grind
theorem TrM_add {q u v : List Rat} (hq : Can q) (q0 : q ≠ []) : TrM q (pAdd u v) = TrM q u + TrM q v := by
 rw [TrM_lin hq q0 (u := pAdd u v) (len_pAdd u v), TrM_lin hq q0 (u := u) (n := max u.length v.length) (by omega), TrM_lin hq q0 (u := v) (n := max u.length v.length) (by omega), ← sm_add]
 exact sm_congr fun k _ => by rw [cf_pAdd]; grind
theorem TrM_sc {q u : List Rat} (c : Rat) (hq : Can q) (q0 : q ≠ []) : TrM q (pSc c u) = c * TrM q u := by
 rw [TrM_lin hq q0 (u := pSc c u) (len_pSc c u), TrM_lin hq q0 (u := u) (Nat.le_refl _), ← sm_mul]
 exact sm_congr fun k _ => by rw [cf_pSc]; grind
theorem TrM_mulmod {q u w : List Rat} (hu : Can u) (hq : Can q) (q0 : q ≠ []) : TrM q (pMul (pMod u q) w) = TrM q (pMul u w) := by
 rw [← TrM_mod (can_pMul _ _) hq q0, mod_mul_l hu hq q0, TrM_mod (can_pMul _ _) hq q0]
theorem TrM_atm {q a : List Rat} (hq : Can q) (q0 : q ≠ []) : ∀ (l w : List Rat), Can w → TrM q (pMul (atm q a l) w) = sm l.length (fun i => cf l i * TrM q (pMul (pwr a i) w))
 | [], w, hw => by
   show TrM q (pMul [] w) = 0
   rw [pMul_nil_l, TrM_lin hq q0 (u := []) (Nat.le_refl 0)]
   rfl
 | c :: l, w, hw => by
   have e1 : pMul (atm q a (c :: l)) w = pAdd (pMul (pMod (pMul (atm q a l) a) q) w) (pSc c w) := ev_inj (can_pMul _ _) (can_pAdd _ _) fun x => by
    rw [ev_pMul, atm, ev_pAdd, ev_pAdd, ev_pMul, ev_pSc, ev_tr]
    show (_ + (c + x * 0)) * _ = _
    grind
   have e2 : pMul (pMul (atm q a l) a) w = pMul (atm q a l) (pMul a w) := ev_inj (can_pMul _ _) (can_pMul _ _) fun x => by simp only [ev_pMul]; grind
   rw [e1, TrM_add hq q0, TrM_mulmod (can_pMul _ _) hq q0, e2, TrM_atm hq q0 l (pMul a w) (can_pMul _ _), TrM_sc _ hq q0, List.length_cons, sm_first]
   have e3 : pMul (pwr a 0) w = w := ev_inj (can_pMul _ _) hw fun x => by
    rw [ev_pMul]
    show (1 + x * 0) * _ = _
    grind
   rw [e3, cf_zero]
   have e4 : sm l.length (fun i => cf l i * TrM q (pMul (pwr a i) (pMul a w))) = sm l.length (fun i => cf (c :: l) (i + 1) * TrM q (pMul (pwr a (i + 1)) w)) := sm_congr fun i _ => by
    rw [cf_succ]
    congr 2
    exact ev_inj (can_pMul _ _) (can_pMul _ _) fun x => by rw [pwr]; simp only [ev_pMul]; grind
   rw [e4]; grind
theorem newton {q a : List Rat} (hq : Can q) (ha : Can a) (h2 : 2 ≤ q.length) {s : Nat} (hs : s ≤ q.length - 1) : sm (q.length - 1 + 1 - s) (fun i => cf (chi q a) (s + i) * TrM q (pwr a i)) = ((s : Nat) : Rat) * cf (chi q a) s := by
 have q0 : q ≠ [] := fun e => by rw [e] at h2; simp at h2
 have m1 : ∀ u : List Rat, Can u → pMul u [1] = u := fun u hu => ev_inj (can_pMul _ _) hu fun x => by
  rw [ev_pMul]
  show _ * (1 + x * 0) = _
  grind
 have c1 : Can ([1] : List Rat) := by rw [Can_cons]; simp
 have h := TrM_atm (a := a) hq q0 ((chi q a).drop s) [1] c1
 rw [m1 _ (can_atm _ _ _), chB_at ha hq h2 q.length s (by omega), List.length_drop, chi_length] at h
 have e1 : sm (q.length - 1 + 1 - s) (fun i => cf (chi q a) (s + i) * TrM q (pwr a i)) = TrM q (chB q a s) := by
  rw [h]
  refine sm_congr fun i _ => ?_
  rw [m1 _ (can_pwr a i)]
  congr 1
  unfold cf
  rw [List.getD_eq_getElem?_getD, List.getD_eq_getElem?_getD, List.getElem?_drop]
 rw [e1]
 cases s with
 | zero =>
   show TrM q [] = _
   rw [TrM_lin hq q0 (u := []) (Nat.le_refl 0)]
   show (0 : Rat) = ((0 : Nat) : Rat) * _
   simp
 | succ s => rw [chi_tr hq ha h2]
theorem TrM_unit {q : List Rat} (hq : Can q) (h2 : 2 ≤ q.length) : TrM q [1] = ((q.length - 1 : Nat) : Rat) := by
 unfold TrM
 rw [sm_congr (g := fun _ => 1) fun j hj => by rw [MA_one hq h2 j hj]; exact if_pos rfl]
 generalize q.length - 1 = n
 induction n with
 | zero => simp [sm]
 | succ n ih => rw [sm, ih, Rat.natCast_add]; rfl
theorem mnS_sm (d t : List Rat) (k : Nat) : ∀ i, mnS d t k i = sm i (fun j => cf d j * cf t (k - j))
 | 0 => by simp [mnS, sm]
 | i + 1 => by rw [mnS, sm, mnS_sm d t k i]
theorem cf_snoc (l : List Rat) (c : Rat) (i : Nat) : cf (l ++ [c]) i = if i = l.length then c else cf l i := by
 unfold cf
 rw [List.getD_eq_getElem?_getD, List.getD_eq_getElem?_getD]
 by_cases h : i < l.length
 ·rw [List.getElem?_append_left h, if_neg (by omega)]
 ·rw [List.getElem?_append_right (by omega)]
  by_cases e : i = l.length
  ·rw [if_pos e, e, Nat.sub_self]; rfl
  ·rw [if_neg e, List.getElem?_eq_none (l := [c]) (by simp; omega), List.getElem?_eq_none (by omega)]
theorem mnL_chi {q a t : List Rat} (hq : Can q) (ha : Can a) (h2 : 2 ≤ q.length) (ht : ∀ i, i ≤ q.length - 1 → cf t i = TrM q (pwr a i)) : ∀ k, k ≤ q.length - 1 → ∀ i, i ≤ k → cf (mnL t k) i = cf (chi q a) (q.length - 1 - i)
 | 0, _, i, hi => by
   obtain rfl : i = 0 := by omega
   rw [Nat.sub_zero, chi_top]
   rfl
 | k + 1, hk, i, hi => by
   have ih := mnL_chi hq ha h2 ht k (by omega)
   rw [mnL, cf_snoc, mnL_len]
   by_cases e : i = k + 1
   ·rw [if_pos e, e, mnS_sm]
    have h := newton hq ha h2 (s := q.length - 1 - (k + 1)) (by omega)
    rw [show q.length - 1 + 1 - (q.length - 1 - (k + 1)) = k + 1 + 1 from by omega, sm_first] at h
    have e1 : sm (k + 1) (fun j => cf (mnL t k) j * cf t (k + 1 - j)) = sm (k + 1) (fun i => cf (chi q a) (q.length - 1 - (k + 1) + (i + 1)) * TrM q (pwr a (i + 1))) := by
     rw [← sm_rev]
     refine sm_congr fun j hj => ?_
     rw [ih _ (by omega), ht _ (by omega), show k + 1 - (k + 1 - 1 - j) = j + 1 from by omega, show q.length - 1 - (k + 1 - 1 - j) = q.length - 1 - (k + 1) + (j + 1) from by omega]
    rw [e1]
    have e2 : TrM q (pwr a 0) = ((q.length - 1 : Nat) : Rat) := TrM_unit hq h2
    rw [e2, Nat.add_zero] at h
    have e3 : ((q.length - 1 : Nat) : Rat) = ((q.length - 1 - (k + 1) : Nat) : Rat) + ((k + 1 : Nat) : Rat) := by
     rw [← Rat.natCast_add]; congr 1; omega
    rw [e3] at h
    have e4 : (((k + 1 : Nat) : Int) : Rat) = ((k + 1 : Nat) : Rat) := rfl
    have e5 : ((k + 1 : Nat) : Rat) ≠ 0 := by
     intro e
     have : k + 1 = 0 := by exact_mod_cast e
     omega
    rw [e4]
    grind
   ·rw [if_neg e, ih i (by omega)]
theorem mn_chi {q a t : List Rat} (hq : Can q) (ha : Can a) (h2 : 2 ≤ q.length) (ht : ∀ i, i ≤ q.length - 1 → cf t i = TrM q (pwr a i)) : tr (mnL t (q.length - 1)).reverse = chi q a := by
 refine can_ext (tr_can _) (chi_can q a) fun i => ?_
 rw [cf_tr]
 by_cases h : i < q.length - 1 + 1
 ·have := mnL_chi hq ha h2 ht (q.length - 1) (Nat.le_refl _) (q.length - 1 - i) (by omega)
  rw [show q.length - 1 - (q.length - 1 - i) = i from by omega] at this
  rw [← this]
  unfold cf
  rw [List.getD_eq_getElem?_getD, List.getD_eq_getElem?_getD, List.getElem?_reverse (by rw [mnL_len]; exact h), mnL_len]
  rfl
 ·rw [cf_ge (by rw [List.length_reverse, mnL_len]; omega), cf_ge (by rw [chi_length]; omega)]
theorem atm_z {q : List Rat} (hq : Can q) (h2 : 2 ≤ q.length) : ∀ l, atm q (mon 1 1) l = pMod (tr l) q
 | [] => by
   have q0 : q ≠ [] := fun e => by rw [e] at h2; simp at h2
   exact ((dm_small Can_nil hq (List.length_pos_iff.2 q0)).2).symm
 | c :: l => by
   have q0 : q ≠ [] := fun e => by rw [e] at h2; simp at h2
   have l1 := tr_len [c]
   simp only [List.length_cons, List.length_nil] at l1
   rw [atm, atm_z hq h2 l, mod_mul_l (tr_can _) hq q0]
   have e1 : tr [c] = pMod (tr [c]) q := ((dm_small (tr_can _) hq (by omega)).2).symm
   have e2 : pMod (tr (c :: l)) q = pAdd (pMod (pMul (tr l) (mon 1 1)) q) (pMod (tr [c]) q) := by
    rw [← mod_add (can_pMul _ _) (tr_can _) hq q0]
    congr 1
    refine ev_inj (tr_can _) (can_pAdd _ _) fun x => ?_
    rw [ev_pAdd, ev_pMul, ev_tr, ev_tr, ev_tr, ev_mon]
    show c + x * _ = _ * x ^ 1 + (c + x * 0)
    rw [show (1 : Nat) = 0 + 1 from rfl, Rat.pow_succ, Rat.pow_zero]
    grind
   rw [e2, ← e1]
theorem chi_z {q : List Rat} (hq : Can q) (h2 : 2 ≤ q.length) : chi q (mon 1 1) = pMonic q := by
 have q0 : q ≠ [] := fun e => by rw [e] at h2; simp at h2
 have cm := can_pMonic q
 have lm := len_pMonic hq
 have h := cayley (a := mon 1 1) (mon_can 1 (by decide)) hq h2
 rw [atm_z hq h2, tr_of_can (chi_can _ _)] at h
 have e1 : pMod (pMonic q) q = [] := mod_of_dvd cm hq q0 ⟨[1 / lead q], by rw [Can_cons, if_pos rfl]; have := lead_ne hq q0; grind, fun x => by
  rw [ev_pMonic q0]
  show _ = (1 / lead q + x * 0) * _
  grind⟩
 have l1 : (pSub (chi q (mon 1 1)) (pMonic q)).length ≤ q.length - 1 := by
  refine len_lt_of_top (can_pSub _ _) (Nat.le_trans (len_pSub _ _) (by rw [chi_length, lm]; omega)) ?_
  rw [cf_pSub, chi_top]
  have := lead_pMonic hq q0
  unfold lead at this
  rw [lm] at this
  rw [this]; grind
 have e2 : pSub (chi q (mon 1 1)) (pMonic q) = [] := by
  rw [← (dm_small (can_pSub (chi q (mon 1 1)) (pMonic q)) hq (by omega)).2]
  have : pSub (chi q (mon 1 1)) (pMonic q) = pAdd (chi q (mon 1 1)) (pSc (-1) (pMonic q)) := ev_inj (can_pSub _ _) (can_pAdd _ _) fun x => by rw [ev_pSub, ev_pAdd, ev_pSc]; grind
  rw [this, mod_add (chi_can _ _) (can_pSc _ _) hq q0, mod_sc _ cm hq q0, h, e1]
  rfl
 refine ev_inj (chi_can _ _) cm fun x => ?_
 have := congrArg (fun l => ev l x) e2
 simp only [ev_pSub] at this
 have e0 : ev [] x = 0 := rfl
 rw [e0] at this
 grind
theorem pwr_z : ∀ i, pwr (mon 1 1) i = mon 1 i
 | 0 => rfl
 | i + 1 => by
   rw [pwr, pwr_z i]
   exact ev_inj (can_pMul _ _) (mon_can _ (by decide)) fun x => by rw [ev_pMul, ev_mon, ev_mon, ev_mon, powq_add]
theorem tr_nw {q : List Rat} (hq : Can q) (h2 : 2 ≤ q.length) : ∀ (n k : Nat), k < n → k ≤ q.length - 1 → TrM q (mon 1 k) = nw (pMonic q) k
 | 0, k, h, _ => by omega
 | n + 1, k, h, hk => by
   have lm := len_pMonic hq
   by_cases k0 : k = 0
   ·subst k0
    rw [nw_zero hq]
    exact TrM_unit hq h2
   ·have hn := newton hq (mon_can 1 (by decide) : Can (mon 1 1)) h2 (s := q.length - 1 - k) (by omega)
    rw [chi_z hq h2, show q.length - 1 + 1 - (q.length - 1 - k) = k + 1 from by omega, sm, show q.length - 1 - k + k = q.length - 1 from by omega, sm_congr fun i _ => by rw [pwr_z i], pwr_z] at hn
    have top : cf (pMonic q) (q.length - 1) = 1 := by
     have := lead_pMonic hq (fun e => by rw [e] at h2; simp at h2)
     unfold lead at this
     rw [lm] at this
     exact this
    rw [top] at hn
    obtain ⟨j, rfl⟩ : ∃ j, k = j + 1 := ⟨k - 1, by omega⟩
    rw [sm_first] at hn
    have e0 : TrM q (mon 1 0) = ((q.length - 1 : Nat) : Rat) := TrM_unit hq h2
    rw [e0, Nat.add_zero] at hn
    have e1 : nw (pMonic q) (j + 1) = - sm (j + 1) (fun t => cf (pMonic q) (q.length - 1 - (t + 1)) * nwBy (j + 1) (nwL (pMonic q) (j + 1)) (t + 1)) := by
     unfold nw nwV
     rw [if_neg (by omega), nwN_sm, lm, Nat.min_eq_left hk]
    rw [e1, sm]
    have e2 : nwBy (j + 1) (nwL (pMonic q) (j + 1)) (j + 1) = ((j + 1 : Nat) : Rat) := by
     unfold nwBy
     rw [if_neg (by omega)]
     rfl
    have e3 : sm j (fun t => cf (pMonic q) (q.length - 1 - (t + 1)) * nwBy (j + 1) (nwL (pMonic q) (j + 1)) (t + 1)) = sm j (fun i => cf (pMonic q) (q.length - 1 - (j + 1) + (i + 1)) * TrM q (mon 1 (i + 1))) := by
     rw [← sm_rev]
     refine sm_congr fun t ht => ?_
     unfold nwBy
     rw [if_pos (by omega), nwL_get _ _ _ (by omega), tr_nw hq h2 n (t + 1) (by omega) (by omega), show j + 1 - (j - 1 - t + 1) = t + 1 from by omega, show q.length - 1 - (j - 1 - t + 1) = q.length - 1 - (j + 1) + (t + 1) from by omega]
    rw [e2, e3]
    have e4 : ((q.length - 1 : Nat) : Rat) = ((q.length - 1 - (j + 1) : Nat) : Rat) + ((j + 1 : Nat) : Rat) := by
     rw [← Rat.natCast_add]; congr 1; omega
    rw [e4] at hn
    grind
theorem trQ_TrM {q u : List Rat} (hu : Can u) (hq : Can q) (h2 : 2 ≤ q.length) : trQ q u = TrM q u := by
 have q0 : q ≠ [] := fun e => by rw [e] at h2; simp at h2
 have hl : (pMod u q).length ≤ q.length - 1 := by have := (dm_ok hu hq q0).2.1; omega
 rw [trQ_sm q u hl, ← TrM_mod hu hq q0, TrM_lin hq q0 hl]
 exact sm_congr fun k hk => by rw [tr_nw hq h2 (k + 1) k (by omega) (by omega)]
theorem pwE_mod {q a : List Rat} (ha : Can a) (hq : Can q) (q0 : q ≠ []) : ∀ i, pMod (pwE q (pMod a q) i) q = pMod (pwr a (i + 1)) q ∧ Can (pwE q (pMod a q) i)
 | 0 => by
   refine ⟨?_, (dm_ok ha hq q0).1.2⟩
   rw [pwE, mod_mod ha hq q0]
   congr 1
   exact ev_inj ha (can_pwr _ _) fun x => by
    rw [pwr, ev_pMul]
    show _ = (1 + x * 0) * _
    grind
 | i + 1 => by
   obtain ⟨h1, h2⟩ := pwE_mod ha hq q0 i
   refine ⟨?_, (dm_ok (can_pMul _ _) hq q0).1.2⟩
   rw [pwE, mod_mod (can_pMul _ _) hq q0, mod_mul_r ha hq q0, ← mod_mul_l h2 hq q0, h1, mod_mul_l (can_pwr _ _) hq q0]
   rfl
theorem trs_T {q a : List Rat} (ha : Can a) (hq : Can q) (h2 : 2 ≤ q.length) {n i : Nat} (hi : i ≤ n) : cf (trs q (pMod a q) n) i = TrM q (pwr a i) := by
 have q0 : q ≠ [] := fun e => by rw [e] at h2; simp at h2
 unfold trs
 cases i with
 | zero => exact (TrM_unit hq h2).symm
 | succ i =>
   rw [cf_succ]
   unfold cf
   rw [List.getD_eq_getElem?_getD, List.getElem?_map, List.getElem?_range (by omega)]
   show trQ q (pwE q (pMod a q) i) = _
   obtain ⟨h1, h3⟩ := pwE_mod ha hq q0 i
   rw [trQ_TrM h3 hq h2, ← TrM_mod h3 hq q0, h1, TrM_mod (can_pwr _ _) hq q0]
theorem min_chi {q a : List Rat} (ha : Can a) (hq : Can q) (h2 : 2 ≤ q.length) : tr (mnL (trs q (pMod a q) (q.length - 1)) (q.length - 1)).reverse = chi q a := mn_chi hq ha h2 fun _ hi => trs_T ha hq h2 hi
end Go.Proofs.YtfbogelmgdojgaaGreat

