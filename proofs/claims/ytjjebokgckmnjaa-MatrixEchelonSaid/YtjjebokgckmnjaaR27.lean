/- Texts MC1 MC2 MC3 in one. -/
import Derived.Test.YtjjebokgckmnjaaR25
import Derived.Test.YtjjebokgckmnjaaR21
import Derived.Test.YtjjebokgckmnjaaR26
/- Contracts: the closures of the elimination. -/
namespace Go.Proofs.Ytjjebokgckmnjaa
set_option linter.unusedSimpArgs false
set_option linter.unusedVariables false
open Go.RowKit

theorem up_far {H : Hp} {n k : Nat} (h : k < n) (c : Nat) (x : Option Blk) : (H.up (n + c) x) k = H k := by
  unfold Hp.up
  rw [if_neg (by omega)]
theorem up_far0 {H : Hp} {n k : Nat} (h : k < n) (x : Option Blk) : (H.up n x) k = H k := up_far h 0 x
theorem cl2_H {H : Hp} {n0 k kp ki kr w : Nat} {R : List Rat} {y : Rat} (hc : ClosedH n0 H) (hp : H kp = some ⟨33, 1, [.sl kr 4 0 w]⟩) (hi : H ki = some ⟨41, 4, [.Q y]⟩) (hr : H kr = some ⟨41, 4, V.rats R⟩) (hw : R.length = w) (hk : k < w)
    (l1 : kp < n0) (l2 : ki < n0) (l3 : kr < n0) (q1 : qs (cf R k) ≤ 5000000000000) (q2 : qs y ≤ 5000000000000) :
    HCall Try.prog 69 [.raw (.int .i64 (k : Nat)), .ptr kp 1 0 0, .ptr ki 4 0 0] H n0 n0 (.Q (cf R k * y)) H n0 := by
  have T := (tabs mixed (tbl_cons qMul_C tbl_nil))
  refine HCall.of Try.func69 rfl (by kernel_rfl) Try.ntmps69 Try.results69 (by simp) ?_
  refine vc_ok T _ _ _ ?_
  have e1 : (kp = n0) = False := eq_false (by omega)
  have e2 : (ki = n0) = False := eq_false (by omega)
  have e3 : (kr = n0) = False := eq_false (by omega)
  have c3 : 0 ≤ (k : Int) := by omega
  subst hw
  simp only [go_sem, hp, hi, hr, e1, e2, e3, c3, hk, q1, q2]
  have hs := wkS_ren (θ := List.range n0) (s := upS (fun _ => .any) 0 (.Q (cf R k * y))) [(0, .Q (cf R k * y))] (by simp only [go_sem])
  refine ⟨by omega, chk_map (rnn n0) (by simp only [List.map_cons, List.map_nil, mapF, rnn_lo l1, rnn_lo l2, rnn_lo l3, rnn_n]; rfl), Wk.low n0 rfl rfl rfl (Nat.le_refl _) rfl ?_ hs.2 hc fun j hj => ?_⟩
  · exact (wkS_ren [(0, .Q (cf R k * y))] (by simp only [go_sem])).1
  · simp only [up_far0 hj]
/-- A row less a multiple of another. -/
theorem cl3_H {H : Hp} {n0 k kq kf kp ks kr w : Nat} {R S : List Rat} {f : Rat} (hc : ClosedH n0 H) (hq : H kq = some ⟨33, 1, [.sl ks 4 0 w]⟩) (hf : H kf = some ⟨41, 4, [.Q f]⟩) (hp : H kp = some ⟨33, 1, [.sl kr 4 0 w]⟩)
    (hs : H ks = some ⟨41, 4, V.rats S⟩) (hr : H kr = some ⟨41, 4, V.rats R⟩) (hw : R.length = w) (hw2 : S.length = w) (hk : k < w)
    (l1 : kq < n0) (l2 : kf < n0) (l3 : kp < n0) (l4 : ks < n0) (l5 : kr < n0) (q1 : qs (cf S k) ≤ 5000000000000) (q2 : qs f ≤ 5000000000000) (q3 : qs (cf R k) ≤ 5000000000000) (q4 : qs (f * cf R k) ≤ 5000000000000) :
    HCall Try.prog 70 [.raw (.int .i64 (k : Nat)), .ptr kq 1 0 0, .ptr kf 4 0 0, .ptr kp 1 0 0] H n0 n0 (.Q (cf S k - f * cf R k)) H n0 := by
  have T := (tabs mixed (tbl_cons qMul_C (tbl_cons qSub_C tbl_nil)))
  refine HCall.of Try.func70 rfl (by kernel_rfl) Try.ntmps70 Try.results70 (by simp) ?_
  refine vc_ok T _ _ _ ?_
  have e1 : (kq = n0) = False := eq_false (by omega)
  have e2 : (kf = n0) = False := eq_false (by omega)
  have e3 : (kp = n0) = False := eq_false (by omega)
  have e4 : (ks = n0) = False := eq_false (by omega)
  have e5 : (kr = n0) = False := eq_false (by omega)
  have c3 : 0 ≤ (k : Int) := by omega
  subst hw
  have hkS : k < S.length := by omega
  simp only [go_sem, hq, hf, hp, hs, hr, e1, e2, e3, e4, e5, c3, hk, hkS, hw2, q1, q2, q3, q4]
  have hv := wkS_ren (θ := List.range n0) (s := upS (fun _ => .any) 0 (.Q (cf S k - f * cf R k))) [(0, .Q (cf S k - f * cf R k))] (by simp only [go_sem])
  refine ⟨by omega, by omega, chk_map (rnn n0) (by simp only [List.map_cons, List.map_nil, mapF, rnn_lo l1, rnn_lo l2, rnn_lo l3, rnn_lo l4, rnn_lo l5, rnn_n]; rfl), Wk.low n0 rfl rfl rfl (Nat.le_refl _) rfl ?_ hv.2 hc fun j hj => ?_⟩
  · exact (wkS_ren [(0, .Q (cf S k - f * cf R k))] (by simp only [go_sem])).1
  · simp only [up_far0 hj]
end Go.Proofs.Ytjjebokgckmnjaa


/- Contracts: a row is set element by element. -/
namespace Go.Proofs.Ytjjebokgckmnjaa
set_option linter.unusedSimpArgs false
set_option linter.unusedVariables false
open Go.RowKit

theorem each_H {o b m i w n0 : Nat} {base : Hp} {M : List (List Rat)} {F : Nat → Rat} {g : FuncId} {caps : List V} (ids : List Nat) (hn0 : b + M.length ≤ n0) (ho : o < b) (hmb : m ≤ b) (hbase : ClosedH n0 base) (hlive : ∀ k, k < m → k ≠ o → (base k).isSome = true) (hi : i < M.length) (hR : (M.getD i []).length = w) (hw : w ≤ 1000000)
    (hcap : ∀ θ : List Nat, (∀ k ∈ ids, θ[k]? = some k) → RenCs θ caps caps) (hnt : caps.all V.noTup = true) (hids : ∀ k ∈ ids, k < n0 ∧ (k ≠ o ∧ ¬ (b ≤ k ∧ k < b + M.length)) ∧ (base k).isSome = true)
    (hcl : ∀ n k, n0 ≤ n → k < w → HCall Try.prog g (.raw (.int .i64 (k : Nat)) :: caps) (matH o b 33 41 w (M.set i (mkr (fun j => if k + 1 ≤ j then F j else cf (M.getD i []) j) w)) base) n n (.Q (F k)) (matH o b 33 41 w (M.set i (mkr (fun j => if k + 1 ≤ j then F j else cf (M.getD i []) j) w)) base) n) :
    HCall Try.prog 68 [.sl (rid b i) 4 0 w, .clo (.func g) [] caps] (matH o b 33 41 w M base) n0 m .any (matH o b 33 41 w (M.set i (mkr F w)) base) n0 := by
  have T := (tabs mixed tbl_nil)
  refine HCall.of Try.func68 rfl (by kernel_rfl) Try.ntmps68 Try.results68 (by simp) ?_
  refine vc_ok T _ _ _ ?_
  obtain ⟨R, eR⟩ : ∃ R, M.getD i [] = R := ⟨_, rfl⟩
  rw [eR] at hR hcl
  have len : ∀ l, (M.set i l).length = M.length := fun l => List.length_set
  have hcM : ∀ l, ClosedH n0 (matH o b 33 41 w (M.set i l) base) := fun l => closed_mat (by omega) (by rw [len]; omega) hbase
  have st0 : mkr (fun j => if w ≤ j then F j else cf R j) w = R := mkr_eq hR fun k hk => if_neg (by omega)
  have stE : mkr (fun j => if 0 ≤ j then F j else cf R j) w = mkr F w := mkr_congr fun k hk => if_pos (Nat.zero_le _)
  have hset : M.set i R = M := m_ext (len R) fun j hj => by
    rw [gd_set hi]
    split
    · rename_i e; rw [e, eR]
    · rfl
  have kn : ∀ k ∈ ids, k < n0 := fun k hk => (hids k hk).1
  have ri : rid b i < n0 := by unfold rid; omega
  have rcap : RenV (List.range n0) (.clo (.func g) [] caps) (.clo (.func g) [] caps) := ⟨rfl, trivial, hcap _ fun k hk => List.getElem?_range (kn k hk)⟩
  have rsl : ∀ θ : List Nat, θ[rid b i]? = some (rid b i) → RenV θ (.sl (rid b i) 4 0 w) (.sl (rid b i) 4 0 w) := fun θ h => ⟨h, rfl, rfl, rfl⟩
  simp only [go_sem]
  refine ⟨by omega, ?_⟩
  refine AWp.loops (X := { c : Nat // c ≤ w }) (fun c => { s := mkS [(0, .sl (rid b i) 4 0 w), (1, .clo (.func g) [] caps), (4, .raw (.int .i64 ((c.1 : Int) - 1)))], H := matH o b 33 41 w (M.set i (mkr (fun j => if c.1 ≤ j then F j else cf R j) w)) base, n := n0, N := 18, m := m }) (fun c => c.1) ⟨w, Nat.le_refl _⟩ ?_ ?_
  · have hs := wkS_ren (θ := List.range n0) [(0, V.sl (rid b i) 4 0 w), (1, .clo (.func g) [] caps), (4, .raw (.int .i64 ((w : Int) - 1)))] (s := mkS [(0, V.sl (rid b i) 4 0 w), (1, .clo (.func g) [] caps), (4, .raw (.int .i64 ((w : Int) - 1)))]) ⟨⟨rfl, rsl _ (List.getElem?_range ri)⟩, ⟨rfl, rcap⟩, ⟨rfl, renV_pure rfl⟩, trivial⟩
    refine Wk.low n0 rfl rfl rfl ?_ rfl ?_ hs.2 (hcM _) fun k hk => ?_
    · show m ≤ n0
      omega
    · refine (wkS_ren [(0, V.sl (rid b i) 4 0 w), (1, .clo (.func g) [] caps), (4, .raw (.int .i64 ((w : Int) - 1)))] ?_).1
      simp only [go_sem]
      exact ⟨List.getElem?_range ri, rcap.2.2⟩
    · show _ = matH o b _ _ w (M.set i (mkr (fun j => if w ≤ j then F j else cf R j) w)) base k
      rw [st0, hset]
  rintro ⟨c, hc⟩
  refine AWp.seq (vc_ok T _ _ _ ?_)
  rcases c with _ | c
  · have d1 : ¬ (0 : Int) ≤ ((0 : Nat) : Int) - 1 := by omega
    simp only [go_sem, d1, stE]
    refine Wk.low n0 rfl rfl rfl (by show m ≤ n0; omega) rfl (fun t => trivial) (fun t l h => by cases h) (hcM _) fun k hk => rfl
  · have d1 : (0 : Int) ≤ (c : Int) := by omega
    have d2 : ((c + 1 : Nat) : Int) - 1 = (c : Int) := by omega
    simp only [go_sem, d1, d2]
    refine AWp.seq (AWp.block (AWp.regs ?_))
    refine RegI.cut T 0 4 rfl rfl (by decide) ?_
    simp only [go_sem, d2]
    refine ⟨_, Wk.refl _, ?_⟩
    have lv : ∀ l k, k < b → (k ≠ o → (base k).isSome = true) → ((matH o b 33 41 w (M.set i l) base) k).isSome = true := fun l k hk h => by
      by_cases e : k = o
      · rw [e, matH_o]; rfl
      · rw [matH_lo e hk]; exact h e
    obtain ⟨L, eL⟩ : ∃ L, mkr (fun j => if c + 1 ≤ j then F j else cf R j) w = L := ⟨_, rfl⟩
    have lL : L.length = w := by rw [← eL, mkr_len]
    have hrow : matH o b 33 41 w (M.set i L) base (rid b i) = some ⟨41, 4, V.rats L⟩ := by
      have := matH_row (tO := 33) (t := 41) (w := w) (M := M.set i L) (H := base) (i := i) ho (by rw [len]; exact hi)
      rw [gd_set hi, if_pos rfl] at this
      exact this
    have nx : L.set c (F c) = mkr (fun j => if c ≤ j then F j else cf R j) w := by
      refine l_ext (by rw [List.length_set, lL, mkr_len]) fun k hk => ?_
      rw [List.length_set, lL] at hk
      rw [cf_setL (by omega), cf_mkr, if_pos hk, ← eL, cf_mkr, if_pos hk]
      by_cases e : k = c
      · rw [if_pos e, if_pos (by omega), e]
      · rw [if_neg e]
        by_cases e2 : c + 1 ≤ k
        · rw [if_pos e2, if_pos (by omega)]
        · rw [if_neg e2, if_neg (by omega)]
    rw [eL]
    refine RegI.callH (dst := some 16) 4 rfl rfl rfl rfl rfl hnt (n0 + 6) (by show m ≤ n0 + 6; omega) (liveTo_of fun k hk => lv L k (Nat.lt_of_lt_of_le hk hmb) (hlive k hk)) [(0, .sl (rid b i) 4 0 w), (1, .clo (.func g) [] caps), (4, .raw (.int .i64 (c : Nat))), (12, .sl (rid b i) 4 0 w), (13, .raw (.int .i64 (c : Nat)))] ?_ rfl (by show (16 : Nat) < 18; decide) (by have := hcl (n0 + 6) c (by omega) hc; rw [eL] at this; exact this) ?_
    · have r1 := lvT_get (m := n0 + 6) (H := matH o b 33 41 w (M.set i L) base) (n := n0 + 6) (show rid b i < n0 + 6 by omega) (by rw [hrow]; rfl)
      simp only [go_sem]
      refine ⟨r1, hcap _ fun k hk => ?_, r1⟩
      obtain ⟨k1, ⟨k2, k3⟩, k4⟩ := hids k hk
      refine lvT_get (by omega) ?_
      unfold matH
      rw [if_neg k2, if_neg (by rw [len]; exact k3)]
      exact k4
    refine RegI.fin T 5 rfl ?_
    have c0 : c < w := by omega
    have c2 : 0 ≤ (c : Int) := by omega
    have up5 : ∀ l, (matH o b 33 41 w (M.set i L) base).up (rid b i) (some ⟨41, 4, V.rats l⟩) = matH o b 33 41 w (M.set i l) base := fun l => by
      rw [matH_up ho (by rw [len]; exact hi), List.set_set]
    simp only [go_sem, hrow, c2, hc, lL, up5, nx]
    refine ⟨by omega, hc, vc_ok T _ _ _ ?_⟩
    simp only [go_sem]
    refine ⟨⟨by omega, by omega⟩, ⟨c, by omega⟩, Wk.low n0 rfl rfl rfl (by show m ≤ n0; omega) rfl ?_ (wkS_ren (θ := List.range n0) (s := mkS [(0, V.sl (rid b i) 4 0 w), (1, .clo (.func g) [] caps), (4, .raw (.int .i64 ((c : Int) - 1)))]) _ ?_).2 (hcM _) (fun k hk => rfl), by simp only; omega⟩
    · refine (wkS_ren [(0, V.sl (rid b i) 4 0 w), (1, .clo (.func g) [] caps), (4, .raw (.int .i64 ((c : Int) - 1)))] ?_).1
      simp only [go_sem]
      exact ⟨List.getElem?_range ri, rcap.2.2⟩
    · exact ⟨⟨rfl, rsl _ (List.getElem?_range ri)⟩, ⟨rfl, rcap⟩, ⟨rfl, renV_pure rfl⟩, trivial⟩
end Go.Proofs.Ytjjebokgckmnjaa


/- Contracts: a pivot. -/
namespace Go.Proofs.Ytjjebokgckmnjaa
set_option linter.unusedSimpArgs false
set_option linter.unusedVariables false
open Go.RowKit

theorem sgI_z (q : Rat) : (sgI q.num != 0) = !decide (q = 0) := by
  by_cases h : q = 0
  · rw [h]; rfl
  · have hn : q.num ≠ 0 := fun e => h (Rat.num_eq_zero.1 e)
    have : sgI q.num ≠ 0 := fun e => by
      rcases sg_cases q.num with ⟨_, g⟩ | ⟨g, _⟩ | ⟨_, g⟩
      · rw [g] at e; cases e
      · exact hn g
      · rw [g] at e; cases e
    simp [this, h]
def V.nats (l : List Nat) : List V := l.map fun n => V.raw (.int .i64 ((n : Nat) : Int))
def syO (o m : Nat) (pF : V) (d : Rat) : Blk := ⟨75, 6, [.agg [.sl o 1 0 m, pF, .Q d]]⟩
abbrev syB (m : Nat) (pF : V) (d : Rat) : Blk := syO 1 m pF d
/-- The list of the pivots: nil, or a row of its own. -/
def pFk (k : Nat) (ps : List Nat) : V := if ps = [] then .raw (.slice none 0 0) else .sl k 1 0 ps.length
def pBk (ps : List Nat) : Option Blk := if ps = [] then none else some ⟨3, 1, V.nats ps⟩
def syH (k : Nat) (ps : List Nat) (m : Nat) (d : Rat) : Hp := (hbk k (pBk ps)).up 0 (some (syB m (pFk k ps) d))
theorem pFk_at (k : Nat) (ps : List Nat) : (pFk k ps).atoms = [pFk k ps] ∧ (pFk k ps).isAgg = false := by
  unfold pFk
  split <;> exact ⟨rfl, rfl⟩
theorem nats_pure (l : List Nat) : allPure (V.nats l) := fun y hy => by
  obtain ⟨n, _, rfl⟩ := List.mem_map.1 hy
  rfl
theorem syB_ren {θ : List Nat} {m k k0 o0 : Nat} {ps : List Nat} {d : Rat} (h1 : θ[1]? = some o0) (h2 : ps ≠ [] → θ[k]? = some k0) : RenLE θ (syB m (pFk k ps) d).l (syO o0 m (pFk k0 ps) d).l := by
  refine ⟨rfl, fun i x y hx hy => ?_⟩
  cases i with
  | succ i => simp [syB, syO] at hx
  | zero =>
    simp only [syB, syO, List.getElem?_cons_zero, Option.some.injEq] at hx hy
    subst hx hy
    have e : ∀ o k, (V.agg [.sl o 1 0 m, pFk k ps, .Q d]).atoms = .sl o 1 0 m :: pFk k ps :: (V.Q d).atoms := fun o k => by
      show V.atomsL [.sl o 1 0 m, pFk k ps, .Q d] = _
      simp only [V.atomsL, (pFk_at k ps).1, List.append_nil]
      rfl
    refine ⟨by rw [e, e]; rfl, fun i z u hz hu => ?_⟩
    rw [e] at hz hu
    rcases i with _ | _ | i
    · simp at hz hu; subst hz hu; exact ⟨h1, rfl, rfl, rfl⟩
    · simp at hz hu
      subst hz hu
      unfold pFk
      by_cases hp : ps = []
      · rw [if_pos hp, if_pos hp]; exact renV_pure rfl
      · rw [if_neg hp, if_neg hp]; exact ⟨h2 hp, rfl, rfl, rfl⟩
    · simp only [List.getElem?_cons_succ] at hz hu
      rw [hz] at hu
      injection hu with hu
      subst hu
      have hz2 := List.mem_of_getElem? hz
      have hp : (V.Q d).pure = true := rfl
      have : pureA z = true := List.all_eq_true.1 hp z hz2
      refine renV_pure ?_
      unfold V.pure
      rw [V.atoms_single (atoms_single_mem hz2)]
      simpa using this
theorem syH_ren {θ : List Nat} {H : Hp} {m k k0 o0 : Nat} {ps : List Nat} {d : Rat} (h0 : θ[0]? = some 0) (h1 : θ[1]? = some o0) (h2 : ps ≠ [] → θ[k]? = some k0 ∧ H k0 = pBk ps) (hH : H 0 = some (syO o0 m (pFk k0 ps) d)) : ∀ j x, syH k ps m d j = some x → RenBE θ j x H := fun j x hx => by
  unfold syH Hp.up at hx
  split at hx
  · rename_i e
    subst e
    injection hx with hx
    subst hx
    exact ⟨0, _, h0, hH, rfl, rfl, syB_ren h1 fun h => (h2 h).1⟩
  · unfold hbk at hx
    split at hx
    · rename_i e
      subst e
      by_cases hp : ps = []
      · unfold pBk at hx; rw [if_pos hp] at hx; cases hx
      · obtain ⟨g1, g2⟩ := h2 hp
        rw [hx] at g2
        refine ⟨k0, x, g1, g2, rfl, rfl, .of (renL_refl ?_)⟩
        unfold pBk at hx
        rw [if_neg hp] at hx
        injection hx with hx
        subst hx
        exact nats_pure ps
    · cases hx
theorem syH_closed {n m k : Nat} {ps : List Nat} {d : Rat} (h1 : 1 < n) (hk : k < n) (hk0 : k ≠ 0) : ClosedH n (syH k ps m d) := fun j x hx => by
  have hr : ∀ j, j < n → (List.range n)[j]? = some j := fun j hj => List.getElem?_range hj
  obtain ⟨k0, y, e1, e2, e3, e4, e5⟩ := syH_ren (θ := List.range n) (H := syH k ps m d) (k := k) (k0 := k) (ps := ps) (m := m) (d := d) (hr 0 (by omega)) (hr 1 h1) (fun h => ⟨hr k hk, by
    unfold syH Hp.up
    rw [if_neg hk0]; exact if_pos rfl⟩) rfl j x hx
  have hj : j < n := by
    have := (List.getElem?_eq_some_iff.1 e1).1
    simpa using this
  rw [hr j hj] at e1
  injection e1 with e1
  subst e1
  rw [hx] at e2
  injection e2 with e2
  subst e2
  exact ⟨hj, e5⟩
set_option maxRecDepth 8000 in
set_option maxHeartbeats 4000000 in
theorem pivot_H {w n c S : Nat} {M : List (List Rat)} {d : Rat} {ps : List Nat} (hpl : ps.length ≤ 1000000) (hM : M.length ≤ 1000000) (hn : n < M.length) (hc : c < w) (hw : w ≤ 1000000) (hW : Wid w M) (h0 : ent M n c ≠ 0)
    (hS : ∀ i k, qs (ent M i k) ≤ S) (hS1 : S ≤ 1000000000000) (hd : qs d ≤ 1000000000000) :
    HCall Try.prog 54 [.ptr 0 6 0 0, .raw (.int .i64 (n : Nat)), .raw (.int .i64 (c : Nat))] (matH 1 3 33 41 w M (syH 2 ps M.length d)) (rid 3 M.length) 1 .any
      (matH 1 3 33 41 w (pvt M n c) (syH 2 (ps ++ [c]) M.length (d * ent M n c))) (rid 3 M.length) := by
  have T := (tabs mixed (tbl_cons qMul_C (tbl_cons whole_C (tbl_cons qDiv_C (tbl_cons qSign_C tbl_nil)))))
  refine HCall.of Try.func54 rfl (by kernel_rfl) Try.ntmps54 Try.results54 (by simp) ?_
  obtain ⟨R, eR⟩ : ∃ R, M.getD n [] = R := ⟨_, rfl⟩
  obtain ⟨m, em⟩ : ∃ m, M.length = m := ⟨_, rfl⟩
  have lR : R.length = w := by rw [← eR]; exact hW n hn
  have rN := matH_row (o := 1) (b := 3) (tO := 33) (t := 41) (w := w) (M := M) (H := syH 2 ps M.length d) (i := n) (by decide) hn
  have hcR : c < R.length := by omega
  obtain ⟨y, ey⟩ : ∃ y, cf R c = y := ⟨_, rfl⟩
  have hy0 : y ≠ 0 := by rw [← ey, ← eR]; exact h0
  have hyS : qs y ≤ 5000000000000 := by have := hS n c; rw [show ent M n c = y from by show cf (M.getD n []) c = y; rw [eR, ey]] at this; omega
  have hd5 : qs d ≤ 5000000000000 := by omega
  have c1 : 0 ≤ (n : Int) := by omega
  have c2 : 0 ≤ (c : Int) := by omega
  rw [eR, em] at rN
  rw [em] at hn hM ⊢
  obtain ⟨pF, epF⟩ : ∃ pF, pFk 2 ps = pF := ⟨_, rfl⟩
  obtain ⟨pb, epb⟩ : ∃ pb, pBk ps = pb := ⟨_, rfl⟩
  have eH : syH 2 ps m d = (hbk 2 pb).up 0 (some ⟨75, 6, [.agg [.sl 1 1 0 m, pF, .Q d]]⟩) := by unfold syH syB syO; rw [epF, epb]
  rw [eH] at rN ⊢
  obtain ⟨pa1, pa2⟩ : pF.atoms = [pF] ∧ pF.isAgg = false := by rw [← epF]; exact pFk_at 2 ps
  refine AWp.seq (vc_ok T _ _ _ ?_)
  simp only [go_sem, matH_lo, em, c1, c2, hn, hcR, rN, ey]
  refine ⟨by omega, by omega, AWp.seq (vc_ok T _ _ _ ?_)⟩
  simp only [go_sem, matH_lo, rid_nn, rid_nl, rid_rn, rid_nr, rid_rl, rid_lr, Nat.left_eq_add, Nat.add_eq_left, hd5, hyS, pa1, pa2]
  refine ⟨chk_map (rnm 3 m) (by simp only [List.map_cons, List.map_nil, mapF, rnm_row hn, rnm_new, rnm_lo, Nat.reduceLT, Nat.reduceAdd]; rfl), AWp.seq (vc_ok T _ _ _ ?_)⟩
  simp only [go_sem]
  refine AWp.seq (vc_ok T _ _ _ ?_)
  simp only [go_sem, matH_lo, rid_nn, rid_nl, rid_rn, rid_nr, rid_rl, rid_lr, Nat.left_eq_add, Nat.add_eq_left, c1, hn, em]
  refine ⟨by omega, AWp.seq (vc_ok T _ _ _ ?_)⟩
  have q1 : qs 1 ≤ 5000000000000 := Nat.le_trans qs_1 (by decide)
  have e1r : ((1 : Int) : Rat) = 1 := rfl
  have qinv : qs (1 / y) ≤ 5000000000000 := Nat.le_trans (qs_div 1 y) (by have := qs_1; have := hS n c; rw [show ent M n c = y from by show cf (M.getD n []) c = y; rw [eR, ey]] at this; omega)
  simp only [go_sem, matH_lo, rid_nn, rid_nl, rid_rn, rid_nr, rid_rl, rid_lr, Nat.left_eq_add, Nat.add_eq_left, hy0, hyS, q1, e1r, divR, qOk]
  refine ⟨chk_map (rnm 3 m) (by simp only [List.map_cons, List.map_nil, mapF, rnm_row hn, rnm_new, rnm_lo, Nat.reduceLT, Nat.reduceAdd]; rfl), ?_⟩
  have t7 : (thR [0, 1, rid 3 m + 30, rid 3 m + 38, rid 3 m + 90, rid 3 m + 91, 2] (rid 3) m)[rid 7 n]? = some (rid 3 n) := thR_row (θ := [0, 1, rid 3 m + 30, rid 3 m + 38, rid 3 m + 90, rid 3 m + 91, 2]) hn
  refine AWp.from (σ' := mkRB 1 1 7 33 41 w [(0, .ptr 0 6 0 0), (1, .raw (.int .i64 (n : Nat))), (2, .raw (.int .i64 (c : Nat))), (7, .clo (.func 68) [] []), (8, .ptr 2 1 0 0), (9, .ptr 3 4 0 0)] [(2, false, ⟨33, 1, [.sl (rid 7 n) 4 0 w]⟩), (3, true, ⟨41, 4, [.Q (1 / y)]⟩)] (syH 6 ps m (d * y)) M 87)
    (Wk.ofRB 1 [0, 1, rid 3 m + 30, rid 3 m + 38, rid 3 m + 90, rid 3 m + 91, 2] (rid 3) rfl (by decide) (fun k hk => by rw [show k = 0 by omega]; rfl) (thR_nodup (by simp [rid]) (fun a b ha hb e => by unfold rid at e; omega) (fun x hx i hi => by rw [em] at hi; simp [rid] at hx ⊢; omega)) ?_ ?_ ?_ ?_ ?_ ?_) ?_
  · simp only [go_sem]
  · simp only [go_sem, em]
  · simp only [go_sem, em, matH_lo, rid_nn, rid_nl, rid_rn, rid_nr, rid_rl, rid_lr, Nat.left_eq_add, Nat.add_eq_left, t7]
  · refine syH_ren (k := 6) (k0 := 2) rfl rfl (fun _ => ⟨rfl, ?_⟩) ?_
    · simp only [go_sem, matH_lo, rid_nn, rid_nl, epb]
    · simp only [go_sem, matH_lo, rid_nn, rid_nl, syB, syO, epF]
  · simp only [go_sem, matH_o, rid_nn, rid_nl, em]
    rfl
  · intro i hi
    rw [em] at hi
    have := matH_row (o := 1) (b := 3) (tO := 33) (t := 41) (w := w) (M := M) (H := (hbk 2 pb).up 0 (some ⟨75, 6, [.agg [.sl 1 1 0 m, pF, .Q d]]⟩)) (i := i) (by decide) (by omega)
    simp only [go_sem, rid_rn, rid_rl, rid_nn, hi, this]
  obtain ⟨B1, eB1⟩ : ∃ B1, mkHb (syH 6 ps m (d * y)) [(2, false, ⟨33, 1, [.sl (rid 7 n) 4 0 w]⟩), (3, true, ⟨41, 4, [.Q (1 / y)]⟩)] = B1 := ⟨_, rfl⟩
  have b2 : B1 2 = some ⟨33, 1, [.sl (rid 7 n) 4 0 w]⟩ := by rw [← eB1]; rfl
  have b3 : B1 3 = some ⟨41, 4, [.Q (1 / y)]⟩ := by rw [← eB1]; rfl
  have b0 : B1 0 = some (syB m (pFk 6 ps) (d * y)) := by rw [← eB1]; rfl
  have r7 : ∀ i, i < m → rid 7 i < rid 7 m := fun i hi => by unfold rid; omega
  have hr : ∀ k, k < 7 → (List.range (rid 7 m))[k]? = some k := fun k hk => List.getElem?_range (by unfold rid; omega)
  have hrn : ∀ i, i < m → (List.range (rid 7 m))[rid 7 i]? = some (rid 7 i) := fun i hi => List.getElem?_range (r7 i hi)
  have pQ : ∀ q : Rat, allPure [V.Q q] := fun q y hy => by
    rw [List.mem_singleton] at hy; subst hy; rfl
  have rSl : ∀ i, i < m → RenL (List.range (rid 7 m)) [V.sl (rid 7 i) 4 0 w] [V.sl (rid 7 i) 4 0 w] := fun j hj => ⟨rfl, fun i x y hx hy => by
    cases i with
    | succ i => simp at hx
    | zero =>
      simp only [List.getElem?_cons_zero, Option.some.injEq] at hx hy
      subst hx hy
      exact ⟨⟨hrn j hj, rfl, rfl, rfl⟩, rfl, fun h => by cases h⟩⟩
  have syC : ClosedH (rid 7 m) (syH 6 ps m (d * y)) := syH_closed (by unfold rid; omega) (by unfold rid; omega) (by decide)
  have B1c : ClosedH (rid 7 m) B1 := by
    rw [← eB1]
    exact closed_up (closed_up syC (by unfold rid; omega) (.of (renL_refl (pQ _)))) (by unfold rid; omega) (.of (rSl n hn))
  refine AWp.seq (AWp.regs ?_)
  unfold mkRB
  rw [eB1]
  refine RegI.cut T 0 3 rfl rfl (by decide) ?_
  simp only [go_sem, matH_lo, b2, b3]
  refine ⟨{ s := mkS [(0, .ptr 0 6 0 0), (1, .raw (.int .i64 (n : Nat))), (2, .raw (.int .i64 (c : Nat))), (7, .clo (.func 68) [] []), (8, .ptr 2 1 0 0), (9, .ptr 3 4 0 0), (46, .clo (.func 68) [] []), (47, .sl (rid 7 n) 4 0 w), (48, .clo (.func 69) [] [.ptr 2 1 0 0, .ptr 3 4 0 0])], H := matH 1 7 33 41 w M B1, n := rid 7 M.length, N := 87, m := 1 }, Wk.lowS (rid 7 M.length) rfl rfl rfl (by unfold rid; omega) ?_ ?_ (fun k hk => rfl), ?_⟩
  · rw [em]
    simp only [go_sem, hr, hrn, hn]
  · rw [em]; exact closed_mat (by unfold rid; omega) (by rw [em]; unfold rid; omega) B1c
  have each1 : HCall Try.prog 68 [.sl (rid 7 n) 4 0 w, .clo (.func 69) [] [.ptr 2 1 0 0, .ptr 3 4 0 0]] (matH 1 7 33 41 w M B1) (rid 7 M.length) 4 .any (matH 1 7 33 41 w (M.set n (mkr (fun k => cf R k * (1 / y)) w)) B1) (rid 7 M.length) := by
    refine each_H [2, 3] (by unfold rid; omega) (by decide) (by decide) (by rw [em]; exact B1c) ?_ (by omega) (by rw [eR]; exact lR) hw ?_ rfl ?_ fun n' k hn' hk => ?_
    · intro k h1 h2
      have : k = 0 ∨ k = 2 ∨ k = 3 := by omega
      rcases this with rfl | rfl | rfl
      · rw [b0]; rfl
      · rw [b2]; rfl
      · rw [b3]; rfl
    · intro θ h
      exact ⟨⟨h 2 (by simp), rfl, rfl, rfl⟩, ⟨h 3 (by simp), rfl, rfl, rfl⟩, trivial⟩
    · intro k hk
      simp only [List.mem_cons, List.not_mem_nil, or_false] at hk
      rcases hk with rfl | rfl
      · exact ⟨by unfold rid; omega, ⟨by decide, by omega⟩, by rw [b2]; rfl⟩
      · exact ⟨by unfold rid; omega, ⟨by decide, by omega⟩, by rw [b3]; rfl⟩
    · rw [em] at hn'
      rw [eR]
      obtain ⟨L, eL⟩ : ∃ L, mkr (fun j => if k + 1 ≤ j then cf R j * (1 / y) else cf R j) w = L := ⟨_, rfl⟩
      have lL : L.length = w := by rw [← eL, mkr_len]
      have cL : cf L k = cf R k := by rw [← eL, cf_mkr, if_pos hk, if_neg (by omega)]
      have hRk : qs (cf R k) ≤ 5000000000000 := by have := hS n k; rw [show ent M n k = cf R k from by show cf (M.getD n []) k = _; rw [eR]] at this; omega
      have hrow := matH_row (o := 1) (b := 7) (tO := 33) (t := 41) (w := w) (M := M.set n L) (H := B1) (i := n) (by decide) (by rw [List.length_set]; omega)
      rw [gd_set (by omega), if_pos rfl] at hrow
      have hcM : ClosedH (rid 7 m) (matH 1 7 33 41 w (M.set n L) B1) := closed_mat (by unfold rid; omega) (by rw [List.length_set, em]; unfold rid; omega) B1c
      have := cl2_H (k := k) (closed_mono hcM hn') (kp := 2) (ki := 3) (kr := rid 7 n) (by rw [matH_lo (by decide) (by decide)]; exact b2) (by rw [matH_lo (by decide) (by decide)]; exact b3) hrow lL hk (by unfold rid at hn'; omega) (by unfold rid at hn'; omega) (by have := r7 n hn; omega) (by rw [cL]; exact hRk) qinv
      rw [cL] at this
      rw [eL]
      exact this
  have eM1 : M.set n (mkr (fun k => cf R k * (1 / y)) w) = pvI M n c 0 := by
    rw [pvI_zero c (by omega)]
    unfold pvR rw1
    rw [eR, lR, show ent M n c = y from by show cf (M.getD n []) c = y; rw [eR, ey]]
  rw [eM1] at each1
  rw [em] at each1 ⊢
  refine RegI.callH (dst := some 49) 3 rfl rfl rfl rfl rfl rfl 4 (by show (1 : Nat) ≤ 4; decide) (liveTo_of fun k hk => by
    have hk : k < 1 := hk
    rw [show k = 0 by omega]
    show (matH 1 7 33 41 w M B1 0).isSome = true
    rw [matH_lo (by decide) (by decide), b0]; rfl) [(0, .ptr 0 6 0 0), (1, .raw (.int .i64 (n : Nat))), (2, .raw (.int .i64 (c : Nat))), (7, .clo (.func 68) [] []), (8, .ptr 2 1 0 0), (9, .ptr 3 4 0 0)] ?_ rfl (by show (49 : Nat) < 87; decide) each1 ?_
  · have lv : ∀ k, k < 4 → k ≠ 1 → (lvT 4 (matH 1 7 33 41 w M B1) (rid 7 m))[k]? = some k := fun k h1 h2 => by
      refine lvT_get h1 ?_
      rw [matH_lo h2 (by omega)]
      have : k = 0 ∨ k = 2 ∨ k = 3 := by omega
      rcases this with rfl | rfl | rfl
      · rw [b0]; rfl
      · rw [b2]; rfl
      · rw [b3]; rfl
    simp only [go_sem, lv]
  refine RegI.fin T 4 rfl ?_
  simp only [go_sem]
  obtain ⟨pF6, epF6⟩ : ∃ pF6, pFk 6 ps = pF6 := ⟨_, rfl⟩
  obtain ⟨pa3, pa4⟩ : pF6.atoms = [pF6] ∧ pF6.isAgg = false := by rw [← epF6]; exact pFk_at 6 ps
  have b0' := b0
  unfold syB syO at b0'
  rw [epF6] at b0'
  have len : ∀ i, (pvI M n c i).length = m := fun i => by rw [pvI_len, em]
  have b6 : B1 6 = pBk ps := by rw [← eB1]; rfl
  refine vc_ok T _ _ _ ?_
  simp only [go_sem, matH_lo, b0', pa3, pa4]
  refine AWp.loops (X := { i : Nat // i ≤ m }) (fun i => { s := mkS [(0, .ptr 0 6 0 0), (1, .raw (.int .i64 (n : Nat))), (2, .raw (.int .i64 (c : Nat))), (7, .clo (.func 68) [] []), (8, .ptr 2 1 0 0), (53, .sl 1 1 0 m), (54, .raw (.int .i64 (m : Nat))), (55, .raw (.int .i64 (i.1 : Nat)))], H := matH 1 7 33 41 w (pvI M n c i.1) B1, n := rid 7 m, N := 87, m := 1 }) (fun i => m - i.1) ⟨0, Nat.zero_le _⟩ (Wk.lowS (rid 7 m) rfl rfl rfl (by unfold rid; omega) ?_ (closed_mat (by unfold rid; omega) (by rw [len]; unfold rid; omega) B1c) (fun k hk => rfl)) ?_
  · simp only [go_sem, hr]
    trace_state
  rintro ⟨i, hi⟩
  refine AWp.seq (vc_ok T _ _ _ ?_)
  by_cases hin : i < m
  · have d1 : (i : Int) < (m : Int) := by omega
    have d2 : 0 ≤ (i : Int) := by omega
    have d4 : (i : Int) + 1 = ((i + 1 : Nat) : Int) := by omega
    simp only [go_sem, d1]
    refine AWp.seq (vc_ok T _ _ _ ?_)
    simp only [go_sem]
    refine AWp.seq (AWp.block (AWp.seq (vc_ok T _ _ _ ?_)))
    simp only [go_sem, matH_o, len, hin, d2, rid_nn, rid_nl, rid_rn, rid_nr, rid_rl, rid_lr]
    obtain ⟨ri, eri⟩ : ∃ l, (pvI M n c i).getD i [] = l := ⟨_, rfl⟩
    have lri : ri.length = w := by rw [← eri]; exact pvt_wid hW (by omega) i (by rw [len]; exact hin)
    have hrow := matH_row (o := 1) (b := 7) (tO := 33) (t := 41) (w := w) (M := pvI M n c i) (H := B1) (i := i) (by decide) (by rw [len]; exact hin)
    rw [eri] at hrow
    obtain ⟨f, ef⟩ : ∃ f, cf ri c = f := ⟨_, rfl⟩
    have hcr : c < ri.length := by omega
    refine ⟨by omega, AWp.seq (vc_ok T _ _ _ ?_)⟩
    simp only [go_sem, matH_lo, rid_nn, rid_nl, rid_rn, rid_nr, rid_rl, rid_lr, Nat.left_eq_add, Nat.add_eq_left, hin, c2, hrow, hcr, ef]
    refine ⟨by omega, AWp.seq (vc_ok T _ _ _ ?_)⟩
    by_cases hne : i = n
    · subst hne
      have d3 : ((i : Int) != (i : Int)) = false := by simp
      simp only [go_sem, matH_lo, rid_nn, rid_nl, rid_rn, rid_nr, rid_rl, rid_lr, Nat.left_eq_add, Nat.add_eq_left, d3]
      refine AWp.cond (t := false) rfl ⟨fun h => (by cases h), fun _ => vc_ok T _ _ _ ?_⟩
      simp only [go_sem]
      refine vc_ok T _ _ _ ?_
      simp only [go_sem, d4]
      refine ⟨⟨by omega, by omega⟩, ⟨i + 1, hin⟩, Wk.lowS (rid 7 m) rfl rfl rfl (by unfold rid; omega) ?_ (closed_mat (by unfold rid; omega) (by rw [len]; unfold rid; omega) B1c) (fun k hk => ?_), by simp only; omega⟩
      · simp only [go_sem, hr]
      · simp only [up_far hk, up_far0 hk]
        rw [pvI_self]
    · have d3 : ((i : Int) != (n : Int)) = true := by simp; omega
      have eri2 : M.getD i [] = ri := by rw [← eri, pvI_get (by omega), if_neg hne, if_neg (by omega)]
      have ef2 : ent M i c = f := by show cf (M.getD i []) c = f; rw [eri2, ef]
      by_cases hf0 : f = 0
      · have d5 : (sgI f.num != 0) = false := by rw [sgI_z, hf0]; rfl
        simp only [go_sem, matH_lo, rid_nn, rid_nl, rid_rn, rid_nr, rid_rl, rid_lr, Nat.left_eq_add, Nat.add_eq_left, d3, d5]
        refine AWp.cond (t := false) rfl ⟨fun h => (by cases h), fun _ => vc_ok T _ _ _ ?_⟩
        simp only [go_sem]
        refine vc_ok T _ _ _ ?_
        simp only [go_sem, d4]
        refine ⟨⟨by omega, by omega⟩, ⟨i + 1, hin⟩, Wk.lowS (rid 7 m) rfl rfl rfl (by unfold rid; omega) ?_ (closed_mat (by unfold rid; omega) (by rw [len]; unfold rid; omega) B1c) (fun k hk => ?_), by simp only; omega⟩
        · simp only [go_sem, hr]
        · simp only [up_far hk, up_far0 hk]
          rw [pvI_skip (by omega) (by rw [ef2]; exact hf0)]
      · have d5 : (sgI f.num != 0) = true := by rw [sgI_z]; simp [hf0]
        simp only [go_sem, matH_lo, rid_nn, rid_nl, rid_rn, rid_nr, rid_rl, rid_lr, Nat.left_eq_add, Nat.add_eq_left, d3, d5]
        refine AWp.cond (t := true) rfl ⟨fun _ => AWp.regs ?_, fun h => by cases h⟩
        refine RegI.cut T 0 3 rfl rfl (by decide) ?_
        simp only [go_sem, matH_lo, rid_nn, rid_nl, rid_rn, rid_nr, rid_rl, rid_lr, Nat.left_eq_add, Nat.add_eq_left]
        obtain ⟨B2, eB2⟩ : ∃ B2, (B1.up (rid 7 m + 4) (some ⟨33, 1, [.sl (rid 7 i) 4 0 w]⟩)).up (rid 7 m + 11) (some ⟨41, 4, [.Q f]⟩) = B2 := ⟨_, rfl⟩
        have eH2 : ((((matH 1 7 33 41 w (pvI M n c i) B1).up (rid 7 m + 4) (some ⟨33, 1, [.raw (.slice none 0 0)]⟩)).up (rid 7 m + 4) (some ⟨33, 1, [.sl (rid 7 i) 4 0 w]⟩)).up (rid 7 m + 11) (some ⟨41, 4, [.agg [.raw (.bool false), .raw (.slice none 0 0), .raw (.bool false), .raw (.slice none 0 0)]]⟩)).up (rid 7 m + 11) (some ⟨41, 4, [.Q f]⟩) = matH 1 7 33 41 w (pvI M n c i) B2 := by
          rw [up_up, up_up, matH_out (by unfold rid; omega) (by rw [len]; unfold rid; omega), matH_out (by unfold rid; omega) (by rw [len]; unfold rid; omega), eB2]
        have hrg : ∀ k, k < rid 7 m + 24 → (List.range (rid 7 m + 24))[k]? = some k := fun k hk => List.getElem?_range hk
        have ri24 : rid 7 i < rid 7 m + 24 := by have := r7 i hin; omega
        have s24 : ∀ k, k < 7 → k < rid 7 m + 24 := fun k hk => by unfold rid; omega
        have B2c : ClosedH (rid 7 m + 24) B2 := by
          rw [← eB2]
          refine closed_up (closed_up (closed_mono B1c (by omega)) (by omega) (.of ⟨rfl, fun j x y hx hy => ?_⟩)) (by omega) (.of (renL_refl (pQ _)))
          cases j with
          | succ j => simp at hx
          | zero =>
            simp only [List.getElem?_cons_zero, Option.some.injEq] at hx hy
            subst hx hy
            exact ⟨⟨hrg _ ri24, rfl, rfl, rfl⟩, rfl, fun h => by cases h⟩
        have B2lo : ∀ k, k < 7 → B2 k = B1 k := fun k hk => by
          rw [← eB2, up_far (n := rid 7 m) (by unfold rid; omega), up_far (n := rid 7 m) (by unfold rid; omega)]
        have B2q : B2 (rid 7 m + 4) = some ⟨33, 1, [.sl (rid 7 i) 4 0 w]⟩ := by
          rw [← eB2]
          unfold Hp.up
          rw [if_neg (by omega), if_pos rfl]
        have B2f : B2 (rid 7 m + 11) = some ⟨41, 4, [.Q f]⟩ := by
          rw [← eB2]
          unfold Hp.up
          rw [if_pos rfl]
        refine ⟨{ s := mkS [(0, .ptr 0 6 0 0), (1, .raw (.int .i64 (n : Nat))), (2, .raw (.int .i64 (c : Nat))), (7, .clo (.func 68) [] []), (8, .ptr 2 1 0 0), (53, .sl 1 1 0 m), (54, .raw (.int .i64 (m : Nat))), (55, .raw (.int .i64 (i : Nat))), (72, .clo (.func 68) [] []), (73, .sl (rid 7 i) 4 0 w), (74, .clo (.func 70) [] [.ptr (rid 7 m + 4) 1 0 0, .ptr (rid 7 m + 11) 4 0 0, .ptr 2 1 0 0])], H := matH 1 7 33 41 w (pvI M n c i) B2, n := rid 7 m + 24, N := 87, m := 1 }, Wk.lowS (rid 7 m + 24) rfl rfl rfl (by omega) ?_ (closed_mat (by unfold rid; omega) (by rw [len]; unfold rid; omega) B2c) (fun k hk => congrFun eH2 k), ?_⟩
        · have x1 := hrg (rid 7 i) ri24
          have x2 := hrg (rid 7 m + 4) (by omega)
          have x3 := hrg (rid 7 m + 11) (by omega)
          have x4 := hrg 2 (s24 2 (by decide))
          have x5 := hrg 1 (s24 1 (by decide))
          have x6 := hrg 0 (s24 0 (by decide))
          generalize List.range (rid 7 m + 24) = θ at x1 x2 x3 x4 x5 x6 ⊢
          simp only [go_sem, x1, x2, x3, x4, x5, x6]
        obtain ⟨P, eP⟩ : ∃ P, pvR M n c = P := ⟨_, rfl⟩
        have lP : P.length = w := by rw [← eP]; unfold pvR; rw [rw1_len, eR]; exact lR
        have cP : ∀ k, cf P k = cf R k * (1 / y) := fun k => by
          rw [← eP]; unfold pvR
          rw [cf_rw1, eR, show ent M n c = y from by show cf (M.getD n []) c = y; rw [eR, ey]]
        have gP : (pvI M n c i).getD n [] = P := by rw [pvI_get (by omega), if_pos rfl, eP]
        have each2 : HCall Try.prog 68 [.sl (rid 7 i) 4 0 w, .clo (.func 70) [] [.ptr (rid 7 m + 4) 1 0 0, .ptr (rid 7 m + 11) 4 0 0, .ptr 2 1 0 0]] (matH 1 7 33 41 w (pvI M n c i) B2) (rid 7 m + 24) 4 .any (matH 1 7 33 41 w ((pvI M n c i).set i (mkr (fun k => cf ri k - f * cf P k) w)) B2) (rid 7 m + 24) := by
          refine each_H [rid 7 m + 4, rid 7 m + 11, 2] (by rw [len]; unfold rid; omega) (by decide) (by decide) B2c ?_ (by rw [len]; exact hin) (by rw [eri]; exact lri) hw ?_ rfl ?_ fun n' k hn' hk => ?_
          · intro k h1 h2
            rw [B2lo k (by omega)]
            have : k = 0 ∨ k = 2 ∨ k = 3 := by omega
            rcases this with rfl | rfl | rfl
            · rw [b0]; rfl
            · rw [b2]; rfl
            · rw [b3]; rfl
          · intro θ h
            exact ⟨⟨h _ (by simp), rfl, rfl, rfl⟩, ⟨h _ (by simp), rfl, rfl, rfl⟩, ⟨h 2 (by simp), rfl, rfl, rfl⟩, trivial⟩
          · intro k hk
            simp only [List.mem_cons, List.not_mem_nil, or_false] at hk
            rcases hk with rfl | rfl | rfl
            · exact ⟨by omega, ⟨by unfold rid; omega, by rw [len]; unfold rid; omega⟩, by rw [B2q]; rfl⟩
            · exact ⟨by omega, ⟨by unfold rid; omega, by rw [len]; unfold rid; omega⟩, by rw [B2f]; rfl⟩
            · exact ⟨s24 2 (by decide), ⟨by decide, by omega⟩, by rw [B2lo 2 (by decide), b2]; rfl⟩
          · rw [eri]
            obtain ⟨L, eL⟩ : ∃ L, mkr (fun j => if k + 1 ≤ j then cf ri j - f * cf P j else cf ri j) w = L := ⟨_, rfl⟩
            have lL : L.length = w := by rw [← eL, mkr_len]
            have cL : cf L k = cf ri k := by rw [← eL, cf_mkr, if_pos hk, if_neg (by omega)]
            have z1 : qs (cf ri k) ≤ S := by have := hS i k; rwa [show ent M i k = cf ri k from by show cf (M.getD i []) k = _; rw [eri2]] at this
            have z2 : qs f ≤ S := by rw [← ef2]; exact hS i c
            have z3 : qs (cf R k) ≤ S := by have := hS n k; rwa [show ent M n k = cf R k from by show cf (M.getD n []) k = _; rw [eR]] at this
            have z4 : qs (1 / y) ≤ 1 + S := Nat.le_trans (qs_div 1 y) (by have := qs_1; have := hS n c; rw [show ent M n c = y from by show cf (M.getD n []) c = y; rw [eR, ey]] at this; omega)
            have z5 : qs (cf P k) ≤ S + (1 + S) := by rw [cP]; exact Nat.le_trans (qs_mul _ _) (by omega)
            have z6 : qs (f * cf P k) ≤ S + (S + (1 + S)) := Nat.le_trans (qs_mul _ _) (by omega)
            have len2 : ((pvI M n c i).set i L).length = m := by rw [List.length_set, len]
            have hr1 := matH_row (o := 1) (b := 7) (tO := 33) (t := 41) (w := w) (M := (pvI M n c i).set i L) (H := B2) (i := i) (by decide) (by rw [len2]; exact hin)
            rw [gd_set (by rw [len]; exact hin), if_pos rfl] at hr1
            have hr2 := matH_row (o := 1) (b := 7) (tO := 33) (t := 41) (w := w) (M := (pvI M n c i).set i L) (H := B2) (i := n) (by decide) (by rw [len2]; exact hn)
            rw [gd_set (by rw [len]; exact hin), if_neg (fun e => hne e.symm), gP] at hr2
            have hcM : ClosedH (rid 7 m + 24) (matH 1 7 33 41 w ((pvI M n c i).set i L) B2) := closed_mat (by unfold rid; omega) (by rw [len2]; unfold rid; omega) B2c
            have far : ∀ k, k ≠ 1 → ¬ (7 ≤ k ∧ k < 7 + m) → matH 1 7 33 41 w ((pvI M n c i).set i L) B2 k = B2 k := fun k h1 h2 => by
              unfold matH
              rw [if_neg h1, if_neg (by rw [len2]; exact h2)]
            have := cl3_H (k := k) (closed_mono hcM hn') (kq := rid 7 m + 4) (kf := rid 7 m + 11) (kp := 2) (ks := rid 7 i) (kr := rid 7 n) (by rw [far _ (by unfold rid; omega) (by unfold rid; omega)]; exact B2q) (by rw [far _ (by unfold rid; omega) (by unfold rid; omega)]; exact B2f) (by rw [far 2 (by decide) (by omega), B2lo 2 (by decide)]; exact b2) hr1 hr2 lP lL hk (by omega) (by omega) (by have := s24 2 (by decide); omega) (by omega) (by have := r7 n hn; omega) (by rw [cL]; omega) (by omega) (by omega) (by omega)
            rw [cL] at this
            rw [eL]
            exact this
        have eM2 : (pvI M n c i).set i (mkr (fun k => cf ri k - f * cf P k) w) = pvI M n c (i + 1) := by
          rw [pvI_succ c (by omega) hne, eri2, eP, ef2]
          unfold rw2
          rw [lri]
        rw [eM2] at each2
        refine RegI.callH (dst := some 75) 3 rfl rfl rfl rfl rfl rfl 4 (by show (1 : Nat) ≤ 4; decide) (liveTo_of fun k hk => by
          have hk : k < 1 := hk
          rw [show k = 0 by omega]
          show (matH 1 7 33 41 w (pvI M n c i) B2 0).isSome = true
          rw [matH_lo (by decide) (by decide), B2lo 0 (by decide), b0]; rfl) [(0, .ptr 0 6 0 0), (1, .raw (.int .i64 (n : Nat))), (2, .raw (.int .i64 (c : Nat))), (7, .clo (.func 68) [] []), (8, .ptr 2 1 0 0), (53, .sl 1 1 0 m), (54, .raw (.int .i64 (m : Nat))), (55, .raw (.int .i64 (i : Nat)))] ?_ rfl (by show (75 : Nat) < 87; decide) each2 ?_
        · have lv : ∀ k, k < 4 → k ≠ 1 → (lvT 4 (matH 1 7 33 41 w (pvI M n c i) B2) (rid 7 m + 24))[k]? = some k := fun k h1 h2 => by
            refine lvT_get h1 ?_
            rw [matH_lo h2 (by omega), B2lo k (by omega)]
            have : k = 0 ∨ k = 2 ∨ k = 3 := by omega
            rcases this with rfl | rfl | rfl
            · rw [b0]; rfl
            · rw [b2]; rfl
            · rw [b3]; rfl
          have lv1 : (lvT 4 (matH 1 7 33 41 w (pvI M n c i) B2) (rid 7 m + 24))[1]? = some 1 := lvT_get (by decide) (by rw [matH_o]; rfl)
          generalize lvT 4 (matH 1 7 33 41 w (pvI M n c i) B2) (rid 7 m + 24) = θ at lv lv1 ⊢
          simp only [go_sem, lv, lv1]
        refine RegI.fin T 4 rfl ?_
        simp only [go_sem]
        refine vc_ok T _ _ _ ?_
        simp only [go_sem, d4]
        refine ⟨⟨by omega, by omega⟩, ⟨i + 1, hin⟩, Wk.lowS (rid 7 m) rfl rfl rfl (by unfold rid; omega) ?_ (closed_mat (by unfold rid; omega) (by rw [len]; unfold rid; omega) B1c) (fun k hk => ?_), by simp only; omega⟩
        · simp only [go_sem, hr]
        · show matH 1 7 33 41 w (pvI M n c (i + 1)) B2 k = matH 1 7 33 41 w (pvI M n c (i + 1)) B1 k
          unfold matH
          rw [← eB2, up_far hk, up_far hk]
  · obtain rfl : m = i := by omega
    have d1 : ¬ (m : Int) < (m : Int) := by omega
    have mx : maxLen = 9223372036854775807 := by decide
    have ey2 : ent M n c = y := by show cf (M.getD n []) c = y; rw [eR, ey]
    have hne : ps ++ [c] ≠ [] := by simp
    have epv : pvt M n c = pvI M n c m := by unfold pvt; rw [em]
    have fin : ∀ σ : St, (87 = σ.N ∧ σ.m = 1 ∧ σ.q = false) → σ.H 0 = some ⟨75, 6, [.agg [.sl 1 1 0 m, .sl (rid 7 m + 8) 1 0 (ps.length + 1), .Q (d * y)]]⟩ → σ.H (rid 7 m + 8) = some ⟨3, 1, V.nats (ps ++ [c])⟩ → σ.H 1 = some ⟨33, 1, V.rwI 7 w m⟩ → (∀ i, i < m → σ.H (rid 7 i) = some ⟨41, 4, V.rats ((pvI M n c m).getD i [])⟩) →
        Wk σ { s := fun _ => .any, H := matH 1 3 33 41 w (pvt M n c) (syH 2 (ps ++ [c]) m (d * ent M n c)), n := rid 3 m, N := σ.N, m := 1 } := fun σ k0 k1 k2 k3 k4 => by
      have hw := Wk.ofRB (σ := σ) (ss := []) (hs := []) (base := syH 2 (ps ++ [c]) m (d * y)) (M := pvI M n c m) (N := 87) (tO := 33) (t := 41) (w := w) (o := 1) (b := 3) 1 [0, 1, rid 7 m + 8] (rid 7) rfl (by decide) (fun k hk => by rw [show k = 0 by omega]; rfl) (thR_nodup (by simp [rid]) (fun a b ha hb e => by unfold rid at e; omega) (fun x hx i hi => by rw [len] at hi; simp [rid] at hx ⊢; omega)) k0 trivial trivial (syH_ren (k := 2) (k0 := rid 7 m + 8) rfl rfl (fun _ => ⟨rfl, by rw [k2]; unfold pBk; rw [if_neg hne]⟩) (by rw [k1]; unfold syO pFk; rw [if_neg hne, List.length_append]; rfl)) (by rw [len]; exact k3) (fun i hi => k4 i (by rw [len] at hi; exact hi))
      unfold mkRB at hw
      rw [len] at hw
      rw [epv, ey2, ← k0.1]
      exact hw
    have hrw := fun i (hi : i < m) => matH_row (o := 1) (b := 7) (tO := 33) (t := 41) (w := w) (M := pvI M n c m) (H := B1) (i := i) (by decide) (by rw [len]; exact hi)
    simp only [go_sem, d1]
    refine vc_ok T _ _ _ ?_
    by_cases hps : ps = []
    · have e6 : pF6 = .raw (.slice none 0 0) := by rw [← epF6, hps]; rfl
      rw [e6] at b0'
      simp only [go_sem, matH_lo, b0', mx]
      refine fin _ ⟨rfl, rfl, rfl⟩ ?_ ?_ ?_ fun i hi => ?_
      · simp only [go_sem, rid_nn, rid_nl, hps]
      · simp only [go_sem, rid_nn, rid_nl, hps]
        rfl
      · simp only [go_sem, rid_nn, rid_nl, matH_o, len]
      · simp only [go_sem, rid_rn, rid_rl, hi, hrw]
    · have e6 : pF6 = .sl 6 1 0 ps.length := by rw [← epF6]; exact if_neg hps
      have b6' : B1 6 = some ⟨3, 1, V.nats ps⟩ := by rw [b6]; exact if_neg hps
      have ln : (V.nats ps).length = ps.length := by simp [V.nats]
      have tk : (V.nats ps).take ps.length ++ [.raw (.int .i64 (c : Nat))] = V.nats (ps ++ [c]) := by rw [List.take_of_length_le (by omega)]; simp [V.nats]
      rw [e6] at b0'
      simp only [go_sem, matH_lo, b0', b6', mx, ln]
      refine ⟨⟨by omega, by omega⟩, fin _ ⟨rfl, rfl, rfl⟩ ?_ ?_ ?_ fun i hi => ?_⟩
      · simp only [go_sem, rid_nn, rid_nl]
      · simp only [go_sem, rid_nn, rid_nl, tk]
      · simp only [go_sem, rid_nn, rid_nl, matH_o, len]
      · simp only [go_sem, rid_rn, rid_rl, hi, hrw]
end Go.Proofs.Ytjjebokgckmnjaa

