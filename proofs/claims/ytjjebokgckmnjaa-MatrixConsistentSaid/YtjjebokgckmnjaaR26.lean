/- Texts MXS MC1 MC2 in one. -/
import Derived.Test.YtjjebokgckmnjaaR25
import Derived.Test.YtjjebokgckmnjaaR21
import Derived.Test.YtjjebokgckmnjaaR24
/- Sizes along the elimination. No program in sight. -/
namespace Go.Proofs.Ytjjebokgckmnjaa
set_option linter.unusedSimpArgs false
set_option linter.unusedVariables false
open Go.RowKit

def sS (S : Nat) : Nat → Nat
  | 0 => S
  | k + 1 => 4 * sS S k + 2
def dS (S : Nat) : Nat → Nat
  | 0 => 1
  | k + 1 => dS S k + sS S k
theorem sS_mono (S : Nat) {j : Nat} : ∀ {k}, j ≤ k → sS S j ≤ sS S k
  | 0, h => by rw [show j = 0 from by omega]; exact Nat.le_refl _
  | k + 1, h => by
    by_cases e : j = k + 1
    · rw [e]; exact Nat.le_refl _
    · have := sS_mono S (j := j) (k := k) (by omega)
      rw [sS]; omega
theorem dS_mono (S : Nat) {j : Nat} : ∀ {k}, j ≤ k → dS S j ≤ dS S k
  | 0, h => by rw [show j = 0 from by omega]; exact Nat.le_refl _
  | k + 1, h => by
    by_cases e : j = k + 1
    · rw [e]; exact Nat.le_refl _
    · have := dS_mono S (j := j) (k := k) (by omega)
      rw [dS]; omega
theorem pvt_sz {M : List (List Rat)} {n c w S : Nat} (hW : Wid w M) (hn : n < M.length) (hS : ∀ i k, qs (ent M i k) ≤ S) (i k : Nat) : qs (ent (pvt M n c) i k) ≤ 4 * S + 2 := by
  have h1 := qs_pos (ent M n c)
  have h2 := hS n c
  by_cases hi : i < M.length
  · rw [ent_pvt hW hn hi]
    have a1 := hS n k
    have a2 := Nat.le_trans (qs_div 1 (ent M n c)) (Nat.add_le_add qs_1 (hS n c))
    have a3 := qs_mul (ent M n k) (1 / ent M n c)
    split
    · omega
    · have a4 := qs_mul (ent M i c) (ent M n k * (1 / ent M n c))
      have a5 := hS i c
      have a6 := hS i k
      have a7 := qs_sub (ent M i k) (ent M i c * (ent M n k * (1 / ent M n c)))
      omega
  · rw [ent_ge (by rw [pvt_len]; omega)]
    have := qs_0
    omega
theorem swM_sz {M : List (List Rat)} {a b S : Nat} (ha : a < M.length) (hb : b < M.length) (hS : ∀ i k, qs (ent M i k) ≤ S) (i k : Nat) : qs (ent (swM M a b) i k) ≤ S := by
  rw [ent_swM ha hb]
  split
  · exact hS _ _
  · split <;> exact hS _ _
theorem elm_sz {M : List (List Rat)} {w S : Nat} (hW : Wid w M) (hS : ∀ i k, qs (ent M i k) ≤ S) : ∀ c, (∀ i k, qs (ent (elm M c).M i k) ≤ sS S c) ∧ qs (elm M c).d ≤ dS S c
  | 0 => ⟨hS, qs_1⟩
  | c + 1 => by
    obtain ⟨h1, h2⟩ := elm_sz hW hS c
    have hE := elm_EI hW c
    have e : elm M (c + 1) = stp (elm M c) c := rfl
    rw [e]
    unfold stp
    split
    · refine ⟨fun i k => Nat.le_trans (h1 i k) (sS_mono S (by omega)), Nat.le_trans h2 (dS_mono S (by omega))⟩
    · rename_i a ha
      obtain ⟨g1, g2⟩ := srF_some ha
      have hn : (elm M c).p.length < (elm M c).M.length := by omega
      refine ⟨fun i k => ?_, ?_⟩
      · exact pvt_sz (swM_wid hE.wid hn g1.2) (by rw [swM_len]; exact hn) (swM_sz hn g1.2 h1) i k
      · show qs ((if a = (elm M c).p.length then (elm M c).d else -(elm M c).d) * ent (elm M c).M a c) ≤ dS S c + sS S c
        have b1 := qs_mul (if a = (elm M c).p.length then (elm M c).d else -(elm M c).d) (ent (elm M c).M a c)
        have b2 := h1 a c
        have b3 : qs (if a = (elm M c).p.length then (elm M c).d else -(elm M c).d) ≤ dS S c := by
          split
          · exact h2
          · rw [qs_neg]; exact h2
        omega
end Go.Proofs.Ytjjebokgckmnjaa


/- Contracts: the closures of the elimination. -/
namespace Go.Proofs.Ytjjebokgckmnjaa
set_option linter.unusedSimpArgs false
set_option linter.unusedVariables false
open Go.RowKit

theorem up_far {H : Hp} {n k : Nat} (h : k < n) (c : Nat) (x : Option Blk) : (H.up (n + c) x) k = H k := by
  unfold Hp.up
  rw [if_neg (by omega)]
theorem up_far0 {H : Hp} {n k : Nat} (h : k < n) (x : Option Blk) : (H.up n x) k = H k := up_far h 0 x
theorem cl2_H {H : Hp} {n0 k kp ki kr w : Nat} {R : List Rat} {y : Rat} (hc : ClosedH n0 H) (hp : H kp = some ⟨33, 1, [.sl kr 4 0 w]⟩) (hi : H ki = some ⟨41, 4, [.Q y]⟩) (hr : H kr = some ⟨41, 4, V.rats R⟩) (hw : R.length = w) (hk : k < w)
    (l1 : kp < n0) (l2 : ki < n0) (l3 : kr < n0) (q1 : qs (cf R k) ≤ 5000000000000) (q2 : qs y ≤ 5000000000000) :
    HCall Try.prog 69 [.raw (.int .i64 (k : Nat)), .ptr kp 1 0 0, .ptr ki 4 0 0] H n0 n0 (.Q (cf R k * y)) H n0 := by
  have T := (tabs mixed (tbl_cons qMul_C tbl_nil))
  refine HCall.of Try.func69 rfl (by kernel_rfl) Try.ntmps69 Try.results69 (by simp) ?_
  refine vc_ok T _ _ _ ?_
  have e1 : (kp = n0) = False := eq_false (by omega)
  have e2 : (ki = n0) = False := eq_false (by omega)
  have e3 : (kr = n0) = False := eq_false (by omega)
  have c3 : 0 ≤ (k : Int) := by omega
  subst hw
  simp only [go_sem, hp, hi, hr, e1, e2, e3, c3, hk, q1, q2]
  have hs := wkS_ren (θ := List.range n0) (s := upS (fun _ => .any) 0 (.Q (cf R k * y))) [(0, .Q (cf R k * y))] (by simp only [go_sem])
  refine ⟨by omega, chk_map (rnn n0) (by simp only [List.map_cons, List.map_nil, mapF, rnn_lo l1, rnn_lo l2, rnn_lo l3, rnn_n]; rfl), Wk.low n0 rfl rfl rfl (Nat.le_refl _) rfl ?_ hs.2 hc fun j hj => ?_⟩
  · exact (wkS_ren [(0, .Q (cf R k * y))] (by simp only [go_sem])).1
  · simp only [up_far0 hj]
/-- A row less a multiple of another. -/
theorem cl3_H {H : Hp} {n0 k kq kf kp ks kr w : Nat} {R S : List Rat} {f : Rat} (hc : ClosedH n0 H) (hq : H kq = some ⟨33, 1, [.sl ks 4 0 w]⟩) (hf : H kf = some ⟨41, 4, [.Q f]⟩) (hp : H kp = some ⟨33, 1, [.sl kr 4 0 w]⟩)
    (hs : H ks = some ⟨41, 4, V.rats S⟩) (hr : H kr = some ⟨41, 4, V.rats R⟩) (hw : R.length = w) (hw2 : S.length = w) (hk : k < w)
    (l1 : kq < n0) (l2 : kf < n0) (l3 : kp < n0) (l4 : ks < n0) (l5 : kr < n0) (q1 : qs (cf S k) ≤ 5000000000000) (q2 : qs f ≤ 5000000000000) (q3 : qs (cf R k) ≤ 5000000000000) (q4 : qs (f * cf R k) ≤ 5000000000000) :
    HCall Try.prog 70 [.raw (.int .i64 (k : Nat)), .ptr kq 1 0 0, .ptr kf 4 0 0, .ptr kp 1 0 0] H n0 n0 (.Q (cf S k - f * cf R k)) H n0 := by
  have T := (tabs mixed (tbl_cons qMul_C (tbl_cons qSub_C tbl_nil)))
  refine HCall.of Try.func70 rfl (by kernel_rfl) Try.ntmps70 Try.results70 (by simp) ?_
  refine vc_ok T _ _ _ ?_
  have e1 : (kq = n0) = False := eq_false (by omega)
  have e2 : (kf = n0) = False := eq_false (by omega)
  have e3 : (kp = n0) = False := eq_false (by omega)
  have e4 : (ks = n0) = False := eq_false (by omega)
  have e5 : (kr = n0) = False := eq_false (by omega)
  have c3 : 0 ≤ (k : Int) := by omega
  subst hw
  have hkS : k < S.length := by omega
  simp only [go_sem, hq, hf, hp, hs, hr, e1, e2, e3, e4, e5, c3, hk, hkS, hw2, q1, q2, q3, q4]
  have hv := wkS_ren (θ := List.range n0) (s := upS (fun _ => .any) 0 (.Q (cf S k - f * cf R k))) [(0, .Q (cf S k - f * cf R k))] (by simp only [go_sem])
  refine ⟨by omega, by omega, chk_map (rnn n0) (by simp only [List.map_cons, List.map_nil, mapF, rnn_lo l1, rnn_lo l2, rnn_lo l3, rnn_lo l4, rnn_lo l5, rnn_n]; rfl), Wk.low n0 rfl rfl rfl (Nat.le_refl _) rfl ?_ hv.2 hc fun j hj => ?_⟩
  · exact (wkS_ren [(0, .Q (cf S k - f * cf R k))] (by simp only [go_sem])).1
  · simp only [up_far0 hj]
end Go.Proofs.Ytjjebokgckmnjaa


/- Contracts: a row is set element by element. -/
namespace Go.Proofs.Ytjjebokgckmnjaa
set_option linter.unusedSimpArgs false
set_option linter.unusedVariables false
open Go.RowKit

theorem each_H {o b m i w n0 : Nat} {base : Hp} {M : List (List Rat)} {F : Nat → Rat} {g : FuncId} {caps : List V} (ids : List Nat) (hn0 : b + M.length ≤ n0) (ho : o < b) (hmb : m ≤ b) (hbase : ClosedH n0 base) (hlive : ∀ k, k < m → k ≠ o → (base k).isSome = true) (hi : i < M.length) (hR : (M.getD i []).length = w) (hw : w ≤ 1000000)
    (hcap : ∀ θ : List Nat, (∀ k ∈ ids, θ[k]? = some k) → RenCs θ caps caps) (hnt : caps.all V.noTup = true) (hids : ∀ k ∈ ids, k < n0 ∧ (k ≠ o ∧ ¬ (b ≤ k ∧ k < b + M.length)) ∧ (base k).isSome = true)
    (hcl : ∀ n k, n0 ≤ n → k < w → HCall Try.prog g (.raw (.int .i64 (k : Nat)) :: caps) (matH o b 33 41 w (M.set i (mkr (fun j => if k + 1 ≤ j then F j else cf (M.getD i []) j) w)) base) n n (.Q (F k)) (matH o b 33 41 w (M.set i (mkr (fun j => if k + 1 ≤ j then F j else cf (M.getD i []) j) w)) base) n) :
    HCall Try.prog 68 [.sl (rid b i) 4 0 w, .clo (.func g) [] caps] (matH o b 33 41 w M base) n0 m .any (matH o b 33 41 w (M.set i (mkr F w)) base) n0 := by
  have T := (tabs mixed tbl_nil)
  refine HCall.of Try.func68 rfl (by kernel_rfl) Try.ntmps68 Try.results68 (by simp) ?_
  refine vc_ok T _ _ _ ?_
  obtain ⟨R, eR⟩ : ∃ R, M.getD i [] = R := ⟨_, rfl⟩
  rw [eR] at hR hcl
  have len : ∀ l, (M.set i l).length = M.length := fun l => List.length_set
  have hcM : ∀ l, ClosedH n0 (matH o b 33 41 w (M.set i l) base) := fun l => closed_mat (by omega) (by rw [len]; omega) hbase
  have st0 : mkr (fun j => if w ≤ j then F j else cf R j) w = R := mkr_eq hR fun k hk => if_neg (by omega)
  have stE : mkr (fun j => if 0 ≤ j then F j else cf R j) w = mkr F w := mkr_congr fun k hk => if_pos (Nat.zero_le _)
  have hset : M.set i R = M := m_ext (len R) fun j hj => by
    rw [gd_set hi]
    split
    · rename_i e; rw [e, eR]
    · rfl
  have kn : ∀ k ∈ ids, k < n0 := fun k hk => (hids k hk).1
  have ri : rid b i < n0 := by unfold rid; omega
  have rcap : RenV (List.range n0) (.clo (.func g) [] caps) (.clo (.func g) [] caps) := ⟨rfl, trivial, hcap _ fun k hk => List.getElem?_range (kn k hk)⟩
  have rsl : ∀ θ : List Nat, θ[rid b i]? = some (rid b i) → RenV θ (.sl (rid b i) 4 0 w) (.sl (rid b i) 4 0 w) := fun θ h => ⟨h, rfl, rfl, rfl⟩
  simp only [go_sem]
  refine ⟨by omega, ?_⟩
  refine AWp.loops (X := { c : Nat // c ≤ w }) (fun c => { s := mkS [(0, .sl (rid b i) 4 0 w), (1, .clo (.func g) [] caps), (4, .raw (.int .i64 ((c.1 : Int) - 1)))], H := matH o b 33 41 w (M.set i (mkr (fun j => if c.1 ≤ j then F j else cf R j) w)) base, n := n0, N := 18, m := m }) (fun c => c.1) ⟨w, Nat.le_refl _⟩ ?_ ?_
  · have hs := wkS_ren (θ := List.range n0) [(0, V.sl (rid b i) 4 0 w), (1, .clo (.func g) [] caps), (4, .raw (.int .i64 ((w : Int) - 1)))] (s := mkS [(0, V.sl (rid b i) 4 0 w), (1, .clo (.func g) [] caps), (4, .raw (.int .i64 ((w : Int) - 1)))]) ⟨⟨rfl, rsl _ (List.getElem?_range ri)⟩, ⟨rfl, rcap⟩, ⟨rfl, renV_pure rfl⟩, trivial⟩
    refine Wk.low n0 rfl rfl rfl ?_ rfl ?_ hs.2 (hcM _) fun k hk => ?_
    · show m ≤ n0
      omega
    · refine (wkS_ren [(0, V.sl (rid b i) 4 0 w), (1, .clo (.func g) [] caps), (4, .raw (.int .i64 ((w : Int) - 1)))] ?_).1
      simp only [go_sem]
      exact ⟨List.getElem?_range ri, rcap.2.2⟩
    · show _ = matH o b _ _ w (M.set i (mkr (fun j => if w ≤ j then F j else cf R j) w)) base k
      rw [st0, hset]
  rintro ⟨c, hc⟩
  refine AWp.seq (vc_ok T _ _ _ ?_)
  rcases c with _ | c
  · have d1 : ¬ (0 : Int) ≤ ((0 : Nat) : Int) - 1 := by omega
    simp only [go_sem, d1, stE]
    refine Wk.low n0 rfl rfl rfl (by show m ≤ n0; omega) rfl (fun t => trivial) (fun t l h => by cases h) (hcM _) fun k hk => rfl
  · have d1 : (0 : Int) ≤ (c : Int) := by omega
    have d2 : ((c + 1 : Nat) : Int) - 1 = (c : Int) := by omega
    simp only [go_sem, d1, d2]
    refine AWp.seq (AWp.block (AWp.regs ?_))
    refine RegI.cut T 0 4 rfl rfl (by decide) ?_
    simp only [go_sem, d2]
    refine ⟨_, Wk.refl _, ?_⟩
    have lv : ∀ l k, k < b → (k ≠ o → (base k).isSome = true) → ((matH o b 33 41 w (M.set i l) base) k).isSome = true := fun l k hk h => by
      by_cases e : k = o
      · rw [e, matH_o]; rfl
      · rw [matH_lo e hk]; exact h e
    obtain ⟨L, eL⟩ : ∃ L, mkr (fun j => if c + 1 ≤ j then F j else cf R j) w = L := ⟨_, rfl⟩
    have lL : L.length = w := by rw [← eL, mkr_len]
    have hrow : matH o b 33 41 w (M.set i L) base (rid b i) = some ⟨41, 4, V.rats L⟩ := by
      have := matH_row (tO := 33) (t := 41) (w := w) (M := M.set i L) (H := base) (i := i) ho (by rw [len]; exact hi)
      rw [gd_set hi, if_pos rfl] at this
      exact this
    have nx : L.set c (F c) = mkr (fun j => if c ≤ j then F j else cf R j) w := by
      refine l_ext (by rw [List.length_set, lL, mkr_len]) fun k hk => ?_
      rw [List.length_set, lL] at hk
      rw [cf_setL (by omega), cf_mkr, if_pos hk, ← eL, cf_mkr, if_pos hk]
      by_cases e : k = c
      · rw [if_pos e, if_pos (by omega), e]
      · rw [if_neg e]
        by_cases e2 : c + 1 ≤ k
        · rw [if_pos e2, if_pos (by omega)]
        · rw [if_neg e2, if_neg (by omega)]
    rw [eL]
    refine RegI.callH (dst := some 16) 4 rfl rfl rfl rfl rfl hnt (n0 + 6) (by show m ≤ n0 + 6; omega) (liveTo_of fun k hk => lv L k (Nat.lt_of_lt_of_le hk hmb) (hlive k hk)) [(0, .sl (rid b i) 4 0 w), (1, .clo (.func g) [] caps), (4, .raw (.int .i64 (c : Nat))), (12, .sl (rid b i) 4 0 w), (13, .raw (.int .i64 (c : Nat)))] ?_ rfl (by show (16 : Nat) < 18; decide) (by have := hcl (n0 + 6) c (by omega) hc; rw [eL] at this; exact this) ?_
    · have r1 := lvT_get (m := n0 + 6) (H := matH o b 33 41 w (M.set i L) base) (n := n0 + 6) (show rid b i < n0 + 6 by omega) (by rw [hrow]; rfl)
      simp only [go_sem]
      refine ⟨r1, hcap _ fun k hk => ?_, r1⟩
      obtain ⟨k1, ⟨k2, k3⟩, k4⟩ := hids k hk
      refine lvT_get (by omega) ?_
      unfold matH
      rw [if_neg k2, if_neg (by rw [len]; exact k3)]
      exact k4
    refine RegI.fin T 5 rfl ?_
    have c0 : c < w := by omega
    have c2 : 0 ≤ (c : Int) := by omega
    have up5 : ∀ l, (matH o b 33 41 w (M.set i L) base).up (rid b i) (some ⟨41, 4, V.rats l⟩) = matH o b 33 41 w (M.set i l) base := fun l => by
      rw [matH_up ho (by rw [len]; exact hi), List.set_set]
    simp only [go_sem, hrow, c2, hc, lL, up5, nx]
    refine ⟨by omega, hc, vc_ok T _ _ _ ?_⟩
    simp only [go_sem]
    refine ⟨⟨by omega, by omega⟩, ⟨c, by omega⟩, Wk.low n0 rfl rfl rfl (by show m ≤ n0; omega) rfl ?_ (wkS_ren (θ := List.range n0) (s := mkS [(0, V.sl (rid b i) 4 0 w), (1, .clo (.func g) [] caps), (4, .raw (.int .i64 ((c : Int) - 1)))]) _ ?_).2 (hcM _) (fun k hk => rfl), by simp only; omega⟩
    · refine (wkS_ren [(0, V.sl (rid b i) 4 0 w), (1, .clo (.func g) [] caps), (4, .raw (.int .i64 ((c : Int) - 1)))] ?_).1
      simp only [go_sem]
      exact ⟨List.getElem?_range ri, rcap.2.2⟩
    · exact ⟨⟨rfl, rsl _ (List.getElem?_range ri)⟩, ⟨rfl, rcap⟩, ⟨rfl, renV_pure rfl⟩, trivial⟩
end Go.Proofs.Ytjjebokgckmnjaa

