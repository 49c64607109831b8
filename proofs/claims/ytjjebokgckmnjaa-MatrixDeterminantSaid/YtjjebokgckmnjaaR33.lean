/- Texts LM0 LMS MRS MC14 MC15 in one. -/
import Derived.Test.YtjjebokgckmnjaaR32
import Derived.Test.YtjjebokgckmnjaaR22
/- The laws of matrices: arguments. -/
namespace Go.Proofs.Ytjjebokgckmnjaa
set_option linter.unusedSimpArgs false
set_option linter.unusedVariables false
open Go.RowKit

theorem iz_of {l : List Int} (h : ∀ z ∈ l, (Lit.int .i16 z).wf = true) (i : Nat) : -32768 ≤ iz l i ∧ iz l i ≤ 32767 := by
  unfold iz
  rw [List.getD_eq_getElem?_getD]
  by_cases hi : i < l.length
  · rw [List.getElem?_eq_getElem hi]
    exact wf_i16 (h _ (List.getElem_mem hi))
  · rw [List.getElem?_eq_none (by omega)]
    exact ⟨by decide, by decide⟩
set_option maxRecDepth 20000 in
theorem fits_i16s {X : V} {n : Nat} (h : Fits Try.prog (n + 2) 22 X) : ∃ l : List Int, X = .lst (V.i16s l) ∧ l.length ≤ 9223372036854775807 ∧ ∀ i, -32768 ≤ iz l i ∧ iz l i ≤ 32767 := by
  have u1 : Try.prog.underlying 22 = some (.slice 69) := by kernel_rfl
  have u2 : Try.prog.underlying 69 = some (.int .i16) := by kernel_rfl
  obtain ⟨l, rfl, hl, hw⟩ := fits_ints u1 u2 h
  exact ⟨l, rfl, hl, iz_of hw⟩
set_option maxRecDepth 20000 in
theorem fits_raw5 {X : V} {n : Nat} (h : Fits Try.prog (n + 4) 24 X) : ∃ x : Raw5, X = x.v ∧ x.Ok := by
  have u3 : Try.prog.underlying 5 = some (.int .u8) := by kernel_rfl
  obtain ⟨l, rfl, hl⟩ := fits_struct Try.underlying24 h
  obtain ⟨x1, m, rfl, g1, hl⟩ := fitL_cons hl
  obtain ⟨x2, m, rfl, g2, hl⟩ := fitL_cons hl
  obtain ⟨x3, m, rfl, g3, hl⟩ := fitL_cons hl
  have := fitL_nil hl
  subst this
  obtain ⟨r, hr, rfl⟩ := fits_int u3 g1
  obtain ⟨c, hc, rfl⟩ := fits_int u3 g2
  obtain ⟨w, rfl, hw, hv⟩ := fits_i16s g3
  exact ⟨⟨r, c, w⟩, rfl, by have := wf_u8 hr; exact ⟨by simp only; omega, by simp only; omega⟩, by have := wf_u8 hc; exact ⟨by simp only; omega, by simp only; omega⟩, hv, hw⟩
theorem mdQ_sz {n d : Int} (h1 : -9 ≤ n ∧ n ≤ 9) (h2 : 1 ≤ d ∧ d ≤ 2) : qs (mdQ n d) ≤ 1 := by
  unfold mdQ
  refine Nat.le_trans (qs_divInt _ _) ?_
  have e1 : dl n.natAbs ≤ 1 := dl_le.2 (by simp only [Nat.pow_one]; omega)
  have e2 : dl (if d = 0 then (1 : Int) else d).natAbs ≤ 1 := dl_le.2 (by simp only [Nat.pow_one]; split <;> omega)
  omega
theorem rwQ_sz {v : Int} (h : -32768 ≤ v ∧ v ≤ 32767) : qs (rwQ v) ≤ 1 := by
  have := and1_ok (z := v / 256) (by omega) (by omega)
  exact mdQ_sz (tmod10 v) (by omega)
theorem xm_len (x : Raw5) (r c : Nat) : (x.m r c).length = r := mkm_len _ _
theorem xm_wid (x : Raw5) (r c : Nat) : Wid c (x.m r c) := fun i hi => by
  rw [xm_len] at hi
  unfold Raw5.m
  rw [gd_mkm, if_pos hi, mkr_len]
theorem xm_sz {x : Raw5} (h : x.Ok) (r c i k : Nat) : qs (ent (x.m r c) i k) ≤ 1 := by
  show qs (cf _ _) ≤ 1
  unfold Raw5.m
  rw [gd_mkm]
  split
  · rw [cf_mkr]
    split
    · exact rwQ_sz (h.v _)
    · exact qs_0
  · exact qs_0
theorem rows_lt (x : Raw5) : x.rows ≤ 4 := by unfold Raw5.rows; omega
theorem cols_lt (x : Raw5) : x.cols ≤ 5 := by unfold Raw5.cols; omega
theorem wdt_of {M : List (List Rat)} {w : Nat} (hW : Wid w M) : wdt M = if M.length = 0 then 0 else w := by
  unfold wdt
  split
  · rename_i h; rw [List.eq_nil_of_length_eq_zero h]; rfl
  · rename_i h; exact hW 0 (by omega)
/-- A matrix within the laws' sizes. -/
structure SmM (M : List (List Rat)) (w S : Nat) : Prop where
  l : M.length ≤ 10
  wid : Wid w M
  w : w ≤ 5
  sz : ∀ i k, qs (ent M i k) ≤ S
theorem SmM.red {M : List (List Rat)} {w S : Nat} (h : SmM M w S) (hS : S ≤ 20000000) : RedOk M (wdt M : Nat) := by
  have hw := h.w
  have e := wdt_of h.wid
  exact redOk_of (by have := h.l; omega) h.wid (by omega) (by rw [e]; split <;> omega) (by rw [e]; split <;> omega) h.sz hS
theorem xm_Sm {x : Raw5} (h : x.Ok) : SmM (x.m x.rows x.cols) x.cols 1 := ⟨by rw [xm_len]; have := rows_lt x; omega, xm_wid _ _ _, cols_lt x, xm_sz h _ _⟩
/-- What an argument gives. -/
theorem raw_gen {R C : Int} {W : List Int} (hx : (Raw5.mk R C W).Ok) : ∃ r c M, (Raw5.mk R C W).rows = r ∧ (Raw5.mk R C W).cols = c ∧ (Raw5.mk R C W).m r c = M ∧ SmM M c 1 ∧ M.length = r ∧ r ≤ 4 ∧ c ≤ 5 :=
  ⟨_, _, _, rfl, rfl, rfl, xm_Sm hx, xm_len _ _ _, rows_lt _, cols_lt _⟩
theorem SmM.tr {M : List (List Rat)} {w S : Nat} (h : SmM M w S) (h1 : 1 ≤ S) (hl : M.length ≤ 5) : SmM (trM M w) M.length S := ⟨by rw [trM_len]; have := h.w; omega, trM_wid M w, hl, fun i k => by
  by_cases hi : i < w
  · rw [ent_trM M hi]; exact h.sz k i
  · rw [ent_ge (by rw [trM_len]; omega)]; exact Nat.le_trans qs_0 h1⟩
end Go.Proofs.Ytjjebokgckmnjaa


/- Sizes within the laws of matrices. -/
namespace Go.Proofs.Ytjjebokgckmnjaa
set_option linter.unusedSimpArgs false
set_option linter.unusedVariables false
open Go.RowKit

theorem rre_sz {M : List (List Rat)} {w S : Nat} (h : SmM M w S) (i k : Nat) : qs (ent (rre M w) i k) ≤ sS S w := by
  have := (elm_sz h.wid h.sz w).1
  have sp : 1 ≤ sS S w := by
    have := this 0 0
    have := qs_pos (ent (elm M w).M 0 0)
    omega
  show qs (cf _ _) ≤ _
  unfold rre
  rw [gd_take]
  split
  · exact this i k
  · exact Nat.le_trans qs_0 sp
/-- What Null gives, for a matrix whose number of columns is told. -/
theorem nul_eq {M : List (List Rat)} {w : Nat} (hW : Wid w M) : nulP (elm M (wdt M)).p (rre M (wdt M)) w w = nulM (elm M w).p (rre M w) w ∧ (elm M (wdt M)).p = (elm M w).p ∧ rre M (wdt M) = rre M w := by
  have : (elm M (wdt M)).p = (elm M w).p ∧ rre M (wdt M) = rre M w := by
    rw [wdt_of hW]
    split
    · rename_i h
      rw [List.eq_nil_of_length_eq_zero h]
      unfold rre
      rw [elm_nil, elm_nil]
      exact ⟨rfl, rfl⟩
    · exact ⟨rfl, rfl⟩
  rw [this.1, this.2]
  exact ⟨rfl, rfl, rfl⟩
theorem SmM.nul {M : List (List Rat)} {w S : Nat} (h : SmM M w S) (hS : S ≤ 20000000) : NulOk M ((w : Nat) : Int) := by
  refine ⟨⟨h.red hS, by omega, by have := h.w; omega⟩, fun h0 => ?_⟩
  rw [wdt_of h.wid, if_neg fun e => h0 (List.eq_nil_of_length_eq_zero e)]
theorem SmM.row {M : List (List Rat)} {w S : Nat} (h : SmM M w S) (i : Nat) : (M.getD i []).length ≤ 5 := by
  by_cases hi : i < M.length
  · rw [h.wid i hi]; exact h.w
  · rw [gd_ge (by omega)]; simp
theorem wdW {M : List (List Rat)} {w : Nat} (hW : Wid w M) : Wid (wdt M) M := fun i hi => by
  rw [wdt_of hW, if_neg (by omega)]
  exact hW i hi
theorem SmM.to {M : List (List Rat)} {w S : Nat} (h : SmM M w S) : SmM M (wdt M) S := ⟨h.l, wdW h.wid, by rw [wdt_of h.wid]; have := h.w; split <;> omega, h.sz⟩
theorem sS5 {w : Nat} (h : w ≤ 5) : sS 1 w ≤ 2000 := Nat.le_trans (sS_mono 1 h) (by decide)
theorem SmM.mono {M : List (List Rat)} {w S S' : Nat} (h : SmM M w S) (hS : S ≤ S') : SmM M w S' := ⟨h.l, h.wid, h.w, fun i k => Nat.le_trans (h.sz i k) hS⟩
theorem dot_szS {a b : List Rat} {S : Nat} (ha : ∀ k, qs (cf a k) ≤ S) (hb : ∀ k, qs (cf b k) ≤ S) : ∀ n, qs (sm n fun i => cf a i * cf b i) ≤ 1 + n * (2 * S + 1)
  | 0 => by
    have := qs_0
    show qs 0 ≤ _
    omega
  | n + 1 => by
    have h1 := dot_szS ha hb n
    have h2 := qs_mul (cf a n) (cf b n)
    have h3 := ha n
    have h4 := hb n
    have h5 := qs_add (sm n fun i => cf a i * cf b i) (cf a n * cf b n)
    rw [sm, Nat.add_mul]
    omega
end Go.Proofs.Ytjjebokgckmnjaa


/- Rows of a matrix set and exchanged. -/
namespace Go.Proofs.Ytjjebokgckmnjaa
set_option linter.unusedSimpArgs false
set_option linter.unusedVariables false
open Go.RowKit

@[go_sem] theorem mat_set (Z : List (List Rat)) (i : Nat) (r : List Rat) : (V.mat Z).set i (.lst (V.rats r)) = V.mat (Z.set i r) := by
  unfold V.mat
  rw [List.map_set]
@[go_sem] theorem nats_take (l : List Nat) (n : Nat) : (V.nats l).take n = V.nats (l.take n) := by simp [V.nats]
theorem sw_eq {Z : List (List Rat)} {n a : Nat} (hn : n < Z.length) (ha : a < Z.length) : (Z.set n (Z.getD a [])).set a (Z.getD n []) = swM Z n a := by
  refine m_ext (by rw [swM_len]; simp) fun j hj => ?_
  rw [gd_set (by simp; exact ha), gd_set hn, swM_get hn ha]
  by_cases e1 : j = n
  · by_cases e2 : j = a
    · rw [if_pos e2, if_pos e1, ← e1, ← e2]
    · rw [if_neg e2, if_pos e1, if_pos e1]
  · by_cases e2 : j = a
    · rw [if_pos e2, if_neg e1, if_pos e2]
    · rw [if_neg e2, if_neg e1, if_neg e1, if_neg e2]
end Go.Proofs.Ytjjebokgckmnjaa


/- Contracts: copies of matrices that are written, and changes of rows. -/
namespace Go.Proofs.Ytjjebokgckmnjaa
set_option linter.unusedSimpArgs false
set_option linter.unusedVariables false
open Go.RowKit

theorem hbk_ren {θ : List Nat} {k : Nat} {x : Blk} {B : Blk} {H : Hp} (hB : allPure B.l) (h0 : θ[0]? = some 0) (hH : H 0 = some B) : (hbk 0 (some B)) k = some x → RenBE θ k x H := fun e => by
  unfold hbk at e
  split at e
  · rename_i hk
    subst hk
    injection e with e
    subst e
    exact ⟨0, B, h0, hH, rfl, rfl, RenLE.of (renL_pure hB)⟩
  · cases e
set_option maxRecDepth 8000 in
set_option maxHeartbeats 4000000 in
theorem copied_H {w : Nat} {M : List (List Rat)} {B : Blk} (hB : allPure B.l) (hl : M.length ≤ 1000) (hW : Wid w M) (hw : w ≤ 1000) : HCall Try.prog 49 [.lst (V.mat M)] (hbk 0 (some B)) 1 1 (.sl 1 1 0 M.length) (matH 1 2 33 41 w M (hbk 0 (some B))) (rid 2 M.length) := by
  have T := (tabs mixed tbl_nil)
  have mx : maxLen = 9223372036854775807 := by decide
  refine HCall.of Try.func49 rfl (by kernel_rfl) Try.ntmps49 Try.results49 (by simp) ?_
  refine vc_ok T _ _ _ ?_
  simp only [go_sem]
  have lt : ∀ i, i ≤ M.length → (M.take i).length = i := fun i hi => by rw [List.length_take]; omega
  have b0 : hbk 0 (some B) 0 = some B := if_pos rfl
  refine AWp.loops (X := { i : Nat // i ≤ M.length }) (fun i => mkRB 1 1 2 33 41 w [(0, .lst (V.mat M)), (2, .raw (.slice none 0 0)), (3, .sl 1 1 0 i.1), (4, .raw (.int .i64 (i.1 : Nat)))] [] (hbk 0 (some B)) (M.take i.1) 22) (fun i => M.length - i.1) ⟨0, Nat.zero_le _⟩ (Wk.ofRB 1 [0, 2] (fun _ => 0) rfl (by decide) (fun k hk => by rw [show k = 0 by omega]; rfl) (thR_nodup (by decide) (fun i j hi => by simp at hi) (fun x hx i hi => by simp at hi)) ?_ ?_ trivial (fun k x e => hbk_ren hB (by simp [thR]) ?_ e) ?_ ?_) ?_
  · simp only [go_sem]
  · simp only [go_sem, Int.natCast_zero]
    trace_state
  · simp only [go_sem, b0]
    trace_state
  · simp only [go_sem]
    exact rfl
  · intro i hi
    simp at hi
  rintro ⟨i, hi⟩
  refine vc_atRB T ?_
  rw [lt i hi]
  by_cases hin : i < M.length
  · have c1 : (i : Int) < (M.length : Int) := by omega
    have c2 : (i : Int) + 1 = ((i + 1 : Nat) : Int) := by omega
    have c3 : 0 ≤ (i : Int) := by omega
    obtain ⟨r, er⟩ : ∃ r, M.getD i [] = r := ⟨_, rfl⟩
    have lr : r.length = w := by rw [← er]; exact hW i hin
    have tr : r.take w = r := List.take_of_length_le (by omega)
    have ww : w ≤ w := Nat.le_refl _
    have tw : (V.rwI 2 w i).take i = V.rwI 2 w i := List.take_of_length_le (by rw [rwI_len]; exact Nat.le_refl _)
    simp only [go_sem, c1, c2, c3, hin, er, lr, tr, ww, tw, mx, lt i hi, Nat.min_self, rid_nn, rid_nl, rid_rn, rid_nr, rid_rl, rid_lr]
    have lt2 := lt (i + 1) hin
    have gI : ∀ j, j < i → (M.take (i + 1)).getD j [] = (M.take i).getD j [] := fun j hj => by rw [gd_take, gd_take, if_pos hj, if_pos (by omega)]
    have gN : (M.take (i + 1)).getD i [] = r := by rw [gd_take, if_pos (by omega), er]
    have rinj : ∀ a b, a < i + 1 → b < i + 1 → rhoS 2 i (rid 2 i + 10) a = rhoS 2 i (rid 2 i + 10) b → a = b := fun a b ha hb e => by
      unfold rhoS rid at e
      split at e <;> split at e <;> omega
    refine ⟨⟨by omega, by omega⟩, ⟨by omega, by omega⟩, ⟨by omega, by omega⟩, ⟨i + 1, hin⟩, Wk.ofRB 1 [0, rid 2 i + 12] (rhoS 2 i (rid 2 i + 10)) rfl (by decide) (fun k hk => by rw [show k = 0 by omega]; rfl) (thR_nodup (by simp [rid]) (fun a b ha hb => rinj a b (by rw [lt2] at ha; exact ha) (by rw [lt2] at hb; exact hb)) (fun x hx a ha => ?_)) ?_ ?_ trivial (fun k x e => hbk_ren hB (by simp [thR]) ?_ e) ?_ ?_, by simp only; omega⟩
    · rw [lt2] at ha
      unfold rhoS rid
      simp [rid] at hx
      split <;> omega
    · simp only [go_sem]
    · simp only [go_sem]
    · simp only [go_sem, rid_nn, rid_nl, matH_lo, b0]
    · simp only [go_sem, lt2, rwI_snoc, rid_nn, rid_nl, Nat.left_eq_add, Nat.add_eq_left]
    · intro j hj
      rw [lt2] at hj
      by_cases e : j < i
      · have er2 : rhoS 2 i (rid 2 i + 10) j = rid 2 j := if_pos e
        have hrow := matH_row (o := 1) (b := 2) (tO := 33) (t := 41) (w := w) (M := M.take i) (H := hbk 0 (some B)) (i := j) (by decide) (by rw [lt i hi]; exact e)
        rw [er2, gI j e]
        simp only [go_sem, rid_rn, rid_rl, e, hrow]
      · obtain rfl : j = i := by omega
        have er2 : rhoS 2 j (rid 2 j + 10) j = rid 2 j + 10 := if_neg (by omega)
        rw [er2, gN]
        simp only [go_sem, rid_nn, rid_nl, Nat.left_eq_add, Nat.add_eq_left]
  · obtain rfl : i = M.length := by omega
    have c1 : ¬ (M.length : Int) < (M.length : Int) := by omega
    have tM : M.take M.length = M := List.take_length
    simp only [go_sem, c1, tM]
    refine Wk.low (rid 2 M.length) rfl rfl rfl (by show 1 ≤ rid 2 M.length; unfold rid; omega) rfl (fun t => ?_) (fun t l => ?_) (closed_mat (by unfold rid; omega) (Nat.le_refl _) fun k x e => ?_) (fun k hk => rfl)
    · by_cases e : t = 0
      · subst e
        exact ⟨List.getElem?_range (by unfold rid; omega), rfl, rfl, rfl⟩
      · show RenV _ (upS (fun _ => .any) 0 _ t) _
        unfold upS
        rw [if_neg e]
        trivial
    · show upS (fun _ => .any) 0 _ t ≠ _
      unfold upS
      split <;> exact fun h => by cases h
    · unfold hbk at e
      split at e
      · rename_i hk
        injection e with e
        subst e
        exact ⟨by rw [hk]; unfold rid; omega, RenLE.of (renL_pure hB)⟩
      · cases e
end Go.Proofs.Ytjjebokgckmnjaa


/- Contracts: changes of rows. -/
namespace Go.Proofs.Ytjjebokgckmnjaa
set_option linter.unusedSimpArgs false
set_option linter.unusedVariables false
open Go.RowKit

structure Chg where
  T : Int
  I : Int
  K : Int
  Z : Int
def Chg.v (x : Chg) : V := .agg [.raw (.int .u8 x.T), .raw (.int .u8 x.I), .raw (.int .u8 x.K), .raw (.int .i8 x.Z)]
def pChg : Pat Chg where
  p
    | .agg [.raw (.int .u8 t), .raw (.int .u8 i), .raw (.int .u8 k), .raw (.int .i8 z)] => some (True, ⟨t, i, k, z⟩)
    | _ => none
  val := Chg.v
  ok x c a h hc := by
    split at h
    · injection h with h; injection h with h1 h2; subst h2; exact .refl _
    · cases h
@[go_sem ↓, go_sem] theorem ev_pChg {t i k z : Int} : pChg.p (.agg [.raw (.int .u8 t), .raw (.int .u8 i), .raw (.int .u8 k), .raw (.int .i8 z)]) = some (True, ⟨t, i, k, z⟩) := rfl
@[go_sem ↓, go_sem] theorem ev_pChg_mk {x : Chg} : pChg.val x = .agg [.raw (.int .u8 x.T), .raw (.int .u8 x.I), .raw (.int .u8 x.K), .raw (.int .i8 x.Z)] := rfl
structure Chg.Ok (x : Chg) : Prop where
  t : 0 ≤ x.T ∧ x.T ≤ 255
  i : 0 ≤ x.I ∧ x.I ≤ 255
  k : 0 ≤ x.K ∧ x.K ≤ 255
  z : -128 ≤ x.Z ∧ x.Z ≤ 127
def chV (M : List (List Rat)) (x : Chg) : List (List Rat) := if M.length = 0 then M else chM M (x.T % 4).toNat (x.I.toNat % M.length) (x.K.toNat % M.length) x.Z
def ChOk (M : List (List Rat)) (x : Chg) : Prop := x.Ok ∧ M.length ≤ 100 ∧ ∃ w, (Wid w M ∧ w ≤ 100) ∧ ∀ i k, qs (ent M i k) ≤ 1000000
def kChanged : Con := con2 pMt pChg fun M x => (ChOk M x, .lst (V.mat (chV M x)))
attribute [go_sem ↓, go_sem] kChanged
def chB (x : Chg) : Blk := ⟨55, 4, [.agg [.raw (.int .u8 x.T), .raw (.int .u8 x.I), .raw (.int .u8 x.K), .raw (.int .i8 x.Z)]]⟩
theorem chB_pure (x : Chg) : allPure (chB x).l := fun y hy => by
  have : y = _ := List.mem_singleton.1 hy
  subst this; rfl
/-- A row that is partly changed. -/
def ptR (F : Nat → Rat) (r : List Rat) (j w : Nat) : List Rat := mkr (fun l => if l < j then F l else cf r l) w
theorem ptR_len (F : Nat → Rat) (r : List Rat) (j w : Nat) : (ptR F r j w).length = w := mkr_len _ _
theorem ptR_zero (F : Nat → Rat) {r : List Rat} {w : Nat} (hr : r.length = w) : ptR F r 0 w = r := mkr_eq hr fun k _ => if_neg (Nat.not_lt_zero k)
theorem ptR_all (F : Nat → Rat) (r : List Rat) (w : Nat) : ptR F r w w = mkr F w := mkr_congr fun k hk => if_pos hk
theorem ptR_get (F : Nat → Rat) (r : List Rat) {j w : Nat} (hj : j < w) : cf (ptR F r j w) j = cf r j := by
  unfold ptR
  rw [cf_mkr, if_pos hj, if_neg (Nat.lt_irrefl j)]
theorem ptR_set (F : Nat → Rat) (r : List Rat) {j w : Nat} (hj : j < w) : (ptR F r j w).set j (F j) = ptR F r (j + 1) w := by
  refine l_ext (by rw [List.length_set, ptR_len, ptR_len]) fun k hk => ?_
  rw [List.length_set, ptR_len] at hk
  rw [cf_setL (by rw [ptR_len]; exact hj)]
  unfold ptR
  rw [cf_mkr, cf_mkr, if_pos hk, if_pos hk]
  by_cases e : k = j
  · rw [if_pos e, if_pos (by omega), e]
  · rw [if_neg e]
    by_cases h : k < j
    · rw [if_pos h, if_pos (by omega)]
    · rw [if_neg h, if_neg (by omega)]
theorem frzs_rwI {H : Hp} {t : TypeId} {w m b n : Nat} {M : List (List Rat)} {K : List V → List Nat → Prop} (hn : M.length = n) (hW : Wid w M) (h : ∀ j, j < n → H (rid b j) = some ⟨t, 4, V.rats (M.getD j [])⟩) : frzs (frzE (argN H (m + 1))) (V.rwI b w n) K = K (V.mat M) ((List.range n).map (rid b)) :=
  frzs_rwG1 hn fun j hj => ⟨h j (by omega), hW j hj⟩
set_option maxRecDepth 8000 in
set_option maxHeartbeats 4000000 in
theorem changed_C : Ctr Try.prog 25 kChanged := Ctr.c2 (by kernel_rfl) fun M x h => by
  obtain ⟨⟨hT, hI, hK, hZ⟩, hm, w, ⟨hW, hw⟩, hS⟩ := h
  obtain ⟨xT, xI, xK, xZ⟩ := x
  simp only at hT hI hK hZ
  have T := (tabs mixed (tbl_cons r2Whole_C (tbl_cons r2Mul_C (tbl_cons r2Add_C (tbl_cons r2Sub_C tbl_nil)))))
  have mx : maxLen = 9223372036854775807 := by decide
  obtain ⟨B, eB⟩ : ∃ B, chB ⟨xT, xI, xK, xZ⟩ = B := ⟨_, rfl⟩
  have hB : allPure B.l := by rw [← eB]; exact chB_pure _
  have b0 : hbk 0 (some B) 0 = some B := if_pos rfl
  have b1 : hbk 0 (some B) 0 = some ⟨55, 4, [.agg [.raw (.int .u8 xT), .raw (.int .u8 xI), .raw (.int .u8 xK), .raw (.int .i8 xZ)]]⟩ := by rw [b0, ← eB]; rfl
  show PCall _ _ [.lst (V.mat M), .agg [.raw (.int .u8 xT), .raw (.int .u8 xI), .raw (.int .u8 xK), .raw (.int .i8 xZ)]] (.lst (V.mat (chV M ⟨xT, xI, xK, xZ⟩)))
  refine PCall.of_awp Try.func25 rfl Try.ntmps25 Try.results25 (by simp) ?_
  refine AWp.seq (vc_ok T _ _ _ ?_)
  simp only [go_sem]
  refine AWp.from (Wk.ofB (ss := [(0, .lst (V.mat M)), (3, .ptr 0 4 0 0), (4, .raw (.slice none 0 0))]) (hs := []) (base := hbk 0 (some B)) (N := 155) 0 [0] (fun k hk => absurd hk (Nat.not_lt_zero _)) (by decide) ⟨rfl, rfl, rfl⟩ ?_ trivial (fun k x e => hbk_ren hB rfl ?_ e)) ?_
  · simp only [go_sem]
  · simp only [go_sem, ← eB, chB]
  refine AWp.seq (AWp.regs ?_)
  refine RegI.cut T 0 1 rfl rfl (by decide) ?_
  simp only [go_sem]
  refine ⟨_, Wk.ofB (ss := [(3, .ptr 0 4 0 0), (4, .raw (.slice none 0 0)), (13, .lst (V.mat M))]) (hs := []) (base := hbk 0 (some B)) (N := 155) 0 [0] (fun k hk => absurd hk (Nat.not_lt_zero _)) (by decide) ⟨rfl, rfl, rfl⟩ ?_ trivial (fun k x e => hbk_ren hB rfl ?_ e), ?_⟩
  · simp only [go_sem]
  · exact b0
  refine RegI.callH (dst := some 14) 1 rfl rfl rfl rfl rfl rfl 1 (Nat.zero_le _) trivial [(3, .ptr 0 4 0 0), (4, .raw (.slice none 0 0))] ?_ rfl (by show (14 : Nat) < 155; decide) (copied_H hB (by omega) hW (by omega)) ?_
  · have lv : (lvT 1 (hbk 0 (some B)) 1)[0]? = some 0 := lvT_get (by decide) (by rw [b0]; rfl)
    show wkS (lvT 1 (hbk 0 (some B)) 1) _ _
    generalize lvT 1 (hbk 0 (some B)) 1 = θ at lv ⊢
    simp only [go_sem, lv]
  refine RegI.fin T 2 rfl ?_
  obtain ⟨r, er⟩ : ∃ r, M.length = r := ⟨_, rfl⟩
  simp only [go_sem, er]
  refine vc_ok T _ _ _ ?_
  have rows : ∀ K : List V → List Nat → Prop, frzs (frzE (argN (matH 1 2 33 41 w M (hbk 0 (some B))) 2)) (V.rwI 2 w r) K = K (V.mat M) ((List.range r).map (rid 2)) := fun K =>
    frzs_rwG1 (m := 1) er fun j hj => ⟨matH_row (by decide) hj, hW j hj⟩
  have tk : (V.rwI 2 w r).take r = V.rwI 2 w r := List.take_of_length_le (by rw [rwI_len]; exact Nat.le_refl _)
  have rr : r ≤ r := Nat.le_refl _
  by_cases hr0 : r = 0
  · have d1 : ((r : Int) == 0) = true := by rw [hr0]; rfl
    have e0 : chV M ⟨xT, xI, xK, xZ⟩ = M := by unfold chV; rw [er, if_pos hr0]
    simp only [go_sem, d1, e0, er, tk, rr, rows]
  · have d1 : ((r : Int) == 0) = false := by rw [beq_eq_false_iff_ne]; omega
    obtain ⟨i, ei⟩ : ∃ i, xI.toNat % r = i := ⟨_, rfl⟩
    obtain ⟨k, ek⟩ : ∃ k, xK.toNat % r = k := ⟨_, rfl⟩
    obtain ⟨t, et⟩ : ∃ t, (xT % 4).toNat = t := ⟨_, rfl⟩
    have hi : i < r := by rw [← ei]; exact Nat.mod_lt _ (by omega)
    have hk : k < r := by rw [← ek]; exact Nat.mod_lt _ (by omega)
    have ht : t < 4 := by omega
    have e0 : chV M ⟨xT, xI, xK, xZ⟩ = chM M t i k xZ := by
      unfold chV
      rw [er, if_neg hr0, ei, ek, et]
    have w1 : IntKind.i64.wrap xI = xI := IntWalk.i64_in _ ⟨by omega, by omega⟩
    have w2 : IntKind.i64.wrap xK = xK := IntWalk.i64_in _ ⟨by omega, by omega⟩
    have w3 : IntKind.i64.wrap xZ = xZ := IntWalk.i64_in _ ⟨by omega, by omega⟩
    have t1 : xI.tmod (r : Int) = (i : Int) := by
      rw [Int.tmod_eq_emod_of_nonneg hI.1, ← ei, Int.natCast_emod, Int.toNat_of_nonneg hI.1]
    have t2 : xK.tmod (r : Int) = (k : Int) := by
      rw [Int.tmod_eq_emod_of_nonneg hK.1, ← ek, Int.natCast_emod, Int.toNat_of_nonneg hK.1]
    have t3 : xT % 4 = (t : Int) := by omega
    have r0 : ((r : Int) = 0) = False := eq_false (by omega)
    have zz : (-9223372036854775808 ≤ xZ ∧ xZ ≤ 9223372036854775807) = True := eq_true ⟨by omega, by omega⟩
    rw [e0]
    obtain ⟨z, ez⟩ : ∃ z : Rat, (xZ : Rat) = z := ⟨_, rfl⟩
    have q1 : (1 ≤ (r : Int)) = True := eq_true (by omega)
    have q2 : 0 ≤ (k : Int) := by omega
    have q3 : (k : Int) < (r : Int) := by omega
    have q4 : 0 ≤ (i : Int) := by omega
    have q5 : (i : Int) < (r : Int) := by omega
    have q6 : 0 ≤ xT := hT.1
    by_cases h0 : t = 0
    · have c0 : ((t : Int) == 0) = true := by rw [h0]; rfl
      have g1 : ((V.rwI 2 w r).set i (V.sl (rid 2 k) 4 0 w))[k]? = some (V.sl (rid 2 k) 4 0 w) := by
        by_cases e : i = k
        · rw [e, List.getElem?_set_self (by rw [rwI_len]; exact hk)]
        · rw [List.getElem?_set_ne e]
          exact rwG_get hk
      have g2 : ((V.rwI 2 w r).set i (V.sl (rid 2 k) 4 0 w)).set k (V.sl (rid 2 i) 4 0 w) = V.rwG (rhoX 2 k i) w r := by
        by_cases e : i = k
        · subst e
          refine List.ext_getElem? fun j => ?_
          rw [List.set_set]
          by_cases hj : j < r
          · rw [rwG_get hj]
            by_cases e2 : i = j
            · subst e2
              rw [List.getElem?_set_self (by rw [rwI_len]; exact hk)]
              unfold rhoX
              rw [if_pos rfl]
            · rw [List.getElem?_set_ne e2, show (V.rwI 2 w r)[j]? = some (.sl (rid 2 j) 4 0 w) from rwG_get hj]
              unfold rhoX
              rw [if_neg (fun h => e2 h.symm), if_neg (fun h => e2 h.symm)]
          · rw [List.getElem?_eq_none (by rw [List.length_set, rwI_len]; omega), List.getElem?_eq_none (by rw [rwG_len]; omega)]
        · exact rwI_swap hk hi e
      have e1 : chM M t i k xZ = swM M i k := if_pos h0
      have tg : (V.rwG (rhoX 2 k i) w r).take r = V.rwG (rhoX 2 k i) w r := List.take_of_length_le (by rw [rwG_len]; exact Nat.le_refl _)
      simp only [go_sem, d1, w1, w2, w3, t1, t2, t3, r0, zz, ez, c0, b1, matH_lo, matH_o, er, q1, q2, q3, q4, q5, q6, hi, hk, g1, g2, e1, tg, rr, rid_nn, rid_nl, rid_rn, rid_nr, rid_rl, rid_lr]
      refine ⟨by rfl, by rfl, ?_⟩
      rw [frzs_rwG1 (m := 1) (t := 41) (M := swM M i k) (by rw [swM_len]; exact er) ?_]
      · simp only [go_sem, e1]
      · intro j hj
        rw [swM_len, er] at hj
        obtain ⟨l, l1, l2, l3⟩ : ∃ l, l < r ∧ rhoX 2 k i j = rid 2 l ∧ (swM M i k).getD j [] = M.getD l [] := by
          rw [swM_get (by omega) (by omega)]
          unfold rhoX
          by_cases e1 : j = i
          · by_cases e2 : j = k
            · exact ⟨i, hi, by rw [if_pos e2], by rw [if_pos e1, ← e2, e1]⟩
            · exact ⟨k, hk, by rw [if_neg e2, if_pos e1], by rw [if_pos e1]⟩
          · by_cases e2 : j = k
            · exact ⟨i, hi, by rw [if_pos e2], by rw [if_neg e1, if_pos e2]⟩
            · exact ⟨j, hj, by rw [if_neg e2, if_neg e1], by rw [if_neg e1, if_neg e2]⟩
        have hrow := matH_row (o := 1) (b := 2) (tO := 33) (t := 41) (w := w) (M := M) (H := hbk 0 (some B)) (i := l) (by decide) (by omega)
        refine ⟨?_, by rw [l3]; exact hW l (by omega)⟩
        rw [l2, l3]
        simp only [go_sem, rid_rn, rid_rl, l1, hrow]
    · have c0 : ((t : Int) == 0) = false := by rw [beq_eq_false_iff_ne]; omega
      obtain ⟨row, erow⟩ : ∃ row, M.getD i [] = row := ⟨_, rfl⟩
      have lrow : row.length = w := by rw [← erow]; exact hW i (by omega)
      have qrow : ∀ l, qs (cf row l) ≤ 1000000 := fun l => by rw [← erow]; exact hS i l
      obtain ⟨rok, erok⟩ : ∃ rok, M.getD k [] = rok := ⟨_, rfl⟩
      have lrok : rok.length = w := by rw [← erok]; exact hW k (by omega)
      have qrok : ∀ l, qs (cf rok l) ≤ 1000000 := fun l => by rw [← erok]; exact hS k l
      have qz : qs z ≤ 1 := by
        rw [← ez]
        refine Nat.le_trans (qs_int xZ) (Nat.max_le.2 ⟨dl_le.2 ?_, Nat.le_refl _⟩)
        rw [Nat.pow_one]; omega
      have ho3 : (1 : Nat) < 3 := by decide
      have hr2 : ∀ j, j < r → matH 1 2 33 41 w M (hbk 0 (some B)) (rid 2 j) = some ⟨41, 4, V.rats (M.getD j [])⟩ := fun j hj => matH_row (by decide) (by omega)
      by_cases h1 : t = 1
      · have c1 : ((t : Int) == 1) = true := by rw [h1]; rfl
        by_cases hz : xZ = 0
        · have c2 : (xZ != 0) = false := by rw [hz]; rfl
          have e1 : chM M t i k xZ = M := by unfold chM; rw [if_neg h0, if_pos h1, if_pos hz]
          simp only [go_sem, d1, w1, w2, w3, t1, t2, t3, r0, zz, ez, c0, c1, c2, b1, matH_lo, matH_o, er, q1, q2, q3, q4, q5, q6, hi, hk, e1, tk, rr, rid_nn, rid_nl, rid_rn, rid_nr, rid_rl, rid_lr]
          refine ⟨by rfl, ?_⟩
          rw [frzs_rwI (m := 1) (t := 41) er hW ?_]
          · simp only [go_sem, e1]
          · intro j hj
            simp only [go_sem, rid_rn, rid_rl, hj, hr2]
        · have c2 : (xZ != 0) = true := by rw [bne_iff_ne]; exact hz
          obtain ⟨F, eF⟩ : ∃ F : Nat → Rat, F = fun l => cf row l * z := ⟨_, rfl⟩
          have e1 : chM M t i k xZ = M.set i (ptR F row w w) := by
            unfold chM
            rw [if_neg h0, if_pos h1, if_neg hz, erow, ptR_all, eF]
            unfold scR
            rw [lrow, ez]
          rw [e1]
          have gZ : ∀ L j, (M.set i L).getD j [] = if j = i then L else M.getD j [] := fun L j => gd_set (by omega) L j
          have lZ : ∀ L, (M.set i L).length = r := fun L => by rw [List.length_set]; exact er
          simp only [go_sem, d1, w1, w2, w3, t1, t2, t3, r0, zz, ez, c0, c1, c2, b1, matH_lo, matH_o, er, q1, q2, q3, q4, q5, q6, hi, hk, rid_nn, rid_nl, rid_rn, rid_nr, rid_rl, rid_lr]
          refine ⟨by rfl, ?_⟩
          refine AWp.loops (X := { j : Nat // j ≤ w }) (fun j => mkR 1 3 33 41 w [(4, .raw (.slice none 0 0)), (5, .sl 1 1 0 r), (6, .raw (.int .i64 (i : Nat))), (7, .raw (.int .i64 (k : Nat))), (8, .ptr 2 4 0 0), (9, .raw (.int .i64 (j.1 : Nat)))] [(2, true, ⟨41, 4, [.Q z]⟩)] (M.set i (ptR F row j.1 w)) 155) (fun j => w - j.1) ⟨0, Nat.zero_le _⟩ (Wk.ofR [0, 1, rid 2 r + 22] (rid 2) rfl (by decide) (by simp) (thR_nodup (by simp [rid]) (fun a b ha hb e => by unfold rid at e; omega) (fun x hx a ha => ?_)) ?_ ?_ ?_ ?_ ?_) ?_
          · rw [lZ] at ha
            simp [rid] at hx ⊢; omega
          · simp only [go_sem]
          · simp only [go_sem, Int.natCast_zero]
          · simp only [go_sem, matH_lo, rid_nn, rid_nl]
          · simp only [go_sem, matH_o, rid_nn, er, lZ]
            exact rfl
          · intro j hj
            rw [lZ] at hj
            have e5 : (M.set i (ptR F row 0 w)).getD j [] = M.getD j [] := by
              rw [gZ]
              split
              · rename_i e; rw [e, erow, ptR_zero F lrow]
              · rfl
            simp only [go_sem, rid_rn, rid_rl, hj, hr2, e5]
          rintro ⟨j, hj⟩
          refine vc_atR T ?_
          rw [lZ]
          obtain ⟨L, eL⟩ : ∃ L, ptR F row j w = L := ⟨_, rfl⟩
          have lL : L.length = w := by rw [← eL, ptR_len]
          rw [eL]
          have rI := matH_row (o := 1) (b := 3) (tO := 33) (t := 41) (w := w) (M := M.set i L) (H := mkH [(2, true, ⟨41, 4, [.Q z]⟩)]) (i := i) ho3 (by rw [lZ]; exact hi)
          simp only [mkH] at rI
          rw [gZ, if_pos rfl] at rI
          by_cases hjw : j < w
          · have f1 : (j : Int) < (w : Int) := by omega
            have f2 : (j : Int) + 1 = ((j + 1 : Nat) : Int) := by omega
            have f3 : 0 ≤ (j : Int) := by omega
            have hjL : j < L.length := by omega
            have cL : cf L j = cf row j := by rw [← eL]; exact ptR_get F row hjw
            have s1 : qs (cf row j) ≤ 5000000000000 := Nat.le_trans (qrow j) (by decide)
            have s2 : qs z ≤ 5000000000000 := by omega
            have s3 : cf row j * z = F j := by rw [eF]
            have nx : L.set j (F j) = ptR F row (j + 1) w := by rw [← eL]; exact ptR_set F row hjw
            have up5 : ∀ l, (matH 1 3 33 41 w (M.set i L) ((Hp.up (fun _ => none) 2 (some ⟨41, 4, [.Q z]⟩)))).up (rid 3 i) (some ⟨41, 4, V.rats l⟩) = matH 1 3 33 41 w (M.set i l) ((Hp.up (fun _ => none) 2 (some ⟨41, 4, [.Q z]⟩))) := fun l => by
              rw [matH_up ho3 (by rw [lZ]; exact hi), List.set_set]
            simp only [go_sem, f1, f2, f3, q4, q5, hi, hjw, hjL, lL, lZ, rI, cL, s1, s2, s3, nx, matH_lo, matH_o, up5]
            refine ⟨chk_map (rnm 3 r) (by simp only [List.map_cons, List.map_nil, mapF, rnm_row hi, rnm_new, rnm_lo, Nat.reduceLT, Nat.reduceAdd]; rfl), ⟨by omega, by omega⟩, ⟨j + 1, hjw⟩, Wk.ofR [0, 1, 2] (rid 3) rfl (by decide) (by simp) (thR_nodup (by decide) (fun a b ha hb e => by unfold rid at e; omega) (fun x hx a ha => ?_)) ?_ ?_ ?_ ?_ ?_, by simp only; omega⟩
            · simp [rid] at hx ⊢; omega
            · simp only [go_sem]
            · simp only [go_sem]
            · simp only [go_sem, matH_lo]
              first | done | exact rfl
            · simp only [go_sem, matH_o]
              exact rfl
            · intro l hl
              exact matH_row ho3 hl
          · obtain rfl : j = w := by omega
            have f1 : ¬ (j : Int) < (j : Int) := by omega
            have tw : (V.rwI 3 j r).take r = V.rwI 3 j r := List.take_of_length_le (by rw [rwI_len]; exact Nat.le_refl _)
            simp only [go_sem, f1, q4, q5, hi, lL, lZ, rI, matH_lo, matH_o, rr, tw]
            rw [← eL]
            rw [frzs_rwI (m := 1) (t := 41) (M := M.set i (ptR F row j j)) (lZ _) (set_wid hW (by omega) (ptR_len _ _ _ _)) ?_]
            · simp only [go_sem]
            · intro l hl
              exact matH_row ho3 (by rw [lZ]; exact hl)
      · have c1 : ((t : Int) == 1) = false := by rw [beq_eq_false_iff_ne]; omega
        by_cases h2 : t = 2
        · have c2 : ((t : Int) == 2) = true := by rw [h2]; rfl
          by_cases hik : i = k
          · have c3 : ((i : Int) != (k : Int)) = false := by rw [hik]; simp
            have e1 : chM M t i k xZ = M := by unfold chM; rw [if_neg h0, if_neg h1, if_pos h2, if_pos hik]
            simp only [go_sem, d1, w1, w2, w3, t1, t2, t3, r0, zz, ez, c0, c1, c2, c3, b1, matH_lo, matH_o, er, q1, q2, q3, q4, q5, q6, hi, hk, e1, tk, rr, rid_nn, rid_nl, rid_rn, rid_nr, rid_rl, rid_lr]
            refine ⟨by rfl, ?_⟩
            rw [frzs_rwI (m := 1) (t := 41) er hW ?_]
            · simp only [go_sem, e1]
            · intro j hj
              simp only [go_sem, rid_rn, rid_rl, hj, hr2]
          · have c3 : ((i : Int) != (k : Int)) = true := by rw [bne_iff_ne]; omega
            obtain ⟨F, eF⟩ : ∃ F : Nat → Rat, F = fun l => cf row l + z * cf rok l := ⟨_, rfl⟩
            have e1 : chM M t i k xZ = M.set i (ptR F row w w) := by
              unfold chM
              rw [if_neg h0, if_neg h1, if_pos h2, if_neg hik, erow, erok, ptR_all, eF]
              unfold adR
              rw [lrow, ez]
            rw [e1]
            have gZ : ∀ L j, (M.set i L).getD j [] = if j = i then L else M.getD j [] := fun L j => gd_set (by omega) L j
            have lZ : ∀ L, (M.set i L).length = r := fun L => by rw [List.length_set]; exact er
            simp only [go_sem, d1, w1, w2, w3, t1, t2, t3, r0, zz, ez, c0, c1, c2, c3, b1, matH_lo, matH_o, er, q1, q2, q3, q4, q5, q6, hi, hk, rid_nn, rid_nl, rid_rn, rid_nr, rid_rl, rid_lr]
            refine ⟨by rfl, ?_⟩
            refine AWp.loops (X := { j : Nat // j ≤ w }) (fun j => mkR 1 3 33 41 w [(4, .raw (.slice none 0 0)), (5, .sl 1 1 0 r), (6, .raw (.int .i64 (i : Nat))), (7, .raw (.int .i64 (k : Nat))), (8, .ptr 2 4 0 0), (10, .raw (.int .i64 (j.1 : Nat)))] [(2, true, ⟨41, 4, [.Q z]⟩)] (M.set i (ptR F row j.1 w)) 155) (fun j => w - j.1) ⟨0, Nat.zero_le _⟩ (Wk.ofR [0, 1, rid 2 r + 22] (rid 2) rfl (by decide) (by simp) (thR_nodup (by simp [rid]) (fun a b ha hb e => by unfold rid at e; omega) (fun x hx a ha => ?_)) ?_ ?_ ?_ ?_ ?_) ?_
            · rw [lZ] at ha
              simp [rid] at hx ⊢; omega
            · simp only [go_sem]
            · simp only [go_sem, Int.natCast_zero]
            · simp only [go_sem, matH_lo, rid_nn, rid_nl]
            · simp only [go_sem, matH_o, rid_nn, er, lZ]
              exact rfl
            · intro j hj
              rw [lZ] at hj
              have e5 : (M.set i (ptR F row 0 w)).getD j [] = M.getD j [] := by
                rw [gZ]
                split
                · rename_i e; rw [e, erow, ptR_zero F lrow]
                · rfl
              simp only [go_sem, rid_rn, rid_rl, hj, hr2, e5]
            rintro ⟨j, hj⟩
            refine vc_atR T ?_
            rw [lZ]
            obtain ⟨L, eL⟩ : ∃ L, ptR F row j w = L := ⟨_, rfl⟩
            have lL : L.length = w := by rw [← eL, ptR_len]
            rw [eL]
            have rI := matH_row (o := 1) (b := 3) (tO := 33) (t := 41) (w := w) (M := M.set i L) (H := mkH [(2, true, ⟨41, 4, [.Q z]⟩)]) (i := i) ho3 (by rw [lZ]; exact hi)
            simp only [mkH] at rI
            rw [gZ, if_pos rfl] at rI
            have rK := matH_row (o := 1) (b := 3) (tO := 33) (t := 41) (w := w) (M := M.set i L) (H := mkH [(2, true, ⟨41, 4, [.Q z]⟩)]) (i := k) ho3 (by rw [lZ]; exact hk)
            simp only [mkH] at rK
            rw [gZ, if_neg (fun h => hik h.symm), erok] at rK
            by_cases hjw : j < w
            · have f1 : (j : Int) < (w : Int) := by omega
              have f2 : (j : Int) + 1 = ((j + 1 : Nat) : Int) := by omega
              have f3 : 0 ≤ (j : Int) := by omega
              have hjL : j < L.length := by omega
              have cL : cf L j = cf row j := by rw [← eL]; exact ptR_get F row hjw
              have s1 : qs (cf row j) ≤ 5000000000000 := Nat.le_trans (qrow j) (by decide)
              have s2 : qs z ≤ 5000000000000 := by omega
              have s3 : cf row j + z * cf rok j = F j := by rw [eF]
              have hjk : j < rok.length := by omega
              have s4 : qs (cf rok j) ≤ 5000000000000 := Nat.le_trans (qrok j) (by decide)
              have s5 : qs (z * cf rok j) ≤ 5000000000000 := by
                have := qs_mul z (cf rok j)
                have := qrok j
                omega
              have nx : L.set j (F j) = ptR F row (j + 1) w := by rw [← eL]; exact ptR_set F row hjw
              have up5 : ∀ l, (matH 1 3 33 41 w (M.set i L) ((Hp.up (fun _ => none) 2 (some ⟨41, 4, [.Q z]⟩)))).up (rid 3 i) (some ⟨41, 4, V.rats l⟩) = matH 1 3 33 41 w (M.set i l) ((Hp.up (fun _ => none) 2 (some ⟨41, 4, [.Q z]⟩))) := fun l => by
                rw [matH_up ho3 (by rw [lZ]; exact hi), List.set_set]
              simp only [go_sem, f1, f2, f3, q4, q5, q2, q3, hi, hk, hjw, hjL, hjk, lL, lrok, lZ, rI, rK, cL, s1, s2, s3, s4, s5, nx, matH_lo, matH_o, up5]
              refine ⟨chk_map (rnm 3 r) (by simp only [List.map_cons, List.map_nil, mapF, rnm_row hi, rnm_row hk, rnm_new, rnm_lo, Nat.reduceLT, Nat.reduceAdd]; rfl), ⟨by omega, by omega⟩, ⟨j + 1, hjw⟩, Wk.ofR [0, 1, 2] (rid 3) rfl (by decide) (by simp) (thR_nodup (by decide) (fun a b ha hb e => by unfold rid at e; omega) (fun x hx a ha => ?_)) ?_ ?_ ?_ ?_ ?_, by simp only; omega⟩
              · simp [rid] at hx ⊢; omega
              · simp only [go_sem]
              · simp only [go_sem]
              · simp only [go_sem, matH_lo]
                first | done | exact rfl
              · simp only [go_sem, matH_o]
                exact rfl
              · intro l hl
                exact matH_row ho3 hl
            · obtain rfl : j = w := by omega
              have f1 : ¬ (j : Int) < (j : Int) := by omega
              have tw : (V.rwI 3 j r).take r = V.rwI 3 j r := List.take_of_length_le (by rw [rwI_len]; exact Nat.le_refl _)
              simp only [go_sem, f1, q4, q5, hi, lL, lZ, rI, matH_lo, matH_o, rr, tw]
              rw [← eL]
              rw [frzs_rwI (m := 1) (t := 41) (M := M.set i (ptR F row j j)) (lZ _) (set_wid hW (by omega) (ptR_len _ _ _ _)) ?_]
              · simp only [go_sem]
              · intro l hl
                exact matH_row ho3 (by rw [lZ]; exact hl)
        · have c2 : ((t : Int) == 2) = false := by rw [beq_eq_false_iff_ne]; omega
          obtain ⟨F, eF⟩ : ∃ F : Nat → Rat, F = fun l => cf row l - z * cf rok l := ⟨_, rfl⟩
          have e1 : chM M t i k xZ = M ++ [mkr F w] := by
            unfold chM
            rw [if_neg h0, if_neg h1, if_neg h2, erow, erok, eF]
            unfold sbR
            rw [lrow, ez]
          rw [e1]
          have ho4 : (1 : Nat) < 4 := by decide
          simp only [go_sem, d1, w1, w2, w3, t1, t2, t3, r0, zz, ez, c0, c1, c2, b1, matH_lo, matH_o, er, q1, q2, q3, q4, q5, q6, hi, hk, rid_nn, rid_nl, rid_rn, rid_nr, rid_rl, rid_lr]
          refine ⟨by rfl, ?_⟩
          refine AWp.loops (X := { j : Nat // j ≤ w }) (fun j => mkR 1 4 33 41 w [(4, .raw (.slice none 0 0)), (5, .sl 1 1 0 r), (6, .raw (.int .i64 (i : Nat))), (7, .raw (.int .i64 (k : Nat))), (8, .ptr 2 4 0 0), (11, .sl 3 4 0 j.1), (12, .raw (.int .i64 (j.1 : Nat)))] [(2, true, ⟨41, 4, [.Q z]⟩), (3, true, ⟨41, 4, V.rats (mkr F j.1)⟩)] M 155) (fun j => w - j.1) ⟨0, Nat.zero_le _⟩ (Wk.ofR [0, 1, rid 2 r + 22, rid 2 r + 33] (rid 2) rfl (by decide) (by simp) (thR_nodup (by simp [rid]) (fun a b ha hb e => by unfold rid at e; omega) (fun x hx a ha => ?_)) ?_ ?_ ?_ ?_ ?_) ?_
          · rw [er] at ha
            simp [rid] at hx ⊢; omega
          · simp only [go_sem, er]
          · simp only [go_sem, er, Int.natCast_zero]
          · have e0 : V.rats (mkr F 0) = [] := rfl
            simp only [go_sem, matH_lo, rid_nn, rid_nl, er, e0, Nat.left_eq_add, Nat.add_eq_left]
          · simp only [go_sem, matH_o, rid_nn, er]
            exact rfl
          · intro j hj
            rw [er] at hj
            simp only [go_sem, rid_rn, rid_rl, hj, hr2]
          rintro ⟨j, hj⟩
          refine vc_atR T ?_
          rw [er]
          have rI := matH_row (o := 1) (b := 4) (tO := 33) (t := 41) (w := w) (M := M) (H := mkH [(2, true, ⟨41, 4, [.Q z]⟩), (3, true, ⟨41, 4, V.rats (mkr F j)⟩)]) (i := i) ho4 (by omega)
          have rK := matH_row (o := 1) (b := 4) (tO := 33) (t := 41) (w := w) (M := M) (H := mkH [(2, true, ⟨41, 4, [.Q z]⟩), (3, true, ⟨41, 4, V.rats (mkr F j)⟩)]) (i := k) ho4 (by omega)
          simp only [mkH] at rI rK
          rw [erow] at rI
          rw [erok] at rK
          have lj : (mkr F j).length = j := mkr_len _ _
          by_cases hjw : j < w
          · have f1 : (j : Int) < (w : Int) := by omega
            have f2 : (j : Int) + 1 = ((j + 1 : Nat) : Int) := by omega
            have f3 : 0 ≤ (j : Int) := by omega
            have s1 : qs (cf row j) ≤ 5000000000000 := Nat.le_trans (qrow j) (by decide)
            have s2 : qs z ≤ 5000000000000 := by omega
            have s3 : cf row j - z * cf rok j = F j := by rw [eF]
            have s4 : qs (cf rok j) ≤ 5000000000000 := Nat.le_trans (qrok j) (by decide)
            have s5 : qs (z * cf rok j) ≤ 5000000000000 := by
              have := qs_mul z (cf rok j)
              have := qrok j
              omega
            have f5 : V.rats (mkr F j) ++ [.Q (F j)] = V.rats (mkr F (j + 1)) := mkr_snoc _ _
            have f6 : mkr F j ++ [F j] = mkr F (j + 1) := mkr_snoc' _ _
            simp only [go_sem, f1, f2, f3, q2, q3, q4, q5, hi, hk, hjw, lrow, lrok, lj, er, mx, rI, rK, s1, s2, s3, s4, s5, f5, f6, mkr_take, matH_lo, matH_o]
            refine ⟨⟨by omega, by omega⟩, chk_map (rnm 4 r) (by simp only [List.map_cons, List.map_nil, mapF, rnm_row hi, rnm_row hk, rnm_new, rnm_lo, Nat.reduceLT, Nat.reduceAdd]; rfl), ⟨by omega, by omega⟩, ⟨j + 1, hjw⟩, Wk.ofR [0, 1, 2, rid 4 r + 26] (rid 4) rfl (by decide) (by simp) (thR_nodup (by simp [rid]) (fun a b ha hb e => by unfold rid at e; omega) (fun x hx a ha => ?_)) ?_ ?_ ?_ ?_ ?_, by simp only; omega⟩
            · rw [er] at ha
              simp [rid] at hx ⊢; omega
            · simp only [go_sem, er]
            · simp only [go_sem, er]
            · simp only [go_sem, matH_lo, rid_nn, rid_nl, er, Nat.left_eq_add, Nat.add_eq_left]
            · simp only [go_sem, matH_o, rid_nn, er]
              exact rfl
            · intro l hl
              rw [er] at hl
              have hrow := matH_row (o := 1) (b := 4) (tO := 33) (t := 41) (w := w) (M := M) (H := mkH [(2, true, ⟨41, 4, [.Q z]⟩), (3, true, ⟨41, 4, V.rats (mkr F j)⟩)]) (i := l) ho4 (by omega)
              simp only [mkH] at hrow
              simp only [go_sem, rid_rn, rid_rl, hl, hrow]
          · obtain rfl : j = w := by omega
            have f1 : ¬ (j : Int) < (j : Int) := by omega
            have tw : (V.rwI 4 j r).take r = V.rwI 4 j r := List.take_of_length_le (by rw [rwI_len]; exact Nat.le_refl _)
            simp only [go_sem, f1, q4, q5, hi, lrow, er, rI, matH_lo, matH_o, rr, tw, lj, mx, rwI_snoc]
            refine ⟨⟨by omega, by omega⟩, ?_⟩
            rw [List.take_of_length_le (show (V.rwG (rhoS 4 r 3) j (r + 1)).length ≤ r + 1 by rw [rwG_len]; exact Nat.le_refl _)]
            rw [frzs_rwG1 (m := 1) (t := 41) (M := M ++ [mkr F j]) (by rw [List.length_append, er]; rfl) ?_]
            · simp only [go_sem]
            · intro l hl
              rw [List.length_append, er] at hl
              simp only [List.length_cons, List.length_nil] at hl
              refine ⟨?_, app_wid hW lj l (by rw [List.length_append, er]; exact hl)⟩
              rw [gd_app, er]
              by_cases e : l < r
              · have er2 : rhoS 4 r 3 l = rid 4 l := if_pos e
                have hrow := matH_row (o := 1) (b := 4) (tO := 33) (t := 41) (w := j) (M := M) (H := mkH [(2, true, ⟨41, 4, [.Q z]⟩), (3, true, ⟨41, 4, V.rats (mkr F j)⟩)]) (i := l) ho4 (by omega)
                simp only [mkH] at hrow
                rw [er2, if_pos e]
                simp only [go_sem, rid_rn, rid_rl, e, hrow]
              · obtain rfl : l = r := by omega
                have er2 : rhoS 4 l 3 l = 3 := if_neg (by omega)
                rw [er2, if_neg e, if_pos rfl]
                simp only [go_sem, matH_lo, rid_nn, rid_nl]
end Go.Proofs.Ytjjebokgckmnjaa

