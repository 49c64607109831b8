/- Texts MC4 MC5 MX5 in one. -/
import Derived.Test.YtjjebokgckmnjaaR27
import Derived.Test.YtjjebokgckmnjaaR22
import Derived.Test.YtjjebokgckmnjaaR26
/- Contracts: lists of numbers, clones, zeros. -/
namespace Go.Proofs.Ytjjebokgckmnjaa
set_option linter.unusedSimpArgs false
set_option linter.unusedVariables false
open Go.RowKit

@[go_sem] theorem nats_len (l : List Nat) : (V.nats l).length = l.length := by simp [V.nats]
@[go_sem] theorem nats_pure' (l : List Nat) : allPure (V.nats l) = True := eq_true (nats_pure l)
@[go_sem] theorem nats_wid (l : List Nat) : allWid (V.nats l) 1 = True := eq_true fun y hy => by
  obtain ⟨p, _, rfl⟩ := List.mem_map.1 hy
  rfl
@[go_sem] theorem nats_frz (l : List Nat) : frzOk (V.nats l) = True := eq_true (frzOk_map (fun a => ⟨rfl, by simp, by simp⟩) l)
@[go_sem ↓, go_sem] theorem ev_nats_get {l : List Nat} {i : Nat} {k : V → Prop} : optC (V.nats l)[i]? k = (i < l.length ∧ k (.raw (.int .i64 ((pv l i : Nat) : Int)))) := by
  unfold V.nats pv
  rw [List.getElem?_map, List.getD_eq_getElem?_getD]
  by_cases h : i < l.length
  · simp [List.getElem?_eq_getElem h, optC, h]
  · simp [List.getElem?_eq_none (Nat.le_of_not_lt h), optC, h]
def unnat : List V → Option (List Nat)
  | [] => some []
  | .raw (.int .i64 (.ofNat n)) :: l => (unnat l).map (n :: ·)
  | _ => none
theorem unnat_ok : ∀ (l : List V) (m : List Nat), unnat l = some m → l = V.nats m
  | [], m, h => by injection h with h; subst h; rfl
  | x :: l, m, h => by
    unfold unnat at h
    split at h
    · rename_i e; cases e
    · rename_i n l' e
      injection e with e1 e2
      subst e1 e2
      rcases hm : unnat l with _ | m' <;> rw [hm] at h
      · cases h
      · injection h with h
        subst h
        rw [unnat_ok l m' hm]
        rfl
    · cases h
@[go_sem ↓, go_sem] theorem unnat_nats : ∀ l : List Nat, unnat (V.nats l) = some l
  | [] => rfl
  | x :: l => by
    show (unnat (V.nats l)).map (x :: ·) = _
    rw [unnat_nats l]; rfl
@[go_sem ↓, go_sem] theorem unnat_nil : unnat [] = some [] := rfl
/-- A list of natural numbers. -/
def pNs : Pat (List Nat) where
  p
    | .lst l => (unnat l).map fun m => (True, m)
    | .raw (.slice none 0 0) => some (True, [])
    | .emp => some (True, [])
    | _ => none
  val l := .lst (V.nats l)
  ok x c a h hc := by
    split at h
    · rename_i l
      rcases hm : unnat l with _ | m <;> rw [hm] at h
      · cases h
      · injection h with h; injection h with h1 h2; subst h2
        rw [unnat_ok l m hm]; exact .refl _
    · injection h with h; injection h with h1 h2; subst h2; exact .inr (.inr ⟨rfl, rfl, rfl, rfl⟩)
    · injection h with h; injection h with h1 h2; subst h2; exact .inr (.inr ⟨rfl, rfl, rfl⟩)
    · cases h
@[go_sem ↓, go_sem] theorem ev_pNs {l : List V} : pNs.p (.lst l) = (unnat l).map fun m => (True, m) := rfl
@[go_sem ↓, go_sem] theorem ev_pNs_nil : pNs.p (.raw (.slice none 0 0)) = some (True, []) := rfl
@[go_sem ↓, go_sem] theorem ev_pNs_emp : pNs.p .emp = some (True, []) := rfl
@[go_sem ↓, go_sem] theorem ev_pNs_mk {l : List Nat} : pNs.val l = .lst (V.nats l) := rfl
/-- The place of a number. -/
def idxZ (z : Int) : List Nat → Int → Int
  | [], _ => -1
  | n :: l, i => if z = (n : Int) then i else idxZ z l (i + 1)
theorem idxZ_ge {z : Int} : ∀ (l : List Nat) (i : Int), 0 ≤ i → (0 ≤ idxZ z l i ↔ ∃ n ∈ l, z = ((n : Nat) : Int))
  | [], i, _ => by simp [idxZ]
  | n :: l, i, hi => by
    unfold idxZ
    split
    · rename_i h
      exact ⟨fun _ => ⟨n, by simp, h⟩, fun _ => hi⟩
    · rename_i h
      rw [idxZ_ge l (i + 1) (by omega)]
      constructor
      · rintro ⟨k, h1, h2⟩; exact ⟨k, by simp [h1], h2⟩
      · rintro ⟨k, h1, h2⟩
        rcases List.mem_cons.1 h1 with rfl | h1
        · exact absurd h2 h
        · exact ⟨k, h1, h2⟩
def kIndex : Con := con2 pNs (pN .i64) fun l z => (l.length ≤ 1000000, .raw (.int .i64 (idxZ z l 0)))
attribute [go_sem ↓, go_sem] kIndex
theorem index_C : Ctr Try.prog 55 kIndex := Ctr.c2 (by kernel_rfl) fun l z hl => by
  show PCall _ _ _ (.raw (.int .i64 (idxZ z l 0)))
  have hl : l.length ≤ 1000000 := hl
  have T := (tabs mixed tbl_nil)
  refine PCall.of_vc T Try.func55 rfl Try.ntmps55 Try.results55 (by simp) ?_
  simp only [go_sem]
  refine AWp.loops (X := { i : Nat // i ≤ l.length ∧ idxZ z l 0 = idxZ z (l.drop i) (i : Int) }) (fun i => mkSt [(0, .lst (V.nats l)), (1, .raw (.int .i64 z)), (7, .raw (.int .i64 (l.length : Nat))), (8, .raw (.int .i64 (i.1 : Nat)))] [] 0 19) (fun i => l.length - i.1) ⟨0, Nat.zero_le _, rfl⟩ (Wk.of [] (by decide) ?_) ?_
  · simp only [go_sem, Int.natCast_zero]
  rintro ⟨i, hi, inv⟩
  refine vc_at T ?_
  by_cases hin : i < l.length
  · have d1 : (i : Int) < (l.length : Int) := by omega
    have d2 : (i : Int) + 1 = ((i + 1 : Nat) : Int) := by omega
    have d3 : 0 ≤ (i : Int) := by omega
    have hd : l.drop i = pv l i :: l.drop (i + 1) := by
      rw [List.drop_eq_getElem_cons hin]
      unfold pv
      rw [List.getD_eq_getElem?_getD, List.getElem?_eq_getElem hin]; rfl
    rw [hd, idxZ] at inv
    by_cases hz : z = ((pv l i : Nat) : Int)
    · have d4 : (z == ((pv l i : Nat) : Int)) = true := by simp [hz]
      rw [if_pos hz] at inv
      simp only [go_sem, d1, d2, d3, d4, hin, inv]
      trace_state
    · have d4 : (z == ((pv l i : Nat) : Int)) = false := by simp [hz]
      rw [if_neg hz] at inv
      simp only [go_sem, d1, d2, d3, d4, hin]
      refine ⟨⟨by omega, by omega⟩, ⟨i + 1, hin, by rw [inv]; rfl⟩, Wk.of [] (by decide) ?_, by simp only; omega⟩
      simp only [go_sem]
  · obtain rfl : i = l.length := by omega
    have d1 : ¬ (l.length : Int) < (l.length : Int) := by omega
    rw [List.drop_length] at inv
    simp only [go_sem, d1, inv, idxZ]
def kContains : Con := con2 pNs (pN .i64) fun l z => (l.length ≤ 1000000, .raw (.bool (decide (0 ≤ idxZ z l 0))))
attribute [go_sem ↓, go_sem] kContains
theorem contains_C : Ctr Try.prog 38 kContains := Ctr.c2 (by kernel_rfl) fun l z hl => by
  have hl : l.length ≤ 1000000 := hl
  refine PCall.of_vc (tabs mixed (tbl_cons index_C tbl_nil)) Try.func38 rfl Try.ntmps38 Try.results38 (by simp) ?_
  simp only [go_sem, hl]
  trace_state
def wdt (M : List (List Rat)) : Nat := (M.getD 0 []).length
def kWidth : Con := con1 pMt fun M => (M.length ≤ 1000000, .raw (.int .i64 (wdt M : Nat)))
attribute [go_sem ↓, go_sem] kWidth
theorem width_C : Ctr Try.prog 37 kWidth := Ctr.c1 (by kernel_rfl) fun M hl => by
  have hl : M.length ≤ 1000000 := hl
  refine PCall.of_vc (tabs mixed tbl_nil) Try.func37 rfl Try.ntmps37 Try.results37 (by simp) ?_
  by_cases h0 : M.length = 0
  · have d1 : ((M.length : Int) == 0) = true := by simp [h0]
    have e0 : wdt M = 0 := by rw [List.eq_nil_of_length_eq_zero h0]; rfl
    simp only [go_sem, d1, e0, Int.natCast_zero]
  · have d1 : ((M.length : Int) == 0) = false := by rw [beq_eq_false_iff_ne]; omega
    have h1 : 0 < M.length := by omega
    have e0 : (M.getD 0 []).length = wdt M := rfl
    simp only [go_sem, d1, h1, e0]
    omega
def kQClo : FCon := con1 pR fun l => (l ≠ [] ∧ l.length ≤ 1000000, ⟨41, 4, V.rats l⟩)
attribute [go_sem ↓, go_sem] kQClo
theorem qclo_V (x : Rat) (l : List Rat) (h1 : l.length ≤ 1000000) : FCall Try.prog 46 [.lst (V.rats (x :: l))] ⟨41, 4, V.rats (x :: l)⟩ := by
  refine FCall.of_vc (tabs mixed tbl_nil) Try.func46 rfl Try.ntmps46 Try.results46 (by simp) ?_
  have e1 : V.rats (x :: l) = .Q x :: V.rats l := rfl
  rw [e1]
  have e2 : maxLen = 9223372036854775807 := by decide
  simp only [go_sem, List.take_length, e2]
  exact ⟨⟨_, rfl⟩, by omega, ⟨5, rfl, rfl⟩⟩
theorem qclo_C : FCtr Try.prog 46 kQClo := FCtr.c1 (by kernel_rfl) fun l h => by
  obtain ⟨h1, h2⟩ := h
  cases l with
  | nil => exact absurd rfl h1
  | cons x l => exact qclo_V x l (by simp at h2; omega)
def kQClo0 : Con := con1 pR fun l => (l = [], .lst [])
attribute [go_sem ↓, go_sem] kQClo0
theorem qclo0_C : Ctr Try.prog 46 kQClo0 := Ctr.c1 (by kernel_rfl) fun l h => by
  have h : l = [] := h
  subst h
  show PCall _ _ [.lst []] (.lst [])
  refine PCall.lst0 fun A c => ?_
  have e2 : maxLen = 9223372036854775807 := by decide
  cases A with
  | none =>
    refine PCall.of_vc (tabs mixed tbl_nil) Try.func46 rfl Try.ntmps46 Try.results46 (by simp) ?_
    simp only [go_sem, e2]
    exact ⟨_, rfl⟩
  | some A =>
    refine PCall.of_vc (tabs mixed tbl_nil) Try.func46 rfl Try.ntmps46 Try.results46 (by simp) ?_
    simp only [go_sem, e2]
    exact ⟨_, rfl⟩
def kZeros : FCon := con1 (pN .i64) fun n => (0 < n ∧ n ≤ 1000000, ⟨41, 4, V.rats (List.replicate n.toNat 0)⟩)
attribute [go_sem ↓, go_sem] kZeros
theorem zeros_C : FCtr Try.prog 39 kZeros := FCtr.c1 (by kernel_rfl) fun n h => by
  obtain ⟨h1, h2⟩ := h
  refine FCall.of_vc (tabsX mixed (tbl_cons whole_C tbl_nil) (xtb_cons repeat_C xtb_nil)) Try.func39 rfl Try.ntmps39 Try.results39 (by simp) ?_
  have e0 : ((0 : Int) : Rat) = 0 := rfl
  simp only [go_sem, h1, h2, e0]
  exact ⟨4, rfl, rfl⟩
end Go.Proofs.Ytjjebokgckmnjaa


/- Contracts: the elimination. -/
namespace Go.Proofs.Ytjjebokgckmnjaa
set_option linter.unusedSimpArgs false
set_option linter.unusedVariables false
open Go.RowKit

def RedOk (M : List (List Rat)) (z : Int) : Prop := (M.length ≤ 1000 ∧ 0 ≤ z) ∧ ∃ w S, (Wid w M ∧ w ≤ 1000 ∧ z ≤ (w : Nat)) ∧ (∀ i k, qs (ent M i k) ≤ S) ∧ sS S z.toNat ≤ 1000000000000 ∧ dS S z.toNat ≤ 1000000000000
def redV (s : ES) : V := .pel (.agg [.lst (V.mat s.M), .lst (V.nats s.p), .Q s.d])
def kReduce : Con := con2 pMt (pN .i64) fun M z => (RedOk M z, redV (elm M z.toNat))
attribute [go_sem ↓, go_sem] kReduce
theorem elm_nil : ∀ c, elm [] c = ⟨[], [], 1⟩
  | 0 => rfl
  | c + 1 => by
    show stp (elm [] c) c = _
    rw [elm_nil c]; rfl
theorem reduce_nil (n : Nat) (hn : n ≤ 1000) : PCall Try.prog 36 [.lst (V.mat []), .raw (.int .i64 (n : Nat))] (redV ⟨[], [], 1⟩) := by
  refine PCall.pel (x := .agg [.raw (.slice none 0 0), .raw (.slice none 0 0), .Q 1]) ?_ ⟨⟨rfl, rfl⟩, ⟨rfl, rfl⟩, atsLe.refl _⟩
  have T := (tabs mixed (tbl_cons whole_C (tbl_cons qSign_C tbl_nil)))
  refine PCall.of_vc T Try.func36 rfl Try.ntmps36 Try.results36 (by simp) ?_
  have e1 : ((1 : Int) : Rat) = 1 := rfl
  have e2 : V.mat [] = [] := rfl
  have hp : allPure [V.agg [V.raw (.slice none 0 0), V.raw (.slice none 0 0), V.Q 1]] := fun y hy => by
    rw [List.mem_singleton] at hy; subst hy; rfl
  rw [e2]
  simp only [go_sem, e1]
  refine AWp.loops (X := Unit) (fun _ => mkSt [(1, .raw (.int .i64 (n : Nat))), (5, .ptr 0 6 0 0), (14, .lst []), (15, .raw (.int .i64 0)), (16, .raw (.int .i64 0))] [(0, true, ⟨75, 6, [.agg [.raw (.slice none 0 0), .raw (.slice none 0 0), .Q 1]]⟩)] 1 106) (fun _ => 0) () (Wk.of [3] (by decide) ?_) ?_
  · simp only [go_sem]
  rintro ⟨⟩
  refine vc_at T ?_
  have c1 : ¬ (0 : Int) < 0 := by decide
  simp only [go_sem, c1]
  refine AWp.loops (X := { c : Nat // c ≤ n }) (fun c => mkSt [(1, .raw (.int .i64 (n : Nat))), (5, .ptr 0 6 0 0), (32, .raw (.int .i64 (n : Nat))), (33, .raw (.int .i64 (c.1 : Nat)))] [(0, true, ⟨75, 6, [.agg [.raw (.slice none 0 0), .raw (.slice none 0 0), .Q 1]]⟩)] 1 106) (fun c => n - c.1) ⟨0, Nat.zero_le _⟩ (Wk.of [0] (by decide) ?_) ?_
  · simp only [go_sem, Int.natCast_zero]
  rintro ⟨c, hc⟩
  refine vc_at T ?_
  by_cases hcn : c < n
  · have d1 : (c : Int) < (n : Int) := by omega
    have d2 : (c : Int) + 1 = ((c + 1 : Nat) : Int) := by omega
    simp only [go_sem, d1]
    refine AWp.loops (X := Unit) (fun _ => mkSt [(1, .raw (.int .i64 (n : Nat))), (5, .ptr 0 6 0 0), (8, .raw (.int .i64 (c : Nat))), (9, .raw (.int .i64 0)), (10, .raw (.int .i64 0)), (32, .raw (.int .i64 (n : Nat))), (33, .raw (.int .i64 (c : Nat)))] [(0, true, ⟨75, 6, [.agg [.raw (.slice none 0 0), .raw (.slice none 0 0), .Q 1]]⟩)] 1 106) (fun _ => 0) () (Wk.of [0] (by decide) ?_) ?_
    · simp only [go_sem]
    rintro ⟨⟩
    refine vc_at T ?_
    have d3 : ((0 : Int) == 0) = true := rfl
    simp only [go_sem, d2, d3]
    refine ⟨⟨by omega, by omega⟩, ⟨c + 1, hcn⟩, Wk.of [0] (by decide) ?_, by simp only; omega⟩
    simp only [go_sem]
  · obtain rfl : c = n := by omega
    have d1 : ¬ (c : Int) < (c : Int) := by omega
    simp only [go_sem, d1]
/-- The states of the second loop. -/
def redS (w m : Nat) (ss : List (Nat × V)) (M : List (List Rat)) (ps : List Nat) (d : Rat) : St := { s := mkS ss, H := matH 1 3 33 41 w M (syH 2 ps m d), n := rid 3 m, N := 106 }
theorem redS_mk {w m : Nat} {ss : List (Nat × V)} {M : List (List Rat)} {ps : List Nat} {d : Rat} (lM : M.length = m) : mkRB 0 1 3 33 41 w ss [] (syH 2 ps m d) M 106 = redS w m ss M ps d := by
  unfold mkRB redS
  rw [lM]; rfl
theorem redS_wk {w m : Nat} {ss : List (Nat × V)} {M : List (List Rat)} {ps : List Nat} {d : Rat} {σ : St} (h0 : 106 = σ.N ∧ 0 = σ.m ∧ σ.q = false) (lM : M.length = m) (hs : wkS (List.range (rid 3 m)) σ.s ss) (hH : ∀ k, k < rid 3 m → σ.H k = matH 1 3 33 41 w M (syH 2 ps m d) k) : Wk σ (redS w m ss M ps d) :=
  Wk.lowS (rid 3 m) h0.1 h0.2.1 h0.2.2 (by omega) hs (closed_mat (by unfold rid; omega) (by rw [lM]; unfold rid; omega) (syH_closed (by unfold rid; omega) (by unfold rid; omega) (by decide))) hH
/-- The state of the first loop. -/
def rdS (n m w : Nat) (M : List (List Rat)) : Nat → St
  | 0 => mkSt [(1, .raw (.int .i64 (n : Nat))), (5, .ptr 0 6 0 0), (14, .lst (V.mat M)), (15, .raw (.int .i64 (m : Nat))), (16, .raw (.int .i64 0))] [(0, true, ⟨75, 6, [.agg [.raw (.slice none 0 0), .raw (.slice none 0 0), .Q 1]]⟩)] 1 106
  | i + 1 => mkRB 0 1 3 33 41 w [(1, .raw (.int .i64 (n : Nat))), (5, .ptr 0 6 0 0), (14, .lst (V.mat M)), (15, .raw (.int .i64 (m : Nat))), (16, .raw (.int .i64 ((i + 1 : Nat) : Int)))] [] (syH 2 [] (i + 1) 1) (M.take (i + 1)) 106
set_option maxRecDepth 8000 in
set_option maxHeartbeats 4000000 in
theorem reduce_V (M : List (List Rat)) (n w S : Nat) (hm : M.length ≤ 1000) (hm0 : 0 < M.length) (hW : Wid w M) (hw : w ≤ 1000) (hw0 : 0 < w) (hn : n ≤ w) (hS : ∀ i k, qs (ent M i k) ≤ S) (hS1 : sS S n ≤ 1000000000000) (hd1 : dS S n ≤ 1000000000000) :
    PCall Try.prog 36 [.lst (V.mat M), .raw (.int .i64 (n : Nat))] (redV (elm M n)) := by
  refine PCall.pel (x := .agg (.lst (V.mat (elm M n).M) :: .lst (V.nats (elm M n).p) :: (V.Q (elm M n).d).atoms)) ?_ (atsLe.refl _)
  have T := (tabsX mixed (tbl_cons whole_C (tbl_cons qSign_C (tbl_cons qNeg_C tbl_nil))) (xtb_cons qclo_C xtb_nil))
  refine PCall.of_vc T Try.func36 rfl Try.ntmps36 Try.results36 (by simp) ?_
  have e1 : ((1 : Int) : Rat) = 1 := rfl
  have mx : maxLen = 9223372036854775807 := by decide
  obtain ⟨m, em⟩ : ∃ m, M.length = m := ⟨_, rfl⟩
  simp only [go_sem, e1, em]
  refine AWp.loops (X := { i : Nat // i ≤ m }) (fun i => rdS n m w M i.1) (fun i => m - i.1) ⟨0, Nat.zero_le _⟩ (Wk.of [3] (by decide) ?_) ?_
  · simp only [go_sem]
  rintro ⟨i, hi⟩
  cases i with
  | zero =>
    refine vc_at T ?_
    have c1 : 0 < (m : Int) := by omega
    have hm1 : 0 < M.length := hm0
    have hr0 : (M.getD 0 []).length = w := hW 0 hm0
    obtain ⟨r, er⟩ : ∃ r, M.getD 0 [] = r := ⟨_, rfl⟩
    rw [er] at hr0
    have hrn : r ≠ [] := fun e => by rw [e] at hr0; simp at hr0; omega
    have hrl : r.length ≤ 1000000 := by omega
    simp only [go_sem, c1, hm1, er, hrn, hrl, mx]
    have lt1 : (M.take 1).length = 1 := by rw [List.length_take]; omega
    have g1 : (M.take 1).getD 0 [] = r := by rw [gd_take, if_pos (by decide), er]
    refine ⟨by omega, by rfl, ⟨1, by omega⟩, ?_, by simp only; omega⟩
    show Wk _ (mkRB 0 1 3 33 41 w [(1, .raw (.int .i64 (n : Nat))), (5, .ptr 0 6 0 0), (14, .lst (V.mat M)), (15, .raw (.int .i64 (m : Nat))), (16, .raw (.int .i64 ((0 + 1 : Nat) : Int)))] [] (syH 2 [] (0 + 1) 1) (M.take (0 + 1)) 106)
    refine Wk.ofRB 0 [0, 13, 90] (fun _ => 11) rfl (by decide) (fun k hk => absurd hk (Nat.not_lt_zero _)) (thR_nodup (by decide) (fun a b ha hb _ => by rw [lt1] at ha hb; omega) (fun x hx a _ => by simp at hx ⊢; omega)) ?_ ?_ trivial (syH_ren (k := 2) (k0 := 2) (o0 := 13) rfl rfl (fun h => absurd rfl h) ?_) ?_ ?_
    · simp only [go_sem]
    · simp only [go_sem]
    · simp only [go_sem]
      rfl
    · simp only [go_sem, lt1, hr0]
      rfl
    · intro j hj
      rw [lt1] at hj
      obtain rfl : j = 0 := by omega
      simp only [go_sem, g1]
  | succ i =>
    refine vc_atRB T ?_
    have lt : (M.take (i + 1)).length = i + 1 := by rw [List.length_take]; omega
    rw [lt]
    by_cases hin : i + 1 < m
    · have c1 : ((i + 1 : Nat) : Int) < (m : Int) := by omega
      have hm1 : i + 1 < M.length := by omega
      have hr0 : (M.getD (i + 1) []).length = w := hW (i + 1) hm1
      obtain ⟨r, er⟩ : ∃ r, M.getD (i + 1) [] = r := ⟨_, rfl⟩
      rw [er] at hr0
      have hrn : r ≠ [] := fun e => by rw [e] at hr0; simp at hr0; omega
      have hrl : r.length ≤ 1000000 := by omega
      have b0 : syH 2 [] (i + 1) 1 0 = some ⟨75, 6, [.agg [.sl 1 1 0 (i + 1), .raw (.slice none 0 0), .Q 1]]⟩ := rfl
      have c2 : 0 ≤ ((i + 1 : Nat) : Int) := by omega
      simp only [go_sem, c1, hm1, er, hrn, hrl, mx, matH_lo, matH_o, b0, lt, c2, rid_nn, rid_nl, rid_rn, rid_nr, rid_rl, rid_lr, Nat.left_eq_add, Nat.add_eq_left]
      have lt2 : (M.take (i + 1 + 1)).length = i + 1 + 1 := by rw [List.length_take]; omega
      have d2 : ((i + 1 : Nat) : Int) + 1 = ((i + 1 + 1 : Nat) : Int) := by omega
      have gI : ∀ j, j < i + 1 → (M.take (i + 1 + 1)).getD j [] = (M.take (i + 1)).getD j [] := fun j hj => by rw [gd_take, gd_take, if_pos hj, if_pos (by omega)]
      have gN : (M.take (i + 1 + 1)).getD (i + 1) [] = r := by rw [gd_take, if_pos (by omega), er]
      refine ⟨by omega, ⟨by omega, by omega⟩, chk_map (rnm 3 (i + 1)) (by simp only [List.map_cons, List.map_nil, mapF, rnm_new, rnm_lo, Nat.reduceLT, Nat.reduceAdd]; rfl), ⟨by omega, by omega⟩, ⟨i + 1 + 1, by omega⟩, ?_, by simp only; omega⟩
      show Wk _ (mkRB 0 1 3 33 41 w [(1, .raw (.int .i64 (n : Nat))), (5, .ptr 0 6 0 0), (14, .lst (V.mat M)), (15, .raw (.int .i64 (m : Nat))), (16, .raw (.int .i64 ((i + 1 + 1 : Nat) : Int)))] [] (syH 2 [] (i + 1 + 1) 1) (M.take (i + 1 + 1)) 106)
      have rinj : ∀ a b, a < i + 1 + 1 → b < i + 1 + 1 → rhoS 3 (i + 1) (rid 3 (i + 1) + 10) a = rhoS 3 (i + 1) (rid 3 (i + 1) + 10) b → a = b := fun a b ha hb e => by
        unfold rhoS rid at e
        split at e <;> split at e <;> omega
      refine Wk.ofRB 0 [0, rid 3 (i + 1) + 12, rid 3 (i + 1) + 90] (rhoS 3 (i + 1) (rid 3 (i + 1) + 10)) rfl (by decide) (fun k hk => absurd hk (Nat.not_lt_zero _)) (thR_nodup (by simp [rid]) (fun a b ha hb => rinj a b (by rw [lt2] at ha; exact ha) (by rw [lt2] at hb; exact hb)) (fun x hx a ha => ?_)) ?_ ?_ trivial (syH_ren (k := 2) (k0 := 2) (o0 := rid 3 (i + 1) + 12) rfl rfl (fun h => absurd rfl h) ?_) ?_ ?_
      · rw [lt2] at ha
        unfold rhoS rid
        simp [rid] at hx
        split <;> omega
      · simp only [go_sem]
      · simp only [go_sem, d2]
      · simp only [go_sem, rid_nn, rid_nl]
        rfl
      · have e5 : (V.rwI 3 w (i + 1)).take (i + 1) ++ [V.sl (rid 3 (i + 1) + 10) 4 0 w] = V.rwG (rhoS 3 (i + 1) (rid 3 (i + 1) + 10)) w (i + 1 + 1) := by
          rw [List.take_of_length_le (by rw [rwI_len]; exact Nat.le_refl _), rwI_snoc]
        simp only [go_sem, lt2, hr0, rid_nn, rid_nl, Nat.left_eq_add, Nat.add_eq_left, e5]
      · intro j hj
        rw [lt2] at hj
        by_cases e : j < i + 1
        · have er2 : rhoS 3 (i + 1) (rid 3 (i + 1) + 10) j = rid 3 j := if_pos e
          have hrow := matH_row (o := 1) (b := 3) (tO := 33) (t := 41) (w := w) (M := M.take (i + 1)) (H := syH 2 [] (i + 1) 1) (i := j) (by decide) (by rw [lt]; exact e)
          rw [er2, gI j e]
          simp only [go_sem, rid_rn, rid_rl, e, hrow]
        · obtain rfl : j = i + 1 := by omega
          have er2 : rhoS 3 (i + 1) (rid 3 (i + 1) + 10) (i + 1) = rid 3 (i + 1) + 10 := if_neg (by omega)
          rw [er2, gN]
          simp only [go_sem, rid_nn, rid_nl, Nat.left_eq_add, Nat.add_eq_left]
    · obtain rfl : m = i + 1 := by omega
      have tk : M.take (i + 1) = M := List.take_of_length_le (by omega)
      have c1 : ¬ ((i + 1 : Nat) : Int) < ((i + 1 : Nat) : Int) := by omega
      rw [tk]
      simp only [go_sem, c1]
      obtain ⟨m, hmm⟩ : ∃ m, i + 1 = m := ⟨_, rfl⟩
      rw [hmm] at em hin hi ⊢
      refine AWp.loops (X := { c : Nat // c ≤ n }) (fun c => redS w m [(1, .raw (.int .i64 (n : Nat))), (5, .ptr 0 6 0 0), (32, .raw (.int .i64 (n : Nat))), (33, .raw (.int .i64 (c.1 : Nat)))] (elm M c.1).M (elm M c.1).p (elm M c.1).d) (fun c => n - c.1) ⟨0, Nat.zero_le _⟩ ?_ ?_
      · have hr0 : (List.range (rid 3 m))[0]? = some 0 := List.getElem?_range (by unfold rid; omega)
        refine redS_wk ⟨rfl, rfl, rfl⟩ em ?_ (fun k hk => rfl)
        simp only [go_sem, hr0, Int.natCast_zero]
      rintro ⟨c, hc⟩
      have hE := elm_EI hW c
      obtain ⟨z1, z2⟩ := elm_sz hW hS c
      have z3 := sS_mono S hc
      have z4 := dS_mono S hc
      have enx : elm M (c + 1) = stp (elm M c) c := rfl
      generalize hes : elm M c = s at hE z1 z2 enx
      obtain ⟨lM, W', hnp, plt, pinc, -, -, -⟩ := hE
      rw [em] at lM hnp
      obtain ⟨M', ps, d⟩ := s
      simp only at lM W' hnp plt pinc z1 z2
      obtain ⟨np, enp⟩ : ∃ np, ps.length = np := ⟨_, rfl⟩
      obtain ⟨pF, epF⟩ : ∃ pF, pFk 2 ps = pF := ⟨_, rfl⟩
      have b0 : syH 2 ps m d 0 = some ⟨75, 6, [.agg [.sl 1 1 0 m, pF, .Q d]]⟩ := by rw [← epF]; rfl
      have hr0 : (List.range (rid 3 m))[0]? = some 0 := List.getElem?_range (by unfold rid; omega)
      refine AWp.seq (vc_ok T _ _ _ ?_)
      unfold redS
      by_cases hcn : c < n
      · have d1 : (c : Int) < (n : Int) := by omega
        simp only [go_sem, d1]
        refine AWp.seq (vc_ok T _ _ _ ?_)
        simp only [go_sem]
        refine AWp.seq (AWp.block (AWp.seq (vc_ok T _ _ _ ?_)))
        simp only [go_sem]
        refine AWp.seq (AWp.cut (E := fun e τ => e = .normal ∧ τ = redS w m [(1, .raw (.int .i64 (n : Nat))), (5, .ptr 0 6 0 0), (8, .raw (.int .i64 (c : Nat))), (9, .raw (.int .i64 (np : Nat))), (32, .raw (.int .i64 (n : Nat))), (33, .raw (.int .i64 (c : Nat)))] M' ps d) (vc_ok T _ _ _ ?_) ?_)
        · by_cases hps : ps = []
          · have e6 : pF = .raw (.slice none 0 0) := by rw [← epF, hps]; rfl
            have e7 : np = 0 := by rw [← enp, hps]; rfl
            rw [e6] at b0
            simp only [go_sem, matH_lo, b0]
            refine ⟨_, redS_wk ⟨rfl, rfl, rfl⟩ lM ?_ (fun k hk => rfl), rfl⟩
            simp only [go_sem, hr0, e7, Int.natCast_zero]
          · have e6 : pF = .sl 2 1 0 np := by rw [← epF, ← enp]; exact if_neg hps
            rw [e6] at b0
            simp only [go_sem, matH_lo, b0]
            refine ⟨_, redS_wk ⟨rfl, rfl, rfl⟩ lM ?_ (fun k hk => rfl), rfl⟩
            simp only [go_sem, hr0]
        rintro e τ ⟨rfl, rfl⟩
        unfold redS
        simp only [go_sem]
        refine AWp.seq (vc_ok T _ _ _ ?_)
        simp only [go_sem]
        refine AWp.seq (AWp.block ?_)
        obtain ⟨pF, epF⟩ : ∃ pF, pFk 2 ps = pF := ⟨_, rfl⟩
        obtain ⟨pa1, pa2⟩ : pF.atoms = [pF] ∧ pF.isAgg = false := by rw [← epF]; exact pFk_at 2 ps
        have b0 : syH 2 ps m d 0 = some ⟨75, 6, [.agg [.sl 1 1 0 m, pF, .Q d]]⟩ := by rw [← epF]; rfl
        refine AWp.loops (X := { a : Nat // (np ≤ a ∧ a ≤ m) ∧ ∀ j, np ≤ j → j < a → ent M' j c = 0 }) (fun a => redS w m [(1, .raw (.int .i64 (n : Nat))), (5, .ptr 0 6 0 0), (8, .raw (.int .i64 (c : Nat))), (9, .raw (.int .i64 (np : Nat))), (10, .raw (.int .i64 (a.1 : Nat))), (32, .raw (.int .i64 (n : Nat))), (33, .raw (.int .i64 (c : Nat)))] M' ps d) (fun a => m - a.1) ⟨np, ⟨Nat.le_refl _, by omega⟩, fun j h1 h2 => by omega⟩ (redS_wk ⟨rfl, rfl, rfl⟩ lM (by simp only [go_sem, hr0]) (fun k hk => rfl)) ?_
        rintro ⟨a, ⟨ha1, ha2⟩, haz⟩
        refine vc_ok T _ _ _ ?_
        unfold redS
        have f1 : 0 ≤ (a : Int) := by omega
        have f2 : 0 ≤ (c : Int) := by omega
        have f3 : (a : Int) + 1 = ((a + 1 : Nat) : Int) := by omega
        have f4 : (c : Int) + 1 = ((c + 1 : Nat) : Int) := by omega
        by_cases ham : a < m
        · have g1 : ((a : Int) == (m : Int)) = false := by rw [beq_eq_false_iff_ne]; omega
          obtain ⟨ra, era⟩ : ∃ l, M'.getD a [] = l := ⟨_, rfl⟩
          have lra : ra.length = w := by rw [← era]; exact W' a (by omega)
          have hrow := matH_row (o := 1) (b := 3) (tO := 33) (t := 41) (w := w) (M := M') (H := syH 2 ps m d) (i := a) (by decide) (by omega)
          rw [era] at hrow
          have hcr : c < ra.length := by omega
          obtain ⟨y, ey⟩ : ∃ y, cf ra c = y := ⟨_, rfl⟩
          have ey2 : ent M' a c = y := by show cf (M'.getD a []) c = y; rw [era, ey]
          by_cases hy : y = 0
          · have g2 : (sgI y.num != 0) = false := by rw [sgI_z, hy]; rfl
            simp only [go_sem, matH_lo, matH_o, b0, g1, g2, f1, f2, f3, ham, lM, hrow, hcr, ey, pa1, pa2]
            refine ⟨by omega, by omega, ⟨by omega, by omega⟩, ⟨a + 1, ⟨by omega, ham⟩, fun j h1 h2 => ?_⟩, redS_wk ⟨rfl, rfl, rfl⟩ lM (by simp only [go_sem, hr0]) (fun k hk => rfl), by simp only; omega⟩
            by_cases e : j = a
            · rw [e, ey2, hy]
            · exact haz j h1 (by omega)
          · have g2 : (sgI y.num != 0) = true := by rw [sgI_z]; simp [hy]
            simp only [go_sem, matH_lo, matH_o, b0, g1, g2, f1, f2, f3, ham, lM, hrow, hcr, ey, pa1, pa2]
            have lS : (swM M' np a).length = m := by rw [swM_len, lM]
            have hnpm : np < m := by omega
            have k3 : 0 ≤ (np : Int) := by omega
            refine ⟨by omega, by omega, ?_⟩
            refine AWp.seq (AWp.cut (E := fun e τ => e = .normal ∧ τ = redS w m [(1, .raw (.int .i64 (n : Nat))), (5, .ptr 0 6 0 0), (8, .raw (.int .i64 (c : Nat))), (9, .raw (.int .i64 (np : Nat))), (32, .raw (.int .i64 (n : Nat))), (33, .raw (.int .i64 (c : Nat)))] (swM M' np a) ps (if a = np then d else -d)) (vc_ok T _ _ _ ?_) ?_)
            · by_cases hna : a = np
              · have g3 : ((a : Int) != (np : Int)) = false := by simp [hna]
                simp only [go_sem, g3]
                refine ⟨_, redS_wk ⟨rfl, rfl, rfl⟩ lS ?_ (fun k hk => ?_), rfl⟩
                · simp only [go_sem, hr0]
                · rw [if_pos hna, hna, swM_self (by omega)]
              · have g3 : ((a : Int) != (np : Int)) = true := by simp; omega
                have g4 := rwI_swap (b := 3) (w := w) (k := a) (p := np) ham hnpm (fun e => hna e.symm)
                have g5 : ((V.rwI 3 w m).set np (.sl (rid 3 a) 4 0 w))[a]? = some (.sl (rid 3 a) 4 0 w) := by
                  rw [List.getElem?_set_ne (fun e => hna e.symm)]
                  exact rwG_get ham
                have qd : qs d ≤ 5000000000000 := by omega
                simp only [go_sem, matH_lo, matH_o, b0, g3, f1, f2, f3, k3, ham, lM, hnpm, g4, g5, qd, pa1, pa2, rid_nn, rid_nl, rid_rn, rid_nr, rid_rl, rid_lr, Nat.left_eq_add, Nat.add_eq_left]
                have rinj : ∀ x z, x < m → z < m → rhoX 3 a np x = rhoX 3 a np z → x = z := fun x z hx hz e => by
                  unfold rhoX rid at e
                  split at e <;> split at e <;> (try split at e) <;> (try split at e) <;> omega
                have rge : ∀ x, 3 ≤ rhoX 3 a np x := fun x => by
                  unfold rhoX rid
                  split
                  · omega
                  · split <;> omega
                have rget : ∀ j, j < m → ∃ l, l < m ∧ rhoX 3 a np j = rid 3 l ∧ (swM M' np a).getD j [] = M'.getD l [] := fun j hj => by
                  rw [swM_get (by omega) (by omega)]
                  unfold rhoX
                  by_cases e1 : j = a
                  · rw [if_pos e1, if_neg (show ¬ j = np by omega), if_pos e1]
                    exact ⟨np, hnpm, rfl, rfl⟩
                  · rw [if_neg e1]
                    by_cases e2 : j = np
                    · rw [if_pos e2, if_pos e2]
                      exact ⟨a, ham, rfl, rfl⟩
                    · rw [if_neg e2, if_neg e2, if_neg e1]
                      exact ⟨j, hj, rfl, rfl⟩
                refine ⟨by omega, by omega, by omega, by omega, by rfl, _, ?_, rfl⟩
                rw [if_neg hna, ← redS_mk lS]
                refine Wk.ofRB 0 [0, 1, 2] (rhoX 3 a np) rfl (by decide) (fun k hk => absurd hk (Nat.not_lt_zero _)) (thR_nodup (by decide) (fun x z hx hz => rinj x z (by rw [lS] at hx; exact hx) (by rw [lS] at hz; exact hz)) (fun x hx i hi => by have := rge i; simp at hx; omega)) ?_ ?_ trivial (syH_ren (k := 2) (k0 := 2) (o0 := 1) rfl rfl (fun h => ⟨rfl, ?_⟩) ?_) ?_ ?_
                · simp only [go_sem]
                · simp only [go_sem]
                · simp only [go_sem, matH_lo]
                  rfl
                · simp only [go_sem, matH_lo, epF]
                  rfl
                · simp only [go_sem, lS]
                · intro j hj
                  rw [lS] at hj
                  obtain ⟨l, l1, l2, l3⟩ := rget j hj
                  have hrow := matH_row (o := 1) (b := 3) (tO := 33) (t := 41) (w := w) (M := M') (H := syH 2 ps m d) (i := l) (by decide) (by omega)
                  rw [l2, l3]
                  simp only [go_sem, rid_rl, hrow]
            rintro e τ ⟨rfl, rfl⟩
            unfold redS
            simp only [go_sem]
            obtain ⟨d', ed'⟩ : ∃ d', (if a = np then d else -d) = d' := ⟨_, rfl⟩
            have qd' : qs d' ≤ dS S c := by
              rw [← ed']
              split
              · exact z2
              · rw [qs_neg]; exact z2
            have esw : ent (swM M' np a) np c = y := by rw [ent_swM (by omega) (by omega), if_pos rfl, ey2]
            have enx2 : elm M (c + 1) = ⟨pvt (swM M' np a) np c, ps ++ [c], d' * y⟩ := by
              rw [enx]
              unfold stp
              rw [show srF (ES.mk M' ps d).M (ES.mk M' ps d).p.length c = some a from srF_is (by show ps.length ≤ a; omega) (by show a < M'.length; omega) (by show ent M' a c ≠ 0; rw [ey2]; exact hy) fun j h1 h2 => haz j (by rw [← enp]; exact h1) h2]
              show stA (ES.mk M' ps d) a c = _
              unfold stA
              simp only [enp, ed', ey2]
            have piv := pivot_H (w := w) (n := np) (c := c) (S := sS S c) (M := swM M' np a) (d := d') (ps := ps) (by omega) (by omega) (by omega) (by omega) (by omega) (swM_wid W' (by omega) (by omega)) (by rw [esw]; exact hy) (swM_sz (by omega) (by omega) z1) (by omega) (by omega)
            rw [lS, esw] at piv
            rw [ed']
            refine AWp.regs ?_
            refine RegI.cut T 0 3 rfl rfl (by decide) ?_
            simp only [go_sem]
            refine ⟨redS w m [(1, .raw (.int .i64 (n : Nat))), (5, .ptr 0 6 0 0), (32, .raw (.int .i64 (n : Nat))), (33, .raw (.int .i64 (c : Nat))), (100, .ptr 0 6 0 0), (101, .raw (.int .i64 (np : Nat))), (102, .raw (.int .i64 (c : Nat)))] (swM M' np a) ps d', redS_wk ⟨rfl, rfl, rfl⟩ lS (by simp only [go_sem, hr0]) (fun k hk => rfl), ?_⟩
            unfold redS
            refine RegI.callH (dst := some 103) 3 rfl rfl rfl rfl rfl rfl 1 (Nat.zero_le _) trivial [(1, .raw (.int .i64 (n : Nat))), (5, .ptr 0 6 0 0), (32, .raw (.int .i64 (n : Nat))), (33, .raw (.int .i64 (c : Nat)))] ?_ rfl (by show (103 : Nat) < 106; decide) piv ?_
            · have lv : (lvT 1 (matH 1 3 33 41 w (swM M' np a) (syH 2 ps m d')) (rid 3 m))[0]? = some 0 := lvT_get (by decide) (by rw [matH_lo (by decide) (by decide)]; rfl)
              generalize lvT 1 (matH 1 3 33 41 w (swM M' np a) (syH 2 ps m d')) (rid 3 m) = θ at lv ⊢
              simp only [go_sem, lv]
            refine RegI.fin T 4 rfl ?_
            simp only [go_sem]
            refine vc_ok T _ _ _ ?_
            simp only [go_sem, f4]
            refine ⟨⟨by omega, by omega⟩, ⟨c + 1, hcn⟩, ?_, by simp only; omega⟩
            show Wk _ (redS w m [(1, .raw (.int .i64 (n : Nat))), (5, .ptr 0 6 0 0), (32, .raw (.int .i64 (n : Nat))), (33, .raw (.int .i64 ((c + 1 : Nat) : Int)))] (elm M (c + 1)).M (elm M (c + 1)).p (elm M (c + 1)).d)
            rw [enx2]
            exact redS_wk ⟨rfl, rfl, rfl⟩ (by rw [pvt_len, lS]) (by simp only [go_sem, hr0]) (fun k hk => rfl)
        · have g1 : ((a : Int) == (m : Int)) = true := by rw [beq_iff_eq]; omega
          have enx2 : elm M (c + 1) = ⟨M', ps, d⟩ := by
            rw [enx]
            unfold stp
            rw [show srF (ES.mk M' ps d).M (ES.mk M' ps d).p.length c = none from srF_no fun j h1 h2 => haz j (by rw [← enp]; exact h1) (by have h2 : j < M'.length := h2; omega)]
          simp only [go_sem, matH_lo, matH_o, b0, g1, f1, f2, f3, lM, pa1, pa2]
          refine vc_ok T _ _ _ ?_
          simp only [go_sem, f4]
          refine ⟨⟨by omega, by omega⟩, ⟨c + 1, hcn⟩, ?_, by simp only; omega⟩
          show Wk _ (redS w m [(1, .raw (.int .i64 (n : Nat))), (5, .ptr 0 6 0 0), (32, .raw (.int .i64 (n : Nat))), (33, .raw (.int .i64 ((c + 1 : Nat) : Int)))] (elm M (c + 1)).M (elm M (c + 1)).p (elm M (c + 1)).d)
          rw [enx2]
          exact redS_wk ⟨rfl, rfl, rfl⟩ lM (by simp only [go_sem, hr0]) (fun k hk => rfl)
      · obtain rfl : n = c := by omega
        have d1 : ¬ (n : Int) < (n : Int) := by omega
        simp only [go_sem, d1]
        refine AWp.seq (vc_ok T _ _ _ ?_)
        have rows : ∀ K : List V → List Nat → Prop, frzs (frzE (argN (matH 1 3 33 41 w M' (syH 2 ps m d)) 1)) (V.rwI 3 w m) K = K (V.mat M') ((List.range m).map (rid 3)) := fun K =>
          frzs_rwG1 (m := 0) lM fun j hj => ⟨matH_row (by decide) hj, W' j hj⟩
        have tk : (V.rwI 3 w m).take m = V.rwI 3 w m := List.take_of_length_le (by rw [rwI_len]; exact Nat.le_refl _)
        have mm : m ≤ m := Nat.le_refl m
        by_cases hps : ps = []
        · have e6 : pF = .raw (.slice none 0 0) := by rw [← epF, hps]; rfl
          rw [e6] at b0
          simp only [go_sem, matH_lo, matH_o, b0, hes, lM, mm, tk, rows]
          rw [hps]
          exact .refl _
        · have e6 : pF = .sl 2 1 0 np := by rw [← epF, ← enp]; exact if_neg hps
          have b2 : syH 2 ps m d 2 = some ⟨3, 1, V.nats ps⟩ := by show pBk ps = _; exact if_neg hps
          rw [e6] at b0
          have nn : np ≤ ps.length := by omega
          have tk2 : (V.nats ps).take np = V.nats ps := List.take_of_length_le (by rw [nats_len]; omega)
          simp only [go_sem, matH_lo, matH_o, b0, b2, hes, lM, mm, tk, nn, tk2, rows]
          trace_state
/-- The state of the first loop where the rows are empty. -/
def redZ (m : Nat) (M : List (List Rat)) : Nat → St
  | 0 => mkSt [(1, .raw (.int .i64 0)), (5, .ptr 0 6 0 0), (14, .lst (V.mat M)), (15, .raw (.int .i64 (m : Nat))), (16, .raw (.int .i64 0))] [(0, true, ⟨75, 6, [.agg [.raw (.slice none 0 0), .raw (.slice none 0 0), .Q 1]]⟩)] 1 106
  | i + 1 => { s := mkS [(1, .raw (.int .i64 0)), (5, .ptr 0 6 0 0), (14, .lst (V.mat M)), (15, .raw (.int .i64 (m : Nat))), (16, .raw (.int .i64 ((i + 1 : Nat) : Int)))], H := mkHb (syH 2 [] (i + 1) 1) [(1, true, ⟨33, 1, V.mat (M.take (i + 1))⟩)], n := 3, N := 106 }
set_option maxRecDepth 8000 in
set_option maxHeartbeats 4000000 in
theorem reduce_0 (M : List (List Rat)) (hm : M.length ≤ 1000) (hm0 : 0 < M.length) (hW : Wid 0 M) : PCall Try.prog 36 [.lst (V.mat M), .raw (.int .i64 0)] (redV (elm M 0)) := by
  refine PCall.pel (x := .agg (.lst (V.mat M) :: .lst [] :: (V.Q 1).atoms)) ?_ (atsLe.refl _)
  have T := (tabs mixed (tbl_cons whole_C (tbl_cons qSign_C (tbl_cons qNeg_C (tbl_cons qclo0_C tbl_nil)))))
  refine PCall.of_vc T Try.func36 rfl Try.ntmps36 Try.results36 (by simp) ?_
  have e1 : ((1 : Int) : Rat) = 1 := rfl
  have mx : maxLen = 9223372036854775807 := by decide
  obtain ⟨m, em⟩ : ∃ m, M.length = m := ⟨_, rfl⟩
  have hr0 : ∀ i, i < m → M.getD i [] = [] := fun i hi => List.eq_nil_of_length_eq_zero (hW i (by omega))
  have e0 : V.lst [] = V.lst (V.rats []) := rfl
  simp only [go_sem, e1, em]
  refine AWp.loops (X := { i : Nat // i ≤ m }) (fun i => redZ m M i.1) (fun i => m - i.1) ⟨0, Nat.zero_le _⟩ (Wk.of [3] (by decide) ?_) ?_
  · simp only [go_sem]
  rintro ⟨i, hi⟩
  cases i with
  | zero =>
    refine vc_at T ?_
    have c1 : 0 < (m : Int) := by omega
    have hr := hr0 0 (by omega)
    simp only [go_sem, c1, hm0, hr, mx]
    refine ⟨by omega, by rfl, ⟨1, by omega⟩, ?_, by simp only; omega⟩
    have e3 : M.take 1 = [[]] := by
      refine m_ext (by rw [List.length_take]; simp; omega) fun k hk => ?_
      rw [List.length_take] at hk
      obtain rfl : k = 0 := by omega
      rw [gd_take, if_pos (by decide), hr]; rfl
    have e2 : V.mat (M.take 1) = [.lst []] := by rw [e3]; rfl
    refine Wk.ofB (ss := [(1, .raw (.int .i64 0)), (5, .ptr 0 6 0 0), (14, .lst (V.mat M)), (15, .raw (.int .i64 (m : Nat))), (16, .raw (.int .i64 ((0 + 1 : Nat) : Int)))]) (hs := [(1, true, ⟨33, 1, V.mat (M.take 1)⟩)]) (base := syH 2 [] 1 1) 0 [0, 13, 90] (fun k hk => absurd hk (Nat.not_lt_zero _)) (by decide) ⟨rfl, rfl, rfl⟩ ?_ ?_ (syH_ren (k := 2) (k0 := 2) (o0 := 13) rfl rfl (fun h => absurd rfl h) ?_)
    · simp only [go_sem]
    · simp only [go_sem, e2]
    · simp only [go_sem]
      rfl
  | succ i =>
    refine vc_ok T _ _ _ ?_
    unfold redZ
    have b0 : syH 2 [] (i + 1) 1 0 = some ⟨75, 6, [.agg [.sl 1 1 0 (i + 1), .raw (.slice none 0 0), .Q 1]]⟩ := rfl
    have lt : (M.take (i + 1)).length = i + 1 := by rw [List.length_take]; omega
    have d2 : ((i + 1 : Nat) : Int) + 1 = ((i + 1 + 1 : Nat) : Int) := by omega
    by_cases hin : i + 1 < m
    · have c1 : ((i + 1 : Nat) : Int) < (m : Int) := by omega
      have hm1 : i + 1 < M.length := by omega
      have c2 : 0 ≤ ((i + 1 : Nat) : Int) := by omega
      have hr := hr0 (i + 1) hin
      have lt2 : (M.take (i + 1 + 1)).length = i + 1 + 1 := by rw [List.length_take]; omega
      have e2 : V.mat (M.take (i + 1)) ++ [.lst []] = V.mat (M.take (i + 1 + 1)) := by
        rw [e0, mat_snoc]
        congr 1
        refine m_ext (by rw [List.length_append, lt, lt2]; rfl) fun k hk => ?_
        rw [List.length_append, lt] at hk
        simp at hk
        rw [gd_take, if_pos (by omega), hr0 k (by omega), List.getD_eq_getElem?_getD]
        by_cases e : k < i + 1
        · rw [List.getElem?_append_left (by omega), ← List.getD_eq_getElem?_getD, gd_take, if_pos e, hr0 k (by omega)]
        · rw [List.getElem?_append_right (by omega)]
          obtain rfl : k = i + 1 := by omega
          rw [lt, Nat.sub_self]; rfl
      have tk : (V.mat (M.take (i + 1))).take (i + 1) = V.mat (M.take (i + 1)) := List.take_of_length_le (by rw [mat_len, lt]; exact Nat.le_refl _)
      simp only [go_sem, c1, hm1, hr, mx, b0, lt, c2, d2, tk, e2]
      refine ⟨by omega, ⟨by omega, by omega⟩, by rfl, ⟨by omega, by omega⟩, ⟨i + 1 + 1, by omega⟩, ?_, by simp only; omega⟩
      refine Wk.ofB (ss := [(1, .raw (.int .i64 0)), (5, .ptr 0 6 0 0), (14, .lst (V.mat M)), (15, .raw (.int .i64 (m : Nat))), (16, .raw (.int .i64 ((i + 1 + 1 : Nat) : Int)))]) (hs := [(1, true, ⟨33, 1, V.mat (M.take (i + 1 + 1))⟩)]) (base := syH 2 [] (i + 1 + 1) 1) 0 [0, 15, 90] (fun k hk => absurd hk (Nat.not_lt_zero _)) (by decide) ⟨rfl, rfl, rfl⟩ ?_ ?_ (syH_ren (k := 2) (k0 := 2) (o0 := 15) rfl rfl (fun h => absurd rfl h) ?_)
      · simp only [go_sem]
      · simp only [go_sem]
      · simp only [go_sem]
        rfl
    · obtain rfl : m = i + 1 := by omega
      have c1 : ¬ ((i + 1 : Nat) : Int) < ((i + 1 : Nat) : Int) := by omega
      have c3 : ¬ (0 : Int) < 0 := by decide
      have tk : M.take (i + 1) = M := List.take_of_length_le (by omega)
      have mm : i + 1 ≤ M.length := by omega
      have tk2 : (V.mat M).take (i + 1) = V.mat M := List.take_of_length_le (by rw [mat_len]; omega)
      simp only [go_sem, c1, c3, tk]
      refine AWp.loops (X := Unit) (fun _ => { s := mkS [(1, .raw (.int .i64 0)), (5, .ptr 0 6 0 0), (32, .raw (.int .i64 0)), (33, .raw (.int .i64 0))], H := mkHb (syH 2 [] (i + 1) 1) [(1, true, ⟨33, 1, V.mat M⟩)], n := 3, N := 106 }) (fun _ => 0) () (Wk.ofB (ss := [(1, .raw (.int .i64 0)), (5, .ptr 0 6 0 0), (32, .raw (.int .i64 0)), (33, .raw (.int .i64 0))]) (hs := [(1, true, ⟨33, 1, V.mat M⟩)]) (base := syH 2 [] (i + 1) 1) 0 [0, 1, 90] (fun k hk => absurd hk (Nat.not_lt_zero _)) (by decide) ⟨rfl, rfl, rfl⟩ ?_ ?_ (syH_ren (k := 2) (k0 := 2) (o0 := 1) rfl rfl (fun h => absurd rfl h) ?_)) ?_
      · simp only [go_sem]
      · simp only [go_sem]
      · simp only [go_sem]
        rfl
      rintro ⟨⟩
      refine vc_ok T _ _ _ ?_
      simp only [go_sem, c3, b0, mm, tk2]
theorem reduce_C : Ctr Try.prog 36 kReduce := Ctr.c2 (by kernel_rfl) fun M z h => by
  obtain ⟨⟨hm, hz⟩, w, S, ⟨hW, hw, hzw⟩, hS, hS1, hd⟩ := h
  obtain ⟨n, rfl⟩ : ∃ n : Nat, z = n := ⟨z.toNat, by omega⟩
  show PCall _ _ [.lst (V.mat M), .raw (.int .i64 (n : Nat))] (redV (elm M n))
  have hS1 : sS S n ≤ 1000000000000 := hS1
  have hd : dS S n ≤ 1000000000000 := hd
  by_cases hm0 : M = []
  · subst hm0
    rw [elm_nil]
    exact reduce_nil n (by omega)
  have hml : 0 < M.length := List.length_pos_iff.2 hm0
  by_cases hw0 : w = 0
  · subst hw0
    obtain rfl : n = 0 := by omega
    exact reduce_0 M hm hml hW
  · exact reduce_V M n w S hm hml hW hw (by omega) (by omega) hS hS1 hd
end Go.Proofs.Ytjjebokgckmnjaa


/- The vectors of the kernel as the code makes them. No program in sight. -/
namespace Go.Proofs.Ytjjebokgckmnjaa
set_option linter.unusedSimpArgs false
set_option linter.unusedVariables false

def nrS (p : List Nat) (A : List (List Rat)) (w c : Nat) : Nat → List Rat
  | 0 => (List.replicate w 0).set c 1
  | i + 1 => (nrS p A w c i).set (pv p i) (- ent A i c)
theorem nrS_len (p : List Nat) (A : List (List Rat)) (w c : Nat) : ∀ i, (nrS p A w c i).length = w
  | 0 => by simp [nrS]
  | i + 1 => by rw [nrS, List.length_set, nrS_len p A w c i]
def nulR (p : List Nat) (A : List (List Rat)) (w c : Nat) : List Rat := nrS p A w c p.length
def nulP (p : List Nat) (A : List (List Rat)) (w : Nat) : Nat → List (List Rat)
  | 0 => []
  | c + 1 => if c ∈ p then nulP p A w c else nulP p A w c ++ [nulR p A w c]
theorem nulP_len (p : List Nat) (A : List (List Rat)) (w : Nat) : ∀ c, (nulP p A w c).length ≤ c
  | 0 => Nat.le_refl _
  | c + 1 => by
    have := nulP_len p A w c
    rw [nulP]
    split
    · omega
    · rw [List.length_append]; simp; omega
theorem mem_pv {p : List Nat} {c : Nat} : c ∈ p ↔ ∃ i, i < p.length ∧ pv p i = c := by
  unfold pv
  rw [List.mem_iff_getElem]
  constructor
  · rintro ⟨i, h, e⟩
    exact ⟨i, h, by rw [List.getD_eq_getElem?_getD, List.getElem?_eq_getElem h]; exact e⟩
  · rintro ⟨i, h, e⟩
    rw [List.getD_eq_getElem?_getD, List.getElem?_eq_getElem h] at e
    exact ⟨i, h, e⟩
end Go.Proofs.Ytjjebokgckmnjaa

