/- Texts C7 C8 C9 in one. -/
import Derived.Test.YtfbogelmgdojgaaGreatP13
/- Contracts: short, shift. -/
namespace Go.Proofs.YtfbogelmgdojgaaGreat
set_option linter.unusedSimpArgs false
set_option linter.unusedVariables false
open Go.RowKit

theorem short_V (l : List Nat) (d : Nat) (hl : Lim l) (h1 : l.length ≤ 10000000000000) (hd0 : 1 ≤ d) (hd : d < 4294967296) :
    PCall Tryz.prog 151 [.lst (V.limbs l), .raw (.int .u32 (d : Nat))] (.tup [.lst (V.limbs (nl l.length (lv l / d))), .raw (.int .u32 ((lv l % d : Nat) : Int))]) := by
  refine PCall.of_vc (tabs mixed tbl_nil) Tryz.func151 rfl Tryz.ntmps151 Tryz.results151 (by simp) ?_
  simp only [go_sem]
  and_intros
  any_goals omega
  refine AWp.loops (X := { x : Nat × Nat × List Nat // x.1 ≤ l.length ∧ x.2.1 < d ∧ Lim x.2.2 ∧ x.2.2.length = l.length ∧ lv (l.drop x.1) = lv (x.2.2.drop x.1) * d + x.2.1 })
    (fun a => mkSt [(0, .lst (V.limbs l)), (1, .raw (.int .u32 (d : Nat))), (6, .sl 0 1 0 l.length), (7, .raw (.int .u64 (a.1.2.1 : Nat))), (8, .raw (.int .i64 ((a.1.1 : Nat) - 1)))] [(0, true, ⟨110, 1, V.limbs a.1.2.2⟩)] 1 42)
    (fun a => a.1.1) ⟨(l.length, 0, List.replicate l.length 0), Nat.le_refl _, hd0, Lim.replicate _, by simp, by rw [List.drop_length, List.drop_eq_nil_of_le (by simp)]; simp [lv]⟩ (Wk.of [4] (by decide) ?_) ?_
  · simp only [go_sem]
  · rintro ⟨⟨k, rest, r⟩, hk, hrest, hr, hrl, hv⟩
    simp only at hk hrest hr hrl hv
    refine vc_at (tabs mixed tbl_nil) ?_
    rcases k with _ | k
    · rw [List.drop_zero, List.drop_zero] at hv
      have q1 : lv l % d = rest := by rw [hv, Nat.add_comm, Nat.add_mul_mod_self_right, Nat.mod_eq_of_lt hrest]
      have q2 : lv r = lv l / d := by rw [hv, Nat.add_comm, Nat.add_mul_div_right _ _ hd0, Nat.div_eq_of_lt hrest, Nat.zero_add]
      have q3 : (rest : Int) % 4294967296 = (rest : Int) := by omega
      simp only [go_sem, hrl, q3, List.take_of_length_le (Nat.le_of_eq hrl)]
      rw [← nl_of hr hrl q2, q1]
      exact ⟨.refl _, .refl _⟩
    · have e1 : ((k + 1 : Nat) : Int) - 1 = k := by omega
      have e2 : (0 : Int) ≤ k := by omega
      have l1 := hl.at0 k
      have hor := or_shift (at0 l k : Int) rest (by omega) (by omega) (by omega) (by omega)
      obtain ⟨T, hT⟩ : ∃ T : Nat, T = rest * 4294967296 + at0 l k := ⟨_, rfl⟩
      have hTI : (rest : Int) * 4294967296 + (at0 l k : Int) = (T : Int) := by rw [hT]; simp
      rw [hTI] at hor
      obtain ⟨Q, hQ⟩ : ∃ Q : Nat, Q = T / d := ⟨_, rfl⟩
      obtain ⟨R, hR⟩ : ∃ R : Nat, R = T % d := ⟨_, rfl⟩
      have hQI : (T : Int) / (d : Int) = (Q : Int) := by rw [hQ]; simp
      have hRI : (T : Int) % (d : Int) = (R : Int) := by rw [hR]; simp
      have hQb : Q < 4294967296 := by
        rw [hQ]
        apply Nat.div_lt_of_lt_mul
        have h3 : rest * 4294967296 + 4294967296 ≤ d * 4294967296 := by
          have : rest + 1 ≤ d := hrest
          have := Nat.mul_le_mul_right 4294967296 this
          omega
        omega
      have hRb : R < d := by rw [hR]; exact Nat.mod_lt _ hd0
      have hTb : T < 18446744073709551616 := by omega
      have hTd : T = Q * d + R := by rw [hQ, hR, Nat.mul_comm]; exact (Nat.div_add_mod T d).symm
      have a1 : IntKind.u64.wrap ((rest : Int) * 4294967296) = (rest : Int) * 4294967296 := IntWalk.u64_in _ (by omega)
      have a2 : (at0 l k : Int) % 18446744073709551616 = at0 l k := by omega
      have a3 : (d : Int) % 18446744073709551616 = d := by omega
      have a4 : (Q : Int) % 4294967296 = Q := by omega
      have a5 : ¬ ((d : Int) = 0) := by omega
      simp only [go_sem, e1, e2, hrl, a1, a2, a3, hor, hQI, hRI, a4, a5]
      have hmx : IntKind.u64.max = 18446744073709551615 := by decide
      rw [hmx]
      and_intros
      any_goals omega
      refine ⟨⟨(k, R, r.set k Q), by omega, hRb, hr.set _ hQb, by simp [hrl], ?_⟩, Wk.of [0] (by decide) ?_, Nat.lt_succ_self k⟩
      · show lv (l.drop k) = lv ((r.set k Q).drop k) * d + R
        rw [lv_drop_set _ (by omega), lv_drop, hv, Nat.add_mul, Nat.mul_add, Nat.mul_assoc]
        omega
      · simp only [go_sem, hrl]
def kShort : Con := con2 pL (pN .u32) fun l d => (Lim l ∧ l.length ≤ 10000000000000 ∧ 1 ≤ d ∧ d < 4294967296, .tup [.lst (V.limbs (nl l.length (lv l / d.toNat))), .raw (.int .u32 ((lv l % d.toNat : Nat) : Int))])
attribute [go_sem ↓, go_sem] kShort
theorem short_C : Ctr Tryz.prog 151 kShort := Ctr.c2 (by kernel_rfl) fun l d h => by
  obtain ⟨h1, h2, h3, h4⟩ := h
  have := short_V l d.toNat h1 h2 (by omega) (by omega)
  rw [show ((d.toNat : Nat) : Int) = d from by omega] at this
  exact this
theorem shift_V (l : List Nat) (k : Nat) (hl : Lim l) (h1 : l.length ≤ 10000000000000) (hk : k < 32) :
    FCall Tryz.prog 158 [.lst (V.limbs l), .raw (.int .i64 (k : Nat))] ⟨110, 1, V.limbs (nl (l.length + 1) (lv l * 2 ^ k))⟩ := by
  refine FCall.of_vc (tabs mixed tbl_nil) Tryz.func158 rfl Tryz.ntmps158 Tryz.results158 (by simp) ?_
  have e1 : (l.length : Int) + 1 = ((l.length + 1 : Nat) : Int) := by omega
  simp only [go_sem, e1]
  and_intros
  any_goals omega
  refine AWp.loops (X := { x : Nat × List Nat // x.1 ≤ l.length ∧ Lim x.2 ∧ x.2.length = l.length + 1 ∧ lv x.2 = lv (l.take x.1) * 2 ^ k ∧ (∀ j, x.1 < j → at0 x.2 j = 0) ∧ at0 x.2 x.1 < 2 ^ k })
    (fun a => mkSt [(0, .lst (V.limbs l)), (1, .raw (.int .i64 (k : Nat))), (5, .sl 0 1 0 (l.length + 1)), (13, .lst (V.limbs l)), (14, .raw (.int .i64 (l.length : Nat))), (15, .raw (.int .i64 (a.1.1 : Nat)))] [(0, true, ⟨110, 1, V.limbs a.1.2⟩)] 1 41)
    (fun a => l.length - a.1.1) ⟨(0, List.replicate (l.length + 1) 0), Nat.zero_le _, Lim.replicate _, by simp, by simp [lv, lv_replicate], fun j _ => at0_replicate _ _, by simp only [at0_replicate]; exact Nat.two_pow_pos k⟩ (Wk.of [4] (by decide) ?_) ?_
  · simp only [go_sem]
  · rintro ⟨⟨i, r⟩, hi, hr, hrl, hv, hz, htop⟩
    simp only at hi hr hrl hv hz htop
    refine vc_at (tabs mixed tbl_nil) ?_
    by_cases h : i < l.length
    · have e3 : (i : Int) < l.length := by omega
      have l1 := hl.at0 i
      have hp32 : (2 : Nat) ^ k * 2 ^ (32 - k) = 4294967296 := by rw [← Nat.pow_add, show k + (32 - k) = 32 from by omega]
      have hpp : 0 < (2 : Nat) ^ k := Nat.two_pow_pos k
      have hpl : (2 : Nat) ^ k ≤ 2147483648 := by
        have : (2 : Nat) ^ k ≤ 2 ^ 31 := Nat.pow_le_pow_right (by decide) (by omega)
        have e : (2 : Nat) ^ 31 = 2147483648 := by decide
        omega
      obtain ⟨W, hV⟩ : ∃ W : Nat, W = at0 l i * 2 ^ k := ⟨_, rfl⟩
      have hVb : W < 4294967296 * 2 ^ k := by rw [hV]; exact Nat.mul_lt_mul_of_pos_right l1 hpp
      have hVb2 : W < 9223372036854775808 := by
        have : 4294967296 * 2 ^ k ≤ 4294967296 * 2147483648 := Nat.mul_le_mul_left _ hpl
        omega
      have hVI : IntKind.u64.wrap ((at0 l i : Int) * 2 ^ k) = (W : Int) := by
        have e : (at0 l i : Int) * 2 ^ k = (W : Int) := by rw [hV]; simp
        rw [e]; exact IntWalk.u64_in _ (by omega)
      have hVd : W / 4294967296 < 2 ^ k := Nat.div_lt_of_lt_mul hVb
      have hVm : W % 4294967296 % 2 ^ k = 0 := by
        rw [Nat.mod_mod_of_dvd _ ⟨2 ^ (32 - k), hp32.symm⟩, hV, Nat.mul_mod_left]
      have hor := bits_or_u32 (at0 r i) (W % 4294967296) k (by omega) htop hVm (by omega)
      have hsum : at0 r i + W % 4294967296 < 4294967296 := by
        have h3 : W % 4294967296 ≤ 4294967296 - 2 ^ k := by
          have e1 : W % 4294967296 = 2 ^ k * (W % 4294967296 / 2 ^ k) := by have := Nat.div_add_mod (W % 4294967296) (2 ^ k); omega
          have e2 : W % 4294967296 / 2 ^ k < 2 ^ (32 - k) := Nat.div_lt_of_lt_mul (by rw [hp32]; omega)
          have e3 : 2 ^ k * (W % 4294967296 / 2 ^ k) + 2 ^ k ≤ 2 ^ k * 2 ^ (32 - k) := by
            rw [← Nat.mul_succ]; exact Nat.mul_le_mul_left _ e2
          omega
        omega
      obtain ⟨U, hU⟩ : ∃ U : Nat, U = at0 r i + W % 4294967296 := ⟨_, rfl⟩
      have horI : bits BinOp.or IntKind.u32 (at0 r i : Int) ((W : Int) % 4294967296) = (U : Int) := by
        rw [hU, ← hor]; congr 1
      have hUb : U < 4294967296 := by omega
      have hfin : lv ((r.set i U).set (i + 1) (W / 4294967296)) = lv (l.take (i + 1)) * 2 ^ k := by
        have a1 := lv_set (l := r) (i := i) (x := U) (by omega)
        have a2 := lv_set (l := r.set i U) (i := i + 1) (x := W / 4294967296) (by rw [List.length_set]; omega)
        rw [at0_set (by omega), if_neg (by omega), hz (i + 1) (by omega), Nat.mul_zero, Nat.add_zero] at a2
        rw [a2, lv_take_succ', Nat.add_mul, ← hv, Nat.mul_assoc, ← hV, Nat.pow_succ, Nat.mul_assoc]
        have e4 : 4294967296 ^ i * U = 4294967296 ^ i * at0 r i + 4294967296 ^ i * (W % 4294967296) := by rw [hU, Nat.mul_add]
        have e5 : 4294967296 ^ i * (W % 4294967296) + 4294967296 ^ i * (4294967296 * (W / 4294967296)) = 4294967296 ^ i * W := by rw [← Nat.mul_add, Nat.mod_add_div]
        omega
      have a2 : (at0 l i : Int) % 18446744073709551616 = at0 l i := by omega
      have a3 : (W : Int) / 4294967296 % 4294967296 = ((W / 4294967296 : Nat) : Int) := by omega
      have a4 : (i : Int) + 1 = ((i + 1 : Nat) : Int) := by omega
      have a6 : ((k : Int)).toNat = k := by omega
      simp only [go_sem, e3, hrl, a2, a3, a4, a6, hVI, horI]
      and_intros
      any_goals omega
      refine ⟨⟨(i + 1, (r.set i U).set (i + 1) (W / 4294967296)), h, (hr.set _ hUb).set _ (by omega), by simp [hrl], hfin, fun j hj => ?_, ?_⟩, Wk.of [0] (by decide) ?_, by simp only; omega⟩
      · simp only at hj
        rw [at0_set (by rw [List.length_set]; omega), if_neg (by omega), at0_set (by omega), if_neg (by omega)]
        exact hz j (by omega)
      · simp only
        rw [at0_set (by rw [List.length_set]; omega), if_pos rfl]; exact hVd
      · simp only [go_sem, hrl]
    · have e3 : ¬ (i : Int) < l.length := by omega
      have hil : i = l.length := by omega
      subst hil
      rw [List.take_length] at hv
      simp only [go_sem, e3, nl_length, ← nl_of hr hrl hv]
      exact ⟨0, by rw [hrl], by simp⟩
def kShift : FCon := con2 pL (pN .i64) fun l k => (Lim l ∧ l.length ≤ 10000000000000 ∧ 0 ≤ k ∧ k < 32, ⟨110, 1, V.limbs (nl (l.length + 1) (lv l * 2 ^ k.toNat))⟩)
attribute [go_sem ↓, go_sem] kShift
theorem shift_C : FCtr Tryz.prog 158 kShift := FCtr.c2 (by kernel_rfl) fun l k h => by
  obtain ⟨h1, h2, h3, h4⟩ := h
  have := shift_V l k.toNat h1 h2 (by omega)
  rw [show ((k.toNat : Nat) : Int) = k from by omega] at this
  exact this
end Go.Proofs.YtfbogelmgdojgaaGreat

/- Contracts: Pow. -/
namespace Go.Proofs.YtfbogelmgdojgaaGreat
set_option linter.unusedSimpArgs false
set_option linter.unusedVariables false
open Go.RowKit

/-- Pow answers these. -/
def powR (x n : Int) : V := if 0 ≤ n ∧ n ≤ 256 then .tup [.I (pw x n.toNat), .raw (.int .i64 0)] else .tup [.I 0, .raw (.int .i64 1)]
end Go.Proofs.YtfbogelmgdojgaaGreat

/- Contracts: slices.Clone. -/
namespace Go.Proofs.YtfbogelmgdojgaaGreat
set_option linter.unusedSimpArgs false
set_option linter.unusedVariables false
open Go.RowKit

theorem clone_V (x : Nat) (l : List Nat) (h1 : l.length ≤ 10000000000000) :
    PCall Tryz.prog 150 [.lst (V.limbs (x :: l))] (.lst (V.limbs (x :: l))) := by
  refine PCall.of_vc (tabs mixed tbl_nil) Tryz.func150 rfl Tryz.ntmps150 Tryz.results150 (by simp) ?_
  have e1 : V.limbs (x :: l) = .raw (.int .u32 (x : Nat)) :: V.limbs l := rfl
  rw [e1]
  have e2 : maxLen = 9223372036854775807 := by decide
  simp only [go_sem, List.take_length, e2]
  exact ⟨⟨_, rfl⟩, by omega, by omega⟩
theorem clone_nil_walk (A : Option Addr) (c : Nat) (w : World) : Calls Tryz.prog 150 #[.slice A 0 c] w fun e w' => ∃ A' c', e = .returned (.slice A' 0 c') ∧ Below w.heap.size w w' := by
  have heq := Lib.run_eql_slice_nil (P := Tryz.prog) w 41 110 A 0 c 0 0 Tryz.underlying41
  cases A with
  | none =>
    simp only [Option.isNone_none] at heq
    go_enter Tryz.func150, Tryz.ntmps150
    go_wp2_with fail
    go_ret
    exact ⟨_, _, rfl, Below.refl _ _⟩
  | some A =>
    simp only [Option.isNone_some] at heq
    go_enter Tryz.func150, Tryz.ntmps150
    go_wp2_with fail
    go_ret
    exact ⟨_, _, rfl, (Below.refl _ _).alloc (Nat.le_refl _) _⟩
theorem clone_nil : PCall Tryz.prog 150 [.lst []] (.lst []) := by
  intro B w vs hl hv hB
  match vs, hl with
  | [v], _ =>
    have h := (hv 0 _ _ rfl rfl).atom rfl
    cases h with
    | nil _ A c =>
      refine (clone_nil_walk A c w).mono ?_
      rintro e w' ⟨A', c', rfl, hb⟩
      exact ⟨_, rfl, RepV.of_W (RepW.of_atom (.nil _ _ _) rfl rfl) (by intro l h; cases h), hb⟩
    | lst _ l b a c vs h0 => exact absurd rfl h0
def kClone : Con := con1 pL fun l => (l.length ≤ 10000000000000, .lst (V.limbs l))
attribute [go_sem ↓, go_sem] kClone
theorem clone_C : Ctr Tryz.prog 150 kClone := Ctr.c1 (by kernel_rfl) fun l h => by
  cases l with
  | nil => exact clone_nil
  | cons x l => exact clone_V x l (by simp at h; omega)
end Go.Proofs.YtfbogelmgdojgaaGreat
