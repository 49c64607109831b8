/- Texts PM19 LQ6 LQ7 in one. -/
import Derived.Test.YtfbogelmgdojgaaGreatR32
import Derived.Test.YtfbogelmgdojgaaGreatR33
/- Moduli with rational roots. No program in sight. -/
namespace Go.Proofs.YtfbogelmgdojgaaGreat
set_option linter.unusedSimpArgs false
set_option linter.unusedVariables false

def lnr (r : Rat) : List Rat := [-r, 1]
theorem can_lnr (r : Rat) : Can (lnr r) := by
  unfold lnr
  rw [Can_cons, if_neg (by simp)]
  exact can1
theorem ev_lnr (r x : Rat) : ev (lnr r) x = x - r := by
  show -r + x * (1 + x * 0) = x - r
  grind
theorem lnr_ne (r : Rat) : lnr r ≠ [] := by simp [lnr]
/-- The remainder of a division by a linear polynomial. -/
theorem mod_lnr {b : List Rat} (r : Rat) (hb : Can b) : pMod b (lnr r) = tr [ev b r] := by
  obtain ⟨⟨d1, d2⟩, d3, d4⟩ := dm_ok hb (can_lnr r) (lnr_ne r)
  have hl : (pMod b (lnr r)).length ≤ 1 := by
    have : (lnr r).length = 2 := rfl
    omega
  have h := d4 r
  rw [ev_lnr] at h
  have h1 : ev (pMod b (lnr r)) r = ev b r := by rw [← h]; grind
  rw [← h1]
  match hm : pMod b (lnr r), hl, d2 with
  | [], _, _ => rfl
  | [c], _, hc =>
    rw [Can_cons, if_pos rfl] at hc
    rw [ev_sing]
    exact (tr_of_can (by rw [Can_cons, if_pos rfl]; exact hc)).symm
  | _ :: _ :: _, h, _ => simp at h
theorem Nm_lnr {b : List Rat} (r : Rat) (hb : Can b) : Nm (lnr r) b = ev b r := by
  have e : xs 0 b = b := ev_inj (can_xs _ _) hb fun x => by rw [ev_xs, Rat.pow_zero]; grind
  unfold Nm
  show det 1 (NM 1 (lnr r) b) = _
  rw [det, sm, sm, sg]
  show 0 + 1 * cf (pMod (xs (1 - 1 - 0) b) (lnr r)) (1 - 1 - 0) * det 0 _ = _
  rw [show (1 - 1 - 0 : Nat) = 0 from rfl, e, mod_lnr r hb, cf_tr]
  show 0 + 1 * ev b r * 1 = _
  grind
/-- The product of linear polynomials. -/
def lnP : List Rat → List Rat
  | [] => [1]
  | r :: l => pMul (lnP l) (lnr r)
theorem can_lnP : ∀ l, Can (lnP l)
  | [] => can1
  | _ :: _ => can_pMul _ _
theorem lnP_len : ∀ l, (lnP l).length = l.length + 1 ∧ lead (lnP l) = 1 ∧ lnP l ≠ []
  | [] => ⟨rfl, rfl, by simp [lnP]⟩
  | r :: l => by
    obtain ⟨h1, h2, h3⟩ := lnP_len l
    have h4 := len_pMul (can_lnP l) (can_lnr r) h3 (lnr_ne r)
    have h5 : (lnr r).length = 2 := rfl
    refine ⟨by rw [lnP, h4, h1, h5, List.length_cons]; omega, ?_, fun e => ?_⟩
    · rw [lnP, lead_pMul (can_lnP l) (can_lnr r) h3 (lnr_ne r), h2]
      show (1 : Rat) * 1 = 1
      grind
    · rw [lnP] at e
      rw [e] at h4; simp at h4; omega
def prR (b : List Rat) : List Rat → Rat
  | [] => 1
  | r :: l => prR b l * ev b r
theorem pRes_lnr {b : List Rat} (r : Rat) (hb : Can b) (b0 : b ≠ []) : pRes (lnr r) b = ev b r := by
  rw [pRes_norm (can_lnr r) hb (lnr_ne r) b0, Nm_lnr r hb]
  have : lead (lnr r) = 1 := rfl
  rw [this]
  have : ∀ n : Nat, (1 : Rat) ^ n = 1 := fun n => by
    induction n with
    | zero => rw [Rat.pow_zero]
    | succ n ih => rw [Rat.pow_succ, ih]; grind
  rw [this]; grind
theorem pRes_mul_l {a b c : List Rat} (ha : Can a) (hb : Can b) (hc : Can c) (a0 : a ≠ []) (b0 : b ≠ []) (c0 : c ≠ []) : pRes (pMul b c) a = pRes b a * pRes c a := by
  have m0 : pMul b c ≠ [] := fun e => by rcases (pMul_eq_nil hb hc).1 e with e | e; exact b0 e; exact c0 e
  have hbl := List.length_pos_iff.2 b0
  have hcl := List.length_pos_iff.2 c0
  have h1 := pRes_swap ha (can_pMul b c) a0 m0
  have h2 := pRes_swap ha hb a0 b0
  have h3 := pRes_swap ha hc a0 c0
  rw [h1, h2, h3, pRes_mul ha hb hc a0 b0 c0, len_pMul hb hc b0 c0, sgm_sg, sgm_sg, sgm_sg, show b.length + c.length - 1 - 1 = b.length - 1 + (c.length - 1) from by omega, Nat.mul_add, sg_add]
  grind
theorem pRes_lnP {b : List Rat} (hb : Can b) (b0 : b ≠ []) : ∀ l, pRes (lnP l) b = prR b l
  | [] => by
    show pRes [1] b = 1
    rw [pRes_norm can1 hb (by simp) b0]
    show (1 : Rat) ^ _ * 1 = 1
    have : ∀ n : Nat, (1 : Rat) ^ n = 1 := fun n => by
      induction n with
      | zero => rw [Rat.pow_zero]
      | succ n ih => rw [Rat.pow_succ, ih]; grind
    rw [this]; grind
  | r :: l => by rw [lnP, pRes_mul_l hb (can_lnP l) (can_lnr r) b0 (lnP_len l).2.2 (lnr_ne r), pRes_lnP hb b0 l, pRes_lnr r hb b0]; rfl
theorem Nm_lnP {b : List Rat} (hb : Can b) {l : List Rat} (l0 : l ≠ []) : Nm (lnP l) b = prR b l := by
  by_cases b0 : b = []
  · subst b0
    have hz : ∀ l : List Rat, l ≠ [] → prR [] l = 0 := fun l h => by
      cases l with
      | nil => exact absurd rfl h
      | cons r l => show _ * (0 : Rat) = 0; grind
    rw [hz l l0]
    unfold Nm
    have hl := (lnP_len l).1
    have := List.length_pos_iff.2 l0
    refine det_zero_row _ (p := 0) (by omega) fun j _ => ?_
    unfold NM
    rw [show ∀ e, xs e [] = [] from fun e => pMul_nil_r _, (dm_small Can_nil (can_lnP l) (List.length_pos_iff.2 (lnP_len l).2.2)).2]
    rfl
  · have h := pRes_norm (can_lnP l) hb (lnP_len l).2.2 b0
    rw [pRes_lnP hb b0, (lnP_len l).2.1] at h
    have : ∀ n : Nat, (1 : Rat) ^ n = 1 := fun n => by
      induction n with
      | zero => rw [Rat.pow_zero]
      | succ n ih => rw [Rat.pow_succ, ih]; grind
    rw [this] at h
    rw [h]; grind
/-- A modulus with given roots. -/
structure Spl (q : List Rat) (c : Rat) (l : List Rat) : Prop where
  can : Can q
  c0 : c ≠ 0
  l0 : l ≠ []
  eq : q = pSc c (lnP l)
theorem Spl.monic {q c l} (h : Spl q c l) : pMonic q = lnP l := by
  rw [h.eq, pMonic_pSc h.c0 (can_lnP l)]
  exact ev_inj (can_pMonic _) (can_lnP l) fun x => by
    rw [ev_pMonic (lnP_len l).2.2, (lnP_len l).2.1]; grind
theorem Spl.len {q c l} (h : Spl q c l) : q.length = l.length + 1 := by
  rw [h.eq, len_pSc' h.c0 (can_lnP l), (lnP_len l).1]
theorem Spl.two {q c l} (h : Spl q c l) : 2 ≤ q.length := by
  have := List.length_pos_iff.2 h.l0
  rw [h.len]; omega
theorem Spl.Nm {q c l} (h : Spl q c l) {b : List Rat} (hb : Can b) : Nm (pMonic q) b = prR b l := by rw [h.monic, Nm_lnP hb h.l0]
theorem Nm_monic {q b : List Rat} (hq : Can q) (q0 : q ≠ []) : Nm (pMonic q) b = Nm q b := by
  unfold Nm
  rw [len_pMonic hq]
  refine (det_ML _).congr fun i _ j _ => ?_
  unfold NM
  rw [mod_monic (can_xs _ _) hq q0]
/-- The characteristic polynomial is the product over the values. -/
theorem Spl.chi {q c l} (h : Spl q c l) {a : List Rat} (ha : Can a) : chi q a = lnP (l.map (ev a)) := by
  have q0 : q ≠ [] := fun e => by have := h.two; rw [e] at this; simp at this
  refine ev_inj (chi_can q a) (can_lnP _) fun t => ?_
  rw [← chi_norm t h.can ha h.two, ← Nm_monic h.can q0, h.Nm (can_pSub _ _)]
  have : ∀ l : List Rat, prR (pSub (tr [t]) a) l = ev (lnP (l.map (ev a))) t := fun l => by
    induction l with
    | nil => exact (ev1 t).symm
    | cons r l ih =>
      rw [List.map_cons, lnP, ev_pMul, ← ih, ev_lnr]
      show _ * ev (pSub (tr [t]) a) r = _
      rw [ev_pSub, ev_tr, ev_sing]
  exact this l
def suR : List Rat → Rat
  | [] => 0
  | r :: l => suR l + r
theorem lnP_cf : ∀ l : List Rat, l ≠ [] → cf (lnP l) (l.length - 1) = - suR l
  | [], h => absurd rfl h
  | r :: l, _ => by
    rw [lnP, pMul_com, cf_pMul, show lnr r = [-r, 1] from rfl, cf_m2, List.length_cons, Nat.add_sub_cancel]
    have hl := lnP_len l
    have h1 : cf (lnP l) l.length = 1 := by
      have := hl.2.1
      unfold lead at this
      rw [hl.1, Nat.add_sub_cancel] at this
      exact this
    rw [h1, suR]
    by_cases h0 : l = []
    · subst h0
      rw [List.length_nil, if_pos rfl, suR]; grind
    · rw [if_neg (fun e => h0 (List.eq_nil_of_length_eq_zero e)), lnP_cf l h0]; grind
/-- The trace is the sum of the values. -/
theorem Spl.tr {q c l} (h : Spl q c l) {a : List Rat} (ha : Can a) : trQ q a = suR (l.map (ev a)) := by
  have q0 : q ≠ [] := fun e => by have := h.two; rw [e] at this; simp at this
  have h2 := h.two
  rw [trQ_TrM ha h.can h2]
  have hn := newton h.can ha h2 (s := q.length - 1 - 1) (by omega)
  rw [show q.length - 1 + 1 - (q.length - 1 - 1) = 1 + 1 from by omega, sm, sm, sm, Nat.add_zero] at hn
  have e0 : TrM q (pwr a 0) = ((q.length - 1 : Nat) : Rat) := TrM_unit h.can h2
  have e1 : pwr a 1 = a := ev_inj (can_pwr _ _) ha fun x => by rw [ev_pwr, show (1 : Nat) = 0 + 1 from rfl, Rat.pow_succ, Rat.pow_zero]; grind
  have e2 : cf (Go.Proofs.YtfbogelmgdojgaaGreat.chi q a) (q.length - 1 - 1 + 1) = 1 := by rw [show q.length - 1 - 1 + 1 = q.length - 1 from by omega, chi_top]
  have e3 : cf (Go.Proofs.YtfbogelmgdojgaaGreat.chi q a) (q.length - 1 - 1) = - suR (l.map (ev a)) := by
    rw [h.chi ha, h.len, show l.length + 1 - 1 - 1 = (l.map (ev a)).length - 1 from by rw [List.length_map]; omega]
    exact lnP_cf _ (by simp [h.l0])
  rw [e0, e1, e2, e3] at hn
  have e4 : ((q.length - 1 : Nat) : Rat) = ((q.length - 1 - 1 : Nat) : Rat) + 1 := by
    have : ((q.length - 1 - 1 + 1 : Nat) : Rat) = ((q.length - 1 - 1 : Nat) : Rat) + 1 := by rw [Rat.natCast_add]; rfl
    rw [← this]; congr 1; omega
  rw [e4] at hn
  grind
theorem Spl.norm {q c l} (h : Spl q c l) {a : List Rat} (ha : Can a) : pRes (pMonic q) (pMod a q) = prR a l := by
  rw [norm_Nm ha h.can h.two, h.Nm ha]
/-- The product over the different values. -/
def dsP : List Rat → List Rat
  | [] => [1]
  | y :: l => if ev (dsP l) y = 0 then dsP l else pMul (dsP l) (lnr y)
theorem irr_lnr (r : Rat) : Irr (lnr r) := ⟨can_lnr r, Nat.le_refl _, rfl, fun d hd h => by
  obtain ⟨h1, h2⟩ := dvd_len (can_lnr r) hd h (lnr_ne r)
  have := List.length_pos_iff.2 h2
  have h3 : (lnr r).length = 2 := rfl
  omega⟩
theorem lnr_inj {r s : Rat} (h : lnr r = lnr s) : r = s := by
  have : -r = -s := by injection h
  grind
theorem ds_fac : ∀ ys : List Rat, ∃ l : Fac, Good l ∧ (∀ x, ev (PwL l) x = ev (lnP ys) x) ∧ PiL l = dsP ys ∧ ∀ y ∈ l, ∃ r, y.1 = lnr r
  | [] => ⟨[], trivial, fun _ => rfl, rfl, fun _ h => by cases h⟩
  | y :: ys => by
    obtain ⟨l, g, e, p, m⟩ := ds_fac ys
    -- whether the value is there
    have zero : ∀ l : Fac, (∀ z ∈ l, ∃ r, z.1 = lnr r) → (ev (PiL l) y = 0 ↔ ∃ z ∈ l, z.1 = lnr y) := fun l m => by
      induction l with
      | nil =>
        rw [show PiL [] = [1] from rfl, ev1]
        exact ⟨fun h => absurd h (by decide), fun ⟨z, h, _⟩ => by cases h⟩
      | cons z l ih =>
        obtain ⟨r, hr⟩ := m z List.mem_cons_self
        have ih := ih fun w hw => m w (List.mem_cons_of_mem _ hw)
        rw [PiL, ev_pMul, Rat.mul_eq_zero, hr, ev_lnr]
        constructor
        · rintro (h | h)
          · exact ⟨z, List.mem_cons_self, by rw [hr, show r = y from by grind]⟩
          · obtain ⟨w, hw, e⟩ := ih.1 h
            exact ⟨w, List.mem_cons_of_mem _ hw, e⟩
        · rintro ⟨w, hw, e⟩
          rcases List.mem_cons.1 hw with rfl | hw
          · left
            rw [hr] at e
            rw [lnr_inj e]; grind
          · exact .inr (ih.2 ⟨w, hw, e⟩)
    have up : ∀ l : Fac, Good l → (∃ z ∈ l, z.1 = lnr y) → ∃ l' : Fac, Good l' ∧ (∀ x, ev (PwL l') x = ev (PwL l) x * ev (lnr y) x) ∧ PiL l' = PiL l ∧ (l'.map Prod.fst) = l.map Prod.fst := fun l g => by
      induction l with
      | nil => rintro ⟨z, h, _⟩; cases h
      | cons z l ih =>
        intro hz
        obtain ⟨⟨g1, g2⟩, g3, g4⟩ := g
        by_cases e : z.1 = lnr y
        · refine ⟨(z.1, z.2 + 1) :: l, ⟨⟨g1, by show 1 ≤ z.2 + 1; omega⟩, g3, g4⟩, fun x => ?_, rfl, rfl⟩
          rw [PwL, PwL, ev_pMul, ev_pMul, ev_pwr, ev_pwr, Rat.pow_succ, e]; grind
        · obtain ⟨w, hw, ew⟩ := hz
          have hw' : w ∈ l := by
            rcases List.mem_cons.1 hw with rfl | hw
            · exact absurd ew e
            · exact hw
          obtain ⟨l', i1, i2, i3, i4⟩ := ih g4 ⟨w, hw', ew⟩
          refine ⟨z :: l', ⟨⟨g1, g2⟩, fun u hu => ?_, i1⟩, fun x => ?_, by rw [PiL, PiL, i3], by rw [List.map_cons, List.map_cons, i4]⟩
          · have : u.1 ∈ l.map Prod.fst := by rw [← i4]; exact List.mem_map_of_mem hu
            obtain ⟨u', h1, h2⟩ := List.mem_map.1 this
            rw [← h2]; exact g3 u' h1
          · rw [PwL, PwL, ev_pMul, ev_pMul, i2]; grind
    by_cases h0 : ev (dsP ys) y = 0
    · have hz := (zero l m).1 (by rw [p]; exact h0)
      obtain ⟨l', i1, i2, i3, i4⟩ := up l g hz
      refine ⟨l', i1, fun x => ?_, by rw [i3, p, dsP, if_pos h0], fun u hu => ?_⟩
      · rw [i2, e, lnP, ev_pMul]
      · have : u.1 ∈ l.map Prod.fst := by rw [← i4]; exact List.mem_map_of_mem hu
        obtain ⟨u', h1, h2⟩ := List.mem_map.1 this
        rw [← h2]; exact m u' h1
    · have hn : ¬ ∃ z ∈ l, z.1 = lnr y := fun h => h0 (by rw [← p]; exact (zero l m).2 h)
      refine ⟨(lnr y, 1) :: l, ⟨⟨irr_lnr y, Nat.le_refl _⟩, fun z hz e => hn ⟨z, hz, e.symm⟩, g⟩, fun x => ?_, ?_, fun u hu => ?_⟩
      · rw [PwL, ev_pMul, e, ev_pwr, show (1 : Nat) = 0 + 1 from rfl, Rat.pow_succ, Rat.pow_zero, lnP, ev_pMul]; grind
      · rw [PiL, p, dsP, if_neg h0, pMul_com]
      · rcases List.mem_cons.1 hu with rfl | hu
        · exact ⟨y, rfl⟩
        · exact m u hu
end Go.Proofs.YtfbogelmgdojgaaGreat


/- The law of moduli with known roots. -/
namespace Go.Proofs.YtfbogelmgdojgaaGreat
set_option linter.unusedSimpArgs false
set_option linter.unusedVariables false
open Go.RowKit

def qCast (M : List Int) : List Rat := M.map fun (z : Int) => (z : Rat)
/-- The modulus with given roots, as it is made. -/
def qvP (C : Rat) : List Int → List Rat
  | [] => [C]
  | r :: m => pMul (qvP C m) [-((r : Int) : Rat), ((1 : Int) : Rat)]
theorem qvP_eq {C : Rat} (hC : C ≠ 0) : ∀ M, qvP C M = pSc C (lnP (qCast M))
  | [] => ev_inj (by rw [qvP, Can_cons, if_pos rfl]; exact hC) (can_pSc _ _) fun x => by
    rw [ev_pSc]
    show ev [C] x = C * ev [1] x
    rw [ev_sing, ev1]; grind
  | r :: m => ev_inj (can_pMul _ _) (can_pSc _ _) fun x => by
    rw [qvP, qvP_eq hC m, ev_pMul, ev_pSc, ev_pSc]
    show _ * ev (lnr (r : Rat)) x = C * ev (pMul (lnP (qCast m)) (lnr (r : Rat))) x
    rw [ev_pMul]; grind
theorem can_qvP {C : Rat} (hC : C ≠ 0) : ∀ M, Can (qvP C M)
  | [] => by rw [qvP, Can_cons, if_pos rfl]; exact hC
  | _ :: _ => can_pMul _ _
theorem lnP_int : ∀ M : List Int, (∀ z ∈ M, B8 z) → ∀ i, ∃ z : Int, z.natAbs ≤ 129 ^ M.length ∧ cf (lnP (qCast M)) i = (z : Rat)
  | [], _, i => by
    cases i with
    | zero => exact ⟨1, by decide, rfl⟩
    | succ i => exact ⟨0, by simp, rfl⟩
  | r :: m, h, i => by
    have hr := h r List.mem_cons_self
    obtain ⟨z, hz, e⟩ := lnP_int m (fun w hw => h w (List.mem_cons_of_mem _ hw)) i
    have e0 : cf (lnP (qCast (r :: m))) i = -((r : Int) : Rat) * cf (lnP (qCast m)) i + (if i = 0 then 0 else 1 * cf (lnP (qCast m)) (i - 1)) := by
      show cf (pMul (lnP (qCast m)) (lnr (r : Rat))) i = _
      rw [pMul_com, cf_pMul, show lnr (r : Rat) = [-(r : Rat), 1] from rfl, cf_m2]
    obtain ⟨y, hy, e'⟩ : ∃ y : Int, y.natAbs ≤ 129 ^ m.length ∧ (if i = 0 then 0 else 1 * cf (lnP (qCast m)) (i - 1)) = (y : Rat) := by
      by_cases hi : i = 0
      · exact ⟨0, by simp, by rw [if_pos hi]; rfl⟩
      · obtain ⟨y, hy, e'⟩ := lnP_int m (fun w hw => h w (List.mem_cons_of_mem _ hw)) (i - 1)
        exact ⟨y, hy, by rw [if_neg hi, e']; grind⟩
    refine ⟨-r * z + y, ?_, by rw [e0, e, e']; push_cast; grind⟩
    have h1 : (-r * z + y).natAbs ≤ (-r * z).natAbs + y.natAbs := Int.natAbs_add_le _ _
    have h2 : (-r * z).natAbs = r.natAbs * z.natAbs := by rw [Int.natAbs_mul, Int.natAbs_neg]
    have h3 : r.natAbs ≤ 128 := by obtain ⟨a1, a2⟩ := hr; omega
    have h4 := Nat.mul_le_mul h3 hz
    rw [List.length_cons, Nat.pow_succ]
    omega
theorem qv_md {n d : Int} (hn : B8 n) (hd : B8 d) (h0 : n ≠ 0) {M : List Int} (hM : ∀ z ∈ M, B8 z) (hl : 1 ≤ M.length ∧ M.length ≤ 4) : Md0 (qvP (mdQ n d) M) (M.length + 1) 2 ∧ Spl (qvP (mdQ n d) M) (mdQ n d) (qCast M) := by
  have hC : mdQ n d ≠ 0 := fun e => by
    unfold mdQ at e
    rw [Rat.divInt_eq_div] at e
    have hd0 : ((if d = 0 then 1 else d : Int) : Rat) ≠ 0 := fun h => by
      have : (if d = 0 then 1 else d : Int) = 0 := by exact_mod_cast h
      split at this <;> omega
    have : (n : Rat) = 0 := by grind
    exact h0 (by exact_mod_cast this)
  have e1 := qvP_eq hC M
  have hcl : (qCast M).length = M.length := by simp [qCast]
  have hc : Can (qvP (mdQ n d) M) := can_qvP hC M
  have hlen : (qvP (mdQ n d) M).length = M.length + 1 := by rw [e1, len_pSc' hC (can_lnP _), (lnP_len _).1, hcl]
  refine ⟨⟨hc, hlen, fun i => ?_, by omega, by decide⟩, hc, hC, fun e => by rw [e] at hcl; simp at hcl; omega, e1⟩
  rw [e1, cf_pSc]
  obtain ⟨z, hz, e⟩ := lnP_int M hM i
  have hz' : z.natAbs ≤ 129 ^ 4 := Nat.le_trans hz (Nat.pow_le_pow_right (by decide) hl.2)
  have e2 : mdQ n d * cf (lnP (qCast M)) i = Rat.divInt (n * z) (if d = 0 then 1 else d) := by
    rw [e]
    unfold mdQ
    rw [Rat.divInt_eq_div, Rat.divInt_eq_div, Rat.intCast_mul]
    grind
  rw [e2]
  refine Nat.le_trans (qs_divInt _ _) (Nat.max_le.2 ⟨Nat.max_le.2 ⟨dl_le.2 ?_, dl_le.2 ?_⟩, by decide⟩)
  · rw [Int.natAbs_mul]
    have h1 : n.natAbs ≤ 128 := by obtain ⟨a1, a2⟩ := hn; omega
    have := Nat.mul_le_mul h1 hz'
    exact Nat.lt_of_le_of_lt this (by decide)
  · have : (if d = 0 then 1 else d : Int).natAbs ≤ 128 := by obtain ⟨a1, a2⟩ := hd; split <;> omega
    exact Nat.lt_of_le_of_lt this (by decide)
/-- The sizes of the product over the values. -/
def dsZ : Nat → Nat
  | 0 => 1
  | i + 1 => (i + 1) * (dsZ i + 16 + 1) + 1
theorem lnr_sz {y : Rat} (h : qs y ≤ 16) : Sz (lnr y) 2 16 := ⟨Nat.le_refl _, PB_cons (by rw [qs_neg]; exact h) (PB_cons (Nat.le_trans qs_1 (by decide)) (PB_nil (by decide))), can_lnr y⟩
theorem dsZ_mono (i : Nat) : dsZ i ≤ dsZ (i + 1) := by
  rw [dsZ]
  have : 1 * (dsZ i + 16 + 1) ≤ (i + 1) * (dsZ i + 16 + 1) := Nat.mul_le_mul_right _ (by omega)
  omega
theorem dsP_sz : ∀ ys : List Rat, (∀ y ∈ ys, qs y ≤ 16) → Sz (dsP ys) (ys.length + 1) (dsZ ys.length)
  | [], _ => ⟨Nat.le_refl _, PB_cons qs_1 (PB_nil (Nat.le_refl _)), can1⟩
  | y :: ys, h => by
    have ih := dsP_sz ys fun z hz => h z (List.mem_cons_of_mem _ hz)
    rw [dsP]
    split
    · exact ih.mono (by rw [List.length_cons]; omega) (dsZ_mono _)
    · have := ih.mul (lnr_sz (h y List.mem_cons_self))
      exact this.mono (by rw [List.length_cons]; omega) (Nat.le_refl _)
theorem lnP_sz : ∀ ys : List Rat, (∀ y ∈ ys, qs y ≤ 16) → Sz (lnP ys) (ys.length + 1) (dsZ ys.length)
  | [], _ => ⟨Nat.le_refl _, PB_cons qs_1 (PB_nil (Nat.le_refl _)), can1⟩
  | y :: ys, h => by
    have ih := lnP_sz ys fun z hz => h z (List.mem_cons_of_mem _ hz)
    have := ih.mul (lnr_sz (h y List.mem_cons_self))
    exact this.mono (by rw [List.length_cons]; omega) (Nat.le_refl _)
theorem suR_sz : ∀ ys : List Rat, (∀ y ∈ ys, qs y ≤ 16) → qs (suR ys) ≤ ys.length * 17 + 1
  | [], _ => qs_0
  | y :: ys, h => by
    have ih := suR_sz ys fun z hz => h z (List.mem_cons_of_mem _ hz)
    have h1 := h y List.mem_cons_self
    have h2 := qs_add (suR ys) y
    rw [suR, List.length_cons]; omega
theorem prR_sz {b : List Rat} : ∀ l : List Rat, (∀ r ∈ l, qs (ev b r) ≤ 16) → qs (prR b l) ≤ l.length * 17 + 1
  | [], _ => qs_1
  | r :: l, h => by
    have ih := prR_sz l fun z hz => h z (List.mem_cons_of_mem _ hz)
    have h1 := h r List.mem_cons_self
    have h2 := qs_mul (prR b l) (ev b r)
    rw [prR, List.length_cons]; omega
theorem dsZ_le {i : Nat} (h : i ≤ 4) : dsZ i ≤ 1153 := by
  have : i = 0 ∨ i = 1 ∨ i = 2 ∨ i = 3 ∨ i = 4 := by omega
  rcases this with rfl | rfl | rfl | rfl | rfl <;> decide
theorem roots_nm {q a : List Rat} {n : Nat} (hq : Md0 q n 2) (ha : Sz a 5 1) : (∃ s, ReOk s 1 (pMonic q) (pMod a q)) ∧ qs (pRes (pMonic q) (pMod a q)) ≤ 2500000000000 := by
  have hn := hq.cs0
  have h1 : nmC 5 1 n 2 = true := by
    have : n = 2 ∨ n = 3 ∨ n = 4 ∨ n = 5 := by omega
    rcases this with rfl | rfl | rfl | rfl <;> decide +kernel
  have q0 := hq.ne
  have la := ha.len
  obtain ⟨⟨_, cr⟩, hr, _⟩ := dm_ok ha.can hq.can q0
  rw [hq.len] at hr
  have pr : PB (pMod a q) (2 ^ (5 - n + 1) * (1 + 2 * 2 + 1)) := by
    refine ((div_PB (S := 1 + 2 * 2 + 1) ha.can hq.can q0 ha.pb hq.pb (by omega)).2).mono (Nat.mul_le_mul_right _ (Nat.pow_le_pow_right (by decide) ?_))
    rw [hq.len]; omega
  have h5 := allB_ok h1 _ hr
  simp only [Bool.and_eq_true, decide_eq_true_eq] at h5
  have lm : (pMonic q).length = n := by rw [len_pMonic hq.can]; exact hq.len
  exact ⟨⟨16, reC_ok 16 h5.1 (o := 1) qs_1 (can_pMonic q) cr lm rfl (monic_PB hq.pb) pr⟩, Nat.le_trans (reM_ok 16 (by omega) (can_pMonic q) cr lm rfl (monic_PB hq.pb) pr) h5.2⟩
theorem roots_mn {q a : List Rat} {n : Nat} {c : Rat} {R : List Rat} (hq : Md0 q n 2) (ha : Sz a 5 1) (hs : Spl q c R) (hy : ∀ r ∈ R, qs (ev a r) ≤ 16) : (∃ fs, MnOk q a q.length fs) ∧ minP q a = dsP (R.map (ev a)) := by
  have hn := hq.cs0
  obtain ⟨l, g, e, p, _⟩ := ds_fac (R.map (ev a))
  have hl : R.length + 1 = n := by rw [← hs.len]; exact hq.len
  have hχ := hs.chi ha.can
  have hS : PB (chi q a) 1153 := by
    rw [hχ]
    have := lnP_sz (R.map (ev a)) fun y hy' => by
      obtain ⟨r, hr, rfl⟩ := List.mem_map.1 hy'
      exact hy r hr
    exact this.pb.mono (dsZ_le (by rw [List.length_map]; omega))
  have hC : pwC6 n 2 = true ∧ sfC (n - 1) 1153 = true ∧ tyC (n - 1) 1 (n - 1) cntT = true := by
    have : n = 2 ∨ n = 3 ∨ n = 4 ∨ n = 5 := by omega
    rcases this with rfl | rfl | rfl | rfl <;> exact ⟨by decide +kernel, by decide +kernel, by decide +kernel⟩
  obtain ⟨⟨⟨h1, h2⟩, _⟩, _⟩ := mn_core hq (ha.mono (by decide) (Nat.le_refl _)) hS hC.1 hC.2.1 hC.2.2 g (fun x => by rw [hχ, e]; grind)
  exact ⟨h1, by rw [h2, p]⟩
end Go.Proofs.YtfbogelmgdojgaaGreat


/- The law of moduli with known roots: the walk. -/
namespace Go.Proofs.YtfbogelmgdojgaaGreat
set_option linter.unusedSimpArgs false
set_option linter.unusedVariables false
open Go.RowKit

theorem or1 {z : Int} (h : B8 z) : B8 (bits .or .i64 z 1) ∧ bits .or .i64 z 1 ≠ 0 := by
  obtain ⟨h1, h2⟩ := h
  have key : ∀ n : Fin 256, (-128 ≤ bits .or .i64 ((n.val : Int) - 128) 1 ∧ bits .or .i64 ((n.val : Int) - 128) 1 ≤ 127) ∧ bits .or .i64 ((n.val : Int) - 128) 1 ≠ 0 := by decide +kernel
  have := key ⟨(z + 128).toNat, by omega⟩
  have e : (((z + 128).toNat : Nat) : Int) - 128 = z := by omega
  simp only [e] at this
  exact this
set_option maxRecDepth 20000 in
set_option maxHeartbeats 2000000 in
theorem roots6_V (roots : List Int) (a : List (Int × Int)) (c : Int × Int) (hr : roots.length ≤ 9223372036854775807 ∧ ∀ z ∈ roots, B8 z) (pa : P8 a) (hc : B8 c.1 ∧ B8 c.2) :
    PCall Tryz.prog 7 [.lst (V.i8s roots), .lst (V.prs a), .agg [.raw (.int .i8 c.1), .raw (.int .i8 c.2)]] (.raw (.bool true)) := by
  obtain ⟨hrl, hrb⟩ := hr
  have T := (tabs mixed (tbl_cons sanity6_C (tbl_cons r2Made_C (tbl_cons r2Whole_C (tbl_cons rEval_C (tbl_cons r2Sign_C (tbl_cons r2Neg_C (tbl_cons rPMul_C (tbl_cons rPolyMade_C (tbl_cons r2Add_C (tbl_cons r2Mul_C (tbl_cons trace_C (tbl_cons r2Cmp_C (tbl_cons qNorm_C (tbl_cons minF_C (tbl_cons rPEq_C tbl_nil))))))))))))))))
  refine PCall.of_vc T Tryz.func7 rfl Tryz.ntmps7 Tryz.results7 (by simp) ?_
  have w1 : IntKind.i64.wrap c.1 = c.1 := IntWalk.i64_in _ ⟨by obtain ⟨⟨_, _⟩, _, _⟩ := hc; omega, by obtain ⟨⟨_, _⟩, _, _⟩ := hc; omega⟩
  have w2 : IntKind.i64.wrap c.2 = c.2 := IntWalk.i64_in _ ⟨by obtain ⟨⟨_, _⟩, _, _⟩ := hc; omega, by obtain ⟨⟨_, _⟩, _, _⟩ := hc; omega⟩
  obtain ⟨o1, o2⟩ := or1 hc.1
  obtain ⟨c1, ec1⟩ : ∃ z, bits .or .i64 c.1 1 = z := ⟨_, rfl⟩
  rw [ec1] at o1 o2
  have r1 : (-9223372036854775808 ≤ c1 ∧ c1 ≤ 9223372036854775807) ∧ -9223372036854775808 ≤ c.2 ∧ c.2 ≤ 9223372036854775807 := by
    obtain ⟨_, b1, b2⟩ := hc
    obtain ⟨b3, b4⟩ := o1
    exact ⟨⟨by omega, by omega⟩, by omega, by omega⟩
  obtain ⟨C, eC⟩ : ∃ C, mdQ c1 c.2 = C := ⟨_, rfl⟩
  have hC1 := qs_mdQ o1 hc.2
  rw [eC] at hC1
  have hC0 : C ≠ 0 := by
    rw [← eC]
    unfold mdQ
    rw [Rat.divInt_eq_div]
    intro e
    have hd0 : ((if c.2 = 0 then 1 else c.2 : Int) : Rat) ≠ 0 := fun h => by
      have : (if c.2 = 0 then 1 else c.2 : Int) = 0 := by exact_mod_cast h
      split at this <;> omega
    have : (c1 : Rat) = 0 := by grind
    exact o2 (by exact_mod_cast this)
  simp only [go_sem, w1, w2, ec1, r1, eC]
  have eq0 : V.rats (qvP C []) = [.Q C] := rfl
  refine AWp.frzS 8 ?_
  simp only [go_sem]
  refine AWp.loops (X := { p : Nat × List Int // (p.1 ≤ roots.length ∧ p.2.length ≤ 4) ∧ ∀ z ∈ p.2, B8 z }) (fun p => mkSt [(1, .lst (V.prs a)), (0, .lst (V.i8s roots)), (7, .raw (.bool true)), (8, .lst (V.rats (qvP C p.1.2))), (9, .sl 0 4 0 p.1.2.length), (10, .raw (.int .i64 (p.1.1 : Nat)))] [(0, true, ⟨45, 4, V.rats (qCast p.1.2).reverse⟩)] 1 124) (fun p => roots.length - p.1.1) ⟨(0, []), ⟨Nat.zero_le _, by simp⟩, fun _ h => by cases h⟩ (Wk.of [14] (by decide) ?_) ?_
  · have e0 : V.rats (qCast []).reverse = [] := rfl
    simp only [go_sem, eq0, e0]
  rintro ⟨⟨i, M⟩, ⟨hi, hM4⟩, hMb⟩
  simp only at hi hM4 hMb
  refine vc_at T ?_
  have lM : (qCast M).reverse.length = M.length := by simp [qCast]
  by_cases hstep : i < roots.length ∧ M.length < 4
  · obtain ⟨hil, hm4⟩ := hstep
    have f1 : (i : Int) < (roots.length : Int) := by omega
    have f2 : (M.length : Int) < 4 := by omega
    have hz := B8.get hrb i
    obtain ⟨r, er⟩ : ∃ r, roots.getD i 0 = r := ⟨_, rfl⟩
    rw [er] at hz
    have f3 : IntKind.i64.wrap r = r := IntWalk.i64_in _ ⟨by obtain ⟨_, _⟩ := hz; omega, by obtain ⟨_, _⟩ := hz; omega⟩
    have f4 : -9223372036854775808 ≤ r ∧ r ≤ 9223372036854775807 := ⟨by obtain ⟨_, _⟩ := hz; omega, by obtain ⟨_, _⟩ := hz; omega⟩
    have qr : qs (r : Rat) ≤ 1 := by
      obtain ⟨a1, a2⟩ := hz
      refine Nat.le_trans (qs_int r) (Nat.max_le.2 ⟨dl_le.2 ?_, Nat.le_refl _⟩)
      omega
    have qC : Sz (qvP C M) 5 2 := by
      by_cases h0 : M = []
      · subst h0
        exact ⟨by rw [qvP]; simp, PB_cons (Nat.le_trans hC1 (by decide)) (PB_nil (by decide)), can_qvP hC0 []⟩
      · have := (qv_md o1 hc.2 o2 hMb ⟨List.length_pos_iff.2 h0, hM4⟩).1
        rw [eC] at this
        exact ⟨by rw [this.len]; omega, this.pb, this.can⟩
    have ce := qC.ce qr
    have lr : Sz [-((r : Int) : Rat), ((1 : Int) : Rat)] 2 1 := ⟨Nat.le_refl _, PB_cons (by rw [qs_neg]; exact qr) (PB_cons (show qs ((1 : Int) : Rat) ≤ 1 from qs_1) (PB_nil (Nat.le_refl _))), can_lnr _⟩
    have cm := Sz.cm qC lr
    have c1' := qC.c1
    have lr1 := lr.c1
    have qr' : qs (r : Rat) ≤ 12000000000000 := by omega
    have g1 : i < roots.length := hil
    have f5 : (i : Int) + 1 = ((i + 1 : Nat) : Int) := by omega
    have mx : maxLen = 9223372036854775807 := by decide
    have tk : (V.rats (qCast M).reverse).take M.length = V.rats (qCast M).reverse := List.take_of_length_le (by rw [rats_len, lM]; exact Nat.le_refl _)
    have h0i : (0 : Int) ≤ (i : Int) := by omega
    have b1 : -9223372036854775808 ≤ ((i + 1 : Nat) : Int) ∧ ((i + 1 : Nat) : Int) ≤ 9223372036854775807 := ⟨by omega, by omega⟩
    have b2 : (qvP C M).length ≤ 999998 := by have := qC.len; omega
    have b3 := cm.2
    have b4 : M.length + 1 ≤ maxLen ∧ (M.length + 1) * 64 ≤ 140737488355328 := ⟨by rw [mx]; omega, by omega⟩
    by_cases hs : ev (qvP C M) (r : Rat) = 0
    · have s1 : (sgI (ev (qvP C M) (r : Rat)).num != 0) = false := by
        unfold bne
        rw [sgn_numQ, decide_eq_true hs]; rfl
      simp only [go_sem, f1, f2, f5, er, f3, f4, g1, ce, s1, h0i, b1]
      refine ⟨⟨(i + 1, M), ⟨hil, hM4⟩, hMb⟩, Wk.of [0] (by decide) ?_, by simp only; omega⟩
      simp only [go_sem]
    · have s1 : (sgI (ev (qvP C M) (r : Rat)).num != 0) = true := by
        unfold bne
        rw [sgn_numQ, decide_eq_false hs]; rfl
      have e8 : pMul (qvP C M) [-((r : Int) : Rat), ((1 : Int) : Rat)] = qvP C (r :: M) := rfl
      simp only [go_sem, f1, f2, f5, er, f3, f4, g1, ce, s1, h0i, b1, qr', c1', lr1, b2, b3, b4, lM, tk, e8]
      refine ⟨⟨(i + 1, r :: M), ⟨hil, by simp only [List.length_cons]; omega⟩, fun z hz' => by
        rcases List.mem_cons.1 hz' with rfl | hz'
        · exact hz
        · exact hMb z hz'⟩, Wk.of [33] (by decide) ?_, by simp only; omega⟩
      have e9 : V.rats ((qCast M).reverse ++ [(r : Rat)]) = V.rats (qCast (r :: M)).reverse := by simp [qCast]
      simp only [go_sem, List.length_cons, e9]
  · obtain ⟨L, eL⟩ : ∃ L, (qCast M).reverse = L := ⟨_, rfl⟩
    have lL : L.length = M.length := by rw [← eL]; exact lM
    have hx : ¬ i < roots.length ∨ (i < roots.length ∧ ¬ M.length < 4) := by omega
    have tk : (V.rats L).take M.length = V.rats L := List.take_of_length_le (by rw [rats_len, lL]; exact Nat.le_refl _)
    have hp : Sz (psL a 5) 5 1 := psL_sz pa 5
    have m0 : ((M.length : Int) == 0) = decide (M = []) := by
      by_cases e : M = []
      · subst e; rfl
      · have := List.length_pos_iff.2 e
        rw [decide_eq_false e]; simp; omega
    rw [eL]
    by_cases h0 : M = []
    · rw [decide_eq_true h0] at m0
      rcases hx with hx | ⟨hx, hx'⟩
      · have f1 : ((i : Int) < (roots.length : Int)) = False := eq_false (by omega)
        simp only [go_sem, f1, m0]
      · exact absurd (by rw [h0]; decide) hx'
    · rw [decide_eq_false h0] at m0
      obtain ⟨p, ep⟩ : ∃ p, psL a 5 = p := ⟨_, rfl⟩
      rw [ep] at hp
      have hmd := qv_md o1 hc.2 o2 hMb ⟨List.length_pos_iff.2 h0, hM4⟩
      rw [eC] at hmd
      obtain ⟨hq, hs⟩ := hmd
      obtain ⟨q, eq⟩ : ∃ q, qvP C M = q := ⟨_, rfl⟩
      rw [eq] at hq hs ⊢
      have one1 : V.rats (dsP []) = [.Q ((1 : Int) : Rat)] := rfl
      have qL : ∀ r ∈ qCast M, qs r ≤ 1 := fun r hr => by
        obtain ⟨z, hz, rfl⟩ := List.mem_map.1 hr
        obtain ⟨a1, a2⟩ := hMb z hz
        refine Nat.le_trans (qs_int z) (Nat.max_le.2 ⟨dl_le.2 ?_, Nat.le_refl _⟩)
        omega
      have qy : ∀ r ∈ qCast M, qs (ev p r) ≤ 16 := fun r hr => Nat.le_trans (hp.ev (qL r hr)) (by decide)
      have lp : (∀ x ∈ L, x ∈ qCast M) := fun x hx => by rw [← eL] at hx; exact List.mem_reverse.1 hx
      have one0 : V.rats (dsP []) = [.Q ((1 : Int) : Rat)] := rfl
      have tr0 : suR [] = ((0 : Int) : Rat) := rfl
      have no0 : prR p [] = ((1 : Int) : Rat) := rfl
      have hL : ∀ j, (((L.take j).reverse).map (ev p)).length ≤ 4 := fun j => by
        rw [List.length_map, List.length_reverse, List.length_take]; omega
      have hLq : ∀ j, ∀ r ∈ (L.take j).reverse, r ∈ qCast M := fun j r hr => lp r (List.mem_of_mem_take (List.mem_reverse.1 hr))
      have hLy : ∀ j, ∀ y ∈ ((L.take j).reverse).map (ev p), qs y ≤ 16 := fun j y hy => by
        obtain ⟨r, hr, rfl⟩ := List.mem_map.1 hy
        exact qy r (hLq j r hr)
      all_goals rcases hx with hx | ⟨hx, hx'⟩
      all_goals first
        | (have f1 : ((i : Int) < (roots.length : Int)) = False := eq_false (by omega)
           simp only [go_sem, f1, m0, pa, ep])
        | (have f1 : ((i : Int) < (roots.length : Int)) = True := eq_true (by omega)
           have f2 : ((M.length : Int) < 4) = False := eq_false (by omega)
           simp only [go_sem, f1, f2, m0, pa, ep])
      all_goals
        refine AWp.frzS 9 ?_
        simp only [go_sem, tk, lL]
        refine AWp.frzS 15 ?_
        simp only [go_sem]
        refine AWp.loops (X := { j : Nat // j ≤ L.length }) (fun j => mkSt [(7, .raw (.bool true)), (8, .lst (V.rats q)), (9, .lst (V.rats L)), (12, .lst (V.rats p)), (13, .ptr 0 4 0 0), (14, .ptr 1 4 0 0), (15, .lst (V.rats (dsP (((L.take j.1).reverse).map (ev p))))), (16, .raw (.int .i64 (j.1 : Nat)))] [(0, true, ⟨45, 4, [.Q (suR (((L.take j.1).reverse).map (ev p)))]⟩), (1, true, ⟨45, 4, [.Q (prR p (L.take j.1).reverse)]⟩)] 2 124) (fun j => L.length - j.1) ⟨0, Nat.zero_le _⟩ (Wk.of [17, 20] (by decide) ?_) ?_
        · simp only [go_sem, List.take_zero, List.reverse_nil, List.map_nil, one0, tr0, no0]
        rintro ⟨j, hj⟩
        refine vc_at T ?_
        have h5 := (dsP_sz _ (hLy j)).mono (show _ ≤ 5 by have := hL j; omega) (dsZ_le (hL j))
        have su1 := suR_sz _ (hLy j)
        have pr1 := prR_sz (b := p) (L.take j).reverse (fun r hr => qy r (hLq j r hr))
        have l4 := hL j
        have l4' : ((L.take j).reverse).length ≤ 4 := by rw [List.length_map] at l4; exact l4
        obtain ⟨D, eD⟩ : ∃ D, dsP (((L.take j).reverse).map (ev p)) = D := ⟨_, rfl⟩
        obtain ⟨S, eS⟩ : ∃ S, suR (((L.take j).reverse).map (ev p)) = S := ⟨_, rfl⟩
        obtain ⟨P, eP⟩ : ∃ P, prR p (L.take j).reverse = P := ⟨_, rfl⟩
        rw [eD] at h5
        rw [eS] at su1
        rw [eP] at pr1
        have sS : qs S ≤ 5000000000000 := by omega
        have sP : qs P ≤ 5000000000000 := by omega
        by_cases hjn : j < L.length
        · have d1 : (j : Int) < (L.length : Int) := by omega
          have d2 : (j : Int) + 1 = ((j + 1 : Nat) : Int) := by omega
          have d3 : 0 ≤ (j : Int) := by omega
          have d4 : -9223372036854775808 ≤ ((j + 1 : Nat) : Int) ∧ ((j + 1 : Nat) : Int) ≤ 9223372036854775807 := ⟨by omega, by omega⟩
          obtain ⟨r, er⟩ : ∃ r, cf L j = r := ⟨_, rfl⟩
          have hr : r ∈ qCast M := by
            rw [← er, cf_lt hjn]
            exact lp _ (List.getElem_mem hjn)
          have tks : (L.take (j + 1)).reverse = r :: (L.take j).reverse := by
            rw [List.take_add_one, List.getElem?_eq_getElem hjn, ← er, cf_lt hjn, List.reverse_append]; rfl
          have ce := hp.ce (qL r hr)
          obtain ⟨y, ey⟩ : ∃ y, ev p r = y := ⟨_, rfl⟩
          have y16 : qs y ≤ 16 := by rw [← ey]; exact qy r hr
          have y5 : qs y ≤ 5000000000000 := by omega
          have y12 : qs y ≤ 12000000000000 := by omega
          have de := h5.ce y16
          have lr : Sz [-y, ((1 : Int) : Rat)] 2 16 := lnr_sz y16
          have cm := Sz.cm h5 lr
          have cm1 : D.length ≤ 999998 := by have := h5.len; omega
          have cm2 := cm.2
          have c1 := h5.c1
          have lr1 := lr.c1
          have e6 : suR (((L.take (j + 1)).reverse).map (ev p)) = S + y := by rw [tks, List.map_cons, suR, eS, ey]
          have e7 : prR p (L.take (j + 1)).reverse = P * y := by rw [tks, prR, eP, ey]
          by_cases hz : ev D y = 0
          · have s1 : (sgI (ev D y).num != 0) = false := by
              unfold bne
              rw [sgn_numQ, decide_eq_true hz]; rfl
            have e8 : dsP (((L.take (j + 1)).reverse).map (ev p)) = D := by rw [tks, List.map_cons, dsP, ey, eD, if_pos hz]
            simp only [go_sem, d1, d2, d3, d4, hjn, er, ce, ey, eD, eS, eP, sS, sP, y5, de, s1]
            refine ⟨⟨j + 1, hjn⟩, Wk.of [0, 1] (by decide) ?_, by simp only; omega⟩
            simp only [go_sem, e6, e7, e8]
          · have s1 : (sgI (ev D y).num != 0) = true := by
              unfold bne
              rw [sgn_numQ, decide_eq_false hz]; rfl
            have e8 : dsP (((L.take (j + 1)).reverse).map (ev p)) = pMul D [-y, ((1 : Int) : Rat)] := by rw [tks, List.map_cons, dsP, ey, eD, if_neg hz]; rfl
            simp only [go_sem, d1, d2, d3, d4, hjn, er, ce, ey, eD, eS, eP, sS, sP, y5, y12, de, s1, cm1, cm2, c1, lr1]
            refine ⟨⟨j + 1, hjn⟩, Wk.of [0, 1] (by decide) ?_, by simp only; omega⟩
            simp only [go_sem, e6, e7, e8]
        · obtain rfl : j = L.length := by omega
          have d1 : ¬ (L.length : Int) < (L.length : Int) := by omega
          have tkA : (L.take L.length).reverse = qCast M := by rw [List.take_length, ← eL, List.reverse_reverse]
          rw [tkA] at eD eS eP
          obtain ⟨t1, _⟩ := hq.tr hp
          have t2 := hs.tr hp.can
          rw [eS] at t2
          obtain ⟨n1, _⟩ := roots_nm hq hp
          have n2 := hs.norm hp.can
          rw [eP] at n2
          obtain ⟨mm1, mm2⟩ := roots_mn hq hp hs qy
          rw [eD] at mm2
          have qd := hq.dv hp (by decide)
          have m1 : Can q ∧ q.length ≤ 1000000 ∧ ∃ s, PB q s ∧ s ≤ 2500000000000 := ⟨hq.can, by have := hq.sz.len; omega, 5504, hq.sz.pb, by decide⟩
          have c1 : cmpQ S S = 0 := cmpQ_self S
          have c2 : cmpQ P P = 0 := cmpQ_self P
          have c3 : ((0 : Int) == 0) = true := rfl
          have c4 : decide (D = D) = true := decide_eq_true rfl
          have c5 := h5.c1
          simp only [app_cons, app_nil]
          simp (maxSteps := 2000000) only [go_sem, d1, tkA, eD, eS, eP, t1, t2, n1, n2, mm1, mm2, qd, m1, sS, sP, c1, c2, c3, c4, c5]
          rfl
set_option maxRecDepth 20000 in
theorem lawRoots6_F (X Y Z : V) (h1 : Fits Tryz.prog 6 22 X) (h2 : Fits Tryz.prog 6 23 Y) (h3 : Fits Tryz.prog 6 25 Z) : PCall Tryz.prog 7 [X, Y, Z] (.raw (.bool true)) := by
  have u1 : Tryz.prog.underlying 23 = some (.slice 25) := by kernel_rfl
  have u2 : Tryz.prog.underlying 25 = some (.array 2 24) := by kernel_rfl
  have u3 : Tryz.prog.underlying 24 = some (.int .i8) := by kernel_rfl
  have u4 : Tryz.prog.underlying 22 = some (.slice 24) := by kernel_rfl
  obtain ⟨Q, rfl, hQl, hQ⟩ := fits_ints u4 u3 h1
  obtain ⟨A, rfl, hA⟩ := fits_prs u1 u2 u3 h2
  obtain ⟨z, rfl, hz⟩ := fits_pr u2 u3 h3
  exact roots6_V Q A z ⟨hQl, fun z hz => wf_i8 (hQ z hz)⟩ hA hz
end Go.Proofs.YtfbogelmgdojgaaGreat

