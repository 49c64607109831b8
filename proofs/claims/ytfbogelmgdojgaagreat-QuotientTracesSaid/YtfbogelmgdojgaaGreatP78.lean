/- Texts LQ1 LQ2 in one. -/
import Derived.Test.YtfbogelmgdojgaaGreatP74
import Derived.Test.YtfbogelmgdojgaaGreatP41
import Derived.Test.YtfbogelmgdojgaaGreatP77
/- The argument of the laws of quotients. -/
namespace Go.Proofs.YtfbogelmgdojgaaGreat
set_option linter.unusedSimpArgs false
set_option linter.unusedVariables false
open Go.RowKit

structure Cs where
  Q : List Int
  A : List (Int × Int)
  B : List (Int × Int)
  X : Int × Int
def Cs.v (x : Cs) : V := .agg [.lst (V.i8s x.Q), .lst (V.prs x.A), .lst (V.prs x.B), .agg [.raw (.int .i8 x.X.1), .raw (.int .i8 x.X.2)]]
def Cs.Ok (x : Cs) : Prop := ((x.Q.length ≤ 9223372036854775807 ∧ ∀ z ∈ x.Q, B8 z) ∧ P8 x.A ∧ P8 x.B) ∧ B8 x.X.1 ∧ B8 x.X.2
def pCs : Pat Cs where
  p
    | .agg [.lst q, .lst a, .lst b, .agg [.raw (.int .i8 x), .raw (.int .i8 y)]] => (uni8 q).bind fun q => (unprs a).bind fun a => (unprs b).map fun b => (True, ⟨q, a, b, (x, y)⟩)
    | _ => none
  val := Cs.v
  ok x c a h hc := by
    split at h
    · rename_i q a b x y
      rcases hq : uni8 q with _ | q' <;> simp only [hq, bind_none, bind_some] at h
      · cases h
      · rcases ha : unprs a with _ | a' <;> simp only [ha, bind_none, bind_some] at h
        · cases h
        · rcases hb : unprs b with _ | b' <;> rw [hb] at h
          · cases h
          · injection h with h; injection h with h1 h2; subst h2
            rw [uni8_ok _ _ hq, unprs_ok _ _ ha, unprs_ok _ _ hb]; exact .refl _
    · cases h
@[go_sem ↓, go_sem] theorem ev_pCs {q a b : List V} {x y : Int} : pCs.p (.agg [.lst q, .lst a, .lst b, .agg [.raw (.int .i8 x), .raw (.int .i8 y)]]) = (uni8 q).bind fun q => (unprs a).bind fun a => (unprs b).map fun b => (True, ⟨q, a, b, (x, y)⟩) := rfl
@[go_sem ↓, go_sem] theorem ev_pCs_mk {z : Cs} : pCs.val z = .agg [.lst (V.i8s z.Q), .lst (V.prs z.A), .lst (V.prs z.B), .agg [.raw (.int .i8 z.X.1), .raw (.int .i8 z.X.2)]] := rfl
def kMade : Con := con1 pCs fun z => ((z.Q.length ≤ 9223372036854775807 ∧ ∀ x ∈ z.Q, B8 x) ∧ P8 z.A ∧ P8 z.B, .tup [.lst (V.rats (mod6 z.Q)), .lst (V.rats (psL z.A 6)), .lst (V.rats (psL z.B 6))])
attribute [go_sem ↓, go_sem] kMade
theorem made6_C : Ctr Tryz.prog 10 kMade := Ctr.c1 (by kernel_rfl) fun z h => by
  obtain ⟨⟨h0, h0'⟩, h1, h2⟩ := h
  refine PCall.of_vc (tabs mixed (tbl_cons rPolyMade_C (tbl_cons rMade6_C tbl_nil))) Tryz.func10 rfl Tryz.ntmps10 Tryz.results10 (by simp) ?_
  simp only [go_sem]
  exact ⟨⟨h0, h0'⟩, h1, h2, by rfl⟩
set_option maxRecDepth 20000 in
theorem fits_case {X : V} (h : Fits Tryz.prog 6 27 X) : ∃ x : Cs, X = x.v ∧ x.Ok := by
  have u1 : Tryz.prog.underlying 23 = some (.slice 25) := by kernel_rfl
  have u2 : Tryz.prog.underlying 25 = some (.array 2 24) := by kernel_rfl
  have u3 : Tryz.prog.underlying 24 = some (.int .i8) := by kernel_rfl
  have u4 : Tryz.prog.underlying 22 = some (.slice 24) := by kernel_rfl
  obtain ⟨l, rfl, hl⟩ := fits_struct Tryz.underlying27 h
  obtain ⟨x1, m, rfl, g1, hl⟩ := fitL_cons hl
  obtain ⟨x2, m, rfl, g2, hl⟩ := fitL_cons hl
  obtain ⟨x3, m, rfl, g3, hl⟩ := fitL_cons hl
  obtain ⟨x4, m, rfl, g4, hl⟩ := fitL_cons hl
  have := fitL_nil hl
  subst this
  obtain ⟨Q, rfl, hQl, hQ⟩ := fits_ints u4 u3 g1
  obtain ⟨A, rfl, hA⟩ := fits_prs u1 u2 u3 g2
  obtain ⟨B, rfl, hB⟩ := fits_prs u1 u2 u3 g3
  obtain ⟨z, rfl, hz⟩ := fits_pr u2 u3 g4
  exact ⟨⟨Q, A, B, z⟩, rfl, ⟨⟨hQl, fun z hz => wf_i8 (hQ z hz)⟩, hA, hB⟩, hz⟩
end Go.Proofs.YtfbogelmgdojgaaGreat

/- The law of the ring of residues. -/
namespace Go.Proofs.YtfbogelmgdojgaaGreat
set_option linter.unusedSimpArgs false
set_option linter.unusedVariables false
open Go.RowKit

theorem Md.rm {q a : List Rat} {n k m j : Nat} (hq : Md q n k) (ha : Sz a m j) (hm : 2 ≤ m) : Sz (pMod a q) 4 (2 ^ (m - 1) * (j + 11009)) := by
  have h2 := hq.two
  have hs := hq.sz
  obtain ⟨⟨_, cr⟩, hr, _⟩ := dm_ok ha.can hs.can hq.ne
  refine ⟨by have := hs.len; omega, ?_, cr⟩
  refine ((div_PB (S := j + 11009) ha.can hs.can hq.ne ha.pb hs.pb (by omega)).2).mono (Nat.mul_le_mul_right _ (Nat.pow_le_pow_right (by decide) ?_))
  have := ha.len
  omega
theorem Md.dv {q a : List Rat} {n k m j : Nat} (hq : Md q n k) (ha : Sz a m j) (h : (2 ≤ m ∧ m ≤ 1000) ∧ 2 ^ (m - 1) * (j + 11009) ≤ 5000000000) : DvOk a q ∧ q ≠ [] := by
  have h2 := hq.two
  have hs := hq.sz
  refine ⟨⟨⟨ha.can, hs.can⟩, by have := ha.len; have := hs.len; omega, j, 5504, ⟨ha.pb, hs.pb⟩, ?_⟩, hq.ne⟩
  refine Nat.le_trans (Nat.mul_le_mul_right _ (Nat.pow_le_pow_right (by decide) (show a.length - q.length + 1 ≤ m - 1 by have := ha.len; omega))) ?_
  rw [show j + 2 * 5504 + 1 = j + 11009 from by omega]
  exact h.2
theorem Md.mu {q a b : List Rat} {n k m j m' j' : Nat} (hq : Md q n k) (ha : Sz a m j) (hb : Sz b m' j') (h : ((2 ≤ m + m' - 1 ∧ m + m' - 1 ≤ 1000) ∧ 2 ^ (m + m' - 1 - 1) * (m * (j + j' + 1) + 1 + 11009) ≤ 5000000000) ∧ m + m' ≤ 1000000 ∧ m * (j + j' + 1) + 1 ≤ 10000000000) :
    (a.length + b.length ≤ 1000000 ∧ ∃ j k, (PB a j ∧ PB b k) ∧ a.length * (j + k + 1) ≤ 9999999999) ∧ DvOk (pMul a b) q ∧ q ≠ [] := ⟨Sz.cm ha hb h.2, hq.dv (ha.mul hb) h.1⟩
theorem pMul_comm6 (a b : List Rat) : pMul a b = pMul b a := ev_inj (can_pMul _ _) (can_pMul _ _) fun x => by rw [ev_pMul, ev_pMul]; grind
set_option maxRecDepth 20000 in
set_option maxHeartbeats 2000000 in
theorem ring6_V (x : Cs) (hx : x.Ok) : PCall Tryz.prog 4 [x.v] (.raw (.bool true)) := by
  obtain ⟨⟨⟨pq, pq'⟩, pa, pb⟩, hz⟩ := hx
  refine PCall.of_vc (tabs mixed (tbl_cons sanity6_C (tbl_cons made6_C (tbl_cons rInts_C (tbl_cons qMulq_C (tbl_cons qRed_C (tbl_cons rPMul_C (tbl_cons rAdd_C (tbl_cons rPEq_C tbl_nil))))))))) Tryz.func4 rfl Tryz.ntmps4 Tryz.results4 (by simp [Cs.v]) ?_
  obtain ⟨n, k, hq⟩ := mod6_md pq'
  have ha : Sz (psL x.A 6) 6 1 := psL_sz pa 6
  have hb : Sz (psL x.B 6) 6 1 := psL_sz pb 6
  have hxb : ∀ z ∈ [x.X.1, x.X.2], B8 z := fun z hz' => by
    rcases List.mem_cons.1 hz' with rfl | hz'
    · exact hz.1
    · rw [List.mem_singleton.1 hz']; exact hz.2
  have hc : Sz (zsL [x.X.1, x.X.2] 2) 2 1 := zs_sz hxb 2
  have hxb : (∀ z ∈ [x.X.1, x.X.2], B8 z) = True := eq_true hxb
  unfold Cs.v
  obtain ⟨q, eq⟩ : ∃ a, mod6 x.Q = a := ⟨_, rfl⟩
  obtain ⟨a, ea⟩ : ∃ a, psL x.A 6 = a := ⟨_, rfl⟩
  obtain ⟨b, eb⟩ : ∃ a, psL x.B 6 = a := ⟨_, rfl⟩
  obtain ⟨c, ec⟩ : ∃ a, zsL [x.X.1, x.X.2] 2 = a := ⟨_, rfl⟩
  rw [eq] at hq
  rw [ea] at ha
  rw [eb] at hb
  rw [ec] at hc
  have q0 := hq.ne
  have cq := hq.can
  have hs := hq.sz
  have hab := hq.rm (ha.mul hb) (by decide)
  have hba := hq.rm (hb.mul ha) (by decide)
  have habc := hq.rm (hab.mul hc) (by decide)
  have hbc := hq.rm (hb.mul hc) (by decide)
  have habc' := hq.rm (ha.mul hbc) (by decide)
  have hac := ha.add hc
  have hacb := hq.rm (hac.mul hb) (by decide)
  have hcb := hq.rm (hc.mul hb) (by decide)
  have hsum := hab.add hcb
  have hcq := hc.mul hs
  have haq := ha.add hcq
  have haqb := hq.rm (haq.mul hb) (by decide)
  have hra := hq.rm ha (by decide)
  have hrra := hq.rm hra (by decide)
  have m1 := hq.mu ha hb (by decide)
  have m2 := hq.mu hb ha (by decide)
  have m3 := hq.mu hab hc (by decide)
  have m4 := hq.mu hb hc (by decide)
  have m5 := hq.mu ha hbc (by decide)
  have m6 := hq.mu hac hb (by decide)
  have m7 := hq.mu hc hb (by decide)
  have m8 := hq.mu haq hb (by decide)
  have m9 := hq.dv ha (by decide)
  have m10 := hq.dv hra (by decide)
  have m11 := hq.dv hs (by decide)
  have m12 := Sz.cm hc hs (by decide)
  have d1 := hc.c1
  have d2 := hs.c1
  have d3 := Sz.c2 ha hc
  have d4 := Sz.c2 ha hcq
  have d5 := Sz.c2 hab hcb
  have d6 := Sz.c2 hab hba
  have d7 := Sz.c2 habc habc'
  have d8 := Sz.c2 hacb hsum
  have d9 := Sz.c2 haqb hab
  have d10 := Sz.c2 hrra hra
  have m13 : c.length + q.length ≤ 1000000 := by have := hc.len; have := hs.len; omega
  obtain ⟨_, hrl, _⟩ := dm_ok (hab.mul hc).can cq q0
  have k0 : ((pMod (pMul a b) q).length : Int) < (q.length : Int) := by
    have := (dm_ok (ha.mul hb).can cq q0).2.1
    omega
  have k1 : decide (pMod (pMul a b) q = pMod (pMul b a) q) = true := decide_eq_true (by rw [pMul_comm6])
  have k2 : decide (pMod (pMul (pMod (pMul a b) q) c) q = pMod (pMul a (pMod (pMul b c) q)) q) = true := decide_eq_true (by
    rw [mod_mul_l (can_pMul _ _) cq q0, mod_mul_r (can_pMul _ _) cq q0, show pMul (pMul a b) c = pMul a (pMul b c) from ev_inj (can_pMul _ _) (can_pMul _ _) fun x => by simp only [ev_pMul]; grind])
  have k3 : decide (pMod (pMul (pAdd a c) b) q = pAdd (pMod (pMul a b) q) (pMod (pMul c b) q)) = true := decide_eq_true (by
    rw [← mod_add (can_pMul _ _) (can_pMul _ _) cq q0, show pMul (pAdd a c) b = pAdd (pMul a b) (pMul c b) from ev_inj (can_pMul _ _) (can_pAdd _ _) fun x => by simp only [ev_pMul, ev_pAdd]; grind])
  have k4 : decide (pMod (pMul (pAdd a (pMul c q)) b) q = pMod (pMul a b) q) = true := decide_eq_true (mod_congr (can_pMul _ _) (can_pMul _ _) cq q0 ⟨pMul c b, can_pMul _ _, fun t => by simp only [ev_pMul, ev_pAdd]; grind⟩)
  have k5 : decide (pMod (pMod a q) q = pMod a q) = true := decide_eq_true (mod_mod ha.can cq q0)
  have k6 : pMod q q = [] := mod_of_dvd cq cq q0 ⟨[1], can_one, fun x => by show _ = (1 + x * 0) * _; grind⟩
  have k7 : (((pMod q q).length : Int) == 0) = true := by rw [k6]; rfl
  simp only [app_cons, app_nil]
  simp (maxSteps := 2000000) only [go_sem, eq, ea, eb, ec, pq, pq', pa, pb, hxb, q0, k0, k1, k2, k3, k4, k5, k7, m1, m2, m3, m4, m5, m6, m7, m8, m9, m10, m11, m12, m13, d1, d2, d3, d4, d5, d6, d7, d8, d9, d10]
  exact pq'
set_option maxRecDepth 20000 in
theorem lawRing6_F (X : V) (h : Fits Tryz.prog 6 27 X) : PCall Tryz.prog 4 [X] (.raw (.bool true)) := by
  obtain ⟨x, rfl, hx⟩ := fits_case h
  exact ring6_V x hx
end Go.Proofs.YtfbogelmgdojgaaGreat
