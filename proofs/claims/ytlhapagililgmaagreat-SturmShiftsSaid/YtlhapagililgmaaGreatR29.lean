/- Texts S1 S2 S3 S4 S5 S6 in one. -/
import Derived.Test.YtlhapagililgmaaGreatR25
import Derived.Test.YtlhapagililgmaaGreatR20
import Derived.Test.YtlhapagililgmaaGreatR24
import Derived.Test.YtlhapagililgmaaGreatR28
import Derived.Test.YtlhapagililgmaaGreatR21
/- Contracts: the elements of a Sturm chain. -/
namespace Go.Proofs.YtlhapagililgmaaGreat
set_option linter.unusedSimpArgs false
set_option linter.unusedVariables false
open Go.RowKit

def stI (p : List Rat) : Nat → List Rat × List Rat
 | 0 => (p, pDiff p)
 | n + 1 => ((stI p n).2, nxt (stI p n).1 (stI p n).2)
def xsSt (p : List Rat) : Nat → Option (List V) := fun n => if (stI p n).1 = [] then none else some [.lst (V.rats (stI p n).1)]
def StOk (a b : List Rat) : Prop := (a.length ≤ 1000000 ∧ b.length ≤ 1000000) ∧ (b ≠ [] → DvOk a b ∧ (pMod a b).length ≤ 1000000 ∧ PB (pMod a b) 5000000000000)
def ChOk (p : List Rat) : Prop := (p.length ≤ 1000000 ∧ PB p 5000000000000) ∧ ∀ n, (stI p n).1 ≠ [] → StOk (stI p n).1 (stI p n).2
def stS (p : List Rat) (l : Nat) (n : Nat) : St := if (stI p n).1 = [] then mkSt [(0, .raw (.func (.yield l) #[] #[])), (1, .pel (.lst (V.rats p))), (3, .lst (V.rats []))] [] 0 35
 else mkSt [(0, .raw (.func (.yield l) #[] #[])), (1, .pel (.lst (V.rats p))), (3, .lst (V.rats (stI p n).1)), (4, .lst (V.rats (stI p n).2))] [] 0 35
theorem elements1_S (p : List Rat) (L : Nat) (h : ChOk p) : SeqC Tryz.prog 100 [.pel (.lst (V.rats p))] L (xsSt p) := by
 obtain ⟨⟨hl, hb⟩, hk⟩ := h
 have T := (tabs mixed (tbl_cons pDiff_C (tbl_cons pDM_C (tbl_cons whole_C (tbl_cons pSc_C tbl_nil)))))
 refine SeqC.of_it Tryz.func100 rfl Tryz.ntmps100 Tryz.results100 (by simp) fun l N J hN hJ => ?_
 refine AIt.seq (AIt.of hJ (vc_ok T _ _ _ ?_))
 simp only [go_sem, hl, hb]
 refine ⟨by rfl, ?_⟩
 refine AIt.block (AIt.loops hJ (X := Nat) (stS p l) (fun x => x) (fun x => N + 1 - x) (fun x => by unfold stS; split <;> rfl) 0 rfl ?_ ?_)
 ·by_cases p0 : p = []
  ·rw [show stS p l 0 = _ from if_pos p0]
   subst p0
   refine Wk.of [] (by decide) ?_
   simp only [go_sem]
   exact renV_pure rfl
  ·rw [show stS p l 0 = _ from if_neg p0]
   refine Wk.of [] (by decide) ?_
   simp only [go_sem, stI]
   exact renV_pure rfl
 intro n hn
 unfold stS
 by_cases a0 : (stI p n).1 = []
 ·rw [if_pos a0]
  refine AIt.seq (AIt.seq (AIt.of hJ (vc_at T ?_)))
  simp only [go_sem]
  refine AIt.cond (t := false) rfl ⟨fun e => (by cases e), fun _ => AIt.of hJ (vc_ok T _ _ _ ?_)⟩
  simp only [go_sem]
  exact fun m e => by cases e; exact if_pos a0
 ·rw [if_neg a0]
  obtain ⟨⟨l1, l2⟩, hd⟩ := hk n a0
  have la := List.length_pos_iff.2 a0
  have hx : xsSt p n = some [.lst (V.rats (stI p n).1)] := if_neg a0
  have e1 : stI p (n + 1) = ((stI p n).2, nxt (stI p n).1 (stI p n).2) := rfl
  obtain ⟨a, ea⟩ : ∃ a, (stI p n).1 = a := ⟨_, rfl⟩
  obtain ⟨b, eb⟩ : ∃ b, (stI p n).2 = b := ⟨_, rfl⟩
  simp only [ea, eb] at l1 l2 hd la hx e1 ⊢
  have c1 : (0 : Int) < (a.length : Int) := by omega
  show AIt _ J _ _ _ { s := mkS _, H := mkH _, n := _, N := _ }
  refine AIt.seq (AIt.seq (AIt.yieldG T hJ [_, _, _, _, _, _] [_] _ rfl rfl rfl rfl ?_))
  simp only [go_sem, c1, hx]
  refine ⟨?_, ?_⟩
  ·refine AIt.cond (t := true) rfl ⟨fun _ => AIt.of hJ (vc_ok T _ _ _ ?_), fun e => (by cases e)⟩
   simp only [go_sem]
   refine AIt.block (AIt.of hJ (vc_ok T _ _ _ ?_))
   have f1 : (stI p (n + 1)).1 = b := by rw [e1]
   have f2 : (stI p (n + 1)).2 = nxt a b := by rw [e1]
   by_cases b0 : b = []
   ·have c2 : ¬ (0 : Int) < (b.length : Int) := by rw [b0]; decide
    simp only [go_sem, c2]
    refine ⟨n + 1, rfl, ?_, by omega⟩
    rw [if_pos (by rw [f1, b0]), b0]
    refine Wk.of [] (by decide) ?_
    simp only [go_sem]
    exact renV_pure rfl
   ·have bl := List.length_pos_iff.2 b0
    have c2 : (0 : Int) < (b.length : Int) := by omega
    obtain ⟨d1, d2, d3⟩ := hd b0
    have r1 : dmP a b = .tup [.lst (V.rats (pDiv a b)), .lst (V.rats (pMod a b)), .raw (.int .i64 0)] := if_neg b0
    have r2 : nxt a b = pSc ((-1 : Int) : Rat) (pMod a b) := if_neg b0
    have q1 : qs ((-1 : Int) : Rat) ≤ 5000000000000 := Nat.le_trans (qs_int (-1)) (Nat.max_le.2 ⟨Nat.le_trans ((dl_le (k := 1)).2 (by decide)) (by decide), by decide⟩)
    simp only [go_sem, c2, r1, d1, d2, d3, q1]
    refine ⟨n + 1, rfl, ?_, by omega⟩
    rw [if_neg (by rw [f1]; exact b0), f1, f2, r2]
    refine Wk.of [] (by decide) ?_
    simp only [go_sem]
    exact renV_pure rfl
  ·refine AIt.cond (t := false) rfl ⟨fun e => (by cases e), fun _ => AIt.of hJ (vc_ok T _ _ _ ?_)⟩
   simp only [go_sem]
   exact fun n e => by cases e
def kElems : Con := con1 pR fun p => (True, .clo (.func 100) [] [.pel (.lst (V.rats p))])
attribute [go_sem ↓, go_sem] kElems
theorem elems_C : Ctr Tryz.prog 50 kElems := Ctr.c1 (by kernel_rfl) fun a h => by
 refine PCall.of_vc (tabs mixed tbl_nil) Tryz.func50 rfl Tryz.ntmps50 Tryz.results50 (by simp) ?_
 simp only [go_sem]
end Go.Proofs.YtlhapagililgmaaGreat


/- Contracts: integral multiples of polynomials. -/
namespace Go.Proofs.YtlhapagililgmaaGreat
set_option linter.unusedSimpArgs false
set_option linter.unusedVariables false
open Go.RowKit

def IgOk (p : List Rat) : Prop := (Can p ∧ p ≠ [] ∧ p.length ≤ 1000000) ∧ ∃ s, PB p s ∧ (p.length + 2) * (s + 1) ≤ 10000000000
theorem dnL_sz {p : List Rat} {s : Nat} (h : PB p s) : ∀ n, dl (dnL p n).natAbs ≤ n * s + 1
 | 0 => Nat.le_trans ((dl_le (n := 1) (k := 1)).2 (by decide)) (by omega)
 | n + 1 => by
   have h1 := dnL_sz h n
   have h2 := dl_mulI (dnL p n) (((cf p n).den : Int) / ((Nat.gcd (dnL p n).natAbs (cf p n).den : Nat) : Int))
   have h3 := dl_ediv ((cf p n).den : Int) ((Nat.gcd (dnL p n).natAbs (cf p n).den : Nat) : Int)
   have h4 := (szs (h n)).2.1
   rw [dnL, Nat.add_mul]
   omega
theorem ogI_sz {p : List Rat} {s : Nat} (h : PB p s) (i : Nat) : dl (ogI p i).natAbs ≤ s + (p.length * s + 1) := by
 have h1 := dnL_sz h p.length
 have h2 := dl_mulI (cf p i).num (dnL p p.length / ((cf p i).den : Int))
 have h3 := dl_ediv (dnL p p.length) ((cf p i).den : Int)
 have h4 := (szs (h i)).1
 unfold ogI
 omega
theorem gcd_dl (a b k : Nat) (ha : dl a ≤ k) (hb : dl b ≤ k) : dl (Nat.gcd a b) ≤ k := by
 by_cases h : b = 0
 ·rw [h, Nat.gcd_zero_right]; exact ha
 ·exact Nat.le_trans (dl_mono (Nat.gcd_le_right _ (by omega))) hb
theorem cmL_sz {p : List Rat} {s : Nat} (h : PB p s) : ∀ n, dl (cmL p n).natAbs ≤ s + (p.length * s + 1)
 | 0 => Nat.le_trans ((dl_le (n := 0) (k := 0)).2 (by decide)) (Nat.zero_le _)
 | n + 1 => by
   rw [cmL, Int.natAbs_natCast]
   exact gcd_dl _ _ _ (cmL_sz h n) (ogI_sz h n)
def zI : V := .agg [.raw (.bool false), .raw (.slice none 0 0)]
def ogL (p : List Rat) (i : Nat) : List Int := (List.range i).map (ogI p)
theorem ogL_len (p : List Rat) (i : Nat) : (ogL p i).length = i := by simp [ogL]
theorem ogL_succ (p : List Rat) (i : Nat) : ogL p (i + 1) = ogL p i ++ [ogI p i] := by simp [ogL, List.range_succ]
theorem iz_set (l : List Int) (n : Nat) (z : Int) : (V.zs l ++ List.replicate (n + 1) zI).set l.length (.I z) = V.zs (l ++ [z]) ++ List.replicate n zI := by
 rw [List.set_append_right _ _ (by rw [zs_len]; exact Nat.le_refl _), zs_len, Nat.sub_self, List.replicate_succ]
 simp [V.zs]
theorem iz_get (l : List Int) (n : Nat) (z : Int) : (V.zs (l ++ [z]) ++ List.replicate n zI)[l.length]? = some (.I z) := by
 rw [List.getElem?_append_left (by rw [zs_len]; simp)]
 simp [V.zs]
theorem iz_at (l : List Int) (n : Nat) : (V.zs l ++ List.replicate (n + 1) zI)[l.length]? = some zI := by
 rw [List.getElem?_append_right (by rw [zs_len]; exact Nat.le_refl _), zs_len, Nat.sub_self, List.replicate_succ]; rfl
theorem iz_len (l : List Int) (n : Nat) : (V.zs l ++ List.replicate n zI).length = l.length + n := by simp [V.zs]
theorem iz_pure (l : List Int) (n : Nat) : allPure (V.zs l ++ List.replicate n zI) := fun y hy => by
 rcases List.mem_append.1 hy with h | h
 ·obtain ⟨z, _, rfl⟩ := List.mem_map.1 h; rfl
 ·rw [List.eq_of_mem_replicate h]; rfl
def igM (p : List Rat) (j : Nat) : List Int := (List.range p.length).map fun i => if i < j then ogI p i / cmL p p.length else ogI p i
theorem igM_len (p : List Rat) (j : Nat) : (igM p j).length = p.length := by simp [igM]
theorem igM_zero (p : List Rat) : igM p 0 = ogL p p.length := by simp [igM, ogL]
theorem igM_all (p : List Rat) : igM p p.length = igL p := List.map_congr_left fun i hi => if_pos (List.mem_range.1 hi)
theorem igM_get {p : List Rat} {j : Nat} (h : j < p.length) : zz (igM p j) j = ogI p j := by
 unfold zz igM
 rw [List.getD_eq_getElem?_getD, List.getElem?_map, List.getElem?_range h]
 simp
theorem igM_set {p : List Rat} {j : Nat} (h : j < p.length) : (igM p j).set j (ogI p j / cmL p p.length) = igM p (j + 1) := by
 refine List.ext_getElem (by simp [igM]) fun i h1 h2 => ?_
 rw [List.getElem_set]
 by_cases e : j = i
 ·subst e; simp [igM]
 ·rw [if_neg e]
  simp only [igM, List.getElem_map, List.getElem_range]
  by_cases hi : i < j
  ·rw [if_pos hi, if_pos (by omega)]
  ·rw [if_neg hi, if_neg (by omega)]
set_option maxRecDepth 4000 in
theorem integ_V (p : List Rat) (h : IgOk p) : PCall Tryz.prog 82 [.lst (V.rats p)] (.lst (V.zs (igL p))) := by
 obtain ⟨⟨hc, p0, hl⟩, s, hs, hb⟩ := h
 have T := (tabs mixed (tbl_cons of_C (tbl_cons gcdA_C (tbl_cons divModA_C (tbl_cons mul_C tbl_nil)))))
 have hp := List.length_pos_iff.2 p0
 have e0 : (p.length + 2) * (s + 1) = p.length * s + 2 * s + p.length + 2 := by rw [Nat.add_mul, Nat.mul_add]; omega
 refine PCall.of_vc T Tryz.func82 rfl Tryz.ntmps82 Tryz.results82 (by simp) ?_
 simp only [go_sem]
 refine AWp.loops (X := { i : Nat // i ≤ p.length }) (fun i => mkSt [(0, .lst (V.rats p)), (3, .ptr 0 2 0 0), (4, .ptr 1 2 0 0), (19, .lst (V.rats p)), (20, .raw (.int .i64 (p.length : Nat))), (21, .raw (.int .i64 (i.1 : Nat)))]
  [(0, true, ⟨44, 2, [.I (dnL p i.1)]⟩), (1, true, ⟨44, 2, [.I 0]⟩)] 2 92) (fun i => p.length - i.1) ⟨0, Nat.zero_le _⟩ (Wk.of [3, 4] (by decide) ?_) ?_
 ·simp only [go_sem, dnL, Int.natCast_zero]
 ·rintro ⟨i, hi⟩
  refine vc_at T ?_
  by_cases hlt : i < p.length
  ·have c1 : (i : Int) < (p.length : Int) := by omega
   have c2 : (i : Int) + 1 = ((i + 1 : Nat) : Int) := by omega
   have c3 : 0 ≤ (i : Int) := by omega
   have z1 := dnL_sz hs i
   have z2 := (szs (hs i)).2.1
   rw [Int.natAbs_natCast] at z2
   have z4 := gcd_dl _ _ _ (Nat.le_trans z1 (show _ ≤ 12000000000000 by have : i * s ≤ p.length * s := Nat.mul_le_mul_right _ hi; omega)) (Nat.le_trans z2 (show _ ≤ 12000000000000 by omega))
   have z5 := dl_ediv ((cf p i).den : Int) (Nat.gcd (dnL p i).natAbs (cf p i).den : Nat)
   rw [Int.natAbs_natCast] at z5
   have z3 : i * s ≤ p.length * s := Nat.mul_le_mul_right _ hi
   obtain ⟨G, hG⟩ : ∃ G, G = Nat.gcd (dnL p i).natAbs (cf p i).den := ⟨_, rfl⟩
   rw [← hG] at z4 z5
   have hG0 : 0 < G := by rw [hG]; exact Nat.gcd_pos_of_pos_right _ (cf p i).den_pos
   have hdm : ∀ x : Int, dmR x (G : Nat) = .tup [.I (x / (G : Nat)), .I (x % (G : Nat)), .raw (.int .i64 0)] := fun x => if_neg (by omega)
   have e1 : dnL p i * ((cf p i).den / ((G : Nat) : Int)) = dnL p (i + 1) := by rw [hG]; rfl
   simp only [go_sem, c1, c2, c3, hlt, Int.natAbs_natCast, ← hG, hdm, e1]
   refine ⟨⟨by omega, by omega⟩, ⟨by omega, z4⟩, by rfl, ⟨by omega, by omega⟩, ⟨by omega, by omega⟩, ⟨i + 1, hlt⟩, Wk.of [0, 1] (by decide) ?_, by simp only; omega⟩
   simp only [go_sem]
  ·obtain rfl : i = p.length := by omega
   have c1 : ¬ (p.length : Int) < (p.length : Int) := by omega
   simp only [go_sem, c1]
   refine ⟨⟨by omega, by omega, by omega, by omega⟩, ?_⟩
   refine AWp.loops (X := { i : Nat // i ≤ p.length }) (fun i => mkSt [(0, .lst (V.rats p)), (3, .ptr 0 2 0 0), (4, .ptr 1 2 0 0), (10, .sl 2 2 0 p.length), (43, .lst (V.rats p)), (44, .raw (.int .i64 (p.length : Nat))), (45, .raw (.int .i64 (i.1 : Nat)))]
    [(0, true, ⟨44, 2, [.I (dnL p p.length)]⟩), (1, true, ⟨44, 2, [.I (cmL p i.1)]⟩), (2, true, ⟨44, 2, V.zs (ogL p i.1) ++ List.replicate (p.length - i.1) zI⟩)] 3 92) (fun i => p.length - i.1) ⟨0, Nat.zero_le _⟩ (Wk.of [0, 1, 5] (by decide) ?_) ?_
   ·simp only [go_sem, cmL, Int.natCast_zero]
    exact ⟨rfl, iz_pure _ _⟩
   ·rintro ⟨i, hi⟩
    refine vc_at T ?_
    by_cases hlt : i < p.length
    ·have c1 : (i : Int) < (p.length : Int) := by omega
     have c2 : (i : Int) + 1 = ((i + 1 : Nat) : Int) := by omega
     have c3 : 0 ≤ (i : Int) := by omega
     obtain ⟨r, hr⟩ : ∃ r, p.length - i = r + 1 := ⟨p.length - i - 1, by omega⟩
     have hr2 : p.length - (i + 1) = r := by omega
     have z1 := dnL_sz hs p.length
     have z2 := (szs (hs i)).2.1
     have z3 := (szs (hs i)).1
     have z4 := dl_ediv (dnL p p.length) ((cf p i).den : Int)
     have z5 := cmL_sz hs i
     have z6 := ogI_sz hs i
     have hdm : ∀ x : Int, dmR x ((cf p i).den : Int) = .tup [.I (x / ((cf p i).den : Int)), .I (x % ((cf p i).den : Int)), .raw (.int .i64 0)] := fun x => if_neg (by have := (cf p i).den_pos; omega)
     have e1 : (cf p i).num * (dnL p p.length / ((cf p i).den : Int)) = ogI p i := rfl
     have e2 : ((Nat.gcd (cmL p i).natAbs (ogI p i).natAbs : Nat) : Int) = cmL p (i + 1) := rfl
     have s1 : (V.zs (ogL p i) ++ List.replicate (r + 1) zI).set i (.I (ogI p i)) = V.zs (ogL p (i + 1)) ++ List.replicate r zI := by
      have := iz_set (ogL p i) r (ogI p i)
      rwa [ogL_len, ← ogL_succ] at this
     have s2 : (V.zs (ogL p (i + 1)) ++ List.replicate r zI)[i]? = some (.I (ogI p i)) := by
      have := iz_get (ogL p i) r (ogI p i)
      rwa [ogL_len, ← ogL_succ] at this
     have s3 : (V.zs (ogL p i) ++ List.replicate (r + 1) zI)[i]? = some (.agg [.raw (.bool false), .raw (.slice none 0 0)]) := by
      have := iz_at (ogL p i) r
      rwa [ogL_len] at this
     have s4 : (V.zs (ogL p i) ++ List.replicate (r + 1) zI).length = p.length := by rw [iz_len, ogL_len]; omega
     rw [hr]
     simp only [go_sem, c1, c2, c3, hlt, hdm, e1, e2, s1, s2, s3, s4]
     refine ⟨⟨by omega, by omega⟩, ⟨by omega, by omega⟩, ⟨by omega, by omega⟩, by rfl, ⟨by omega, by omega⟩, ⟨i + 1, hlt⟩, Wk.of [0, 1, 2] (by decide) ?_, by simp only; omega⟩
     simp only [go_sem, hr2]
     exact iz_pure _ _
    ·obtain rfl : i = p.length := by omega
     have c1 : ¬ (p.length : Int) < (p.length : Int) := by omega
     have s4 : V.zs (ogL p p.length) ++ List.replicate (p.length - p.length) zI = V.zs (igM p 0) := by rw [Nat.sub_self, List.replicate_zero, List.append_nil, igM_zero]
     rw [s4]
     simp only [go_sem, c1]
     refine AWp.loops (X := { i : Nat // i ≤ p.length }) (fun i => mkSt [(4, .ptr 0 2 0 0), (10, .sl 1 2 0 p.length), (73, .raw (.int .i64 (p.length : Nat))), (74, .raw (.int .i64 (i.1 : Nat)))]
      [(0, true, ⟨44, 2, [.I (cmL p p.length)]⟩), (1, true, ⟨44, 2, V.zs (igM p i.1)⟩)] 2 92) (fun i => p.length - i.1) ⟨0, Nat.zero_le _⟩ (Wk.of [1, 2] (by decide) ?_) ?_
     ·simp only [go_sem, Int.natCast_zero]
     ·rintro ⟨i, hi⟩
      refine vc_at T ?_
      by_cases hlt : i < p.length
      ·have c1 : (i : Int) < (p.length : Int) := by omega
       have c2 : (i : Int) + 1 = ((i + 1 : Nat) : Int) := by omega
       have c3 : 0 ≤ (i : Int) := by omega
       have z5 := cmL_sz hs p.length
       have z6 := ogI_sz hs i
       have cp := cmL_pos hc p0
       have hdm : ∀ x : Int, dmR x (cmL p p.length) = .tup [.I (x / (cmL p p.length)), .I (x % (cmL p p.length)), .raw (.int .i64 0)] := fun x => if_neg (by omega)
       simp only [go_sem, c1, c2, c3, hlt, hdm, igM_len, igM_get, igM_set]
       refine ⟨⟨by omega, by omega⟩, by rfl, ⟨by omega, by omega⟩, ⟨i + 1, hlt⟩, Wk.of [0, 1] (by decide) ?_, by simp only; omega⟩
       simp only [go_sem]
      ·obtain rfl : i = p.length := by omega
       have c1 : ¬ (p.length : Int) < (p.length : Int) := by omega
       have tk : List.take p.length (igL p) = igL p := List.take_of_length_le (by rw [igL_len]; exact Nat.le_refl _)
       simp only [go_sem, c1, igM_all, igL_len, Nat.le_refl, tk]
def kInteg : Con := con1 pR fun p => (IgOk p, .lst (V.zs (igL p)))
attribute [go_sem ↓, go_sem] kInteg
theorem integ_C : Ctr Tryz.prog 82 kInteg := Ctr.c1 (by kernel_rfl) fun p h => integ_V p h
end Go.Proofs.YtlhapagililgmaaGreat


/- Contracts: the Sturm chain as a list. -/
namespace Go.Proofs.YtlhapagililgmaaGreat
set_option linter.unusedSimpArgs false
set_option linter.unusedVariables false
open Go.RowKit

def stJ (a b : List Rat) : Nat → List Rat × List Rat
 | 0 => (a, b)
 | n + 1 => ((stJ a b n).2, nxt (stJ a b n).1 (stJ a b n).2)
theorem stJ_shift (a b : List Rat) : ∀ n, stJ a b (n + 1) = stJ b (nxt a b) n
 | 0 => rfl
 | n + 1 => by
   have := stJ_shift a b n
   show ((stJ a b (n + 1)).2, nxt (stJ a b (n + 1)).1 (stJ a b (n + 1)).2) = ((stJ b (nxt a b) n).2, nxt (stJ b (nxt a b) n).1 (stJ b (nxt a b) n).2)
   rw [this]
theorem stI_J (p : List Rat) : ∀ n, stI p n = stJ p (pDiff p) n
 | 0 => rfl
 | n + 1 => by rw [stI, stJ, stI_J p n]
def jL (a b : List Rat) (n : Nat) : List (List Rat) := (List.range n).map fun i => (stJ a b i).1
theorem jL_succ (a b : List Rat) (n : Nat) : jL a b (n + 1) = jL a b n ++ [(stJ a b n).1] := by simp [jL, List.range_succ]
theorem jL_len (a b : List Rat) (n : Nat) : (jL a b n).length = n := by simp [jL]
theorem jL_shift (a b : List Rat) (n : Nat) : jL a b (n + 1) = a :: jL b (nxt a b) n := by
 unfold jL
 rw [List.range_succ_eq_map, List.map_cons, List.map_map]
 congr 1
 refine List.map_congr_left fun i _ => ?_
 show (stJ a b (i + 1)).1 = _
 rw [stJ_shift]
theorem stL_J : ∀ (n : Nat) (a b : List Rat), Can a → Can b → b.length < n → ∃ N, (stL a b = jL a b N ∧ N ≤ b.length + 1) ∧ (stJ a b N).1 = [] ∧ ∀ i, i < N → (stJ a b i).1 ≠ []
 | 0, _, _, _, _, h => absurd h (Nat.not_lt_zero _)
 | n + 1, a, b, ha, hb, h => by
   by_cases a0 : a = []
   ·subst a0
    exact ⟨0, ⟨stL_nil b, Nat.zero_le _⟩, rfl, fun i h => absurd h (Nat.not_lt_zero _)⟩
   ·rw [stL_cons ha hb a0]
    have fin : ∀ N, (stL b (nxt a b) = jL b (nxt a b) N ∧ N ≤ b.length) → (stJ b (nxt a b) N).1 = [] → (∀ i, i < N → (stJ b (nxt a b) i).1 ≠ []) → ∃ N, (a :: stL b (nxt a b) = jL a b N ∧ N ≤ b.length + 1) ∧ (stJ a b N).1 = [] ∧ ∀ i, i < N → (stJ a b i).1 ≠ [] := fun N h1 h2 h3 => by
     refine ⟨N + 1, ⟨by rw [jL_shift, h1.1], by omega⟩, by rw [stJ_shift]; exact h2, fun i hi => ?_⟩
     cases i with
     | zero => exact a0
     | succ i => rw [stJ_shift]; exact h3 i (by omega)
    by_cases b0 : b = []
    ·subst b0
     exact fin 0 ⟨stL_nil _, Nat.le_refl _⟩ rfl fun i h => absurd h (Nat.not_lt_zero _)
    ·have hl := nxt_len ha hb b0
     obtain ⟨N, ⟨h1, h2⟩, h3, h4⟩ := stL_J n b (nxt a b) hb (can_nxt a b) (by omega)
     exact fin N ⟨h1, by omega⟩ h3 h4
theorem stL_I {p : List Rat} (hp : Can p) : ∃ N, (stL p (pDiff p) = jL p (pDiff p) N ∧ N ≤ p.length + 1) ∧ (stI p N).1 = [] ∧ ∀ i, i < N → (stI p i).1 ≠ [] := by
 obtain ⟨N, ⟨h1, h2⟩, h3, h4⟩ := stL_J _ p (pDiff p) hp (can_pDiff p) (Nat.lt_succ_self _)
 refine ⟨N, ⟨h1, ?_⟩, by rw [stI_J]; exact h3, fun i hi => by rw [stI_J]; exact h4 i hi⟩
 have : (pDiff p).length ≤ p.length := by
  have := len_pDiff hp
  omega
 omega
def chH (p : List Rat) : Nat → Hp
 | 0 => mkH [(0, false, ⟨30, 1, [.raw (.slice none 0 0)]⟩)]
 | n + 1 => mkH [(0, false, ⟨30, 1, [.sl 1 1 0 (n + 1)]⟩), (1, false, ⟨28, 1, V.mat (jL p (pDiff p) (n + 1))⟩)]
def kChain : Con := con1 pR fun p => (Can p ∧ ChOk p, .lst (V.mat (stL p (pDiff p))))
attribute [go_sem ↓, go_sem] kChain
set_option maxRecDepth 4000 in
theorem chain_C : Ctr Tryz.prog 13 kChain := Ctr.c1 (by kernel_rfl) fun p h => by
 obtain ⟨hp, hk⟩ := h
 show PCall _ _ _ (.lst (V.mat (stL p (pDiff p))))
 obtain ⟨N, ⟨hN, hNl⟩, hz, hnz⟩ := stL_I hp
 have hl := hk.1.1
 have T := (tabs mixed (tbl_cons elems_C tbl_nil))
 have mx : maxLen = 9223372036854775807 := by decide
 rw [hN]
 refine PCall.of_vc T Tryz.func13 rfl Tryz.ntmps13 Tryz.results13 (by simp) ?_
 simp only [go_sem]
 refine AWp.rounds (elements1_S p N hk) (by kernel_rfl) N (Nat.le_refl _) (s0 := mkS [(3, .ptr 0 1 0 0), (6, .clo (.func 100) [] [.pel (.lst (V.rats p))])]) (m := 1) (M := 13)
  (chH p) (fun n => if n = 0 then 1 else 2) (fun _ _ _ => False) rfl (Wk.of [1] (by decide) ?_) rfl rfl (fun i => by cases i <;> exact ⟨rfl, trivial⟩) (fun n ys hy hn => ?_) (fun id H n hs => hs.elim) (fun n hn hx => ?_)
 ·simp only [go_sem]
  first | exact rfl | exact ⟨rfl, rfl⟩ | trace_state
 ·by_cases a0 : (stI p n).1 = []
  ·rw [show xsSt p n = none from if_pos a0] at hy; cases hy
  rw [show xsSt p n = some [.lst (V.rats (stI p n).1)] from if_neg a0] at hy
  injection hy with hy
  subst hy
  have hlt : n + 1 ≤ N := by
   by_cases e : n = N
   ·rw [e] at a0; exact absurd hz a0
   ·omega
  rw [stI_J]
  refine ⟨⟨rfl, by decide⟩, vc_ok T _ _ _ ?_⟩
  rcases n with _ | n
  ·simp only [go_sem, chH]
   refine vc_ok T _ _ _ ?_
   have e2 : V.mat (jL p (pDiff p) (0 + 1)) = [.lst (V.rats (stJ p (pDiff p) 0).1)] := rfl
   simp only [go_sem, mx]
   refine ⟨hlt, Wk.ofM 1 (ss := []) (hs := [(0, false, ⟨30, 1, [.sl 1 1 0 (0 + 1)]⟩), (1, true, ⟨28, 1, V.mat (jL p (pDiff p) (0 + 1))⟩)]) [0, 5] (by decide) (by decide) ?_⟩
   simp only [go_sem, e2]
  ·simp only [go_sem, chH]
   refine vc_ok T _ _ _ ?_
   have e1 : (V.mat (jL p (pDiff p) (n + 1))).take (n + 1) = V.mat (jL p (pDiff p) (n + 1)) := List.take_of_length_le (by rw [mat_len, jL_len]; exact Nat.le_refl _)
   have e2 : V.mat (jL p (pDiff p) (n + 1 + 1)) = V.mat (jL p (pDiff p) (n + 1)) ++ [.lst (V.rats (stJ p (pDiff p) (n + 1)).1)] := by rw [mat_snoc, jL_succ]
   simp only [go_sem, mx, e1, jL_len]
   refine ⟨⟨by omega, by omega⟩, hlt, Wk.ofM 1 (ss := []) (hs := [(0, false, ⟨30, 1, [.sl 1 1 0 (n + 1 + 1)]⟩), (1, true, ⟨28, 1, V.mat (jL p (pDiff p) (n + 1 + 1))⟩)]) [0, 6] (by decide) (by decide) ?_⟩
   simp only [go_sem, e2]
   rw [← e2]
   exact of_eq_true (mat_pure _)
 ·have e : n = N := by
   by_cases e : n = N
   ·exact e
   ·rw [show xsSt p n = some _ from if_neg (hnz n (by omega))] at hx; cases hx
  subst e
  rcases n with _ | n
  ·simp only [go_sem, chH]
   exact .refl _
  ·have e1 : (V.mat (jL p (pDiff p) (n + 1))).take (n + 1) = V.mat (jL p (pDiff p) (n + 1)) := List.take_of_length_le (by rw [mat_len, jL_len]; exact Nat.le_refl _)
   simp only [go_sem, chH, jL_len, e1]
end Go.Proofs.YtlhapagililgmaaGreat


/- Contracts: the sign of a polynomial with integer coefficients. -/
namespace Go.Proofs.YtlhapagililgmaaGreat
set_option linter.unusedSimpArgs false
set_option linter.unusedVariables false
open Go.RowKit

theorem xsBack_zs {a : List Int} {n : Nat} (h : n < a.length) : xsBack (V.zs a) n = some [.raw (.int .i64 ((a.length : Int) - 1 - n)), .I (zz a (a.length - 1 - n))] := by
 rw [xsBack_some (by rw [zs_len]; exact h), zs_len, List.getD_eq_getElem?_getD, zs_get (by omega)]
 rfl
theorem xsBack_zs0 {a : List Int} {n : Nat} (h : ¬ n < a.length) : xsBack (V.zs a) n = none := xsBack_none (by rw [zs_len]; exact h)
theorem backZ1_S (a : List Int) (h : a.length ≤ 1000000) : SeqC Tryz.prog 156 [.pel (.lst (V.zs a))] 1000000 (xsBack (V.zs a)) := by
 refine SeqC.of_it Tryz.func156 rfl Tryz.ntmps156 Tryz.results156 (by simp) fun l N J _ hJ => ?_
 refine AIt.seq (AIt.of hJ (vc_ok (tabs mixed tbl_nil) _ _ _ ?_))
 simp only [go_sem]
 refine ⟨⟨by omega, by omega⟩, ?_⟩
 refine AIt.block (AIt.loops hJ (X := { n : Nat // n ≤ a.length }) (fun x => mkSt [(0, .raw (.func (.yield l) #[] #[])), (1, .pel (.lst (V.zs a))), (3, .raw (.int .i64 ((a.length : Int) - 1 - (x.1 : Nat))))] [] 0 19) (fun x => x.1) (fun x => a.length - x.1) (fun _ => rfl) ⟨0, Nat.zero_le _⟩ rfl (Wk.of [] (by decide) ?_) ?_)
 ·simp only [go_sem, Int.sub_zero, Int.natCast_zero]
  exact renV_pure rfl
 rintro ⟨n, hn⟩ _
 refine AIt.seq (AIt.of hJ (vc_at (tabs mixed tbl_nil) ?_))
 by_cases hlt : n < a.length
 ·have e0 : 0 ≤ (a.length : Int) - 1 - (n : Nat) := by omega
  simp only [go_sem, e0]
  refine AIt.seq (AIt.block (AIt.seq (AIt.yieldR (tabs mixed tbl_nil) hJ [_, _, _, _, _, _] [_] _ rfl rfl rfl ?_)))
  have e1 : (a.length : Int) - 1 - (n : Nat) = ((a.length - 1 - n : Nat) : Int) := by omega
  simp only [go_sem, e1]
  refine ⟨⟨by omega, by omega⟩, by omega, ?_, ?_, ?_⟩
  ·rw [xsBack_some (by rw [zs_len]; exact hlt)]
   rw [zs_len, e1, List.getD_eq_getElem?_getD, zs_get (by omega)]
   rfl
  ·refine AIt.cond (t := false) rfl ⟨fun e => (by cases e), fun _ => AIt.of hJ (vc_ok (tabs mixed tbl_nil) _ _ _ ?_)⟩
   simp only [go_sem]
   refine AIt.of hJ (vc_ok (tabs mixed tbl_nil) _ _ _ ?_)
   simp only [go_sem]
   refine ⟨⟨by omega, by omega⟩, ⟨n + 1, hlt⟩, rfl, Wk.of [] (by decide) ?_, by simp only; omega⟩
   have e2 : ((a.length - 1 - n : Nat) : Int) - 1 = (a.length : Int) - 1 - ((n + 1 : Nat) : Int) := by omega
   simp only [go_sem, e2]
   exact renV_pure rfl
  ·refine AIt.cond (t := true) rfl ⟨fun _ => AIt.of hJ (vc_ok (tabs mixed tbl_nil) _ _ _ ?_), fun e => (by cases e)⟩
   simp only [go_sem]
   exact fun n e => by cases e
 ·have e0 : ¬ 0 ≤ (a.length : Int) - 1 - (n : Nat) := by omega
  simp only [go_sem, e0]
  exact fun m e => by cases e; exact xsBack_none (by rw [zs_len]; exact hlt)
def kBackZ : Con := con1 pZs fun a => (a.length ≤ 1000000, .clo (.func 156) [] [.pel (.lst (V.zs a))])
attribute [go_sem ↓, go_sem] kBackZ
theorem backZ_C : Ctr Tryz.prog 125 kBackZ := Ctr.c1 (by kernel_rfl) fun a h => by
 refine PCall.of_vc (tabs mixed tbl_nil) Tryz.func125 rfl Tryz.ntmps125 Tryz.results125 (by simp) ?_
 simp only [go_sem]
def SgOk (l : List Int) (x : Rat) : Prop := l.length ≤ 1000000 ∧ ∃ s t, ((∀ i, dl (zz l i).natAbs ≤ s) ∧ qs x ≤ t) ∧ (l.length + 2) * (s + t + 3) ≤ 1000000000000
theorem hsZ_drop (x : Rat) (l : List Int) {n : Nat} (h : n < l.length) : hsZ x (l.drop n) = ((hsZ x (l.drop (n + 1))).1 * x.num + zz l n * (hsZ x (l.drop (n + 1))).2, (hsZ x (l.drop (n + 1))).2 * (x.den : Int)) := by
 have h1 : l.drop n = zz l n :: l.drop (n + 1) := by
  rw [List.drop_eq_getElem_cons h]
  unfold zz
  rw [List.getD_eq_getElem?_getD, List.getElem?_eq_getElem h]
  rfl
 rw [h1]
 rfl
theorem hsZ_sz {x : Rat} {s t : Nat} (hx : qs x ≤ t) : ∀ l : List Int, (∀ z ∈ l, dl z.natAbs ≤ s) → dl (hsZ x l).2.natAbs ≤ l.length * t + 1 ∧ dl (hsZ x l).1.natAbs ≤ l.length * (t + 1) + s + 1
 | [], _ => ⟨Nat.le_trans ((dl_le (n := 1) (k := 1)).2 (by decide)) (by simp), Nat.le_trans ((dl_le (n := 0) (k := 0)).2 (by decide)) (Nat.zero_le _)⟩
 | c :: l, h => by
   obtain ⟨h1, h2⟩ := hsZ_sz hx l fun z hz => h z (by simp [hz])
   have h3 := h c (by simp)
   obtain ⟨q1, q2, _⟩ := szs hx
   have m1 := dl_mulI (hsZ x l).2 (x.den : Int)
   have m2 := dl_mulI (hsZ x l).1 x.num
   have m3 := dl_mulI c (hsZ x l).2
   have m4 := dl_addI ((hsZ x l).1 * x.num) (c * (hsZ x l).2)
   have e : (hsZ x (c :: l)) = ((hsZ x l).1 * x.num + c * (hsZ x l).2, (hsZ x l).2 * (x.den : Int)) := rfl
   rw [e, List.length_cons, Nat.add_mul, Nat.add_mul]
   have e2 : l.length * (t + 1) = l.length * t + l.length := Nat.mul_succ _ _
   exact ⟨by simp only; omega, by simp only; omega⟩
def kSgn : Con := con2 pZs pQ fun l x => (SgOk l x, .raw (.int .i64 (sgI (hsZ x l).1)))
attribute [go_sem ↓, go_sem] kSgn
theorem sgn_C : Ctr Tryz.prog 91 kSgn := Ctr.c2 (by kernel_rfl) fun a x h => by
 obtain ⟨hl, s, t, ⟨hs, hx⟩, hb⟩ := h
 have szn : ∀ n, dl (hsZ x (a.drop n)).2.natAbs ≤ 12000000000000 ∧ dl (hsZ x (a.drop n)).1.natAbs ≤ 12000000000000 := fun n => by
  obtain ⟨h1, h2⟩ := hsZ_sz hx (a.drop n) (s := s) fun z hz => by
   obtain ⟨i, hi, rfl⟩ := List.getElem_of_mem (List.mem_of_mem_drop hz)
   have := hs i
   unfold zz at this
   rwa [List.getD_eq_getElem?_getD, List.getElem?_eq_getElem hi] at this
  have hd : (a.drop n).length ≤ a.length := by rw [List.length_drop]; omega
  have k1 : (a.drop n).length * t ≤ a.length * t := Nat.mul_le_mul_right _ hd
  have k2 : (a.drop n).length * (t + 1) ≤ a.length * (t + 1) := Nat.mul_le_mul_right _ hd
  have k3 : (a.length + 2) * (s + t + 3) = a.length * (t + 1) + a.length * (s + 2) + 2 * (s + t + 3) := by
   rw [Nat.add_mul, ← Nat.mul_add]
   congr 2
   omega
  have k4 : a.length * (t + 1) = a.length * t + a.length := Nat.mul_succ _ _
  have k5 : 2 * s ≤ 2 * (s + t + 3) := by omega
  exact ⟨by omega, by omega⟩
 have hst : s ≤ 1000000000000 ∧ t ≤ 1000000000000 := by
  have : s + t + 3 ≤ (a.length + 2) * (s + t + 3) := Nat.le_mul_of_pos_left _ (by omega)
  omega
 obtain ⟨q1, q2, _⟩ := szs hx
 have T := (tabs mixed (tbl_cons of_C (tbl_cons backZ_C (tbl_cons mul_C (tbl_cons add_C (tbl_cons sign_C tbl_nil))))))
 refine PCall.of_vc T Tryz.func91 rfl Tryz.ntmps91 Tryz.results91 (by simp) ?_
 simp only [go_sem, hl]
 refine AWp.rounds (backZ1_S a hl) (by kernel_rfl) a.length hl (s0 := mkS [(3, .ptr 0 4 0 0), (5, .ptr 1 2 0 0), (6, .ptr 2 2 0 0), (12, .clo (.func 156) [] [.pel (.lst (V.zs a))])]) (m := 3) (M := 29)
  (fun n => mkH [(0, false, ⟨46, 4, [.Q x]⟩), (1, false, ⟨44, 2, [.I (hsZ x (a.drop (a.length - n))).1]⟩), (2, false, ⟨44, 2, [.I (hsZ x (a.drop (a.length - n))).2]⟩)]) (fun _ => 3) (fun _ _ _ => False) rfl (Wk.of [0, 4, 5] (by decide) ?_) rfl rfl (fun _ => ⟨rfl, rfl, rfl, trivial⟩) (fun n ys hy hn => ?_) (fun _ _ _ h => h.elim) (fun n hn hx => ?_)
 ·have e0 : List.drop (a.length - 0) a = [] := List.drop_of_length_le (by omega)
  have e1 : hsZ x [] = (0, 1) := rfl
  have e2 : hsZ x (List.drop a.length a) = (0, 1) := e0 ▸ e1
  simp only [go_sem, e2]
  exact ⟨⟨rfl, rfl⟩, renV_pure rfl, renV_pure rfl, renV_pure rfl⟩
 ·by_cases hlt : n < a.length
  ·rw [xsBack_zs hlt] at hy
   injection hy with hy
   subst hy
   refine ⟨⟨rfl, by decide⟩, vc_ok T _ _ _ ?_⟩
   simp only [go_sem]
   refine vc_ok T _ _ _ ?_
   have f1 := szn (a.length - n)
   have f2 := hs (a.length - 1 - n)
   have e3 : hsZ x (a.drop (a.length - (n + 1))) = ((hsZ x (a.drop (a.length - n))).1 * x.num + zz a (a.length - 1 - n) * (hsZ x (a.drop (a.length - n))).2, (hsZ x (a.drop (a.length - n))).2 * (x.den : Int)) := by
    rw [hsZ_drop x a (n := a.length - (n + 1)) (by omega), show a.length - (n + 1) + 1 = a.length - n from by omega, show a.length - (n + 1) = a.length - 1 - n from by omega]
   rw [e3]
   have m3 := dl_mulI (zz a (a.length - 1 - n)) (hsZ x (a.drop (a.length - n))).2
   have m2 := dl_mulI (hsZ x (a.drop (a.length - n))).1 x.num
   have r1 : (a.length + 2) * (s + t + 3) = a.length * (s + t + 3) + 2 * (s + t + 3) := Nat.add_mul _ _ _
   have q2' : dl x.den ≤ 12000000000000 := by rw [Int.natAbs_natCast] at q2; omega
   simp only [go_sem]
   refine ⟨⟨by omega, by omega⟩, ⟨by omega, by omega⟩, ⟨by omega, by omega⟩, by rfl, ⟨by omega, by omega⟩, hlt, Wk.ofM 3 (ss := []) [0, 1, 2] (by decide) (by decide) ?_⟩
   simp only [go_sem]
   exact ⟨renV_pure rfl, renV_pure rfl, renV_pure rfl⟩
  ·rw [xsBack_zs0 hlt] at hy
   cases hy
 ·have hge : ¬ n < a.length := fun h => by
   rw [xsBack_zs h] at hx
   cases hx
  have e1 : a.length - n = 0 := by omega
  simp only [go_sem, e1, List.drop_zero]
end Go.Proofs.YtlhapagililgmaaGreat


/- Contracts: the squarefree part and its chain of integers. -/
namespace Go.Proofs.YtlhapagililgmaaGreat
set_option linter.unusedSimpArgs false
set_option linter.unusedVariables false
open Go.RowKit

def FrOk (p : List Rat) : Prop := (p.length ≤ 1000000 ∧ PB p 5000000000000) ∧ (∃ n, GcOk n p (pDiff p)) ∧ DvOk p (pGcd p (pDiff p)) ∧ pGcd p (pDiff p) ≠ []
def kFree : Con := con1 pR fun p => (FrOk p, .lst (V.rats (sqp p)))
attribute [go_sem ↓, go_sem] kFree
theorem free_C : Ctr Tryz.prog 107 kFree := Ctr.c1 (by kernel_rfl) fun p h => by
 obtain ⟨⟨hl, hb⟩, hg, hd, g0⟩ := h
 show PCall _ _ _ (.lst (V.rats (pDiv p (pGcd p (pDiff p)))))
 have r1 : dmP p (pGcd p (pDiff p)) = .tup [.lst (V.rats (pDiv p (pGcd p (pDiff p)))), .lst (V.rats (pMod p (pGcd p (pDiff p)))), .raw (.int .i64 0)] := if_neg g0
 refine PCall.of_vc (tabs mixed (tbl_cons pDiff_C (tbl_cons pGcd_C (tbl_cons pDM_C tbl_nil)))) Tryz.func107 rfl Tryz.ntmps107 Tryz.results107 (by simp) ?_
 simp only [go_sem, hl, hb, r1]
 exact ⟨hg, hd⟩
def cjL (p : List Rat) (n : Nat) : List (List Int) := (jL p (pDiff p) n).map igL
theorem cjL_len (p : List Rat) (n : Nat) : (cjL p n).length = n := by simp [cjL, jL_len]
theorem cjL_succ (p : List Rat) (n : Nat) : cjL p (n + 1) = cjL p n ++ [igL (stJ p (pDiff p) n).1] := by simp [cjL, jL_succ]
def CkOk (p : List Rat) : Prop := (Can p ∧ p ≠ [] ∧ FrOk p) ∧ ChOk (sqp p) ∧ ∀ n, (stI (sqp p) n).1 ≠ [] → IgOk (stI (sqp p) n).1
def chZ (p : List Rat) : List (List Int) := (chS p).map igL
def czH (p : List Rat) : Nat → Hp
 | 0 => mkH [(0, false, ⟨92, 1, [.raw (.slice none 0 0)]⟩)]
 | n + 1 => mkH [(0, false, ⟨92, 1, [.sl 1 1 0 (n + 1)]⟩), (1, false, ⟨71, 1, V.zss (cjL p (n + 1))⟩)]
def kChainZ : Con := con1 pR fun p => (CkOk p, .lst (V.zss (chZ p)))
attribute [go_sem ↓, go_sem] kChainZ
set_option maxRecDepth 4000 in
theorem chainZ_C : Ctr Tryz.prog 61 kChainZ := Ctr.c1 (by kernel_rfl) fun p0 h => by
 obtain ⟨⟨hp0, p00, hf⟩, hk, hig⟩ := h
 obtain ⟨hp, _⟩ := sqp_can hp0 p00
 show PCall _ _ _ (.lst (V.zss (chZ p0)))
 unfold chZ chS
 obtain ⟨p, ep⟩ : ∃ p, sqp p0 = p := ⟨_, rfl⟩
 rw [ep] at hp hk hig ⊢
 obtain ⟨N, ⟨hN, hNl⟩, hz, hnz⟩ := stL_I hp
 have hl := hk.1.1
 have T := (tabs mixed (tbl_cons elems_C (tbl_cons free_C (tbl_cons integ_C tbl_nil))))
 have mx : maxLen = 9223372036854775807 := by decide
 rw [hN]
 show PCall _ _ _ (.lst (V.zss (cjL p N)))
 refine PCall.of_vc T Tryz.func61 rfl Tryz.ntmps61 Tryz.results61 (by simp) ?_
 simp only [go_sem, hf, ep]
 refine AWp.rounds (elements1_S p N hk) (by kernel_rfl) N (Nat.le_refl _) (s0 := mkS [(3, .ptr 0 1 0 0), (7, .clo (.func 100) [] [.pel (.lst (V.rats p))])]) (m := 1) (M := 15)
  (czH p) (fun n => if n = 0 then 1 else 2) (fun _ _ _ => False) rfl (Wk.of [1] (by decide) ?_) rfl rfl (fun i => by cases i <;> exact ⟨rfl, trivial⟩) (fun n ys hy hn => ?_) (fun id H n hs => hs.elim) (fun n hn hx => ?_)
 ·simp only [go_sem]
  first | exact rfl | exact ⟨rfl, rfl⟩ | trace_state
 ·by_cases a0 : (stI p n).1 = []
  ·rw [show xsSt p n = none from if_pos a0] at hy; cases hy
  rw [show xsSt p n = some [.lst (V.rats (stI p n).1)] from if_neg a0] at hy
  injection hy with hy
  subst hy
  have hlt : n + 1 ≤ N := by
   by_cases e : n = N
   ·rw [e] at a0; exact absurd hz a0
   ·omega
  have ig := hig n a0
  rw [stI_J] at ig ⊢
  refine ⟨⟨rfl, by decide⟩, vc_ok T _ _ _ ?_⟩
  rcases n with _ | n
  ·simp only [go_sem, czH]
   refine vc_ok T _ _ _ ?_
   have e2 : V.zss (cjL p (0 + 1)) = [.lst (V.zs (igL (stJ p (pDiff p) 0).1))] := rfl
   simp only [go_sem, mx]
   refine ⟨ig, by rfl, hlt, Wk.ofM 1 (ss := []) (hs := [(0, false, ⟨92, 1, [.sl 1 1 0 (0 + 1)]⟩), (1, true, ⟨71, 1, V.zss (cjL p (0 + 1))⟩)]) [0, 6] (by decide) (by decide) ?_⟩
   simp only [go_sem, e2]
  ·simp only [go_sem, czH]
   refine vc_ok T _ _ _ ?_
   have e1 : (V.zss (cjL p (n + 1))).take (n + 1) = V.zss (cjL p (n + 1)) := List.take_of_length_le (by rw [zss_len, cjL_len]; exact Nat.le_refl _)
   have e2 : V.zss (cjL p (n + 1 + 1)) = V.zss (cjL p (n + 1)) ++ [.lst (V.zs (igL (stJ p (pDiff p) (n + 1)).1))] := by rw [zss_snoc, cjL_succ]
   simp only [go_sem, mx, e1, cjL_len]
   refine ⟨ig, ⟨by omega, by omega⟩, by rfl, hlt, Wk.ofM 1 (ss := []) (hs := [(0, false, ⟨92, 1, [.sl 1 1 0 (n + 1 + 1)]⟩), (1, true, ⟨71, 1, V.zss (cjL p (n + 1 + 1))⟩)]) [0, 7] (by decide) (by decide) ?_⟩
   simp only [go_sem, e2]
   rw [← e2]
   exact of_eq_true (zss_pure _)
 ·have e : n = N := by
   by_cases e : n = N
   ·exact e
   ·rw [show xsSt p n = some _ from if_neg (hnz n (by omega))] at hx; cases hx
  subst e
  rcases n with _ | n
  ·simp only [go_sem, czH]
   exact .refl _
  ·have e1 : (V.zss (cjL p (n + 1))).take (n + 1) = V.zss (cjL p (n + 1)) := List.take_of_length_le (by rw [zss_len, cjL_len]; exact Nat.le_refl _)
   simp only [go_sem, czH, cjL_len, e1]
end Go.Proofs.YtlhapagililgmaaGreat


/- Contracts: changes of sign. -/
namespace Go.Proofs.YtlhapagililgmaaGreat
set_option linter.unusedSimpArgs false
set_option linter.unusedVariables false
open Go.RowKit

def nxN (s a n : Int) : Int := if s * a < 0 then n + 1 else n
def nxA (s a : Int) : Int := if s = 0 then a else s
theorem next_M (s a n : Int) (hs : -1 ≤ s ∧ s ≤ 1) (ha : -1 ≤ a ∧ a ≤ 1) (hn : 0 ≤ n ∧ n ≤ 1000000) :
 MCall Tryz.prog 108 [.raw (.int .i64 s), .ptr 0 1 0 0, .ptr 1 1 0 0] [⟨3, 1, [.raw (.int .i64 a)]⟩, ⟨3, 1, [.raw (.int .i64 n)]⟩] [⟨3, 1, [.raw (.int .i64 (nxA s a))]⟩, ⟨3, 1, [.raw (.int .i64 (nxN s a n))]⟩] (.tup []) := by
 refine MCall.of_vc (tabs mixed tbl_nil) Tryz.func108 rfl Tryz.ntmps108 Tryz.results108 (by simp) rfl (fun x hx y hy => ?_) ?_
 ·simp at hx
  rcases hx with rfl | rfl
  ·simp at hy; subst hy; rfl
  ·simp at hy; subst hy; rfl
 ·have hsa : -1 ≤ s * a ∧ s * a ≤ 1 := by
   have h1 : s = -1 ∨ s = 0 ∨ s = 1 := by omega
   have h2 : a = -1 ∨ a = 0 ∨ a = 1 := by omega
   rcases h1 with rfl | rfl | rfl <;> rcases h2 with rfl | rfl | rfl <;> decide
  by_cases c1 : s * a < 0
  ·by_cases c2 : s = 0
   ·rw [c2] at c1; omega
   ·have c3 : (s != 0) = true := by simp [c2]
    have e1 : nxN s a n = n + 1 := if_pos c1
    have e2 : nxA s a = s := if_neg c2
    simp only [go_sem, c1, c3, e1, e2]
    exact ⟨⟨by omega, by omega⟩, ⟨by omega, by omega⟩, fun i hi => by simp at hi⟩
  ·have e1 : nxN s a n = n := if_neg c1
   by_cases c2 : s = 0
   ·have c3 : (s != 0) = false := by simp [c2]
    have e2 : nxA s a = a := if_pos c2
    simp only [go_sem, c1, c3, e1, e2]
    exact ⟨⟨by omega, by omega⟩, fun i hi => by simp at hi⟩
   ·have c3 : (s != 0) = true := by simp [c2]
    have e2 : nxA s a = s := if_neg c2
    simp only [go_sem, c1, c3, e1, e2]
    exact ⟨⟨by omega, by omega⟩, fun i hi => by simp at hi⟩
def kNextK (s : Int) (k1 k2 : Nat) : List (Option Blk) → Prop × V × List (Nat × Option Blk)
 | [some ⟨t1, e1, [.raw (.int .i64 a)]⟩, some ⟨t2, e2, [.raw (.int .i64 n)]⟩] => (((t1 = 3 ∧ e1 = 1) ∧ (t2 = 3 ∧ e2 = 1)) ∧ (-1 ≤ s ∧ s ≤ 1) ∧ (-1 ≤ a ∧ a ≤ 1) ∧ 0 ≤ n ∧ n ≤ 1000000, .tup [], [(k1, some ⟨3, 1, [.raw (.int .i64 (nxA s a))]⟩), (k2, some ⟨3, 1, [.raw (.int .i64 (nxN s a n))]⟩)])
 | _ => (False, .any, [])
attribute [go_sem] kNextK.eq_1
def kNext : MCon
 | [.raw (.int .i64 s), .ptr k1 1 0 0, .ptr k2 1 0 0] => if k1 = k2 then none else some ([k1, k2], kNextK s k1 k2)
 | _ => none
attribute [go_sem] kNext.eq_1
theorem next_C : MCtr Tryz.prog 108 kNext := by
 refine ⟨by kernel_rfl, fun args θ k H n hC hp => ?_⟩
 unfold kNext at hC
 split at hC
 ·rename_i s k1 k2
  split at hC
  ·cases hC
  ·rename_i hne
   injection hC with hC
   injection hC with h1 h2
   subst h1 h2
   simp only [List.map_cons, List.map_nil] at hp ⊢
   generalize hb1 : H k1 = b1 at hp ⊢
   generalize hb2 : H k2 = b2 at hp ⊢
   unfold kNextK at hp ⊢
   split at hp
   ·rename_i t1 e1 a t2 e2 m hl
    injection hl with q1 q2
    injection q2 with q2 _
    subst q1 q2
    obtain ⟨⟨⟨rfl, rfl⟩, rfl, rfl⟩, p1, p2, p3⟩ := hp
    refine (next_M s a m p1 p2 p3).gcall (args' := [.raw (.int .i64 s), .ptr k1 1 0 0, .ptr k2 1 0 0]) [k1, k2] (H := H) (by simp [hne]) rfl rfl (fun i k hi => ?_) (fun x hx => ?_) (fun x hx => ?_) rfl (fun j x y hx hy => ?_) n
    ·match i, hi with
     | 0, hi => simp at hi; subst hi; exact hb1
     | 1, hi => simp at hi; subst hi; exact hb2
     | i + 2, hi => simp at hi
    ·simp at hx
     rcases hx with rfl | rfl <;> exact fun y hy => by simp at hy; subst hy; rfl
    ·simp at hx
     rcases hx with rfl | rfl <;> exact fun y hy => by simp at hy; subst hy; rfl
    ·match j, hx, hy with
     | 0, hx, hy => simp at hx hy; subst hx hy; exact ⟨renV_pure rfl, rfl⟩
     | 1, hx, hy => simp at hx hy; subst hx hy; exact ⟨⟨rfl, rfl, rfl, rfl⟩, rfl⟩
     | 2, hx, hy => simp at hx hy; subst hx hy; exact ⟨⟨rfl, rfl, rfl, rfl⟩, rfl⟩
     | j + 3, hx, _ => simp at hx
   ·exact hp.elim
 ·cases hC
def vS (l : List (List Int)) (x : Rat) : Nat → Int × Int
 | 0 => (0, 0)
 | i + 1 => (nxN (sgI (hsZ x (l.getD i [])).1) (vS l x i).2 (vS l x i).1, nxA (sgI (hsZ x (l.getD i [])).1) (vS l x i).2)
theorem sgI_bd (z : Int) : -1 ≤ sgI z ∧ sgI z ≤ 1 := by
 rcases Int.lt_trichotomy z 0 with h | h | h
 ·rw [show sgI z = -1 from cmpI_lt h]; decide
 ·rw [h]; decide
 ·rw [show sgI z = 1 from cmpI_gt h]; decide
theorem vS_bd (l : List (List Int)) (x : Rat) : ∀ i, (-1 ≤ (vS l x i).2 ∧ (vS l x i).2 ≤ 1) ∧ 0 ≤ (vS l x i).1 ∧ (vS l x i).1 ≤ i
 | 0 => ⟨⟨by show (-1 : Int) ≤ 0; decide, by show (0 : Int) ≤ 1; decide⟩, Int.le_refl 0, Int.le_refl 0⟩
 | i + 1 => by
   obtain ⟨h1, h2, h3⟩ := vS_bd l x i
   have h4 := sgI_bd (hsZ x (l.getD i [])).1
   simp only [vS, nxA, nxN]
   refine ⟨by split <;> assumption, ?_, ?_⟩
   ·split <;> omega
   ·split <;> omega
def VrOk (l : List (List Int)) (x : Rat) : Prop := l.length ≤ 1000000 ∧ ∀ i, i < l.length → SgOk (l.getD i []) x
def kVar : Con := con2 pZss pQ fun l x => (VrOk l x, .raw (.int .i64 (vS l x l.length).1))
attribute [go_sem ↓, go_sem] kVar
theorem var_C : Ctr Tryz.prog 62 kVar := Ctr.c2 (by kernel_rfl) fun l x h => by
 obtain ⟨hl, hk⟩ := h
 have T := (tabsM mixed (tbl_cons sgn_C tbl_nil) (mtb_cons next_C mtb_nil))
 refine PCall.of_vc T Tryz.func62 rfl Tryz.ntmps62 Tryz.results62 (by simp) ?_
 simp only [go_sem]
 refine AWp.loops (X := { i : Nat // i ≤ l.length }) (fun i => mkSt [(3, .ptr 0 4 0 0), (5, .ptr 1 1 0 0), (6, .ptr 2 1 0 0), (7, .clo (.func 108) [] [.ptr 2 1 0 0, .ptr 1 1 0 0]), (11, .lst (V.zss l)), (12, .raw (.int .i64 (l.length : Nat))), (13, .raw (.int .i64 (i.1 : Nat)))]
  [(0, true, ⟨46, 4, [.Q x]⟩), (1, true, ⟨3, 1, [.raw (.int .i64 (vS l x i.1).1)]⟩), (2, true, ⟨3, 1, [.raw (.int .i64 (vS l x i.1).2)]⟩)] 3 24) (fun i => l.length - i.1) ⟨0, Nat.zero_le _⟩ (Wk.of [0, 2, 3] (by decide) ?_) ?_
 ·simp only [go_sem, vS, Int.natCast_zero]
 ·rintro ⟨i, hi⟩
  refine vc_at T ?_
  by_cases hlt : i < l.length
  ·have c1 : (i : Int) < (l.length : Int) := by omega
   have c2 : (i : Int) + 1 = ((i + 1 : Nat) : Int) := by omega
   have c3 : 0 ≤ (i : Int) := by omega
   obtain ⟨b1, b2, b3⟩ := vS_bd l x i
   have b4 := sgI_bd (hsZ x (l.getD i [])).1
   have hs := hk i hlt
   have e1 : vS l x (i + 1) = (nxN (sgI (hsZ x (l.getD i [])).1) (vS l x i).2 (vS l x i).1, nxA (sgI (hsZ x (l.getD i [])).1) (vS l x i).2) := rfl
   simp only [go_sem, c1, c2, c3, hlt]
   refine ⟨hs, ⟨b4, b1, b2, by omega⟩, ⟨by omega, by omega⟩, ⟨i + 1, hlt⟩, Wk.of [0, 1, 2] (by decide) ?_, by simp only; omega⟩
   simp only [go_sem, e1]
  ·obtain rfl : i = l.length := by omega
   have c1 : ¬ (l.length : Int) < (l.length : Int) := by omega
   simp only [go_sem, c1]
end Go.Proofs.YtlhapagililgmaaGreat

