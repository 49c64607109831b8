/- Texts K1 K2 in one. -/
import Derived.Test.YtfbogelmgdojgaaGreatP07
import Derived.WalkKit
import Derived.ProofKit
import Derived.OpenShut
import Derived.Lib.SmallJoins
import Derived.Carry
import Derived.Test.YtfbogelmgdojgaaGreatRows
/- The frame of a law: what came in reads as it did, and the result is true. No program in sight. -/
namespace Go.Proofs.YtfbogelmgdojgaaGreat
set_option linter.unusedSimpArgs false
set_option linter.unusedVariables false
open Go.ChangeShapes Go.WideShapes Go.ChangeAt Go.RowKit Go.Joins

section
variable {H : Type} {enc : TypeId × Value → H} {P : Program}
theorem trodAll_stays (hl : laidOutB P = true) {W W' : World} (hb : Below W.heap.size W W') {sp' : Nat → Bool} : ∀ {ts : List TypeId} {vs : List Value} {ds : List (DataW H)} {ps : List MemPlace}, (∀ t ∈ ts, P.readableRec t = true ∧ t < P.types.size) →
    DataW.TrodAll enc P W 0 (fun _ => true) true ts vs ds ps → (∀ p ∈ ps, p.block < W.heap.size) → (∀ p ∈ ps, sp' p.block = true) → DataW.TrodAll enc P W' 0 sp' true ts vs ds ps
  | [], _, _, _, _, h, _, _ => by
    obtain ⟨rfl, rfl, rfl⟩ := trodAll_nil h
    exact trodAll_mk0
  | t :: ts, _, _, _, ht, h, hlt, hsp => by
    obtain ⟨v, vs1, d, ds1, a, b, rfl, rfl, rfl, h1, h2⟩ := trodAll_cons h
    obtain ⟨r1, r2⟩ := ht t (by simp)
    exact trodAll_cons_mk (WideElems.Trod_stays hl r1 r2 h1 (fun x hx => hb.same (hlt x (by simp [hx]))) (fun x hx => hsp x (by simp [hx])))
      (trodAll_stays hl hb (fun t' ht' => ht t' (by simp [ht'])) h2 (fun x hx => hlt x (by simp [hx])) (fun x hx => hsp x (by simp [hx])))
theorem below_frozen {W W' : World} (hb : Below W.heap.size W W') {b off : Nat} (h : b < W.heap.size) : W'.frozen? ⟨b, off, none⟩ = W.frozen? ⟨b, off, none⟩ := by
  unfold World.frozen?
  rw [hb.block b h]
/-- The law's answer. -/
theorem law_post {fn : Func} {s : ChangeSpec} {apart fresh : Bool} {tb : TypeId} {W W' : World} {args : Array Value} {ds gs : List (DataW H)} {before : List MemPlace} (hvars : s.vars = []) (hl : laidOutB P = true)
    (hr : ∀ t ∈ fn.params.toList, P.readableRec t = true ∧ t < P.types.size) (hres : fn.resultTypes = #[tb]) (htb : P.underlying tb = some .bool)
    (hs : s.fn H ds = { results := [.lit (.bool true)], args := ds })
    (hW : DataW.Whole enc P fn.params.toList s.vars apart W args.toList ds gs before) (hb : Below W.heap.size W W') : s.post enc P fn apart fresh false false W args (.bool true) W' := by
  have hW0 := hW
  obtain ⟨p, q, hA, hV, rfl, hz, hn⟩ := hW
  rw [hvars] at hV
  obtain ⟨rfl, rfl⟩ := trodVars_none hV
  have hlt : ∀ x ∈ p, x.block < W.heap.size := fun x hx => by simpa using hW0.lt x (by simpa using hx)
  have hargs : ∀ sp : Nat → Bool, (∀ x ∈ p, sp x.block = true) → DataW.TrodAll enc P W' 0 sp true fn.params.toList args.toList ds p := fun sp hsp => trodAll_stays hl hb hr hA hlt hsp
  have hres' : ∀ (b : Nat) (sp : Nat → Bool) (hd : Bool), DataW.TrodAll enc P W' b sp hd fn.resultTypes.toList ((Value.bool true).resultList fn.resultTypes.size) [.lit (.bool true)] [] := fun b sp hd => by
    rw [hres]
    exact trodAll_mk1 (shut_bool htb _)
  have e1 : (s.fn H (ds ++ [])).results = [.lit (.bool true)] := by rw [List.append_nil, hs]
  have e2 : (s.fn H (ds ++ [])).args = ds := by rw [List.append_nil, hs]
  have e3 : (s.fn H (ds ++ [])).vars = [] := by rw [List.append_nil, hs]
  have hnil : DataW.TrodVars enc P W' (fun _ => true) s.vars [] [] := by rw [hvars]; rfl
  have hold : ∀ x ∈ p, (fun b => decide (b < W.heap.size)) x.block = true := fun x hx => by simpa using hlt x hx
  refine ⟨ds, [], p ++ [], [], p, [], hW0, by rw [e1]; exact hres' _ _ _, by rw [e2]; exact hargs _ hold, by rw [hvars, e3]; rfl, World.keptBut_mono (fun x hx => ⟨hx, ?_⟩) (hb.frame (fun x => x ∈ p ++ [])), fun _ => ?_⟩
  · exact .inr (by simpa using hx)
  · refine ⟨ok_one hres rfl (okWide_bool_mk htb _), _, _, ([] ++ p) ++ [], ⟨[] ++ p, [], trodAll_append (hargs _ (fun _ _ => rfl)) (hres' _ _ _), hnil, rfl, ?_, ?_⟩, ?_⟩
    · intro b off hp
      have hp' : MemPlace.cell b off ∈ p := by simpa using hp
      have hbl := hlt _ hp'
      rw [below_frozen hb (b := b) (off := off) hbl]
      exact hz b off (by simpa using hp)
    · intro ha
      simpa using hn ha
    · intro x hx _
      simpa using hx
end

/- What the arguments stand for. -/
abbrev Nb : Nat → Prop := fun _ => False
abbrev Nr : Nat → Option Nat := fun _ => none
section
variable {H : Type} {enc : TypeId × Value → H} {P : Program} {w : World}
theorem cell_block {b o : Nat} {v : Value} (h : w.cell? ⟨b, o, none⟩ = some v) : b < w.heap.size := by
  rcases Nat.lt_or_ge b w.heap.size with h1 | h1
  · exact h1
  · unfold World.cell? at h
    simp [Array.getElem?_eq_none h1] at h
theorem wf_u32 {n : Int} (h : (Lit.int .u32 n).wf = true) : 0 ≤ n ∧ n < 4294967296 := by
  have : 0 ≤ n ∧ n ≤ 4294967295 := by simpa [Lit.wf, IntKind.min, IntKind.max, IntKind.signed, IntKind.bits] using h
  omega
/-- A slice of words. -/
theorem rep_u32s {t e : TypeId} {fuel : Nat} {base : Nat} {held : Bool} {v : Value} {x : DataW H × List MemPlace} (ht : P.underlying t = some (.slice e)) (he : P.underlying e = some (.int .u32)) (hc : P.cellsOf e = 1)
    (h : DataW.trod enc P w base (fun _ => true) held fuel t [v] = some x) : ∃ l : List Nat, Lim l ∧ l.length ≤ 9223372036854775807 ∧ RepA w Nb Nr (.lst (V.limbs l)) v ∧ v.cells = #[v] := by
  rcases open_ints ht he hc h with ⟨hcs, _⟩ | ⟨a, len, cap, zs, hcs, _, hle, hmx, hzl, _, hcell, hwf⟩
  · injection hcs with hcs
    subst hcs
    exact ⟨[], Lim.nil, by simp, .nil _ _ _, rfl⟩
  · injection hcs with hcs
    subst hcs
    simp only [if_true] at hzl
    refine ⟨(zs.take len).map Int.toNat, fun y hy => ?_, ?_, ?_, rfl⟩
    · obtain ⟨z, hz, rfl⟩ := List.mem_map.1 hy
      have := wf_u32 (hwf z (List.mem_of_mem_take hz))
      omega
    · rw [List.length_map, List.length_take]
      have : maxLen = 9223372036854775807 := by decide
      omega
    · have hnum : ∀ z ∈ zs, ((z.toNat : Nat) : Int) = z := fun z hz => by have := wf_u32 (hwf z hz); omega
      have hlim : V.limbs ((zs.take len).map Int.toNat) = ((zs.take len).map (Value.int .u32)).map .raw := by
        unfold V.limbs
        rw [List.map_map, List.map_map]
        refine List.map_congr_left fun z hz => ?_
        simp only [Function.comp_apply]
        rw [hnum z (List.mem_of_mem_take hz)]
      have hlen : (V.limbs ((zs.take len).map Int.toNat)).length = len := by simp [V.limbs]; omega
      by_cases h0 : len = 0
      · have : V.limbs ((zs.take len).map Int.toNat) = [] := List.eq_nil_of_length_eq_zero (by rw [hlen, h0])
        rw [this, h0]
        exact .nil _ _ _
      · obtain ⟨b, off, rfl, hcell'⟩ := ints_at hcell (by omega)
        have hat := atomsL_raws ((zs.take len).map (Value.int .u32))
        have := RepA.lst (w := w) (O := Nb) Nr (V.limbs ((zs.take len).map Int.toNat)) b off cap ((zs.take len).map (Value.int .u32)) (fun e0 => h0 (by rw [← hlen, e0]; rfl)) (by rw [hlen]; exact hle) (cell_block (hcell' 0 (by omega))) (fun h => h)
          ⟨1, fun y hy => by rw [hlim] at hy; obtain ⟨u, hu, rfl⟩ := List.mem_map.1 hy; obtain ⟨z, _, rfl⟩ := List.mem_map.1 hu; rfl⟩ (fun j u hj => by
            rw [List.getElem?_map, List.getElem?_take] at hj
            split at hj
            · rename_i hjl
              have hjz : j < zs.length := by omega
              rw [List.getElem?_eq_getElem hjz] at hj
              simp only [Option.map_some, Option.some.injEq] at hj
              rw [hcell' j hjz, ← hj]
              simp [List.getD, hjz]
            · cases hj) (by rw [hlim, hat]; simp) (fun j y u hy hu => by
            rw [hlim, hat, List.getElem?_map, hu] at hy
            simp only [Option.map_some, Option.some.injEq] at hy
            subst hy
            exact .raw _ _)
        rw [hlen] at this
        exact this
/-- A struct of words and a sign. -/
theorem rep_raw {r : Reach} {b0 base : Nat} {held : Bool} {t : TypeId} {f0 f1 : Field} {e : TypeId} {v : Value} {d : DataW H} {p : List MemPlace} (hs : P.underlying t = some (.struct #[f0, f1])) (hone : Go.Deep.oneCellFields P #[f0, f1] = true) (hC : P.cellsOf t = 2)
    (h0 : P.underlying f0.type = some (.slice e)) (he : P.underlying e = some (.int .u32)) (hc : P.cellsOf e = 1) (h1 : P.underlying f1.type = some .bool)
    (hv : Value.okWide P w r b0 t v) (h : DataW.Trod enc P w base (fun _ => true) held t v d p) : ∃ (l : List Nat) (s : Bool), Lim l ∧ l.length ≤ 9223372036854775807 ∧ RepW w Nb Nr (.agg [.lst (V.limbs l), .raw (.bool s)]) v := by
  obtain ⟨v0, v1, y0, y1, n, rfl, rfl, rfl, g0, g1⟩ := open_agg2 hs hone hC hv h
  obtain ⟨l, hl, hll, hr, hcl⟩ := rep_u32s h0 he hc g0
  have hb : ∃ s, v1 = .bool s := by
    cases n with
    | zero => simp [DataW.trod] at g1
    | succ n =>
      unfold DataW.trod at g1
      rw [h1] at g1
      split at g1 <;> simp_all
  obtain ⟨s, rfl⟩ := hb
  refine ⟨l, s, hl, hll, (RepW.agg_iff rfl).2 ⟨#[v0, .bool s], rfl, rfl, fun i y u hy hu => ?_⟩⟩
  match i with
  | 0 => simp [V.atoms, V.atomsL] at hy hu; subst hy hu; exact hr
  | 1 => simp [V.atoms, V.atomsL] at hy hu; subst hy hu; exact .raw _ _
  | i + 2 => simp [V.atoms, V.atomsL] at hy
/-- A contract that answers true, as a call. -/
theorem law_calls {f : FuncId} {xs : List V} {vs : List Value} (h : PCall P f xs (.raw (.bool true))) (hl : vs.length = xs.length)
    (hv : ∀ (j : Nat) (x : V) (v : Value), xs[j]? = some x → vs[j]? = some v → RepW w Nb Nr x v) : Calls P f vs.toArray w fun e w' => e = .returned (.bool true) ∧ Below w.heap.size w w' := by
  refine (h Nb w vs hl hv (fun b hb => hb.elim)).mono ?_
  rintro e w' ⟨v, rfl, hv, hb⟩
  have : v = .bool true := RepW.raw_inv hv
  subst this
  exact ⟨rfl, hb⟩
end
end Go.Proofs.YtfbogelmgdojgaaGreat

/- What the statements of this seat share. -/
namespace Go.Proofs.YtfbogelmgdojgaaGreat
set_option linter.unusedSimpArgs false
set_option linter.unusedVariables false
open Go.ChangeShapes Go.WideShapes Go.ChangeAt Go.RowKit

theorem own_knob : ownKnob Tryz.prog.godebug = none := by kernel_rfl
theorem laid_out : laidOutB Tryz.prog = true := by kernel_rfl
theorem cells_u32 : Tryz.prog.cellsOf 110 = 1 := by kernel_rfl
theorem int_args {z : Int} (h : (Lit.int .i64 z).wf = true) : -9223372036854775808 ≤ z ∧ z ≤ 9223372036854775807 := by
  simpa [Lit.wf, IntKind.min, IntKind.max, IntKind.signed, IntKind.bits] using h
end Go.Proofs.YtfbogelmgdojgaaGreat
