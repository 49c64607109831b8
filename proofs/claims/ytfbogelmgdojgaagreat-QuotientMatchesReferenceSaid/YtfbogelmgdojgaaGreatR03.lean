/- Texts A8 A9 in one. -/
import Derived.Test.YtfbogelmgdojgaaGreatR02
import Derived.Deep.AppendSrc
/- Abstract operations: slice expressions, append, copy. No program in sight. -/
namespace Go.Proofs.YtfbogelmgdojgaaGreat
set_option linter.unusedSimpArgs false
set_option linter.unusedVariables false
open Go.RowKit

section
variable {P : Program} {w : World} {O : Nat → Prop} {ρ : Nat → Option Nat}
theorem bnd_ok {x : Option V} {u : Option Value} {d i : Int} (hx : (x = none ∧ u = none) ∨ ∃ y v, x = some y ∧ u = some v ∧ RepV w O ρ y v) (h : bnd x d = some i) : (x = none ∧ u = none ∧ i = d) ∨ ∃ k, u = some (.int k i) ∧ x ≠ none := by
 unfold bnd at h
 split at h
 ·injection h with h
  rcases hx with ⟨_, h2⟩ | ⟨y, v, h1, _⟩
  ·exact .inl ⟨rfl, h2, h.symm⟩
  ·cases h1
 ·rename_i k j
  injection h with h
  subst h
  rcases hx with ⟨h1, _⟩ | ⟨y, v, h1, h2, h3⟩
  ·cases h1
  ·injection h1 with h1
   subst h1
   have := RepW.raw_inv h3
   subst this
   exact .inr ⟨k, h2, by simp⟩
 ·cases h
theorem run_slice_row {t e : TypeId} {s : Nat} (ht : P.underlying t = some (.slice e)) (hs : tySize P e = some s) {A : Option Addr} {n c : Nat} {lo hi mx : Option Value} {l h m : Nat}
 (hb : (Instr.sliceBounds true n c lo hi mx).run P w = .ok (l, h, m) w) : (Instr.sliceAt t (.slice A n c) lo hi mx).run P w = .ok (.slice (if m = l then A else A.map (·.add (l * s))) (h - l) (m - l)) w := by
 simp [Instr.sliceAt, run_underlying ht, Instr.slice, hb, run_size hs]
theorem run_bounds_none {n c : Nat} {lo hi : Option Value} {l h : Int} (hl : (lo = none ∧ l = 0) ∨ ∃ k, lo = some (.int k l)) (hh : (hi = none ∧ h = n) ∨ ∃ k, hi = some (.int k h)) (h0 : 0 ≤ l) (h1 : l ≤ h) (h2 : h ≤ n) (hn : n ≤ c) (b : Bool) :
 (Instr.sliceBounds b n c lo hi none).run P w = .ok (l.toNat, h.toNat, c) w := by
 rcases hl with ⟨rfl, rfl⟩ | ⟨kl, rfl⟩ <;> rcases hh with ⟨rfl, rfl⟩ | ⟨kh, rfl⟩
 ·simp [Instr.sliceBounds]
 ·simp [Instr.sliceBounds, run_sliceBound w kh h c _ (by omega) (by omega)]
 ·simp [Instr.sliceBounds, run_sliceBound w kl l n _ h0 (by omega)]
 ·simp [Instr.sliceBounds, run_sliceBound w kh h c _ (by omega) (by omega), run_sliceBound w kl l h.toNat _ h0 (by omega)]
theorem run_bounds_max {n c : Nat} {lo hi : Option Value} {l h m : Int} {km : IntKind} (hl : (lo = none ∧ l = 0) ∨ ∃ k, lo = some (.int k l)) (hh : ∃ k, hi = some (.int k h)) (h0 : 0 ≤ l) (h1 : l ≤ h) (h2 : h ≤ m) (h3 : m ≤ n) (hn : n ≤ c) (b : Bool) :
 (Instr.sliceBounds b n c lo hi (some (.int km m))).run P w = .ok (l.toNat, h.toNat, m.toNat) w := by
 obtain ⟨kh, rfl⟩ := hh
 rcases hl with ⟨rfl, rfl⟩ | ⟨kl, rfl⟩
 ·simp [Instr.sliceBounds, run_sliceBound w km m c _ (by omega) (by omega), run_sliceBound w kh h m.toNat _ (by omega) (by omega)]
 ·simp [Instr.sliceBounds, run_sliceBound w km m c _ (by omega) (by omega), run_sliceBound w kh h m.toNat _ (by omega) (by omega), run_sliceBound w kl l h.toNat _ h0 (by omega)]
theorem V.atomsL_drop {l : List V} {e : Nat} (h : ∀ x ∈ l, x.wid = e) (k : Nat) : V.atomsL (l.drop k) = (V.atomsL l).drop (k * e) := by
 induction l generalizing k with
 | nil => simp [V.atomsL]
 | cons x l ih =>
   cases k with
   | zero => simp
   | succ k =>
     have h1 : x.atoms.length = e := h x (by simp)
     simp only [List.drop_succ_cons, V.atomsL]
     rw [ih fun y hy => h y (by simp [hy])]
     have h2 : (k + 1) * e = k * e + e := by rw [Nat.add_mul]; omega
     rw [h2, List.drop_append (l₁ := x.atoms), List.drop_eq_nil_of_le (show x.atoms.length ≤ k * e + e by omega), List.nil_append, h1, Nat.add_sub_cancel]
theorem V.atomsL_take_le (l : List V) (k : Nat) : ∃ r, V.atomsL l = V.atomsL (l.take k) ++ r := by
 refine ⟨V.atomsL (l.drop k), ?_⟩
 rw [← V.atomsL_append, List.take_append_drop]
theorem aSliceL_ok {s n l h : Nat} {isMax : Bool} {x : V} {v : Value} {k} (hx : RepV w O ρ x v) (hn : slLen x = some n) (hlh : l ≤ h) (hhn : h ≤ n) (hk : aSliceL s x n l h isMax k) :
 ∃ A c, v = .slice A n c ∧ n ≤ c ∧ ∀ m, h ≤ m → m ≤ c → (isMax = true → m = l) → ∃ z, k z ∧ RepV w O ρ z (.slice (if m = l then A else A.map (·.add (l * s))) (h - l) (m - l)) := by
 unfold aSliceL at hk
 have hW : RepA w O ρ x v := by
  unfold slLen at hn
  split at hn
  ·exact RepW.atom hx rfl
  ·exact RepW.atom hx rfl
  ·exact RepW.atom hx rfl
  ·exact RepW.atom hx rfl
  ·cases hn
 by_cases hm : isMax = true
 ·subst hm
  simp only [if_true] at hk
  have main : ∃ A c, v = .slice A n c ∧ n ≤ c := by
   cases hW with
   | raw _ u =>
     unfold slLen at hn
     split at hn <;> simp at hn
     ·rename_i e; cases e
     ·rename_i e; cases e
     ·rename_i e; injection e with e; subst e hn; exact ⟨_, _, rfl, Nat.le_refl _⟩
     ·rename_i e; cases e
   | sl _ k' e o m b c arr t fr h1 h2 h3 h4 => simp [slLen] at hn; subst hn; exact ⟨_, _, rfl, h3⟩
   | nil _ A c => simp [slLen] at hn; subst hn; exact ⟨_, _, rfl, Nat.zero_le _⟩
   | lst _ q b a' c vs h0 hc => simp [slLen] at hn; subst hn; exact ⟨_, _, rfl, hc⟩
   | emp => simp [slLen] at hn; subst hn; exact ⟨_, _, rfl, Nat.le_refl _⟩
   | any => simp [slLen] at hn
   | ptr => simp [slLen] at hn
   | pel => simp [slLen] at hn
   | clo => simp [slLen] at hn
  obtain ⟨A, c, rfl, hc⟩ := main
  refine ⟨A, c, rfl, hc, fun m h1 h2 h3 => ⟨_, hk, ?_⟩⟩
  have h3 := h3 rfl
  subst h3
  obtain rfl : h = m := by omega
  simp only [Nat.sub_self]
  exact RepW.of_atom (.emp _ _) rfl rfl
 ·rw [if_neg hm] at hk
  split at hk
  ·rename_i b e o n'
   obtain ⟨rfl, hk⟩ := hk
   simp [slLen] at hn
   subst hn
   cases hW with
   | sl _ _ _ _ _ bb c arr t fr g1 g2 g3 g4 =>
   refine ⟨_, _, rfl, g3, fun m h1 h2 _ => ?_⟩
   by_cases hc : l < h ∨ l = 0
   ·rw [if_pos hc] at hk
    refine ⟨_, hk, RepW.of_atom ?_ rfl rfl⟩
    have haddr : (if m = l then some (⟨bb, o * e, none⟩ : Addr) else (some (⟨bb, o * e, none⟩ : Addr)).map (·.add (l * e))) = some ⟨bb, (o + l) * e, none⟩ := by
     by_cases hml : m = l
     ·have : l = 0 := by omega
      subst this; simp [hml]
     ·simp [hml, Addr.add_lit, Nat.add_mul]
    rw [haddr]
    refine .sl _ _ _ _ _ _ _ arr t fr g1 g2 (by omega) ?_
    have : (o + l + (m - l)) * e ≤ (o + c) * e := Nat.mul_le_mul_right e (by omega)
    omega
   ·rw [if_neg hc] at hk
    refine ⟨_, hk, RepW.of_atom ?_ rfl rfl⟩
    obtain rfl : h = l := by omega
    rw [Nat.sub_self]
    exact .nil _ _ _
  ·rename_i q
   obtain ⟨hu, hk⟩ := hk
   simp [slLen] at hn
   subst hn
   have main : ∃ A c, v = .slice A q.length c ∧ q.length ≤ c := by
    cases hW with
    | nil _ A c => exact ⟨_, _, rfl, Nat.zero_le _⟩
    | lst _ _ b a' c vs h0 hc => exact ⟨_, _, rfl, hc⟩
   obtain ⟨A, c, rfl, hc⟩ := main
   refine ⟨A, c, rfl, hc, fun m h1 h2 _ => ⟨_, hk, RepW.of_atom ?_ rfl rfl⟩⟩
   by_cases hlh' : l = h
   ·subst hlh'
    rw [Nat.sub_self, List.take_zero]
    exact .nil _ _ _
   ·have hml : m ≠ l := by omega
    rw [if_neg hml]
    have hq : q ≠ [] := by intro e; subst e; simp at hhn; omega
    have hlen : ((q.drop l).take (h - l)).length = h - l := by rw [List.length_take, List.length_drop]; omega
    cases hW with
    | nil => exact absurd rfl hq
    | lst _ _ b a' _ vs h0 _ hb hO hue hst hl hr =>
    obtain ⟨e, hue⟩ := hue
    have he : l ≠ 0 → e = s := fun h0' => by
     have hql : l < q.length := by omega
     have h1 := hu h0' q[l] (List.getElem_mem hql)
     have h2 := hue q[l] (List.getElem_mem hql)
     omega
    have hls : l * s = l * e := by
     rcases Nat.eq_zero_or_pos l with e0 | e0
     ·subst e0; simp
     ·rw [he (by omega)]
    simp only [Option.map_some, Addr.add_lit, hls]
    have hla := V.atomsL_length hue
    have hsub : V.atomsL ((q.drop l).take (h - l)) = ((V.atomsL q).drop (l * e)).take ((h - l) * e) := by
     obtain ⟨r, hr'⟩ := V.atomsL_take_le (q.drop l) (h - l)
     have h1 := V.atomsL_drop hue l
     have h2 : (V.atomsL ((q.drop l).take (h - l))).length = (h - l) * e := by
      rw [V.atomsL_length (e := e) fun y hy => hue y (List.mem_of_mem_drop (List.mem_of_mem_take hy)), hlen]
     rw [← h1, hr', ← h2, List.take_left]
    have hbig : l * e + (h - l) * e ≤ q.length * e := by
     rw [← Nat.add_mul]; exact Nat.mul_le_mul_right e (by omega)
    have hres := RepA.lst (w := w) (O := O) ρ ((q.drop l).take (h - l)) b (a' + l * e) (m - l) ((vs.drop (l * e)).take ((h - l) * e)) (by intro e'; rw [e'] at hlen; simp at hlen; omega) (by rw [hlen]; omega) hb hO
     ⟨e, fun y hy => hue y (List.mem_of_mem_drop (List.mem_of_mem_take hy))⟩
     (fun j u hj => by
      rw [List.getElem?_take] at hj
      split at hj
      ·rw [List.getElem?_drop] at hj
       rw [Nat.add_assoc]
       exact hst _ _ hj
      ·cases hj)
     (by rw [hsub]; simp only [List.length_take, List.length_drop, hl])
     (fun j y u hy hu' => by
      rw [hsub, List.getElem?_take] at hy
      rw [List.getElem?_take] at hu'
      split at hy
      ·rename_i hjl
       rw [if_pos hjl] at hu'
       rw [List.getElem?_drop] at hy hu'
       exact hr _ y u hy hu'
      ·cases hy)
    rw [hlen] at hres
    exact hres
  ·simp [slLen] at hn
   subst hn
   cases hW
   refine ⟨none, 0, rfl, Nat.le_refl _, fun m h1 h2 _ => ⟨_, hk, ?_⟩⟩
   obtain rfl : m = 0 := by omega
   obtain rfl : h = 0 := by omega
   obtain rfl : l = 0 := by omega
   exact RepW.raw rfl
  ·simp [slLen] at hn
   subst hn
   cases hW with
   | emp _ A =>
   refine ⟨A, 0, rfl, Nat.le_refl _, fun m h1 h2 _ => ⟨_, hk, ?_⟩⟩
   obtain rfl : m = 0 := by omega
   obtain rfl : h = 0 := by omega
   obtain rfl : l = 0 := by omega
   exact RepW.of_atom (.emp _ _) rfl rfl
  ·exact hk.elim
theorem aSlice_ok {t : TypeId} {x : V} {v : Value} {lo hi mx : Option V} {lo' hi' mx' : Option Value} {k} (hx : RepV w O ρ x v)
 (hlo : (lo = none ∧ lo' = none) ∨ ∃ y v, lo = some y ∧ lo' = some v ∧ RepV w O ρ y v) (hhi : (hi = none ∧ hi' = none) ∨ ∃ y v, hi = some y ∧ hi' = some v ∧ RepV w O ρ y v)
 (hmx : (mx = none ∧ mx' = none) ∨ ∃ y v, mx = some y ∧ mx' = some v ∧ RepV w O ρ y v) (h : aSlice P t x lo hi mx k) : ∃ z, k z ∧ ∃ r, (Instr.sliceAt t v lo' hi' mx').run P w = .ok r w ∧ RepV w O ρ z r := by
 unfold aSlice at h
 split at h
 ·rename_i s
  have e := RepW.raw_inv hx
  subst e
  obtain ⟨ht, hm, h⟩ := h
  split at h
  ·rename_i l hh h1 h2
   obtain ⟨⟨g0, g1, g2⟩, h⟩ := h
   have m0 : mx' = none := by
    rcases hmx with ⟨_, e⟩ | ⟨y, v, e, _⟩
    ·exact e
    ·rw [e] at hm; simp at hm
   subst m0
   have b1 : (lo' = none ∧ l = 0) ∨ ∃ k, lo' = some (.int k l) := by
    rcases bnd_ok hlo h1 with ⟨_, e1, e2⟩ | ⟨k, e1, _⟩
    ·exact .inl ⟨e1, e2⟩
    ·exact .inr ⟨k, e1⟩
   have b2 : (hi' = none ∧ hh = (s.size : Int)) ∨ ∃ k, hi' = some (.int k hh) := by
    rcases bnd_ok hhi h2 with ⟨_, e1, e2⟩ | ⟨k, e1, _⟩
    ·exact .inl ⟨e1, e2⟩
    ·exact .inr ⟨k, e1⟩
   refine ⟨_, h, .string (s.extract l.toNat hh.toNat), ?_, RepW.raw rfl⟩
   simp [Instr.sliceAt, run_underlying ht, Instr.slice, run_bounds_none (P := P) (w := w) b1 b2 g0 g1 g2 (Nat.le_refl _) false]
  ·exact h.elim
 ·split at h
  ·rename_i el s n ht hn
   obtain ⟨u1, u2⟩ := tyElem_inv ht
   split at h
   ·rename_i l hh h1 h2
    have b1 : (lo' = none ∧ l = 0) ∨ ∃ k, lo' = some (.int k l) := by
     rcases bnd_ok hlo h1 with ⟨_, e1, e2⟩ | ⟨k, e1, _⟩
     ·exact .inl ⟨e1, e2⟩
     ·exact .inr ⟨k, e1⟩
    split at h
    ·obtain ⟨⟨g0, g1, g2⟩, h⟩ := h
     have m0 : mx' = none := by
      rcases hmx with ⟨_, e⟩ | ⟨y, v, e, _⟩
      ·exact e
      ·cases e
     subst m0
     have b2 : (hi' = none ∧ hh = (n : Int)) ∨ ∃ k, hi' = some (.int k hh) := by
      rcases bnd_ok hhi h2 with ⟨_, e1, e2⟩ | ⟨k, e1, _⟩
      ·exact .inl ⟨e1, e2⟩
      ·exact .inr ⟨k, e1⟩
     obtain ⟨A, c, rfl, hc, hm⟩ := aSliceL_ok hx hn (by omega) (by omega) h
     obtain ⟨z, hz, hr⟩ := hm c (by omega) (Nat.le_refl _) (by simp)
     exact ⟨z, hz, _, run_slice_row u1 u2 (run_bounds_none b1 b2 g0 g1 g2 hc true), hr⟩
    ·rename_i m
     split at h
     ·rename_i mm hmm
      obtain ⟨hsome, ⟨g0, g1, g2, g3⟩, h⟩ := h
      have b2 : ∃ k, hi' = some (.int k hh) := by
       rcases bnd_ok hhi h2 with ⟨e, _, _⟩ | ⟨k, e1, _⟩
       ·rw [e] at hsome; simp at hsome
       ·exact ⟨k, e1⟩
      have b3 : ∃ k, mx' = some (.int k mm) := by
       rcases bnd_ok hmx hmm with ⟨e, _, _⟩ | ⟨k, e1, _⟩
       ·cases e
       ·exact ⟨k, e1⟩
      obtain ⟨km, rfl⟩ := b3
      obtain ⟨A, c, rfl, hc, hm⟩ := aSliceL_ok hx hn (by omega) (by omega) h
      obtain ⟨z, hz, hr⟩ := hm mm.toNat (by omega) (by omega) (by intro e; simp at e; omega)
      exact ⟨z, hz, _, run_slice_row u1 u2 (run_bounds_max b1 b2 g0 g1 g2 g3 hc true), hr⟩
     ·exact h.elim
   ·exact h.elim
  ·exact h.elim
end
end Go.Proofs.YtfbogelmgdojgaaGreat


/- Abstract operations: append and copy. No program in sight. -/
namespace Go.Proofs.YtfbogelmgdojgaaGreat
set_option linter.unusedSimpArgs false
set_option linter.unusedVariables false
open Go.RowKit

def aElems (H : Hp) : V → Option (List V × List Nat)
 | .sl k e o n => match H k with
   | some x => if x.e = e ∧ o + n ≤ x.l.length then some ((x.l.drop o).take n, [k]) else none
   | none => none
 | .lst l => some (l, [])
 | .raw (.slice _ 0 _) => some ([], [])
 | .emp => some ([], [])
 | _ => none
def allWid (l : List V) (s : Nat) : Prop := ∀ y ∈ l, y.wid = s
def allGood (l : List V) : Prop := ∀ y ∈ l, y.good = true

section
variable {P : Program} {B : Nat → Prop} {H : Hp} {w : World} {ρ : Nat → Option Nat} {n : Nat} {a : Act} {o : Oper}
theorem atomsL_good {l : List V} (h : allGood l) : ∀ y ∈ V.atomsL l, okStore y = true := by
 induction l with
 | nil => intro y hy; simp [V.atomsL] at hy
 | cons x l ih =>
   intro y hy
   simp only [V.atomsL, List.mem_append] at hy
   rcases hy with hy | hy
   ·have := h x (by simp)
    unfold V.good at this
    exact List.all_eq_true.1 this y hy
   ·exact ih (fun z hz => h z (by simp [hz])) y hy
structure Cells (w : World) (O : Nat → Prop) (ρ : Nat → Option Nat) (l : List V) (news : List Value) : Prop where
 len : news.length = (V.atomsL l).length
 rep : ∀ (j : Nat) (y : V) (u : Value), (V.atomsL l)[j]? = some y → news[j]? = some u → RepA w O ρ y u
theorem Cells.one {O} {l : List V} {news : List Value} (h : Cells w O ρ l news) (hg : allGood l) : ∀ u ∈ news, u.oneCell' = true := by
 intro u hu
 obtain ⟨j, hj⟩ := List.getElem?_of_mem hu
 have hjl : j < (V.atomsL l).length := by rw [← h.len]; exact (List.getElem?_eq_some_iff.1 hj).1
 exact (h.rep j _ u (List.getElem?_eq_getElem hjl) hj).one (V.atomsL_flat' l _ (List.getElem_mem hjl)) (atomsL_good hg _ (List.getElem_mem hjl))
theorem elems_src {x : V} {v : Value} {L : List V} {rs : List Nat} {s : Nat} (hH : HRep w (own B ρ H) ρ H) (hx : RepV w (own B ρ H) ρ x v) (h : aElems H x = some (L, rs)) (hw : allWid L s) (hsl : ∀ k e' o m, x = .sl k e' o m → e' = s) :
 ∃ A c news, v = .slice A L.length c ∧ L.length ≤ c ∧ Cells w (own B ρ H) ρ L news ∧ (∀ t e, P.underlying t = some (.slice e) → allGood L → Src P s t v L.length news w) ∧ (L ≠ [] → ∃ b off, A = some ⟨b, off, none⟩ ∧ Stored w b off news) ∧ (A = none → L = []) := by
 unfold aElems at h
 split at h
 ·rename_i k e' o m
  split at h
  ·rename_i y hy
   split at h
   ·rename_i hfit
    obtain ⟨hqe, hfit⟩ := hfit
    simp only [Option.some.injEq, Prod.mk.injEq] at h
    obtain ⟨rfl, rfl⟩ := h
    have he := hsl k e' o m rfl
    subst he
    have hA := RepW.atom hx rfl
    cases hA with
    | sl _ _ _ _ _ b c arr t' fr g1 g2 g3 g4 =>
    obtain ⟨b', arr', q1, q2, q3, q4, q5⟩ := hH.row _ _ hy
    rw [g1] at q1
    injection q1 with q1
    subst q1
    rw [g2] at q2
    injection q2 with q2
    injection q2 with q2 q2' q2''
    subst q2
    have hlen : ((y.l.drop o).take m).length = m := by rw [List.length_take, List.length_drop]; omega
    by_cases hm : m = 0
    ·subst hm
     refine ⟨some ⟨b, o * e', none⟩, c, [], by simp, by simp, ⟨by simp [V.atomsL], fun j y u h1 h2 => by simp at h2⟩, fun t e ht _ => ?_, fun h => absurd (by simp) h, by simp⟩
     have := Src.ofSlice (P := P) w (size := e') ht ⟨b, o * e', none⟩ 0 c [] (by simp) (by simp) (by simp)
     simpa using this
    ·have hye : y.e = e' := by
      have h1 := q3 y.l[o] (List.getElem_mem (by omega))
      have h2 := hw y.l[o] (by
       have : ((y.l.drop o).take m)[0]? = some y.l[o] := by
        rw [List.getElem?_take, if_pos (by omega), List.getElem?_drop]; simp [List.getElem?_eq_getElem (show o < y.l.length by omega)]
       exact List.mem_of_getElem? this)
      omega
     subst hye
     have hla := V.atomsL_length q3
     have hsub : V.atomsL ((y.l.drop o).take m) = ((V.atomsL y.l).drop (o * y.e)).take (m * y.e) := by
      obtain ⟨r, hr'⟩ := V.atomsL_take_le (y.l.drop o) m
      have h1 := V.atomsL_drop q3 o
      have h2 : (V.atomsL ((y.l.drop o).take m)).length = m * y.e := by rw [V.atomsL_length hw, hlen]
      rw [← h1, hr', ← h2, List.take_left]
     have hbig : o * y.e + m * y.e ≤ y.l.length * y.e := by rw [← Nat.add_mul]; exact Nat.mul_le_mul_right _ hfit
     have hnl : ((arr.toList.drop (o * y.e)).take (m * y.e)).length = m * y.e := by rw [List.length_take, List.length_drop]; simp; omega
     have hst : Stored w b (o * y.e) ((arr.toList.drop (o * y.e)).take (m * y.e)) := fun j u hj => by
      rw [List.getElem?_take] at hj
      split at hj
      ·rw [List.getElem?_drop] at hj
       simp only [World.cell?, g2, Option.isSome_none, Bool.false_eq_true, if_false]
       simpa using hj
      ·cases hj
     have hcl : Cells w (own B ρ H) ρ ((y.l.drop o).take m) ((arr.toList.drop (o * y.e)).take (m * y.e)) := ⟨by rw [hnl, V.atomsL_length hw, hlen], fun j z u hz hu => by
      rw [hsub, List.getElem?_take] at hz
      rw [List.getElem?_take] at hu
      split at hz
      ·rename_i hjl
       rw [if_pos hjl] at hu
       rw [List.getElem?_drop] at hz hu
       exact q5 _ z u hz (by simpa using hu)
      ·cases hz⟩
     refine ⟨_, c, _, by rw [hlen], by rw [hlen]; exact g3, hcl, fun t e ht hg => ?_, fun _ => ⟨_, _, rfl, hst⟩, by simp⟩
     rw [hlen]
     exact Src.ofSlice w ht _ m c _ hnl hst.cells (hcl.one hg)
   ·cases h
  ·cases h
 ·rename_i l
  simp only [Option.some.injEq, Prod.mk.injEq] at h
  obtain ⟨rfl, rfl⟩ := h
  have hA := RepW.atom hx rfl
  cases hA with
  | nil _ A c =>
    refine ⟨A, c, [], rfl, Nat.zero_le _, ⟨by simp [V.atomsL], fun j y u h1 h2 => by simp at h2⟩, fun t e ht _ => ?_, fun h => absurd rfl h, fun _ => rfl⟩
    cases A with
    | none => exact Src.ofNil w ht c
    | some A => exact Src.ofSlice w ht A 0 c [] (by simp) (by simp) (by simp)
  | lst _ _ b off c vs h0 hc hb hO hu hs hl hr =>
    have hcl : Cells w (own B ρ H) ρ l vs := ⟨hl, fun j y u h1 h2 => (hr j y u h1 h2).mono ((Ext.refl _ _ _).into ρ)⟩
    exact ⟨_, c, vs, rfl, hc, hcl, fun t e ht hg => Src.ofSlice w ht _ _ c vs (by rw [hl, V.atomsL_length hw]) hs.cells (hcl.one hg), fun _ => ⟨_, _, rfl, hs⟩, by simp⟩
 ·simp only [Option.some.injEq, Prod.mk.injEq] at h
  obtain ⟨rfl, rfl⟩ := h
  have hv := RepW.raw_inv hx
  subst hv
  rename_i A c
  refine ⟨A, c, [], rfl, Nat.zero_le _, ⟨by simp [V.atomsL], fun j y u h1 h2 => by simp at h2⟩, fun t e ht _ => ?_, fun h => absurd rfl h, fun _ => rfl⟩
  cases A with
  | none => exact Src.ofNil w ht c
  | some A => exact Src.ofSlice w ht A 0 c [] (by simp) (by simp) (by simp)
 ·simp only [Option.some.injEq, Prod.mk.injEq] at h
  obtain ⟨rfl, rfl⟩ := h
  have hA := RepW.atom hx rfl
  cases hA with
  | emp _ A =>
    refine ⟨A, 0, [], rfl, Nat.le_refl _, ⟨by simp [V.atomsL], fun j y u h1 h2 => by simp at h2⟩, fun t e ht _ => ?_, fun h => absurd rfl h, fun _ => rfl⟩
    cases A with
    | none => exact Src.ofNil w ht 0
    | some A => exact Src.ofSlice w ht A 0 0 [] (by simp) (by simp) (by simp)
 ·cases h

theorem HRep.erase (hH : HRep w (own B ρ H) ρ H) (k : Nat) : HRep w (own B ρ (H.up k none)) ρ (H.up k none) := by
 have live : ∀ i q, (H.up k none) i = some q → H i = some q := fun i q hi => by
  unfold Hp.up at hi
  split at hi
  ·cases hi
  ·exact hi
 have hx : Ext w (own B ρ H) ρ w (own B ρ (H.up k none)) ρ := Ext.less fun b hb => by
  rcases hb with hb | ⟨i, q, h1, h2⟩
  ·exact .inl hb
  ·exact .inr ⟨i, q, live i q h1, h2⟩
 refine ⟨fun i q hi => ?_, fun i i' q q' b h1 h2 h3 h4 => hH.inj i i' q q' b (live _ _ h1) (live _ _ h2) h3 h4⟩
 obtain ⟨b, arr, g1, g2, g3, g4, g5⟩ := hH.row i q (live i q hi)
 exact ⟨b, arr, g1, g2, g3, g4, fun j y u hy hu => (g5 j y u hy hu).mono hx⟩
theorem step_erase (k : Nat) : Step H w ρ (H.up k none) w ρ := by
 refine ⟨fun _ _ h => h, fun _ _ _ => rfl, fun i q b h e => ?_, Nat.le_refl _, fun _ _ _ _ h => ⟨_, _, _, h, rfl⟩, rfl, rfl, rfl⟩
 unfold Hp.up at h
 split at h
 ·cases h
 ·exact .inl ⟨i, q, h, e⟩
theorem OpOk.erase {x : V} {ws : List (Nat × Option Blk)} (k : Nat) (h : OpOk P B (H.up k none) w ρ n a o x ws) : OpOk P B H w ρ n a o x ((k, none) :: ws) := by
 intro next Q hn
 exact h next Q fun v w' ρ' h1 h2 h3 h4 => hn v w' ρ' ((step_erase k).trans h1) h2 h3 h4

def aAppend (P : Program) (t t' : TypeId) (H : Hp) (n : Nat) (x y : V) (k : Kt) : Prop :=
 match tyElem P t, aElems H y with
 | some (e, s), some (L, rs) => match tyBytes P e, tyZero P e with
   | some by_, some z => P.underlying t' = some (.slice e) ∧ z.wid = s ∧ 0 < s ∧ allWid L s ∧ allGood L ∧ (∀ k e' o m, y = .sl k e' o m → e' = s) ∧ (match x with
     | .sl b e' o m => e' = s ∧ o = 0 ∧ (match H b with
       | some q => q.t = e ∧ q.e = s ∧ m ≤ q.l.length ∧ (m + L.length ≤ maxLen ∧ (m + L.length) * by_ ≤ 140737488355328) ∧ k (.sl n s 0 (m + L.length)) [(b, none), (n, some ⟨e, s, q.l.take m ++ L⟩)] (b :: rs)
       | none => False)
     | .raw (.slice none 0 0) => (L.length ≤ maxLen ∧ L.length * by_ ≤ 140737488355328) ∧ (L = [] → k x [] rs) ∧ (L ≠ [] → k (.sl n s 0 L.length) [(n, some ⟨e, s, L⟩)] rs)
     | .emp => (L.length ≤ maxLen ∧ L.length * by_ ≤ 140737488355328) ∧ (L = [] → k x [] rs) ∧ (L ≠ [] → k (.sl n s 0 L.length) [(n, some ⟨e, s, L⟩)] rs)
     | _ => False)
   | _, _ => False
 | _, _ => False

theorem run_append_room_row (t tx ty e : TypeId) (i : TypeInfo) (ht : P.underlying t = some (.slice e)) (hi : P.info? e = some i) (b sLen sCap : Nat) (arr : Array Value) (x : Value) (m : Nat) (news : List Value) (hs : Src P i.size tx x m news w)
 (hroom : sLen + m ≤ sCap) (hb : w.heap[b]? = some (.cells arr e (0, 0))) (hfit : sLen * i.size + news.length ≤ arr.size) :
 (Builtin.append_ #[t, tx] ty #[.slice (some ⟨b, 0, none⟩) sLen sCap, x]).run P w = .ok (.slice (some ⟨b, 0, none⟩) (sLen + m) sCap) (w.setRow b (arr.toList.take (sLen * i.size) ++ news ++ arr.toList.drop (sLen * i.size + news.length)).toArray) := by
 have hst := run_storeCells_at P b (sLen * i.size) e news 0 arr w hb (by simpa using hfit) hs.one
 simp only [Nat.add_zero] at hst
 rcases hs.kind with ⟨e', hk⟩ | hk <;> simp [Builtin.append_, run_underlying ht, run_underlying hk, sizeOf, typeInfo, hi, hs.len, hroom, hs.cells, Addr.add_lit, hst]
theorem srcAt {s tx x m news} {i : TypeInfo} (h : Src P s tx x m news w) (e : i.size = s) : Src P i.size tx x m news w := by rw [e]; exact h
theorem append_grow_ok {t t' ty e : TypeId} {i : TypeInfo} {z : V} {s : Nat} {bse : Option Addr} {sLen sCap : Nat} {olds : List Value} {M L : List V} {news : List Value} {v : Value} (hH : HRep w (own B ρ H) ρ H) (hf : ρ n = none)
 (ht : P.underlying t = some (.slice e)) (hi : P.info? e = some i) (hz : tyZero P e = some z) (hsz : i.size = s) (hzs : z.wid = s) (hs0 : 0 < s)
 (hold : ∀ w' : World, w'.heap = w.heap → (Builtin.firstCells s sLen (.slice bse sLen sCap)).run P w' = .ok olds.toArray w') (hM : Cells w (own B ρ H) ρ M olds) (hML : M.length = sLen) (hMw : allWid M s)
 (hL : Cells w (own B ρ H) ρ L news) (hLw : allWid L s) (hsrc : Src P s t' v L.length news w) (hg : sCap < sLen + L.length) (hmx : sLen + L.length ≤ maxLen) (hby : (sLen + L.length) * i.bytes ≤ 140737488355328)
 (he : ∀ r w1, (Builtin.append_ #[t, t'] ty #[.slice bse sLen sCap, v]).run P w = .ok r w1 → (execOp a.eval o).run P w = .ok (.value r) w1) :
 OpOk P B H w ρ n a o (.sl n s 0 (sLen + L.length)) [(n, some ⟨e, s, M ++ L⟩)] := by
 obtain ⟨i', zv, g1, g2, rfl⟩ := tyZero_inv hz
 rw [hi] at g1
 injection g1 with g1
 subst g1
 have h63 : ((sLen + L.length : Nat) : Int) ≤ 9223372036854775807 := by unfold maxLen at hmx; omega
 have hrun := run_append_grow_src (P := P) w t t' ty e i zv ht hi g2 bse sLen sCap olds (by rw [hsz]; exact hold w.drew rfl) v L.length news (srcAt hsrc hsz) hg h63 (growslice_fits hg hby)
 have hwid : ∀ y ∈ M ++ L, y.wid = s := fun y hy => by
  rcases List.mem_append.1 hy with hy | hy
  ·exact hMw y hy
  ·exact hLw y hy
 have hge := grownCap_ge w (sLen + L.length) sCap e
 have hol : olds.length = M.length * s := by rw [hM.len, V.atomsL_length hMw]
 have hnl : news.length = L.length * s := by rw [hL.len, V.atomsL_length hLw]
 have hzc : zv.cells.size = s := by rw [← hzs, cst_wid]
 have hall := V.atomsL_length hwid
 refine OpOk.push hH hf (he _ _ hrun) rfl rfl rfl rfl hwid ?_ ?_ ?_
 ·rw [hall]
  simp only [Array.size_append, List.size_toArray, List.length_append, hol, hnl, size_zeroCells, Nat.add_mul]
  omega
 ·intro j y u hy hu
  have hj : j < (olds ++ news).length := by
   rw [List.length_append, hM.len, hL.len, ← List.length_append, ← V.atomsL_append]
   exact (List.getElem?_eq_some_iff.1 hy).1
  have hu2 : (olds ++ news)[j]? = some u := by
   rw [Array.getElem?_append_left (by simpa using hj)] at hu
   simpa using hu
  rw [V.atomsL_append] at hy
  by_cases hjo : j < olds.length
  ·rw [List.getElem?_append_left hjo] at hu2
   rw [List.getElem?_append_left (by rw [← hM.len]; exact hjo)] at hy
   exact hM.rep j y u hy hu2
  ·rw [List.getElem?_append_right (by omega)] at hu2
   rw [List.getElem?_append_right (by rw [← hM.len]; omega), ← hM.len] at hy
   exact hL.rep _ y u hy hu2
 ·intro O ρ' hn
  refine RepW.of_atom ?_ rfl rfl
  have := RepA.sl (w := w.drew.alloc (.cells ((olds ++ news).toArray ++ Builtin.zeroCells zv.cells (grownCap w (sLen + L.length) sCap e - (sLen + L.length))) e)) (O := O) ρ' n s 0 (sLen + L.length) w.heap.size (grownCap w (sLen + L.length) sCap e) _ e (0, 0) hn (heap_alloc_new w.drew _) hge (by
   simp only [Nat.zero_add, Array.size_append, List.size_toArray, List.length_append, hol, hnl, size_zeroCells, hML, hzc, ← Nat.add_mul]
   refine Nat.le_of_eq ?_
   congr 1
   omega)
  simpa using this
theorem append_room_ok {t t' ty e : TypeId} {i : TypeInfo} {s k b m c : Nat} {q : Blk} {L : List V} {news : List Value} {v : Value} {arr : Array Value} (hH : HRep w (own B ρ H) ρ H) (hf : ρ n = none)
 (ht : P.underlying t = some (.slice e)) (hi : P.info? e = some i) (hsz : i.size = s) (hk : H k = some q) (hb : ρ k = some b) (ha : w.heap[b]? = some (.cells arr q.t (0, 0))) (hqt : q.t = e) (hqe : q.e = s) (hm : m ≤ q.l.length) (hmc : m ≤ c) (hcap : c * s ≤ arr.size)
 (hL : Cells w (own B ρ H) ρ L news) (hLw : allWid L s) (hsrc : Src P s t' v L.length news w) (hg : m + L.length ≤ c)
 (he : ∀ r w1, (Builtin.append_ #[t, t'] ty #[.slice (some ⟨b, 0, none⟩) m c, v]).run P w = .ok r w1 → (execOp a.eval o).run P w = .ok (.value r) w1) :
 OpOk P B H w ρ n a o (.sl n s 0 (m + L.length)) [(k, none), (n, some ⟨e, s, q.l.take m ++ L⟩)] := by
 subst hqt hqe
 obtain ⟨b', arr', g1, g2, g3, g4, g5⟩ := hH.row _ _ hk
 rw [hb] at g1
 injection g1 with g1
 subst g1
 rw [ha] at g2
 injection g2 with g2
 injection g2 with g2
 subst g2
 have hnl : news.length = L.length * q.e := by rw [hL.len, V.atomsL_length hLw]
 have hfit : m * i.size + news.length ≤ arr.size := by
  rw [hsz, hnl, ← Nat.add_mul]
  exact Nat.le_trans (Nat.mul_le_mul_right _ hg) hcap
 have hrun := run_append_room_row (P := P) (w := w) t t' ty q.t i ht hi b m c arr v L.length news (srcAt hsrc hsz) hg ha hfit
 rw [hsz] at hrun hfit
 have hnone := hf
 have hkn : k ≠ n := fun e' => by rw [e', hnone] at hb; cases hb
 have hla := V.atomsL_length g3
 have hml : m * q.e ≤ q.l.length * q.e := Nat.mul_le_mul_right _ hm
 have hsize : (arr.toList.take (m * q.e) ++ news ++ arr.toList.drop (m * q.e + news.length)).toArray.size = arr.size := by simp; omega
 intro next Q hn
 unfold Oper.wp
 rw [he _ _ hrun]
 have hst0 := step_row (y := (none : Option Blk)) hH hk hb ha hsize
 have hwid : ∀ y ∈ q.l.take m ++ L, y.wid = q.e := fun y hy => by
  rcases List.mem_append.1 hy with hy | hy
  ·exact g3 y (List.mem_of_mem_take hy)
  ·exact hLw y hy
 have htk : (V.atomsL (q.l.take m)) = (V.atomsL q.l).take (m * q.e) := by
  obtain ⟨r, hr⟩ := V.atomsL_take_le q.l m
  have h2 : (V.atomsL (q.l.take m)).length = m * q.e := by
   rw [V.atomsL_length (e := q.e) fun y hy => g3 y (List.mem_of_mem_take hy), List.length_take, Nat.min_eq_left hm]
  rw [hr, ← h2, List.take_left]
 have hst : Step H w ρ (H.puts [(k, none), (n, some ⟨q.t, q.e, q.l.take m ++ L⟩)]) (w.setRow b (arr.toList.take (m * q.e) ++ news ++ arr.toList.drop (m * q.e + news.length)).toArray) (upR ρ n b) := by
  refine ⟨fun j c' e' => upR_old hnone e', hst0.same, fun j z c' e1 e2 => ?_, hst0.size, hst0.row, rfl, rfl, rfl⟩
  simp only [Hp.puts, Hp.up] at e1
  by_cases hj : j = n
  ·subst hj
   simp only [upR, if_true, Option.some.injEq] at e2
   subst e2
   exact .inl ⟨k, q, hk, hb⟩
  ·rw [if_neg hj] at e1
   simp only [upR, if_neg hj] at e2
   split at e1
   ·cases e1
   ·exact .inl ⟨j, z, e1, e2⟩
 have hx := hst.ext B
 have live : ∀ j z, j ≠ n → (H.puts [(k, none), (n, some ⟨q.t, q.e, q.l.take m ++ L⟩)]) j = some z → H j = some z ∧ j ≠ k := fun j z hj e1 => by
  simp only [Hp.puts, Hp.up, if_neg hj] at e1
  split at e1
  ·cases e1
  ·rename_i h; exact ⟨e1, h⟩
 refine hn _ _ (upR ρ n b) hst ⟨fun j z hj => ?_, fun j j' z z' c' e1 e2 e3 e4 => ?_⟩ upR_fresh (RepW.of_atom ?_ rfl rfl)
 ·by_cases hjn : j = n
  ·subst hjn
   simp only [Hp.puts, Hp.up, if_true, Option.some.injEq] at hj
   subst hj
   refine ⟨b, _, by simp [upR], setRow_heap _ _ _ _ _ _ ha, hwid, ?_, fun i' y u hy hu => ?_⟩
   ·rw [V.atomsL_length hwid, hsize]
    simp only [List.length_append, List.length_take, Nat.min_eq_left hm]
    exact Nat.le_trans (Nat.mul_le_mul_right _ hg) hcap
   ·have hy' : (V.atomsL (q.l.take m) ++ V.atomsL L)[i']? = some y := by rw [← V.atomsL_append]; exact hy
    have hl1 : (V.atomsL (q.l.take m)).length = m * q.e := by rw [htk, List.length_take]; omega
    have hl2 : (arr.toList.take (m * q.e)).length = m * q.e := by rw [List.length_take]; simp; omega
    simp only [List.getElem?_toArray, List.append_assoc] at hu
    by_cases h1 : i' < m * q.e
    ·rw [List.getElem?_append_left (by omega), htk, List.getElem?_take, if_pos h1] at hy'
     rw [List.getElem?_append_left (by omega), List.getElem?_take, if_pos h1] at hu
     exact (g5 i' y u hy' (by simpa using hu)).mono hx
    ·rw [List.getElem?_append_right (by omega), hl1] at hy'
     rw [List.getElem?_append_right (by omega), hl2] at hu
     have h3 : i' - m * q.e < news.length := by rw [hL.len]; exact (List.getElem?_eq_some_iff.1 hy').1
     rw [List.getElem?_append_left h3] at hu
     exact (hL.rep _ y u hy' hu).mono hx
  ·obtain ⟨e1, e2⟩ := live j z hjn hj
   obtain ⟨c', ar, q1, q2, q3, q4, q5⟩ := hH.row j z e1
   refine ⟨c', ar, upR_old hnone q1, (setRow_other _ _ _ _ fun e' => ?_).trans q2, q3, q4, fun i' y u hy hu => (q5 i' y u hy hu).mono hx⟩
   subst e'
   exact e2 (hH.inj j k z q c' e1 hk q1 hb)
 ·by_cases hjn : j = n <;> by_cases hjn' : j' = n
  ·rw [hjn, hjn']
  ·subst hjn
   simp only [upR, if_true, Option.some.injEq] at e3
   subst e3
   obtain ⟨f1, f2⟩ := live j' z' hjn' e2
   simp only [upR, if_neg hjn'] at e4
   exact absurd (hH.inj j' k z' q b f1 hk e4 hb) f2
  ·subst hjn'
   simp only [upR, if_true, Option.some.injEq] at e4
   subst e4
   obtain ⟨f1, f2⟩ := live j z hjn e1
   simp only [upR, if_neg hjn] at e3
   exact absurd (hH.inj j k z q b f1 hk e3 hb) f2
  ·obtain ⟨f1, _⟩ := live j z hjn e1
   obtain ⟨f2, _⟩ := live j' z' hjn' e2
   simp only [upR, if_neg hjn] at e3
   simp only [upR, if_neg hjn'] at e4
   exact hH.inj j j' z z' c' f1 f2 e3 e4
 ·have := RepA.sl (w := w.setRow b (arr.toList.take (m * q.e) ++ news ++ arr.toList.drop (m * q.e + news.length)).toArray) (O := own B (upR ρ n b) (H.puts [(k, none), (n, some ⟨q.t, q.e, q.l.take m ++ L⟩)])) (upR ρ n b) n q.e 0 (m + L.length) b c _ q.t (0, 0) (by simp [upR]) (setRow_heap _ _ _ _ _ _ ha) hg (by rw [hsize]; simpa using hcap)
  simpa using this
end
end Go.Proofs.YtfbogelmgdojgaaGreat

