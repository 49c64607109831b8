/- Texts A21 in one. -/
import Derived.Test.YtfbogelmgdojgaaGreatR09
/- The rules by which the abstract run is worked out. No program in sight. -/
namespace Go.Proofs.YtfbogelmgdojgaaGreat
set_option linter.unusedSimpArgs false
set_option linter.unusedVariables false
open Go.RowKit
attribute [go_sem_proc] List.reduceReplicate Nat.reduceEqDiff Nat.reduceLT Nat.reduceLeDiff Nat.reduceAdd Nat.reduceSub Nat.reduceMul Int.reduceToNat Int.reduceNeg Int.reduceAdd Int.reduceSub Int.reduceMul Int.reduceLT Int.reduceLE Int.reduceMod Int.reducePow Nat.reducePow Int.reduceDiv Nat.reduceBEq Nat.reduceBNe Int.reduceBEq Int.reduceBNe reduceCtorEq
attribute [go_sem_proc ↓] reduceIte

def Tick : Prop := True
@[go_sem] theorem tick_eq : Tick = True := propext ⟨fun _ => trivial, fun _ => trivial⟩
def optC {α : Type} (o : Option α) (k : α → Prop) : Prop := match o with
 | some x => k x
 | none => False
def optE {α : Type} (o : Option α) (k : α → Prop) (e : Prop) : Prop := match o with
 | some x => k x
 | none => e
def guardC (v : V) (want : Bool) (x y : Prop) : Prop := match v with
 | .raw (.bool b) => (b = want → x) ∧ (b = !want → y)
 | .raw (.tuple _) => y
 | _ => False
def condC (v : V) (x y : Prop) : Prop := match v with
 | .raw (.bool t) => (t = true → x) ∧ (t = false → y)
 | _ => False
section
variable {α : Type}
@[congr] theorem optC_congr {o o' : Option α} {k : α → Prop} (h : o = o') {tk : Prop} (_ : Tick = tk) : optC o k = optC o' k := by rw [h]
@[congr] theorem optE_congr {o o' : Option α} {k : α → Prop} {e : Prop} (h : o = o') {tk : Prop} (_ : Tick = tk) : optE o k e = optE o' k e := by rw [h]
@[congr] theorem guardC_congr {v v' : V} {w : Bool} {x y : Prop} (h : v = v') {tk : Prop} (_ : Tick = tk) : guardC v w x y = guardC v' w x y := by rw [h]
@[congr] theorem condC_congr {v v' : V} {x y : Prop} (h : v = v') {tk : Prop} (_ : Tick = tk) : condC v x y = condC v' x y := by rw [h]
@[go_sem ↓, go_sem] theorem optC_some (x : α) (k : α → Prop) : optC (some x) k = k x := rfl
@[go_sem ↓, go_sem] theorem optC_none (k : α → Prop) : optC none k = False := rfl
@[go_sem ↓, go_sem] theorem optE_some (x : α) (k : α → Prop) (e : Prop) : optE (some x) k e = k x := rfl
@[go_sem ↓, go_sem] theorem optE_none (k : α → Prop) (e : Prop) : optE none k e = e := rfl
@[go_sem ↓ high, go_sem high] theorem guardC_tt (x y : Prop) : guardC (.raw (.bool true)) true x y = x := by simp [guardC]
@[go_sem ↓ high, go_sem high] theorem guardC_tf (x y : Prop) : guardC (.raw (.bool true)) false x y = y := by simp [guardC]
@[go_sem ↓ high, go_sem high] theorem guardC_ft (x y : Prop) : guardC (.raw (.bool false)) true x y = y := by simp [guardC]
@[go_sem ↓ high, go_sem high] theorem guardC_ff (x y : Prop) : guardC (.raw (.bool false)) false x y = x := by simp [guardC]
@[go_sem ↓ high, go_sem high] theorem guardC_undef (w : Bool) (x y : Prop) : guardC (.raw undef) w x y = y := rfl
@[go_sem ↓ high, go_sem high] theorem guardC_un (vs : Array Value) (w : Bool) (x y : Prop) : guardC (.raw (.tuple vs)) w x y = y := rfl
@[go_sem low] theorem guardC_t (b : Bool) (x y : Prop) : guardC (.raw (.bool b)) true x y = ((b = true → x) ∧ (b = false → y)) := rfl
@[go_sem low] theorem guardC_f (b : Bool) (x y : Prop) : guardC (.raw (.bool b)) false x y = ((b = false → x) ∧ (b = true → y)) := rfl
@[go_sem ↓ high, go_sem high] theorem condC_t (x y : Prop) : condC (.raw (.bool true)) x y = x := by simp [condC]
@[go_sem ↓ high, go_sem high] theorem condC_f (x y : Prop) : condC (.raw (.bool false)) x y = y := by simp [condC]
@[go_sem low] theorem condC_b (b : Bool) (x y : Prop) : condC (.raw (.bool b)) x y = ((b = true → x) ∧ (b = false → y)) := rfl
end

section
variable {P : Program} {Γ : Tab} {Δ : Gab} {H : Hp} {n : Nat} {K : Kt} {k : V → Prop} {t : TypeId}
/- code -/
@[congr] theorem AWp_congr {c : Code} {Q : Exit → St → Prop} {σ σ' : St} (h : σ = σ') {tk : Prop} (_ : Tick = tk) : AWp P c Q σ = AWp P c Q σ' := by rw [h]
@[congr] theorem vcOps_congr {ops : Array Oper} {os os' : List Oper} {K : St → Prop} {σ σ' : St} (h : σ = σ') (ho : os = os') {tk : Prop} (_ : Tick = tk) : vcOps P Γ Δ ops os σ K = vcOps P Γ Δ ops os' σ' K := by rw [h, ho]
@[congr] theorem vcTr_congr {ops : Array Oper} {os os' : List Oper} {tr tr' : List Foot} {K : St → List Foot → Prop} {σ σ' : St} (h : σ = σ') (h' : tr = tr') (ho : os = os') {tk : Prop} (_ : Tick = tk) : vcTr P Γ Δ ops os σ tr K = vcTr P Γ Δ ops os' σ' tr' K := by rw [h, h', ho]
@[go_sem ↓, go_sem] theorem ev_vc_skip {Q : Exit → St → Prop} {σ : St} : vc P Γ Δ .skip Q σ = Q .normal σ := rfl
@[go_sem ↓, go_sem] theorem ev_vc_text {id : Nat} {ops : Array Oper} {Q : Exit → St → Prop} {σ : St} : vc P Γ Δ (.region id ops false) Q σ = vcOps P Γ Δ ops ops.toList σ (Q .normal) := by simp [vc]
@[go_sem ↓, go_sem] theorem ev_vc_open {id : Nat} {ops : Array Oper} {Q : Exit → St → Prop} {σ : St} : vc P Γ Δ (.region id ops true) Q σ = vcTr P Γ Δ ops ops.toList σ [] fun σ' tr => chk ops tr = true ∧ Q .normal σ' := by simp [vc, vcDraw]
@[go_sem ↓, go_sem] theorem ev_vc_seq {x y : Code} {Q : Exit → St → Prop} {σ : St} : vc P Γ Δ (.seq x y) Q σ = vc P Γ Δ x (thenE (vc P Γ Δ y Q) Q) σ := rfl
@[go_sem ↓, go_sem] theorem ev_vc_cond {c : Operand} {x y : Code} {Q : Exit → St → Prop} {σ : St} : vc P Γ Δ (.cond c x y) Q σ = condC (σ.ev c) (vc P Γ Δ x Q σ) (vc P Γ Δ y Q σ) := rfl
@[go_sem ↓, go_sem] theorem ev_vc_block {id : Nat} {c : Code} {Q : Exit → St → Prop} {σ : St} : vc P Γ Δ (.block id c) Q σ = vc P Γ Δ c (blkE id Q) σ := rfl
@[go_sem ↓, go_sem] theorem ev_vc_exit {id : Nat} {Q : Exit → St → Prop} {σ : St} : vc P Γ Δ (.exit id) Q σ = Q (.exit id) σ := rfl
@[go_sem ↓, go_sem] theorem ev_vc_ret {Q : Exit → St → Prop} {σ : St} : vc P Γ Δ .ret Q σ = Q .ret σ := rfl
@[go_sem ↓, go_sem] theorem ev_vc_loop {c : Code} {Q : Exit → St → Prop} {σ : St} : vc P Γ Δ (.loop c) Q σ = AWp P (.loop c) Q σ := rfl
@[go_sem ↓, go_sem] theorem ev_then_n {N : St → Prop} {Q : Exit → St → Prop} {σ : St} : thenE N Q .normal σ = N σ := rfl
@[go_sem ↓, go_sem] theorem ev_then_r {N : St → Prop} {Q : Exit → St → Prop} {σ : St} : thenE N Q .ret σ = Q .ret σ := rfl
@[go_sem ↓, go_sem] theorem ev_then_e {N : St → Prop} {Q : Exit → St → Prop} {σ : St} {i : Nat} : thenE N Q (.exit i) σ = Q (.exit i) σ := rfl
@[go_sem ↓, go_sem] theorem ev_blk_n {i : Nat} {Q : Exit → St → Prop} {σ : St} : blkE i Q .normal σ = Q .normal σ := rfl
@[go_sem ↓, go_sem] theorem ev_blk_r {i : Nat} {Q : Exit → St → Prop} {σ : St} : blkE i Q .ret σ = Q .ret σ := rfl
@[go_sem ↓, go_sem] theorem ev_blk_e {i j : Nat} {Q : Exit → St → Prop} {σ : St} : blkE i Q (.exit j) σ = if j = i then Q .normal σ else Q (.exit j) σ := rfl
@[go_sem ↓, go_sem] theorem ev_vc_scope {c : Code} {Q : Exit → St → Prop} {σ : St} : vc P Γ Δ (.scope c) Q σ = vc P Γ Δ c (scopeE Q) σ := rfl
@[go_sem ↓, go_sem] theorem ev_vc_label {l : Nat} {Q : Exit → St → Prop} {σ : St} : vc P Γ Δ (.label l) Q σ = Q .normal σ := rfl
@[go_sem ↓, go_sem] theorem ev_sc_n {Q : Exit → St → Prop} {σ : St} : scopeE Q .normal σ = Q .normal σ := rfl
@[go_sem ↓, go_sem] theorem ev_sc_r {Q : Exit → St → Prop} {σ : St} : scopeE Q .ret σ = Q .ret σ := rfl
@[go_sem ↓, go_sem] theorem ev_sc_e {i : Nat} {Q : Exit → St → Prop} {σ : St} : scopeE Q (.exit i) σ = Q (.exit i) σ := rfl
@[go_sem ↓, go_sem] theorem ev_ret_n {l : List ResultVar} {r : V} {σ : St} : retE P l r .normal σ = aResL P σ l fun xs => argsP σ.H xs fun ys _ => Outs ys r := rfl
@[go_sem ↓, go_sem] theorem ev_ret_r {l : List ResultVar} {r : V} {σ : St} : retE P l r .ret σ = aResL P σ l fun xs => argsP σ.H xs fun ys _ => Outs ys r := rfl
@[go_sem ↓, go_sem] theorem ev_loop_n {X : Type} {I : X → St} {μ : X → Nat} {x : X} {Q : Exit → St → Prop} {σ : St} : loopE I μ x Q .normal σ = ∃ x', Wk σ (I x') ∧ μ x' < μ x := rfl
@[go_sem ↓, go_sem] theorem ev_loop_r {X : Type} {I : X → St} {μ : X → Nat} {x : X} {Q : Exit → St → Prop} {σ : St} : loopE I μ x Q .ret σ = Q .ret σ := rfl
@[go_sem ↓, go_sem] theorem ev_loop_e {X : Type} {I : X → St} {μ : X → Nat} {x : X} {Q : Exit → St → Prop} {σ : St} {i : Nat} : loopE I μ x Q (.exit i) σ = Q (.exit i) σ := rfl
@[congr] theorem arg1_congr {H H' : Hp} {x x' : V} {k : V → List Nat → Prop} (h : x = x') (h' : H = H') {tk : Prop} (_ : Tick = tk) : arg1 H x k = arg1 H' x' k := by rw [h, h']
@[congr] theorem argA_congr {H H' : Hp} {x x' : V} {k : V → List Nat → Prop} (h : x = x') (h' : H = H') {tk : Prop} (_ : Tick = tk) : argA H x k = argA H' x' k := by rw [h, h']
@[congr] theorem argsP_congr {H H' : Hp} {x x' : List V} {k : List V → List Nat → Prop} (h : x = x') (h' : H = H') {tk : Prop} (_ : Tick = tk) : argsP H x k = argsP H' x' k := by rw [h, h']
@[congr] theorem argsA_congr {H H' : Hp} {x x' : List V} {k : List V → List Nat → Prop} (h : x = x') (h' : H = H') {tk : Prop} (_ : Tick = tk) : argsA H x k = argsA H' x' k := by rw [h, h']
@[congr] theorem vc_congr {c : Code} {Q : Exit → St → Prop} {σ σ' : St} (h : σ = σ') {tk : Prop} (_ : Tick = tk) : vc P Γ Δ c Q σ = vc P Γ Δ c Q σ' := by rw [h]
@[congr] theorem Wk_congr {σ σ' τ : St} (h : σ = σ') {tk : Prop} (_ : Tick = tk) : Wk σ τ = Wk σ' τ := by rw [h]
@[congr] theorem aResL_congr {σ σ' : St} {l l' : List ResultVar} {k : List V → Prop} (h : σ = σ') (hl : l = l') {tk : Prop} (_ : Tick = tk) : aResL P σ l k = aResL P σ' l' k := by rw [h, hl]
@[go_sem ↓, go_sem] theorem ev_res_nil {σ : St} {k : List V → Prop} : aResL P σ [] k = k [] := rfl
@[go_sem ↓, go_sem] theorem ev_res_tmp {σ : St} {t : Nat} {r : List ResultVar} {k : List V → Prop} : aResL P σ (.tmp t :: r) k = aResL P σ r fun ys => k (σ.s t :: ys) := rfl
@[go_sem ↓, go_sem] theorem ev_res_cell {σ : St} {p : Nat} {ty : TypeId} {r : List ResultVar} {k : List V → Prop} : aResL P σ (.cell p ty :: r) k = aLoad P σ.H ty (σ.s p) fun z _ _ => aResL P σ r fun ys => k (z :: ys) := rfl
/- statements -/
@[go_sem ↓, go_sem] theorem ev_ops_nil {ops : Array Oper} {σ : St} {K : St → Prop} : vcOps P Γ Δ ops [] σ K = K σ := rfl
@[go_sem ↓, go_sem] theorem ev_ops_cons {ops : Array Oper} {o : Oper} {os : List Oper} {σ : St} {K : St → Prop} : vcOps P Γ Δ ops (o :: os) σ K = (dstOk o σ.N ∧ vcOp P Γ Δ ops o σ fun v ws _ => vcOps P Γ Δ ops os (σ.put o.dst v ws) K) := rfl
@[go_sem ↓, go_sem] theorem ev_tr_nil {ops : Array Oper} {σ : St} {tr : List Foot} {K : St → List Foot → Prop} : vcTr P Γ Δ ops [] σ tr K = K σ tr.reverse := rfl
@[go_sem ↓, go_sem] theorem ev_tr_cons {ops : Array Oper} {o : Oper} {os : List Oper} {σ : St} {tr : List Foot} {K : St → List Foot → Prop} : vcTr P Γ Δ ops (o :: os) σ tr K = (dstOk o σ.N ∧ vcOp P Γ Δ ops o σ fun v ws rs => vcTr P Γ Δ ops os (σ.put o.dst v ws) ((rs, ws.map (·.1)) :: tr) K) := rfl
@[go_sem ↓, go_sem] theorem ev_op_plain {ops : Array Oper} {dst : Option Tmp} {op : Op} {ty : TypeId} {pos : String} {after : Array Edge} {σ : St} : vcOp P Γ Δ ops ⟨dst, op, ty, pos, after, none⟩ σ K = aop P Γ Δ op σ.ev σ.H σ.n K := rfl
theorem vcOp_guard_eq {ops : Array Oper} {dst : Option Tmp} {op : Op} {ty : TypeId} {pos : String} {after : Array Edge} {σ : St} {j : Nat} {want : Bool} {d : Nat} (h : (ops[j]?).bind (·.dst) = some d) :
 vcOp P Γ Δ ops ⟨dst, op, ty, pos, after, some (j, want)⟩ σ K = (d < σ.N ∧ guardC (σ.s d) want (aop P Γ Δ op σ.ev σ.H σ.n K) (K (.raw undef) [] [])) := by
 unfold vcOp
 simp only [h]
 rfl
@[go_sem ↓, go_sem] theorem ev_op_guard {ops : Array Oper} {dst : Option Tmp} {op : Op} {ty : TypeId} {pos : String} {after : Array Edge} {σ : St} {j : Nat} {want : Bool} :
 vcOp P Γ Δ ops ⟨dst, op, ty, pos, after, some (j, want)⟩ σ K = optE ((ops[j]?).bind (·.dst)) (fun d => d < σ.N ∧ guardC (σ.s d) want (aop P Γ Δ op σ.ev σ.H σ.n K) (K (.raw undef) [] [])) (K (.raw undef) [] []) := by
 cases h : (ops[j]?).bind (·.dst) with
 | none => unfold vcOp; simp only [h]; rfl
 | some d => exact vcOp_guard_eq h
/- operations -/
attribute [go_sem ↓, go_sem] aop
@[go_sem ↓, go_sem] theorem ev_call_func {g : FuncId} {args : Array Operand} {ts : Array TypeId} {σ : St} : aCall P Γ Δ ⟨.value (.func g), args, ts⟩ σ.ev H n K = aCallF Γ Δ g (args.toList.map σ.ev) H n K := by
  simp [aCall, St.ev]
def cloC (Γ : Tab) (Δ : Gab) (v : V) (args : List V) (H : Hp) (n : Nat) (K : Kt) : Prop := match v with
 | .clo (.func g) first caps => aCallF Γ Δ g (first ++ args ++ caps) H n K
 | _ => False
@[congr] theorem cloC_congr {v v' : V} {args args' : List V} (h : v = v') (h' : args = args') {tk : Prop} (_ : Tick = tk) : cloC Γ Δ v args H n K = cloC Γ Δ v' args' H n K := by rw [h, h']
@[go_sem ↓, go_sem] theorem ev_clo {g : FuncId} {first caps args : List V} : cloC Γ Δ (.clo (.func g) first caps) args H n K = aCallF Γ Δ g (first ++ args ++ caps) H n K := rfl
@[go_sem ↓, go_sem] theorem ev_call_tmp {p : Nat} {args : Array Operand} {ts : Array TypeId} {σ : St} : aCall P Γ Δ ⟨.value (.tmp p), args, ts⟩ σ.ev H n K = cloC Γ Δ (σ.s p) (args.toList.map σ.ev) H n K := rfl
@[go_sem ↓, go_sem] theorem ev_call_builtin {b : Builtin} {args : Array Operand} {ts : Array TypeId} {e : Operand → V} : aCall P Γ Δ ⟨.builtin b, args, ts⟩ e H n K = aBuiltin P b ts.toList (args.toList.map e) H n K := rfl
@[congr] theorem aBuiltin_congr {b : Builtin} {ts ts' : List TypeId} {args args' : List V} (h : ts = ts') (h' : args = args') {tk : Prop} (_ : Tick = tk) : aBuiltin P b ts args H n K = aBuiltin P b ts' args' H n K := by rw [h, h']
@[go_sem ↓, go_sem] theorem ev_b_len {x : V} : aBuiltin P .len [t] [x] H n K = aLen P t x fun z => K z [] [] := rfl
@[go_sem ↓, go_sem] theorem ev_b_min {t' : TypeId} {x y : V} : aBuiltin P .min [t, t'] [x, y] H n K = aMin x y fun z => K z [] [] := rfl
@[go_sem ↓, go_sem] theorem ev_b_max {t' : TypeId} {x y : V} : aBuiltin P .max [t, t'] [x, y] H n K = aMax x y fun z => K z [] [] := rfl
@[go_sem ↓, go_sem] theorem ev_b_append {t' : TypeId} {x y : V} : aBuiltin P .append [t, t'] [x, y] H n K = aAppend P t t' H n x y K := rfl
@[go_sem ↓, go_sem] theorem ev_b_copy {t' : TypeId} {x y : V} : aBuiltin P .copy [t, t'] [x, y] H n K = aCopy P t H x y K := rfl
/- values -/
@[congr] theorem aPick_congr {c c' x x' y y' : V} (h : c = c') (h' : x = x') (h'' : y = y') {tk : Prop} (_ : Tick = tk) : aPick c x y k = aPick c' x' y' k := by rw [h, h', h'']
@[go_sem ↓ high, go_sem high] theorem ev_pick_t {x y : V} : aPick (.raw (.bool true)) x y k = k x := by
  unfold aPick
  simp only
  split
  ·rfl
  ·simp
@[go_sem ↓ high, go_sem high] theorem ev_pick_f {x y : V} : aPick (.raw (.bool false)) x y k = k y := by
  unfold aPick
  simp only
  split
  ·rfl
  ·simp
@[go_sem low] theorem ev_pick_b {b p q : Bool} : aPick (.raw (.bool b)) (.raw (.bool p)) (.raw (.bool q)) k = k (.raw (.bool (bif b then p else q))) := rfl
@[go_sem ↓, go_sem] theorem ev_alloc : aAlloc P t n K = optC (tyZero P t) fun z => z.good = true ∧ K (.ptr n z.wid 0 0) [(n, some ⟨t, z.wid, [z]⟩)] [] := by unfold aAlloc; cases tyZero P t <;> rfl
@[congr] theorem aBox_congr {x x' : V} (h : x = x') {tk : Prop} (_ : Tick = tk) : aBox t x n K = aBox t x' n K := by rw [h]
@[go_sem ↓, go_sem] theorem ev_box {x : V} : aBox t x n K = (x.good = true ∧ K (.ptr n x.wid 0 0) [(n, some ⟨t, x.wid, [x]⟩)] []) := rfl
@[congr] theorem aFieldAddr_congr {p p' : V} {f : Nat} (h : p = p') {tk : Prop} (_ : Tick = tk) : aFieldAddr P t p f k = aFieldAddr P t p' f k := by rw [h]
@[go_sem ↓, go_sem] theorem ev_fa_ptr {b e i off f : Nat} : aFieldAddr P t (.ptr b e i off) f k = optC (tyField P t f) fun q => q.2.1 ≠ 0 ∧ k (.ptr b e i (off + q.1)) := by
  unfold aFieldAddr optC; cases tyField P t f <;> rfl
@[go_sem ↓, go_sem] theorem ev_fa_pel {x : V} {f : Nat} : aFieldAddr P t (.pel x) f k = optC (tyField P t f) fun q => q.2.1 ≠ 0 ∧ (if q.2.2 = true then q.1 + q.2.1 ≤ x.wid ∧ k (.pel (x.sub q.1 q.2.1)) else q.2.1 = 1 ∧ optC x.atoms[q.1]? fun y => k (.pel y)) := by
  unfold aFieldAddr
  rcases tyField P t f with _ | ⟨fo, s, g⟩
  ·rfl
  ·simp only [optC]
   cases x.atoms[fo]? <;> rfl
@[congr] theorem aField_congr {p p' : V} {f : Nat} (h : p = p') {tk : Prop} (_ : Tick = tk) : aField P t p f k = aField P t p' f k := by rw [h]
@[go_sem ↓, go_sem] theorem ev_field {x : V} {f : Nat} : aField P t x f k = optC (tyField P t f) fun q => x.isAgg = true ∧ (if q.2.2 = true then q.1 + q.2.1 ≤ x.wid ∧ k (x.sub q.1 q.2.1) else optC x.atoms[q.1]? fun y => okStore y = true ∧ k y) := by
  unfold aField
  rcases tyField P t f with _ | ⟨fo, s, g⟩
  ·rfl
  ·simp only [optC]
   cases x.atoms[fo]? <;> rfl
@[congr] theorem aIndexAddr_congr {p p' ix ix' : V} (h : p = p') (h' : ix = ix') {tk : Prop} (_ : Tick = tk) : aIndexAddr P t p ix k = aIndexAddr P t p' ix' k := by rw [h, h']
@[go_sem ↓, go_sem] theorem ev_ix_sl {b e o m : Nat} {kk : IntKind} {i : Int} : aIndexAddr P t (.sl b e o m) (.raw (.int kk i)) k = optC (tyElem P t) fun q => e = q.2 ∧ (0 ≤ i ∧ i < m) ∧ k (.ptr b e (o + i.toNat) 0) := by
  unfold aIndexAddr optC
  simp only
  cases tyElem P t with
  | none => cases tyArr P t <;> rfl
  | some q => simp [and_assoc]
@[go_sem ↓, go_sem] theorem ev_ix_lst {l : List V} {kk : IntKind} {i : Int} : aIndexAddr P t (.lst l) (.raw (.int kk i)) k = optC (tyElem P t) fun q => (0 ≤ i ∧ i < l.length) ∧ optC l[i.toNat]? fun y => y.wid = q.2 ∧ k (.pel y) := by
  unfold aIndexAddr optC
  simp only
  cases tyElem P t with
  | none => cases tyArr P t <;> rfl
  | some q => simp only [and_assoc]; cases l[i.toNat]? <;> rfl
@[go_sem ↓, go_sem] theorem ev_ix_ptr {b e j off : Nat} {kk : IntKind} {i : Int} : aIndexAddr P t (.ptr b e j off) (.raw (.int kk i)) k = optE (tyElem P t) (fun _ => False) (optC (tyArr P t) fun q => (0 ≤ i ∧ i < q.1) ∧ k (.ptr b e j (off + i.toNat * q.2.2))) := by
  unfold aIndexAddr optC optE
  simp only
  cases tyElem P t with
  | none => cases tyArr P t with
    | none => rfl
    | some q => simp only [and_assoc]
  | some q => rfl
@[go_sem ↓, go_sem] theorem ev_ix_pel {x : V} {kk : IntKind} {i : Int} : aIndexAddr P t (.pel x) (.raw (.int kk i)) k = optE (tyElem P t) (fun _ => False) (optC (tyArr P t) fun q => (0 ≤ i ∧ i < q.1) ∧ (if tyAgg P q.2.1 = some true then i.toNat * q.2.2 + q.2.2 ≤ x.wid ∧ k (.pel (x.sub (i.toNat * q.2.2) q.2.2)) else q.2.2 = 1 ∧ optC x.atoms[i.toNat]? fun y => k (.pel y))) := by
  unfold aIndexAddr optC optE
  simp only
  cases tyElem P t with
  | none => cases tyArr P t with
    | none => rfl
    | some q =>
      simp only
      cases x.atoms[i.toNat]? <;> rfl
  | some q => rfl
@[congr] theorem aLoad_congr {p p' : V} (h : p = p') {tk : Prop} (_ : Tick = tk) : aLoad P H t p K = aLoad P H t p' K := by rw [h]
@[go_sem ↓, go_sem] theorem ev_load_ptr {b e i off : Nat} : aLoad P H t (.ptr b e i off) K = optC (H b) fun x => x.e = e ∧ optC x.l[i]? fun y => optC (ldV P t y off) fun z => K z [] [b] := by
  unfold aLoad optC
  simp only
  cases H b with
  | none => rfl
  | some x =>
    simp only
    cases x.l[i]? with
    | none => rfl
    | some y => simp only; cases ldV P t y off <;> rfl
@[go_sem ↓, go_sem] theorem ev_load_pel {x : V} : aLoad P H t (.pel x) K = optC (ldV P t x 0) fun z => K z [] [] := by
  unfold aLoad optC
  simp only
  cases ldV P t x 0 <;> rfl
@[congr] theorem aStore_congr {p p' x x' : V} (h : p = p') (h' : x = x') {tk : Prop} (_ : Tick = tk) : aStore P H t p x K = aStore P H t p' x' K := by rw [h, h']
@[go_sem ↓, go_sem] theorem ev_store {b e i off : Nat} {x : V} : aStore P H t (.ptr b e i off) x K = optC (H b) fun y => y.e = e ∧ optC y.l[i]? fun z => tySize P t = some x.wid ∧ x.good = true ∧ off + x.wid ≤ z.wid ∧ K (.raw undef) [(b, some ⟨y.t, y.e, y.l.set i (z.put off x)⟩)] [b] := by
  unfold aStore optC
  simp only
  cases H b with
  | none => rfl
  | some y => simp only; cases y.l[i]? <;> rfl
@[congr] theorem aBin_congr {op : BinOp} {x x' y y' : V} (h : x = x') (h' : y = y') {tk : Prop} (_ : Tick = tk) : aBin P op t x y k = aBin P op t x' y' k := by rw [h, h']
def binI (op : BinOp) (kd : IntKind) (a : Int) (kd' : IntKind) (b : Int) (K : V → Prop) : Prop :=
 match op with
 | .shl => 0 ≤ b ∧ b < kd.bits ∧ K (.raw (.int kd (kd.wrap (a * 2 ^ b.toNat))))
 | .shr => 0 ≤ b ∧ b < kd.bits ∧ K (.raw (.int kd (a / 2 ^ b.toNat)))
 | op => kd = kd' ∧ aArith op kd a b K
def binB (P : Program) (op : BinOp) (t : TypeId) (a b : Bool) (K : V → Prop) : Prop :=
 match op with
 | .eql => P.underlying t = some .bool ∧ K (.raw (.bool (a == b)))
 | .neq => P.underlying t = some .bool ∧ K (.raw (.bool (a != b)))
 | _ => False
@[go_sem] theorem tmod_nat (n : Nat) (b : Int) : Int.tmod (n : Int) b = (n : Int) % b := Int.tmod_eq_emod_of_nonneg (by omega)
attribute [go_sem ↓, go_sem] aArith aStr binI binB
@[go_sem ↓, go_sem] theorem ev_bin_int {op : BinOp} {kd kd' : IntKind} {a b : Int} : aBin P op t (.raw (.int kd a)) (.raw (.int kd' b)) k = binI op kd a kd' b k := by cases op <;> rfl
@[go_sem ↓, go_sem] theorem ev_bin_nil_lst {op : BinOp} {x : V} {l : List V} : aBin P op t (.lst (x :: l)) (.raw (.slice none 0 0)) k = nilB P op t false k := rfl
@[go_sem ↓, go_sem] theorem ev_bin_nil_sl {op : BinOp} {b e o n : Nat} : aBin P op t (.sl b e o n) (.raw (.slice none 0 0)) k = nilB P op t false k := rfl
@[go_sem ↓, go_sem] theorem ev_bin_nil_none {op : BinOp} {n c : Nat} : aBin P op t (.raw (.slice none n c)) (.raw (.slice none 0 0)) k = nilB P op t true k := rfl
@[go_sem ↓, go_sem] theorem ev_bin_nil_some {op : BinOp} {A : Addr} {n c : Nat} : aBin P op t (.raw (.slice (some A) n c)) (.raw (.slice none 0 0)) k = nilB P op t false k := rfl
@[go_sem ↓, go_sem] theorem ev_bin_nil_nil {op : BinOp} : aBin P op t (.raw (.slice none 0 0)) (.raw (.slice none 0 0)) k = nilB P op t true k := rfl
attribute [go_sem ↓, go_sem] nilB
@[go_sem ↓, go_sem] theorem ev_bin_str {op : BinOp} {a b : ByteArray} : aBin P op t (.raw (.string a)) (.raw (.string b)) k = aStr op a b k := rfl
@[go_sem ↓, go_sem] theorem ev_bin_bool {op : BinOp} {a b : Bool} : aBin P op t (.raw (.bool a)) (.raw (.bool b)) k = binB P op t a b k := by cases op <;> rfl
@[go_sem ↓, go_sem] theorem ev_un_not {b : Bool} : aUn .not (.raw (.bool b)) k = k (.raw (.bool (!b))) := rfl
@[go_sem ↓, go_sem] theorem ev_un_neg {a : Int} : aUn .neg (.raw (.int .i64 a)) k = ((-9223372036854775808 ≤ a ∧ a ≤ 9223372036854775807) ∧ k (.raw (.int .i64 (if a = -9223372036854775808 then a else -a)))) := rfl
@[go_sem ↓, go_sem] theorem ev_un_neg32 {a : Int} : aUn .neg (.raw (.int .u32 a)) k = k (.raw (.int .u32 (IntKind.u32.wrap (0 - a)))) := rfl
@[go_sem ↓, go_sem] theorem ev_un_neg64 {a : Int} : aUn .neg (.raw (.int .u64 a)) k = k (.raw (.int .u64 (IntKind.u64.wrap (0 - a)))) := rfl
@[go_sem ↓, go_sem] theorem ev_un_xor {kd : IntKind} {a : Int} : aUn .xor (.raw (.int kd a)) k = k (.raw (.int kd (bits .xor kd (if kd.signed then -1 else kd.max) a))) := rfl
@[go_sem ↓, go_sem] theorem ev_min {i j : IntKind} {a b : Int} : aMin (.raw (.int i a)) (.raw (.int j b)) k = k (.raw (.int i (if b < a then b else a))) := rfl
@[go_sem ↓, go_sem] theorem ev_max {i j : IntKind} {a b : Int} : aMax (.raw (.int i a)) (.raw (.int j b)) k = k (.raw (.int i (if a < b then b else a))) := rfl
@[go_sem ↓, go_sem] theorem ev_nil_ptr {b e i off : Nat} : aNil (.ptr b e i off) k = k (.ptr b e i off) := rfl
@[go_sem ↓, go_sem] theorem ev_nil_pel {x : V} : aNil (.pel x) k = k (.pel x) := rfl
@[go_sem ↓, go_sem] theorem ev_nil_clo {g : FuncId} {x y : List V} : aNil (.clo (.func g) x y) k = k (.clo (.func g) x y) := rfl
@[congr] theorem aUn_congr {op : UnOp} {x x' : V} (h : x = x') {tk : Prop} (_ : Tick = tk) : aUn op x k = aUn op x' k := by rw [h]
@[congr] theorem aMin_congr {x x' y y' : V} (h : x = x') (h' : y = y') {tk : Prop} (_ : Tick = tk) : aMin x y k = aMin x' y' k := by rw [h, h']
@[congr] theorem aMax_congr {x x' y y' : V} (h : x = x') (h' : y = y') {tk : Prop} (_ : Tick = tk) : aMax x y k = aMax x' y' k := by rw [h, h']
@[congr] theorem aNil_congr {x x' : V} (h : x = x') {tk : Prop} (_ : Tick = tk) : aNil x k = aNil x' k := by rw [h]
@[congr] theorem aMake_congr {x x' y y' : V} (h : x = x') (h' : y = y') {tk : Prop} (_ : Tick = tk) : aMake P t x y n K = aMake P t x' y' n K := by rw [h, h']
@[go_sem ↓, go_sem] theorem ev_make {k1 k2 : IntKind} {l c : Int} : aMake P t (.raw (.int k1 l)) (.raw (.int k2 c)) n K = optC (tyElem P t) fun q => optC (tyZero P q.1) fun z => optC (tyBytes P q.1) fun by_ =>
 z.wid = q.2 ∧ z.good = true ∧ (0 ≤ l ∧ l ≤ c ∧ (by_ : Int) * c ≤ 281474976710656 ∧ c ≤ 9223372036854775807) ∧ K (.sl n q.2 0 l.toNat) [(n, some ⟨q.1, q.2, List.replicate c.toNat z⟩)] [] := by
 unfold aMake optC
 simp only
 cases tyElem P t with
 | none => rfl
 | some q =>
   simp only
   cases tyZero P q.1 with
   | none => rfl
   | some z => cases tyBytes P q.1 <;> rfl
@[congr] theorem aLen_congr {x x' : V} (h : x = x') {tk : Prop} (_ : Tick = tk) : aLen P t x k = aLen P t x' k := by rw [h]
def lenC (d : TypeDesc) (x : V) (k : V → Prop) : Prop :=
 match d, x with
 | .string, .raw (.string s) => k (.raw (.int .i64 (s.size : Nat)))
 | .slice _, .lst l => k (.raw (.int .i64 (l.length : Nat)))
 | .slice _, .sl _ _ _ n => k (.raw (.int .i64 (n : Nat)))
 | .slice _, .raw (.slice none 0 0) => k (.raw (.int .i64 0))
 | .slice _, .emp => k (.raw (.int .i64 0))
 | .array n _, _ => k (.raw (.int .i64 (n : Nat)))
 | _, _ => False
attribute [go_sem ↓, go_sem] lenC
@[go_sem ↓, go_sem] theorem ev_len {x : V} : aLen P t x k = optC (P.underlying t) fun d => lenC d x k := by
  unfold aLen optC
  cases P.underlying t with
  | none => rfl
  | some d =>
    unfold lenC
    simp only
    cases d <;> first | rfl | (cases x <;> first | rfl | (rename_i v; cases v <;> first | rfl | (rename_i A l c; cases A <;> cases l <;> cases c <;> rfl)))
/- slices -/
@[congr] theorem aSlice_congr {x x' : V} {lo lo' hi hi' mx mx' : Option V} (h : x = x') (h1 : lo = lo') (h2 : hi = hi') (h3 : mx = mx') {tk : Prop} (_ : Tick = tk) : aSlice P t x lo hi mx k = aSlice P t x' lo' hi' mx' k := by rw [h, h1, h2, h3]
@[go_sem ↓, go_sem] theorem ev_slice_str {s : ByteArray} {lo hi : Option V} : aSlice P t (.raw (.string s)) lo hi none k = (P.underlying t = some .string ∧ optC (bnd lo 0) fun l => optC (bnd hi s.size) fun h => (0 ≤ l ∧ l ≤ h ∧ h ≤ s.size) ∧ k (.raw (.string (s.extract l.toNat h.toNat)))) := by
  unfold aSlice optC
  simp only [Option.isNone_none, true_and]
  cases bnd lo 0 with
  | none => rfl
  | some l => cases bnd hi s.size <;> rfl
def sliceX (P : Program) (t : TypeId) (x : V) (n : Nat) (lo hi mx : Option V) (k : V → Prop) : Prop :=
 optC (tyElem P t) fun q => optC (bnd lo 0) fun l => optC (bnd hi n) fun h => match mx with
  | none => (0 ≤ l ∧ l ≤ h ∧ h ≤ n) ∧ aSliceL q.2 x n l.toNat h.toNat false k
  | some m => optC (bnd (some m) 0) fun m => hi.isSome = true ∧ (0 ≤ l ∧ l ≤ h ∧ h ≤ m ∧ m ≤ n) ∧ aSliceL q.2 x n l.toNat h.toNat (decide (m = l)) k
attribute [go_sem ↓, go_sem] sliceX
theorem slice_eq {x : V} {n : Nat} {lo hi mx : Option V} (hx : ∀ s, x ≠ .raw (.string s)) (hn : slLen x = some n) : aSlice P t x lo hi mx k = sliceX P t x n lo hi mx k := by
 unfold aSlice sliceX optC
 split
 ·exact absurd rfl (hx _)
 ·rw [hn]
  cases tyElem P t with
  | none => rfl
  | some q =>
    simp only
    cases bnd lo 0 with
    | none => rfl
    | some l =>
      simp only
      cases bnd hi n with
      | none => rfl
      | some h =>
        simp only
        cases mx with
        | none => rfl
        | some m => simp only; cases bnd (some m) 0 <;> rfl
@[go_sem ↓, go_sem] theorem ev_slice_sl {b e o n : Nat} {lo hi mx : Option V} : aSlice P t (.sl b e o n) lo hi mx k = sliceX P t (.sl b e o n) n lo hi mx k := slice_eq (by intro s h; cases h) rfl
@[go_sem ↓, go_sem] theorem ev_slice_lst {l : List V} {lo hi mx : Option V} : aSlice P t (.lst l) lo hi mx k = sliceX P t (.lst l) l.length lo hi mx k := slice_eq (by intro s h; cases h) rfl
@[congr] theorem aSliceL_congr {s n l h : Nat} {x : V} {b b' : Bool} (hb : b = b') {tk : Prop} (_ : Tick = tk) : aSliceL s x n l h b k = aSliceL s x n l h b' k := by rw [hb]
@[go_sem ↓, go_sem] theorem ev_sliceL_t {s n l h : Nat} {x : V} : aSliceL s x n l h true k = k .emp := by unfold aSliceL; rfl
@[go_sem ↓, go_sem] theorem ev_sliceL_sl {s n l h b e o m : Nat} : aSliceL s (.sl b e o m) n l h false k = (e = s ∧ (if l < h ∨ l = 0 then k (.sl b e (o + l) (h - l)) else k (.lst []))) := by unfold aSliceL; rfl
@[go_sem ↓, go_sem] theorem ev_sliceL_lst {s n l h : Nat} {q : List V} : aSliceL s (.lst q) n l h false k = ((l ≠ 0 → ∀ y ∈ q, y.wid = s) ∧ k (.lst ((q.drop l).take (h - l)))) := by unfold aSliceL; rfl
@[congr] theorem aAppend_congr {t' : TypeId} {x x' y y' : V} (h : x = x') (h' : y = y') {tk : Prop} (_ : Tick = tk) : aAppend P t t' H n x y K = aAppend P t t' H n x' y' K := by rw [h, h']
def appY (e : TypeId) (s : Nat) (y : V) (L : List V) : Prop := allWid L s ∧ allGood L ∧ (∀ k e' o m, y = .sl k e' o m → e' = s)
def appC (P : Program) (t t' : TypeId) (H : Hp) (y : V) (f : TypeId → Nat → Nat → List V → List Nat → Prop) : Prop :=
 optC (tyElem P t) fun q => optC (aElems H y) fun r => optC (tyBytes P q.1) fun by_ => optC (tyZero P q.1) fun z => P.underlying t' = some (.slice q.1) ∧ z.wid = q.2 ∧ 0 < q.2 ∧ allWid r.1 q.2 ∧ allGood r.1 ∧ (∀ k e' o m, y = .sl k e' o m → e' = q.2) ∧ f q.1 q.2 by_ r.1 r.2
attribute [go_sem ↓, go_sem] appC
theorem append_eq {t' : TypeId} {x y : V} : aAppend P t t' H n x y K = appC P t t' H y fun e s by_ L rs => aAppX e s by_ n L rs x H K := by
 unfold aAppend appC optC
 rcases tyElem P t with _ | ⟨e, s⟩
 ·rfl
 ·rcases aElems H y with _ | ⟨L, rs⟩
  ·rfl
  ·simp only
   cases tyBytes P e with
   | none => rfl
   | some by_ => cases tyZero P e <;> rfl
attribute [go_sem ↓, go_sem] append_eq
@[congr] theorem aAppX_congr {e : TypeId} {s by_ : Nat} {L L' : List V} {rs : List Nat} {x : V} (h : L = L') {tk : Prop} (_ : Tick = tk) : aAppX e s by_ n L rs x H K = aAppX e s by_ n L' rs x H K := by rw [h]
@[go_sem ↓, go_sem] theorem ev_appX_sl {e : TypeId} {s by_ b e' o m : Nat} {L : List V} {rs : List Nat} : aAppX e s by_ n L rs (.sl b e' o m) H K = (e' = s ∧ o = 0 ∧ optC (H b) fun q => q.t = e ∧ q.e = s ∧ m ≤ q.l.length ∧ (m + L.length ≤ maxLen ∧ (m + L.length) * by_ ≤ 140737488355328) ∧ K (.sl n s 0 (m + L.length)) [(b, none), (n, some ⟨e, s, q.l.take m ++ L⟩)] (b :: rs)) := by
  unfold aAppX optC
  simp only
  cases H b <;> rfl
@[go_sem ↓, go_sem] theorem ev_appX_nil {e : TypeId} {s by_ : Nat} {x : V} {L : List V} {rs : List Nat} : aAppX e s by_ n (x :: L) rs (.raw (.slice none 0 0)) H K = (((x :: L).length ≤ maxLen ∧ (x :: L).length * by_ ≤ 140737488355328) ∧ K (.sl n s 0 (x :: L).length) [(n, some ⟨e, s, x :: L⟩)] rs) := by
  unfold aAppX; simp
@[go_sem low] theorem ev_appX_nil' {e : TypeId} {s by_ : Nat} {L : List V} {rs : List Nat} : aAppX e s by_ n L rs (.raw (.slice none 0 0)) H K = ((L.length ≤ maxLen ∧ L.length * by_ ≤ 140737488355328) ∧ (L = [] → K (.raw (.slice none 0 0)) [] rs) ∧ (L ≠ [] → K (.sl n s 0 L.length) [(n, some ⟨e, s, L⟩)] rs)) := rfl
@[go_sem low] theorem ev_appX_emp' {e : TypeId} {s by_ : Nat} {L : List V} {rs : List Nat} : aAppX e s by_ n L rs .emp H K = ((L.length ≤ maxLen ∧ L.length * by_ ≤ 140737488355328) ∧ (L = [] → K .emp [] rs) ∧ (L ≠ [] → K (.sl n s 0 L.length) [(n, some ⟨e, s, L⟩)] rs)) := rfl
@[congr] theorem aCopy_congr {x x' y y' : V} (h : x = x') (h' : y = y') {tk : Prop} (_ : Tick = tk) : aCopy P t H x y K = aCopy P t H x' y' K := by rw [h, h']
@[go_sem ↓, go_sem] theorem ev_copy {b e' o m : Nat} {y : V} : aCopy P t H (.sl b e' o m) y K = optC (tyElem P t) fun q => optC (aElems H y) fun r => allWid r.1 q.2 ∧ allGood r.1 ∧ (∀ k e' o m, y = .sl k e' o m → e' = q.2) ∧ e' = q.2 ∧ optC (H b) fun z => z.e = q.2 ∧ o + m ≤ z.l.length ∧ 0 < m ∧
 K (.raw (.int .i64 (min r.1.length m : Nat))) [(b, some ⟨z.t, q.2, z.l.take o ++ r.1.take (min r.1.length m) ++ z.l.drop (o + min r.1.length m)⟩)] (b :: r.2) := by
 unfold aCopy optC
 rcases tyElem P t with _ | ⟨e, s⟩
 ·rfl
 ·rcases aElems H y with _ | ⟨L, rs⟩
  ·rfl
  ·simp only
   cases H b <;> rfl
/- structs and literals -/
@[go_sem ↓, go_sem] theorem ev_build {e : Operand → V} {ps : List (Nat × Operand)} : aBuild P t e ps k = optC (tyKids P t) fun z => optC (aFill P t e ps z) fun x => k x.asAgg := by
  unfold aBuild optC
  cases tyKids P t with
  | none => rfl
  | some z => simp only; cases aFill P t e ps z <;> rfl
@[go_sem ↓, go_sem] theorem ev_fill_nil {e : Operand → V} {x : V} : aFill P t e [] x = some x := rfl
@[go_sem ↓, go_sem] theorem ev_fill_cons {e : Operand → V} {x : V} {i : Nat} {p : Operand} {r : List (Nat × Operand)} : aFill P t e ((i, p) :: r) x = (tyPlace P t i).bind fun q => if (e p).good = true ∧ (e p).wid = q.2 ∧ q.1 + q.2 ≤ x.wid then aFill P t e r (x.put q.1 (e p)) else none := by
  rw [aFill]
  cases tyPlace P t i <;> rfl
@[go_sem ↓, go_sem] theorem ev_buildSlice {len : Nat} {e : Operand → V} {ps : List (Nat × Operand)} : aBuildSlice P t len e ps n K = optC (tyElem P t) fun q => optC (tyZero P q.1) fun z => z.wid = q.2 ∧ z.good = true ∧ len * q.2 ≤ 16777216 ∧ optC (aFillL e q.2 len ps (List.replicate len z)) fun l => K (.sl n q.2 0 len) [(n, some ⟨q.1, q.2, l⟩)] [] := by
  unfold aBuildSlice optC
  rcases tyElem P t with _ | ⟨el, s⟩
  ·rfl
  ·simp only
   cases tyZero P el with
   | none => rfl
   | some z => simp only; cases aFillL e s len ps (List.replicate len z) <;> rfl
attribute [go_sem] aFillL
@[congr] theorem aIndex_congr {p p' ix ix' : V} (h : p = p') (h' : ix = ix') {tk : Prop} (_ : Tick = tk) : aIndex P t p ix k = aIndex P t p' ix' k := by rw [h, h']
@[go_sem ↓, go_sem] theorem ev_index_str {s : ByteArray} {kk : IntKind} {i : Int} : aIndex P t (.raw (.string s)) (.raw (.int kk i)) k = (P.underlying t = some .string ∧ (0 ≤ i ∧ i < s.size) ∧ k (.raw (.int .u8 (byteAt s i.toNat)))) := by
  unfold aIndex; simp [and_assoc]
@[congr] theorem aConv_congr {x x' : V} (h : x = x') {tk : Prop} (_ : Tick = tk) : aConv P t x k = aConv P t x' k := by rw [h]
def convC (d : TypeDesc) (a : Int) (k : V → Prop) : Prop := match d with
 | .int kd => k (.raw (.int kd (cvI kd a)))
 | _ => False
attribute [go_sem ↓, go_sem] convC
@[go_sem ↓, go_sem] theorem ev_conv {kk : IntKind} {a : Int} : aConv P t (.raw (.int kk a)) k = optC (P.underlying t) fun d => convC d a k := by
  unfold aConv optC convC
  cases P.underlying t with
  | none => rfl
  | some d => cases d <;> rfl
@[congr] theorem aConvK_congr {s : TypeId} {H H' : Hp} {x x' : V} (h : x = x') (h' : H = H') {tk : Prop} (_ : Tick = tk) : aConvK P s t H x K = aConvK P s t H' x' K := by rw [h, h']
def convS (P : Program) (s : TypeId) (b : ByteArray) (K : Kt) (d : TypeDesc) : Prop := match d with
 | .string => K (.raw (.string b)) [] []
 | .slice e => P.underlying s = some .string ∧ P.underlying e = some (.int .u8) ∧ K (.lst (V.bytes (sbL b))) [] []
 | _ => False
attribute [go_sem ↓, go_sem] convS
def cvOk (P : Program) (s t : TypeId) : Prop := match P.underlying s, P.underlying t with
 | some (.slice e), some .string => P.underlying e = some (.int .u8)
 | _, _ => False
attribute [go_sem] cvOk
@[go_sem ↓, go_sem] theorem ev_convK_int {s : TypeId} {kk : IntKind} {a : Int} : aConvK P s t H (.raw (.int kk a)) K = aConv P t (.raw (.int kk a)) fun z => K z [] [] := rfl
attribute [go_sem] unB_bytes
@[congr] theorem aExtract_congr {x x' : V} {i : Nat} (h : x = x') {tk : Prop} (_ : Tick = tk) : aExtract x i k = aExtract x' i k := by rw [h]
def noTupP (y : V) : Prop := ∀ m, y ≠ .tup m
@[go_sem ↓, go_sem] theorem ev_extract {l : List V} {i : Nat} : aExtract (.tup l) i k = optC l[i]? fun y => noTupP y ∧ k y := by
  unfold aExtract optC
  simp only
  cases l[i]? <;> rfl
@[go_sem] theorem noTup_raw (v : Value) : noTupP (.raw v) = True := by simp [noTupP]
@[go_sem] theorem noTup_I (z : Int) : noTupP (.I z) = True := by simp [noTupP]
@[go_sem] theorem noTup_Q (z : Rat) : noTupP (.Q z) = True := by simp [noTupP]
@[go_sem] theorem noTup_lst (l : List V) : noTupP (.lst l) = True := by simp [noTupP]
@[go_sem] theorem noTup_agg (l : List V) : noTupP (.agg l) = True := by simp [noTupP]
@[go_sem] theorem noTup_sl (b e o n : Nat) : noTupP (.sl b e o n) = True := by simp [noTupP]
@[congr] theorem aCallF_congr {f : FuncId} {args args' : List V} (h : args = args') {tk : Prop} (_ : Tick = tk) : aCallF Γ Δ f args H n K = aCallF Γ Δ f args' H n K := by rw [h]
@[go_sem ↓, go_sem] theorem ev_callF {f : FuncId} {args : List V} : aCallF Γ Δ f args H n K = optE (Δ f args H n) (fun q => args.all V.noTup = true ∧ q.1 ∧ K q.2.1 q.2.2.1 q.2.2.2) (argsP H args fun ys ids => optC (Γ f ys) fun q => q.1 ∧ K q.2 (if q.2.scalar = true then [] else ids.map fun j => (j, none)) ids) := by
  unfold aCallF optE
  rcases Δ f args H n with _ | ⟨p, r, ws, rs⟩
  ·simp only
   congr 1
   funext ys ids
   unfold optC
   rcases Γ f ys with _ | ⟨p, r⟩ <;> rfl
  ·rfl
variable {kA : V → List Nat → Prop} {kL : List V → List Nat → Prop}
@[go_sem ↓, go_sem] theorem ev_args_nil : argsP H [] kL = kL [] [] := rfl
@[go_sem ↓, go_sem] theorem ev_args_cons {x : V} {xs : List V} : argsP H (x :: xs) kL = arg1 H x fun y r => argsP H xs fun ys rs => kL (y :: ys) (r ++ rs) := rfl
@[go_sem ↓, go_sem] theorem ev_argsA_nil : argsA H [] kL = kL [] [] := rfl
@[go_sem ↓, go_sem] theorem ev_argsA_cons {x : V} {xs : List V} : argsA H (x :: xs) kL = argA H x fun y r => argsA H xs fun ys rs => kL (y :: ys) (r ++ rs) := rfl
@[go_sem ↓, go_sem] theorem ev_arg_I {z : Int} : arg1 H (.I z) kA = kA (.I z) [] := rfl
@[go_sem ↓, go_sem] theorem ev_arg_Q {z : Rat} : arg1 H (.Q z) kA = kA (.Q z) [] := rfl
@[go_sem ↓, go_sem] theorem ev_arg_agg {l : List V} : arg1 H (.agg l) kA = if (V.agg l).pure = true then kA (.agg l) [] else (V.agg l).good = true ∧ argsA H (V.agg l).atoms fun ys rs => kA (.agg ys) rs := rfl
@[go_sem ↓, go_sem] theorem ev_arg_raw {v : Value} : arg1 H (.raw v) kA = argA H (.raw v) kA := rfl
@[go_sem ↓, go_sem] theorem ev_arg_lst {l : List V} : arg1 H (.lst l) kA = argA H (.lst l) kA := rfl
@[go_sem ↓, go_sem] theorem ev_arg_sl {b e o m : Nat} : arg1 H (.sl b e o m) kA = argA H (.sl b e o m) kA := rfl
@[go_sem ↓, go_sem] theorem ev_arg_emp : arg1 H .emp kA = argA H .emp kA := rfl
@[go_sem ↓, go_sem] theorem ev_arg_pel {x : V} : arg1 H (.pel x) kA = argA H (.pel x) kA := rfl
@[go_sem ↓, go_sem] theorem ev_arg_clo {f : Fn} {a b : List V} : arg1 H (.clo f a b) kA = argA H (.clo f a b) kA := rfl
@[go_sem ↓, go_sem] theorem ev_argA_int {kk : IntKind} {i : Int} : argA H (.raw (.int kk i)) kA = kA (.raw (.int kk i)) [] := by simp [argA, argN, V.pure, V.atoms, pureA]
@[go_sem ↓, go_sem] theorem ev_argA_bool {b : Bool} : argA H (.raw (.bool b)) kA = kA (.raw (.bool b)) [] := by simp [argA, argN, V.pure, V.atoms, pureA]
@[go_sem ↓, go_sem] theorem ev_argA_nil : argA H (.raw (.slice none 0 0)) kA = kA (.lst []) [] := rfl
@[go_sem ↓, go_sem] theorem ev_argA_emp : argA H .emp kA = kA (.lst []) [] := rfl
@[go_sem ↓, go_sem] theorem ev_argA_lst {l : List V} : argA H (.lst l) kA = kA (.lst l) [] := by simp [argA, argN, V.pure, V.atoms, pureA]
@[go_sem ↓, go_sem] theorem ev_argA_pel {x : V} : argA H (.pel x) kA = kA (.pel x) [] := by simp [argA, argN, V.pure, V.atoms, pureA]
@[congr] theorem frzs_congr {F : V → (V → List Nat → Prop) → Prop} {x x' : List V} {k : List V → List Nat → Prop} (h : x = x') {tk : Prop} (_ : Tick = tk) : frzs F x k = frzs F x' k := by rw [h]
@[congr] theorem frzE_congr {F : V → (V → List Nat → Prop) → Prop} {x x' : V} {k : V → List Nat → Prop} (h : x = x') {tk : Prop} (_ : Tick = tk) : frzE F x k = frzE F x' k := by rw [h]
@[congr] theorem argN_congr {m : Nat} {x x' : V} {k : V → List Nat → Prop} (h : x = x') {tk : Prop} (_ : Tick = tk) : argN H m x k = argN H m x' k := by rw [h]
@[go_sem ↓, go_sem] theorem ev_argA_sl {b e o m : Nat} : argA H (.sl b e o m) kA = optC (aElems H (.sl b e o m)) fun q => frzs (frzE (argN H 2)) q.1 fun L ids => kA (.lst L) (q.2 ++ ids) := by
  unfold argA argN optC
  simp only
  rcases aElems H (.sl b e o m) with _ | ⟨L, rs⟩ <;> rfl
variable {m : Nat} {F : V → (V → List Nat → Prop) → Prop}
@[go_sem ↓, go_sem] theorem ev_argN_sl {b e o n : Nat} : argN H (m + 1) (.sl b e o n) kA = optC (aElems H (.sl b e o n)) fun q => frzs (frzE (argN H m)) q.1 fun L ids => kA (.lst L) (q.2 ++ ids) := by
  rw [argN.eq_def]
  unfold optC
  simp only
  rcases aElems H (.sl b e o n) with _ | ⟨L, rs⟩ <;> rfl
@[go_sem ↓, go_sem] theorem ev_argN_ptr {b e i off : Nat} : argN H (m + 1) (.ptr b e i off) kA = optC (H b) fun y => (y.e = e ∧ off = 0) ∧ optC y.l[i]? fun z => frzE (argN H m) z fun z' ids => kA (.pel z') (b :: ids) := by
  rw [argN.eq_def]
  unfold optC
  simp only
  rcases H b with _ | y
  ·rfl
  ·simp only
   rcases y.l[i]? with _ | z <;> rfl
@[go_sem ↓, go_sem] theorem ev_argN_nil : argN H (m + 1) (.raw (.slice none 0 0)) kA = kA (.lst []) [] := rfl
@[go_sem ↓, go_sem] theorem ev_argN_emp : argN H (m + 1) .emp kA = kA (.lst []) [] := rfl
theorem argN_pure {n : Nat} {x : V} (ha : x.isAgg = false) (hp : x.pure = true) (h1 : x ≠ .emp) (h2 : x ≠ .raw (.slice none 0 0)) : argN H n x kA = kA x [] := by
 cases n with
 | zero => simp [argN, hp]
 | succ n =>
   rw [argN.eq_def]
   simp only
   split
   ·simp [V.pure, V.atoms, pureA] at hp
   ·exact absurd rfl h2
   ·exact absurd rfl h1
   ·simp [V.pure, V.atoms, pureA] at hp
   ·rw [if_pos hp]
   ·simp [hp]
@[go_sem ↓, go_sem] theorem ev_argN_lst {l : List V} : argN H m (.lst l) kA = kA (.lst l) [] := argN_pure rfl rfl (by simp) (by simp)
@[go_sem ↓, go_sem] theorem ev_argN_int {kk : IntKind} {i : Int} : argN H m (.raw (.int kk i)) kA = kA (.raw (.int kk i)) [] := argN_pure rfl rfl (by simp) (by simp)
@[go_sem ↓, go_sem] theorem ev_frzE_I {z : Int} : frzE F (.I z) kA = kA (.I z) [] := rfl
@[go_sem ↓, go_sem] theorem ev_frzE_Q {z : Rat} : frzE F (.Q z) kA = kA (.Q z) [] := rfl
@[go_sem ↓, go_sem] theorem ev_frzE_agg {l : List V} : frzE F (.agg l) kA = if (V.agg l).pure = true then kA (.agg l) [] else (V.agg l).good = true ∧ frzs F (V.agg l).atoms fun ys rs => kA (.agg ys) rs := rfl
@[go_sem ↓, go_sem] theorem ev_frzE_raw {v : Value} : frzE F (.raw v) kA = F (.raw v) kA := rfl
@[go_sem ↓, go_sem] theorem ev_frzE_lst {l : List V} : frzE F (.lst l) kA = F (.lst l) kA := rfl
@[go_sem ↓, go_sem] theorem ev_frzE_sl {b e o n : Nat} : frzE F (.sl b e o n) kA = F (.sl b e o n) kA := rfl
@[go_sem ↓, go_sem] theorem ev_frzE_ptr {b e o n : Nat} : frzE F (.ptr b e o n) kA = F (.ptr b e o n) kA := rfl
@[go_sem ↓, go_sem] theorem ev_frzE_emp : frzE F .emp kA = F .emp kA := rfl
@[go_sem ↓, go_sem] theorem ev_frzE_pel {x : V} : frzE F (.pel x) kA = F (.pel x) kA := rfl
@[go_sem ↓, go_sem] theorem ev_frzs_nil : frzs F [] kL = kL [] [] := rfl
@[go_sem ↓, go_sem] theorem ev_frzs_cons {x : V} {xs : List V} : frzs F (x :: xs) kL = F x fun y r => frzs F xs fun ys rs => kL (y :: ys) (r ++ rs) := rfl
def frzOk (L : List V) : Prop := ∀ y ∈ L, y.pure = true ∧ y ≠ .emp ∧ y ≠ .raw (.slice none 0 0)
theorem frzs_same : ∀ {L : List V} {kL : List V → List Nat → Prop}, frzOk L → frzs (frzE (argN H m)) L kL = kL L []
 | [], _, _ => rfl
 | x :: L, kL, h => by
   obtain ⟨h1, h2, h3⟩ := h x (by simp)
   have e : ∀ k, frzE (argN H m) x k = k x [] := fun k => by
    unfold frzE
    by_cases ha : x.isAgg = true
    ·rw [if_pos ha, if_pos h1]
    ·rw [if_neg ha]; exact argN_pure (by simpa using ha) h1 h2 h3
   simp only [frzs, e]
   rw [frzs_same fun y hy => h y (by simp [hy])]
   rfl
@[go_sem ↓ high, go_sem high] theorem ev_frzs_same {L : List V} (h : frzOk L) : frzs (frzE (argN H m)) L kL = kL L [] := frzs_same h
theorem frzOk_map {α : Type} {f : α → V} (h : ∀ a, (f a).pure = true ∧ f a ≠ .emp ∧ f a ≠ .raw (.slice none 0 0)) (l : List α) : frzOk (l.map f) := by
 intro y hy
 obtain ⟨a, _, rfl⟩ := List.mem_map.1 hy
 exact h a
@[go_sem] theorem frzOk_limbs (l : List Nat) : frzOk (V.limbs l) = True := eq_true (frzOk_map (fun a => ⟨rfl, by simp, by simp⟩) l)
@[go_sem ↓, go_sem] theorem ev_argA_clo {f : Fn} {a b : List V} : argA H (.clo f a b) kA = if (V.clo f a b).pure = true then kA (.clo f a b) [] else ((a.all fun x => x.atoms.all pureB) = true ∧ (b.all fun x => !x.isAgg) = true) ∧ frzs (argN H 2) b fun ys ids => (ys.all fun x => x.atoms.all pureB) = true ∧ kA (.clo f a ys) ids := rfl
end

/- lists -/
@[go_sem] theorem allWid_nil (s : Nat) : allWid [] s = True := by simp [allWid]
@[go_sem] theorem allWid_cons (x : V) (l : List V) (s : Nat) : allWid (x :: l) s = (x.wid = s ∧ allWid l s) := by simp [allWid]
@[go_sem] theorem allGood_nil : allGood [] = True := by simp [allGood]
@[go_sem] theorem allGood_cons (x : V) (l : List V) : allGood (x :: l) = (x.good = true ∧ allGood l) := by simp [allGood]
@[go_sem] theorem allPure_nil : allPure [] = True := by simp [allPure]
@[go_sem] theorem allPure_cons (x : V) (l : List V) : allPure (x :: l) = (x.pure = true ∧ allPure l) := by simp [allPure]
@[go_sem ↓, go_sem] theorem sl_all {b e o n s : Nat} : (∀ k e' o' m, V.sl b e o n = .sl k e' o' m → e' = s) = (e = s) := by
  simp only [V.sl.injEq, eq_iff_iff]
  constructor
  ·intro h; exact h b e o n ⟨rfl, rfl, rfl, rfl⟩
  ·rintro rfl k e' o' m ⟨_, rfl, _, _⟩; rfl
@[go_sem] theorem good_I (z : Int) : (V.I z).good = true := rfl
@[go_sem] theorem good_Q (q : Rat) : (V.Q q).good = true := rfl
@[go_sem] theorem good_raw_int (k : IntKind) (n : Int) : (V.raw (.int k n)).good = true := rfl
@[go_sem] theorem good_raw_bool (b : Bool) : (V.raw (.bool b)).good = true := rfl
@[go_sem] theorem good_lst (l : List V) : (V.lst l).good = true := rfl
@[go_sem] theorem wid_I (z : Int) : (V.I z).wid = 2 := rfl
@[go_sem] theorem wid_Q (q : Rat) : (V.Q q).wid = 4 := rfl
@[go_sem] theorem wid_raw (v : Value) : (V.raw v).wid = 1 := rfl
@[go_sem] theorem wid_lst (l : List V) : (V.lst l).wid = 1 := rfl
@[go_sem] theorem wid_sl (b e o n : Nat) : (V.sl b e o n).wid = 1 := rfl
@[go_sem] theorem pure_I (z : Int) : (V.I z).pure = true := rfl
@[go_sem] theorem pure_Q (q : Rat) : (V.Q q).pure = true := rfl
@[go_sem] theorem pure_raw (v : Value) : (V.raw v).pure = true := rfl
@[go_sem] theorem pure_lst (l : List V) : (V.lst l).pure = true := rfl
/- These are no unfolding, so that what follows is left alone. -/
@[go_sem] theorem ev_tmp (σ : St) (t : Tmp) : σ.ev (.tmp t) = σ.s t := Eq.trans rfl rfl
@[go_sem] theorem ev_const (σ : St) (v : Value) : σ.ev (.const v) = cst v := Eq.trans rfl rfl
@[go_sem] theorem ev_func (σ : St) (f : FuncId) : σ.ev (.func f) = .clo (.func f) [] [] := Eq.trans rfl rfl
@[go_sem] theorem upS_eq (s : Nat → V) (i : Nat) (v : V) (t : Nat) : upS s i v t = if t = i then v else s t := Eq.trans rfl rfl
@[go_sem] theorem up_eq (H : Hp) (i : Nat) (x : Option Blk) (t : Nat) : Hp.up H i x t = if t = i then x else H t := Eq.trans rfl rfl
@[go_sem] theorem bnd_none (d : Int) : bnd none d = some d := Eq.trans rfl rfl
@[go_sem] theorem bnd_some (d i : Int) (kk : IntKind) : bnd (some (.raw (.int kk i))) d = some i := Eq.trans rfl rfl
attribute [go_sem] St.put.eq_1 St.put.eq_2 Hp.puts.eq_1 Hp.puts.eq_2 cst.eq_1 V.good.eq_1 V.wid.eq_1 V.atoms.eq_1 V.atoms.eq_2 V.atoms.eq_3 V.atoms.eq_4 V.atoms.eq_5 V.atoms.eq_6 V.atoms.eq_7 V.atoms.eq_8 V.atoms.eq_9 V.atoms.eq_10 V.atoms.eq_11 V.atoms.eq_12
 V.atomsL.eq_1 V.atomsL.eq_2 V.atomsI.eq_1 V.sub.eq_1 V.subF.eq_1 V.subF.eq_2 pickL.eq_1 pickL.eq_2 V.put.eq_1 V.putF.eq_1 V.putF.eq_2 putL.eq_1 putL.eq_2 aElems.eq_2 aElems.eq_3 aElems.eq_4 V.asAgg.eq_1 cvI.eq_1 cvI.eq_2 cvI.eq_3
 V.kids.eq_1 V.kids.eq_2 V.kids.eq_3 V.isAgg.eq_1 V.isAgg.eq_2 V.isAgg.eq_3 V.pure.eq_1 st0.eq_1 argS.eq_1 argS.eq_2
@[go_sem] theorem cvI_i64 (a : Int) : cvI .i64 a = IntKind.i64.wrap a := rfl
@[go_sem] theorem cst_int (k : IntKind) (n : Int) : cst (.int k n) = .raw (.int k n) := rfl
@[go_sem] theorem cst_bool (b : Bool) : cst (.bool b) = .raw (.bool b) := rfl
@[go_sem] theorem cst_str (b : ByteArray) : cst (.string b) = .raw (.string b) := rfl
@[go_sem] theorem cst_slice : cst (.slice none 0 0) = .raw (.slice none 0 0) := rfl
@[go_sem] theorem cst_ptr : cst (.pointer none) = .raw (.pointer none) := rfl
@[go_sem] theorem cst_nilFunc : cst .nilFunc = .raw .nilFunc := rfl
@[go_sem] theorem cst_tuple (vs : Array Value) : cst (.tuple vs) = .raw (.tuple vs) := rfl
@[go_sem] theorem isAgg_raw (v : Value) : (V.raw v).isAgg = false := rfl
@[go_sem] theorem isAgg_lst (l : List V) : (V.lst l).isAgg = false := rfl
@[go_sem] theorem isAgg_sl (k e o n : Nat) : (V.sl k e o n).isAgg = false := rfl
@[go_sem] theorem isAgg_ptr (k e o n : Nat) : (V.ptr k e o n).isAgg = false := rfl
@[go_sem] theorem isAgg_pel (x : V) : (V.pel x).isAgg = false := rfl
@[go_sem] theorem isAgg_clo (f : Fn) (a b : List V) : (V.clo f a b).isAgg = false := rfl
@[go_sem] theorem isAgg_emp : V.emp.isAgg = false := rfl
@[go_sem] theorem isAgg_any : V.any.isAgg = false := rfl
@[go_sem] theorem isAgg_tup (l : List V) : (V.tup l).isAgg = false := rfl
@[go_sem] theorem kids_raw (v : Value) : (V.raw v).kids = [.raw v] := rfl
@[go_sem] theorem kids_lst (l : List V) : (V.lst l).kids = [.lst l] := rfl
@[go_sem] theorem kids_sl (k e o n : Nat) : (V.sl k e o n).kids = [.sl k e o n] := rfl
@[go_sem] theorem kids_ptr (k e o n : Nat) : (V.ptr k e o n).kids = [.ptr k e o n] := rfl
@[go_sem] theorem kids_pel (x : V) : (V.pel x).kids = [.pel x] := rfl
@[go_sem] theorem kids_clo (f : Fn) (a b : List V) : (V.clo f a b).kids = [.clo f a b] := rfl
@[go_sem] theorem kids_emp : V.emp.kids = [.emp] := rfl
@[go_sem] theorem kids_any : V.any.kids = [.any] := rfl
@[go_sem] theorem elems_sl (H : Hp) (k e o n : Nat) : aElems H (.sl k e o n) = (H k).bind fun x => if x.e = e ∧ o + n ≤ x.l.length then some ((x.l.drop o).take n, [k]) else none := by
  rw [aElems.eq_1]; cases H k <;> rfl
@[go_sem] theorem ldV_eq (P : Program) (t : TypeId) (x : V) (off : Nat) : ldV P t x off = (tySize P t).bind fun s => (tyAgg P t).bind fun g => if g = true then (if off + s ≤ x.wid then some (x.sub off s) else none) else (x.atoms[off]?).bind fun y => if okStore y = true then some y else none := by
  unfold ldV
  cases tySize P t with
  | none => rfl
  | some s =>
    cases tyAgg P t with
    | none => rfl
    | some g =>
      cases g
      ·simp only [Option.bind_some]
       cases x.atoms[off]? <;> rfl
      ·rfl
@[go_sem] theorem okStore_lst (l : List V) : okStore (.lst l) = true := rfl
@[go_sem] theorem okStore_sl (k e o n : Nat) : okStore (.sl k e o n) = true := rfl
@[go_sem] theorem okStore_ptr (k e o n : Nat) : okStore (.ptr k e o n) = true := rfl
@[go_sem] theorem okStore_int (k : IntKind) (n : Int) : okStore (.raw (.int k n)) = true := rfl
@[go_sem] theorem okStore_bool (b : Bool) : okStore (.raw (.bool b)) = true := rfl
@[go_sem] theorem okStore_str (b : ByteArray) : okStore (.raw (.string b)) = true := rfl
@[go_sem] theorem okStore_nil : okStore (.raw (.slice none 0 0)) = true := rfl
attribute [go_sem] dstOk okStore V.plain pureB pureA V.scalar scalarA V.noTup OutsL Outs atLe atsLe
attribute [go_sem]
 Option.getD_some Option.getD_none List.getElem?_cons_zero List.getElem?_cons_succ List.getElem?_nil Option.bind_some Option.bind_none List.map_cons List.map_nil List.all_cons List.all_nil
 List.cons_append List.nil_append List.append_nil Bool.and_true Bool.true_and true_and and_true and_self List.length_cons List.length_nil
 List.drop_zero List.drop_succ_cons List.drop_nil List.take_zero List.take_succ_cons List.take_nil List.set_cons_zero List.set_cons_succ
 forall_const ne_eq not_true_eq_false not_false_eq_true Option.map_some Option.map_none Option.isNone_none Option.isNone_some Option.isSome_some Option.isSome_none
 Bool.not_true Bool.not_false reduceCtorEq false_and and_false Bool.false_eq_true if_true if_false List.reverse_cons List.reverse_nil List.getElem?_toArray
 exists_eq' exists_eq_left exists_const Option.some.injEq List.replicate_zero true_or or_true false_or or_false
attribute [go_sem] false_implies true_implies true_and and_true implies_true Nat.sub_zero Int.cast_ofNat_Int decide_true decide_false Nat.add_zero Nat.zero_add Nat.zero_mul Nat.one_mul Nat.mul_one Nat.lt_add_one Nat.le_refl Nat.zero_le Nat.one_ne_zero Nat.succ_ne_zero Nat.zero_ne_one Nat.add_one_ne_zero Nat.ne_add_one
end Go.Proofs.YtfbogelmgdojgaaGreat

