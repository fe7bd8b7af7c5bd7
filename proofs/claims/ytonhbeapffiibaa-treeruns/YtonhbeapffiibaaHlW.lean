/-
  HL, part W: the rules by which a walk goes on: calls inside a region; regions that draw their order and write nothing.
-/
import Derived.Test.YtonhbeapffiibaaHlV
import Derived.IntWalk
namespace Go.HL

section
variable {X : PG} {C : Cx} {ops : Array Oper} {e : Env} {h : Hp}

/-- A region with a call: its operations ahead of the call. -/
theorem WP.regionC {id : Nat} {Q : Exit → Env → Hp → Prop} {e' : Env} {h' : Hp} (k : Nat) (hs : evalS X C ops (ops.toList.take k) (some (e, h)) = some (e', h')) (hc : opsT X C ops (fun e h => Q .normal e h) (ops.toList.drop k) e' h') : WP X C (.region id ops false) Q e h :=
  WP.region (by have := opsT.run (Q := fun e h => Q .normal e h) _ _ hs hc; rwa [List.take_append_drop] at this)

theorem opsT.fin {Q : Env → Hp → Prop} {l : List Oper} {e' : Env} {h' : Hp} (hs : evalS X C ops l (some (e, h)) = some (e', h')) (hq : Q e' h') : opsT X C ops Q l e h := by
  have := opsT.run (Q := Q) l [] hs hq
  rwa [List.append_nil] at this

theorem opsT.more {Q : Env → Hp → Prop} {l : List Oper} {e' : Env} {h' : Hp} (k : Nat) (hs : evalS X C ops (l.take k) (some (e, h)) = some (e', h')) (hc : opsT X C ops Q (l.drop k) e' h') : opsT X C ops Q l e h := by
  have := opsT.run (Q := Q) _ _ hs hc
  rwa [List.take_append_drop] at this

/-- A call by a contract that tells the result; the arguments bear no own references. -/
theorem CallsP.goI [PG.Flat X] {i : Inv} {f : FuncId} {args : List HV} {R : HV → Prop} {k : HV → Hp → Prop} (hP : CallsP X f args R) (hfr : HV.freeL args = true) (hk : ∀ r, R r → k r h) : CallsH (X.withI i) f args h k := by
  refine hP.callI [] 0 (rdL_free 0 args hfr) fun r hr => ?_
  rw [goneF_nil]
  exact hk r hr

theorem CallsP.go [PG.Flat X] {f : FuncId} {args : List HV} {R : HV → Prop} {k : HV → Hp → Prop} (hP : CallsP X f args R) (hfr : HV.freeL args = true) (hk : ∀ r, R r → k r h) : CallsH X f args h k := hP.goI (i := X.i) hfr hk

theorem CallsP.eqI [PG.Flat X] {i : Inv} {f : FuncId} {args : List HV} {v : HV} {k : HV → Hp → Prop} (hP : CallsP X f args (fun r => r = v)) (hfr : HV.freeL args = true) (hk : k v h) : CallsH (X.withI i) f args h k :=
  hP.goI hfr fun r hr => by rw [hr]; exact hk

theorem CallsP.eq [PG.Flat X] {f : FuncId} {args : List HV} {v : HV} {k : HV → Hp → Prop} (hP : CallsP X f args (fun r => r = v)) (hfr : HV.freeL args = true) (hk : k v h) : CallsH X f args h k :=
  hP.go hfr fun r hr => by rw [hr]; exact hk

/-- Operations that hand back a value and neither write nor make anything. -/
def Op.plain (own : Bool) : Op → Bool
  | .move _ | .assign _ | .pick _ _ _ | .load _ _ | .binOp _ _ _ _ _ | .unOp _ _ _ | .convert _ _ _ | .makeFunc _ _ _ | .slice _ _ _ _ _ | .fieldAddr _ _ _ | .field _ _ _ | .indexAddr _ _ _ | .index _ _ _ | .extract _ _ | .build _ _ | .nilCheck _ | .lookup _ _ _ _ | .entry _ => true
  | .buildSlice _ _ _ => !own
  | .call c => match c.callee with | .builtin .len | .builtin .min | .builtin .max => true | _ => false
  | _ => false

theorem opE_plain {own : Bool} {ρ : Operand → HV} {nid : Nat} {o : Op} {r : ER} (hp : Op.plain own o = true) (hr : opE X own ρ h nid o = some r) : r.ws = [] ∧ r.ns = [] := by
  have opt : ∀ {z : Option HV}, z.map (fun x => ({ x := x } : ER)) = some r → r.ws = [] ∧ r.ns = [] := fun hz => by
    obtain ⟨x, _, rfl⟩ := Option.map_eq_some_iff.1 hz
    exact ⟨rfl, rfl⟩
  cases o with
  | buildSlice t len parts =>
    simp only [Op.plain, Bool.not_eq_true'] at hp
    subst hp
    simp only [opE, buildSliceH] at hr
    split at hr
    · cases hr
    · split at hr
      · split at hr
        · split at hr
          · cases hr
          · simp only [Bool.false_eq_true, if_false, Option.some.injEq] at hr
            subst hr
            exact ⟨rfl, rfl⟩
        · cases hr
      · cases hr
  | lookup t x k ok => exact opt hr
  | entry it => exact opt hr
  | call c =>
    simp only [Op.plain] at hp
    simp only [opE] at hr
    split at hr
    · rename_i hc _ _; simp [hc] at hp
    · rename_i hc _ _; simp [hc] at hp
    · exact opt hr
  | box t x => simp [Op.plain] at hp
  | alloc t => simp [Op.plain] at hp
  | store t a x => simp [Op.plain] at hp
  | makeSlice t l c => simp [Op.plain] at hp
  | makeMap t r' => simp [Op.plain] at hp
  | mapUpdate t m k x => simp [Op.plain] at hp
  | insert t m k x => simp [Op.plain] at hp
  | range t x => simp [Op.plain] at hp
  | next it b => simp [Op.plain] at hp
  | _ => simp only [opE] at hr; exact opt hr

/-- The operations of a region that draws its order and writes nothing. -/
def opsV (X : PG) (C : Cx) (ops : Array Oper) (Q : Env → Hp → Prop) : List Oper → Env → Hp → Prop
  | [], e, h => Q e h
  | o :: rest, e, h =>
    match wantH e ops o with
    | some true => stepD X (C.own.contains o.pos) e h h.length (fun r => r.ws = [] ∧ r.ns = [] ∧ opsV X C ops Q rest (putE C.N e o.dst r.x) h) o.op
    | some false => opsV X C ops Q rest (putE C.N e o.dst (.tup [])) h
    | none => False

theorem mask_nil (h : Hp) : mask [] h = h := rfl

theorem dmask_nil {U : List Nat} {i : Nat} {nw : List (List Nat)} (hn : ∀ x ∈ nw, x = []) : dmask U i [] nw = [] := by
  unfold dmask
  rw [List.flatMap_eq_nil_iff]
  intro j _
  split
  · cases hj : nw[j]? with
    | none => simp [List.getD, hj]
    | some x => simp [List.getD, hj, hn x (List.mem_of_getElem? hj)]
  · simp

theorem stepD_mono {own : Bool} {nid : Nat} {k k' : ER → Prop} {o : Op} (hs : stepD X own e h nid k o) (hk : ∀ r, k r → k' r) : stepD X own e h nid k' o := by
  have eff : ∀ op, (match opE X own (ev X e) h nid op with | some r => k r | none => False) → (match opE X own (ev X e) h nid op with | some r => k' r | none => False) := fun op hm => by
    split at hm
    · exact hk _ hm
    · exact hm.elim
  cases o with
  | call c =>
    simp only [stepD] at hs ⊢
    cases hc : c.callee with
    | value f =>
      rw [hc] at hs
      simp only at hs ⊢
      split at hs
      · rename_i g fs cs hf
        obtain ⟨h1, x, ws, h2, h3⟩ := hs
        exact ⟨h1, x, ws, h2, hk _ h3⟩
      · exact hs.elim
    | builtin b => rw [hc] at hs; exact eff _ hs
    | invoke r n => rw [hc] at hs; exact eff _ hs
  | _ =>
    simp only [stepD] at hs ⊢
    split at hs
    · exact hk _ hs
    · exact hs.elim

theorem opsV_D {A : List (List Nat)} {Q : Env → Hp → Prop} : ∀ (l : List Oper) (e : Env) (i : Nat) (nw : List (List Nat)), (∀ x ∈ nw, x = []) → opsV X C ops Q l e h → opsD X C ops A [] Q l i nw e h
  | [], e, i, nw, _, hq => hq
  | o :: rest, e, i, nw, hn, hq => by
    simp only [opsV] at hq
    simp only [opsD]
    rw [dmask_nil hn, mask_nil]
    have hn' : ∀ x ∈ nw ++ [[]], x = [] := fun x hx => by
      rcases List.mem_append.1 hx with hx | hx
      · exact hn x hx
      · simpa using hx
    split at hq
    · rename_i hw
      rw [hw]
      refine stepD_mono hq fun r hr => ?_
      obtain ⟨h1, h2, h3⟩ := hr
      rw [h1, h2]
      refine ⟨rfl, ?_⟩
      have : newIds h.length r = [] := by simp [newIds, h1, h2]
      rw [this]
      simpa [setAll] using opsV_D rest _ (i + 1) _ hn' h3
    · rename_i hw
      rw [hw]
      exact opsV_D rest _ (i + 1) _ hn' hq
    · exact hq.elim

/-- A region that draws its order and writes nothing. -/
theorem WP.regionV {id : Nat} {Q : Exit → Env → Hp → Prop} (hm : X.P.follows .mixedOrders = true) (A : List (List Nat)) (hok : okD ops A = true) (hs : opsV X C ops (fun e h => Q .normal e h) ops.toList e h) : WP X C (.region id ops true) Q e h :=
  WP.regionD hm A [] hok (opsV_D _ _ 0 [] (fun x hx => by cases hx) hs)

theorem WP.regionV0 {id : Nat} {Q : Exit → Env → Hp → Prop} (hm : X.P.follows .mixedOrders = true) (hok : okD ops (ancT [] ops.toList) = true) (hs : opsV X C ops (fun e h => Q .normal e h) ops.toList e h) : WP X C (.region id ops true) Q e h :=
  WP.regionV hm _ hok hs

theorem stepD_of {own : Bool} {nid : Nat} {k : ER → Prop} {o : Op} {r : ER} (hr : opE X own (ev X e) h nid o = some r) (hk : k r) : stepD X own e h nid k o := by
  cases o with
  | call c =>
    simp only [stepD]
    cases hc : c.callee with
    | value f =>
      obtain ⟨callee, args, argTypes⟩ := c
      simp only at hc
      subst hc
      simp [opE, opV] at hr
    | builtin b => simp only [hr]; exact hk
    | invoke x n => simp only [hr]; exact hk
  | _ => simp only [stepD, hr]; exact hk

theorem opsV.run {Q : Env → Hp → Prop} : ∀ (l1 l2 : List Oper) {e : Env} {e' : Env} {h' : Hp}, (l1.all fun o => Op.plain (C.own.contains o.pos) o.op) = true → evalS X C ops l1 (some (e, h)) = some (e', h') → opsV X C ops Q l2 e' h → opsV X C ops Q (l1 ++ l2) e h
  | [], l2, e, e', h', _, he, hq => by
    simp only [evalS, Option.some.injEq, Prod.mk.injEq] at he
    obtain ⟨rfl, rfl⟩ := he
    exact hq
  | o :: rest, l2, e, e', h', hp, he, hq => by
    simp only [List.all_cons, Bool.and_eq_true] at hp
    rw [evalS] at he
    rw [List.cons_append, opsV]
    unfold step1 at he
    simp only at he
    split at he
    · rename_i hw
      rw [hw]
      simp only
      cases hr : opE X (C.own.contains o.pos) (ev X e) h h.length o.op with
      | none => rw [hr, Option.map_none, evalS_none] at he; cases he
      | some r =>
        rw [hr, Option.map_some] at he
        obtain ⟨h1, h2⟩ := opE_plain hp.1 hr
        refine stepD_of hr ⟨h1, h2, ?_⟩
        rw [h1, h2] at he
        simp only [setAll, List.append_nil] at he
        exact opsV.run rest l2 hp.2 he hq
    · rename_i hw
      rw [hw]
      exact opsV.run rest l2 hp.2 he hq
    · rw [evalS_none] at he; cases he

theorem opsV.fin {Q : Env → Hp → Prop} {l : List Oper} {e' : Env} {h' : Hp} (hp : (l.all fun o => Op.plain (C.own.contains o.pos) o.op) = true) (hs : evalS X C ops l (some (e, h)) = some (e', h')) (hq : Q e' h) : opsV X C ops Q l e h := by
  have := opsV.run (Q := Q) l [] hp hs hq
  rwa [List.append_nil] at this

theorem opsV.more {Q : Env → Hp → Prop} {l : List Oper} {e' : Env} {h' : Hp} (k : Nat) (hp : ((l.take k).all fun o => Op.plain (C.own.contains o.pos) o.op) = true) (hs : evalS X C ops (l.take k) (some (e, h)) = some (e', h')) (hc : opsV X C ops Q (l.drop k) e' h) : opsV X C ops Q l e h := by
  have := opsV.run (Q := Q) _ _ hp hs hc
  rwa [List.take_append_drop] at this

/-- A call by a pure contract in a region that draws its order. -/
theorem opsV.call [PG.Flat X] {Q : Env → Hp → Prop} {rest : List Oper} {dst : Option Tmp} {f : Operand} {args : Array Operand} {ts : Array TypeId} {ty : TypeId} {pos : String} {after : Array Edge} {g : FuncId} {fs cs : List HV} {xs : List HV} {v : HV} (hf : ev X e f = .fn (.func g) fs cs) (hen : entersH X.P g = true)
    (hx : fs ++ args.toList.map (ev X e) ++ cs = xs) (hP : CallsP X g xs (fun r => r = v)) (hfr : HV.freeL xs = true) (hq : opsV X C ops Q rest (putE C.N e dst v) h) : opsV X C ops Q (⟨dst, .call ⟨.value f, args, ts⟩, ty, pos, after, none⟩ :: rest) e h := by
  subst hx
  simp only [opsV, wantH, stepD, hf]
  exact ⟨hen, v, [], fun h' _ => hP.eq hfr ⟨rfl, rfl⟩, rfl, trivial, hq⟩

/-- The same, the guard known. -/
theorem opsV.callG [PG.Flat X] {Q : Env → Hp → Prop} {rest : List Oper} {dst : Option Tmp} {f : Operand} {args : Array Operand} {ts : Array TypeId} {ty : TypeId} {pos : String} {after : Array Edge} {j : Nat} {want : Bool} {g : FuncId} {fs cs : List HV} {xs : List HV} {v : HV} (hw : wantS ((ops[j]?).bind (·.dst)) want e = some true) (hf : ev X e f = .fn (.func g) fs cs) (hen : entersH X.P g = true)
    (hx : fs ++ args.toList.map (ev X e) ++ cs = xs) (hP : CallsP X g xs (fun r => r = v)) (hfr : HV.freeL xs = true) (hq : opsV X C ops Q rest (putE C.N e dst v) h) : opsV X C ops Q (⟨dst, .call ⟨.value f, args, ts⟩, ty, pos, after, some (j, want)⟩ :: rest) e h := by
  subst hx
  have hw' : wantH e ops ⟨dst, .call ⟨.value f, args, ts⟩, ty, pos, after, some (j, want)⟩ = some true := hw
  simp only [opsV, hw', stepD, hf]
  exact ⟨hen, v, [], fun h' _ => hP.eq hfr ⟨rfl, rfl⟩, rfl, trivial, hq⟩

theorem opsT.callG {Q : Env → Hp → Prop} {rest : List Oper} {dst : Option Tmp} {f : Operand} {args : Array Operand} {ts : Array TypeId} {ty : TypeId} {pos : String} {after : Array Edge} {j : Nat} {want : Bool} {g : FuncId} {fs cs : List HV} {xs : List HV} (hw : wantS ((ops[j]?).bind (·.dst)) want e = some true) (hf : ev X e f = .fn (.func g) fs cs) (hen : entersH X.P g = true)
    (hx : fs ++ args.toList.map (ev X e) ++ cs = xs) (hc : CallsH X g xs h fun x h' => opsT X C ops Q rest (putE C.N e dst x) h') : opsT X C ops Q (⟨dst, .call ⟨.value f, args, ts⟩, ty, pos, after, some (j, want)⟩ :: rest) e h := by
  subst hx
  have hw' : wantH e ops ⟨dst, .call ⟨.value f, args, ts⟩, ty, pos, after, some (j, want)⟩ = some true := hw
  simp only [opsT, hw', stepT, hf]
  exact ⟨hen, hc⟩

/-- At the end of a pure function. -/
theorem fnPost_pure {P : Program} {fn : Func} {R : HV → Prop} {ex : Exit} {r y : HV} (n : Nat) (hex : ex = .ret ∨ ex = .normal) (hr : resH P fn e h = some r) (hy : rdV h n r = some y) (hR : R y) : fnPost P fn (fun r h' => ∃ n y, rdV h' n r = some y ∧ R y) ex e h := by
  rcases hex with rfl | rfl
  · exact ⟨r, hr, n, y, hy, hR⟩
  · exact ⟨r, hr, n, y, hy, hR⟩

end
/-- A slice of which it is not said any more that it is full. -/
def wk1 : HV → HV
  | .sl _ es => .sl false es
  | x => x

def wkV : HV → HV
  | .tup xs => .tup (xs.map wk1)
  | .agg xs => .agg (xs.map wk1)
  | x => wk1 x

theorem RV.wk1 {K : KS} {x : HV} {v : Value} (hr : RV K x v) : RV K (wk1 x) v := by
  cases hr with
  | sl0 full a cap h1 h2 h3 => exact .sl0 false a cap h1 (fun h => by cases h) h3
  | sl full es k b off cap cv h0 h1 h2 h3 hb hL hk hc hr => exact .sl false es k b off cap cv h0 h1 (fun h => by cases h) h3 hb hL hk hc hr
  | ow id lo len hA h0 h1 h2 => exact .ow id lo len hA h0 h1 h2
  | ow0 id a hA h0 => exact .ow0 id a hA h0
  | bool b => exact .bool b
  | int k n => exact .int k n
  | str s => exact .str s
  | nul v h => exact .nul v h
  | ip cs b off cv hb hL hc hr => exact .ip cs b off cv hb hL hc hr
  | ep id i off hA => exact .ep id i off hA
  | mp id hA => exact .mp id hA
  | it id hA => exact .it id hA
  | fn f fs cs vs us h1 h2 hf hc => exact .fn f fs cs vs us h1 h2 hf hc
  | agg cs vs h1 hr => exact .agg cs vs h1 hr
  | tup cs vs h1 hr => exact .tup cs vs h1 hr
  | und v => exact .und v

theorem RV.wkV {K : KS} {x : HV} {v : Value} (hr : RV K x v) : RV K (wkV x) v := by
  cases x with
  | tup xs =>
    cases hr with
    | tup cs vs h1 hr => exact .tup _ _ (by simpa using h1) (fun i hi => by simp at hi ⊢; exact (hr i hi).wk1)
  | agg xs =>
    cases hr with
    | agg cs vs h1 hr => exact .agg _ _ (by simpa using h1) (fun i hi => by simp at hi ⊢; exact (hr i hi).wk1)
  | _ => exact hr.wk1

section
variable {X : PG} {C : Cx} {ops : Array Oper} {e : Env} {h : Hp}

/-- A pure contract whose results are told without saying which slices are full. -/
theorem CallsP.of_wpW [PG.Flat X] {f : FuncId} {fn : Func} {c : Code} {args : List HV} {R : HV → Prop} (own : List String) (N : Nat) (hf : X.P.funcs[f]? = some fn) (hb : fn.body = some c) (hN : args.length + (fn.ntmps - args.length) = N)
    (hc : WP X { N := N, own := own } c (fnPost X.P fn fun r h' => ∃ n y, rdV h' n r = some y ∧ R (HL.wkV y)) (argEnv N args) []) : CallsP X f args R := by
  have h1 : CallsP X f args (fun r => R (HL.wkV r)) := CallsP.of_wpN own N hf hb hN hc
  intro K vs ha hh
  refine (h1 K vs ha hh).mono fun en w' hp => ?_
  obtain ⟨v, K', r, h', e1, e2, x, hh', hrv, hR, e3⟩ := hp
  exact ⟨v, K', HL.wkV r, h', e1, e2, x, hh', hrv.wkV, hR, e3⟩

/-- A region, and what is kept of it. -/
theorem WP.regionJ {id : Nat} {Q : Exit → Env → Hp → Prop} (J : Env → Hp → Prop) (hs : ∃ e' h', evalS X C ops ops.toList (some (e, h)) = some (e', h') ∧ J e' h') (hq : ∀ e' h', J e' h' → Q .normal e' h') : WP X C (.region id ops false) Q e h := by
  obtain ⟨e', h', h1, h2⟩ := hs
  exact WP.regionE h1 (hq e' h' h2)

end

attribute [go_sem] HL.wkV HL.wk1 decide_true decide_false List.take_succ_cons List.take_zero List.drop_succ_cons

attribute [go_sem] resH resList rdV rdL rdLL HV.free HV.freeL HV.freeLL Bool.and_true Bool.true_and Bool.and_self HV.toInt

end Go.HL

