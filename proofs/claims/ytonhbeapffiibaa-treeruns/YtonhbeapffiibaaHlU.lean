/-
  HL, part U: operations carried out one by one, as a state; the laws by which they are reckoned.
-/
import Derived.Test.YtonhbeapffiibaaHlT
namespace Go.HL

/-- One operation that leaves nothing open. -/
def step1 (X : PG) (C : Cx) (ops : Array Oper) (o : Oper) (s : Option (Env × Hp)) : Option (Env × Hp) :=
  match s with
  | none => none
  | some (e, h) =>
    match wantH e ops o with
    | some true => (opE X (C.own.contains o.pos) (ev X e) h h.length o.op).map fun r => (putE C.N e o.dst r.x, setAll (h ++ r.ns) r.ws)
    | some false => some (putE C.N e o.dst (.tup []), h)
    | none => none

def evalS (X : PG) (C : Cx) (ops : Array Oper) : List Oper → Option (Env × Hp) → Option (Env × Hp)
  | [], s => s
  | o :: rest, s => evalS X C ops rest (step1 X C ops o s)

section
variable {X : PG} {C : Cx} {ops : Array Oper} {e : Env} {h : Hp}

theorem evalS_none : ∀ l, evalS X C ops l none = none
  | [] => rfl
  | _ :: rest => by rw [evalS]; exact evalS_none rest

def Op.calls : Op → Bool
  | .call c => match c.callee with | .value _ => true | _ => false
  | .next _ false => true
  | _ => false

theorem stepT_of {own : Bool} {k : HV → Hp → Prop} {o : Op} {r : ER} (hr : opE X own (ev X e) h h.length o = some r) (hk : k r.x (setAll (h ++ r.ns) r.ws)) : stepT X own e h k o := by
  cases o with
  | call c =>
    simp only [stepT]
    cases hc : c.callee with
    | value f =>
      obtain ⟨callee, args, argTypes⟩ := c
      simp only at hc
      subst hc
      simp [opE, opV] at hr
    | builtin b => simp only [hr]; exact hk
    | invoke x n => simp only [hr]; exact hk
  | next it b =>
    cases b with
    | true => simp only [stepT, hr]; exact hk
    | false =>
      simp only [opE, nextH] at hr
      simp only [stepT]
      split at hr
      · rename_i id hit
        rw [hit]
        simp only
        split at hr
        · rename_i hb; cases hb
        · rename_i hi _
          injection hr with hr; subst hr
          rw [hi]
          simpa [setAll] using hk
        · cases hr
      · cases hr
  | _ => simp only [stepT, hr]; exact hk

/-- The operations of a region, as far as nothing is open. -/
theorem opsT.run {Q : Env → Hp → Prop} : ∀ (l1 l2 : List Oper) {e : Env} {h : Hp} {e' : Env} {h' : Hp}, evalS X C ops l1 (some (e, h)) = some (e', h') → opsT X C ops Q l2 e' h' → opsT X C ops Q (l1 ++ l2) e h
  | [], l2, e, h, e', h', he, hq => by
    simp only [evalS, Option.some.injEq, Prod.mk.injEq] at he
    obtain ⟨rfl, rfl⟩ := he
    exact hq
  | o :: rest, l2, e, h, e', h', he, hq => by
    rw [evalS] at he
    rw [List.cons_append, opsT]
    unfold step1 at he
    simp only at he
    split at he
    · rename_i hw
      rw [hw]
      simp only
      cases hr : opE X (C.own.contains o.pos) (ev X e) h h.length o.op with
      | none => rw [hr, Option.map_none, evalS_none] at he; cases he
      | some r =>
        rw [hr, Option.map_some] at he
        exact stepT_of hr (opsT.run rest l2 he hq)
    · rename_i hw
      rw [hw]
      exact opsT.run rest l2 he hq
    · rw [evalS_none] at he; cases he

/-- A region in which nothing is open. -/
theorem WP.regionE {id : Nat} {Q : Exit → Env → Hp → Prop} {e' : Env} {h' : Hp} (hs : evalS X C ops ops.toList (some (e, h)) = some (e', h')) (hq : Q .normal e' h') : WP X C (.region id ops false) Q e h :=
  WP.region (by have := opsT.run (Q := fun e h => Q .normal e h) ops.toList [] hs hq; rwa [List.append_nil] at this)

/-- A call. -/
theorem opsT.call {Q : Env → Hp → Prop} {rest : List Oper} {dst : Option Tmp} {f : Operand} {args : Array Operand} {ts : Array TypeId} {ty : TypeId} {pos : String} {after : Array Edge} {g : FuncId} {fs cs : List HV} {xs : List HV} (hf : ev X e f = .fn (.func g) fs cs) (hen : entersH X.P g = true)
    (hx : fs ++ args.toList.map (ev X e) ++ cs = xs) (hc : CallsH X g xs h fun x h' => opsT X C ops Q rest (putE C.N e dst x) h') : opsT X C ops Q (⟨dst, .call ⟨.value f, args, ts⟩, ty, pos, after, none⟩ :: rest) e h := by
  subst hx
  simp only [opsT, wantH, stepT, hf]
  exact ⟨hen, hc⟩

end

/-! The laws by which a region is reckoned. -/
section
variable {X : PG} {C : Cx} {ops : Array Oper} {e : Env} {h : Hp} {rest : List Oper} {d : Option Tmp} {ty : TypeId} {pos : String} {af : Array Edge}

theorem evalS_nil {s : Option (Env × Hp)} : evalS X C ops [] s = s := rfl
theorem evalS_cons {o : Oper} {s : Option (Env × Hp)} : evalS X C ops (o :: rest) s = evalS X C ops rest (step1 X C ops o s) := rfl

/-- One operation, its guard known. -/
def step2 (X : PG) (C : Cx) (w : Option Bool) (d : Option Tmp) (pos : String) (op : Op) (e : Env) (h : Hp) : Option (Env × Hp) :=
  match w with
  | some true => (opE X (C.own.contains pos) (ev X e) h h.length op).map fun r => (putE C.N e d r.x, setAll (h ++ r.ns) r.ws)
  | some false => some (putE C.N e d (.tup []), h)
  | none => none

def wantS (t : Option Tmp) (want : Bool) (e : Env) : Option Bool :=
  match t with
  | some t => match e t with | .bool b => some (b == want) | .tup [] => some false | _ => none
  | none => none

theorem step1_plain {op : Op} : step1 X C ops ⟨d, op, ty, pos, af, none⟩ (some (e, h)) = step2 X C (some true) d pos op e h := rfl
theorem step1_guard {op : Op} {j : Nat} {want : Bool} : step1 X C ops ⟨d, op, ty, pos, af, some (j, want)⟩ (some (e, h)) = step2 X C (wantS ((ops[j]?).bind (·.dst)) want e) d pos op e h := rfl
theorem step2_false {op : Op} : step2 X C (some false) d pos op e h = some (putE C.N e d (.tup []), h) := rfl

def optV (N : Nat) (e : Env) (h : Hp) (d : Option Tmp) (x : Option HV) : Option (Env × Hp) := x.map fun x => (putE N e d x, h)
theorem optV_some {N : Nat} {x : HV} : optV N e h d (some x) = some (putE N e d x, h) := rfl

theorem step2_val {op : Op} (hop : ∀ own ρ nid, opE X own ρ h nid op = (opV X ρ h op).map fun x => { x := x }) : step2 X C (some true) d pos op e h = optV C.N e h d (opV X (ev X e) h op) := by
  simp only [step2, hop, Option.map_map, optV]
  congr 1
  funext x
  simp [setAll]

theorem step2_move {x : Operand} : step2 X C (some true) d pos (.move x) e h = some (putE C.N e d (ev X e x), h) := step2_val (op := .move x) fun _ _ _ => rfl
theorem step2_assign {x : Operand} : step2 X C (some true) d pos (.assign x) e h = some (putE C.N e d (ev X e x), h) := step2_val (op := .assign x) fun _ _ _ => rfl

def pickH : HV → HV → HV → Option HV
  | .bool t, a, b => some (if t then a else b)
  | _, _, _ => none
theorem step2_pick {c a b : Operand} : step2 X C (some true) d pos (.pick c a b) e h = optV C.N e h d (pickH (ev X e c) (ev X e a) (ev X e b)) := by
  rw [step2_val (fun _ _ _ => rfl)]
  congr 1
  simp only [opV]
  cases ev X e c <;> rfl
theorem pickH_bool {t : Bool} {a b : HV} : pickH (.bool t) a b = some (if t then a else b) := rfl

theorem step2_load {t : TypeId} {a : Operand} : step2 X C (some true) d pos (.load t a) e h = optV C.N e h d (loadH X.P h t (ev X e a)) := step2_val (op := .load t a) fun _ _ _ => rfl
theorem step2_binOp {op : BinOp} {t t' : TypeId} {x y : Operand} : step2 X C (some true) d pos (.binOp op t x y t') e h = optV C.N e h d (orV (binH X.P op t (ev X e x) (ev X e y)) (cmpH X.P h op t (ev X e x) y (ev X e y))) := step2_val (op := .binOp op t x y t') fun _ _ _ => rfl
theorem orV_some {x : HV} {b : Option HV} : orV (some x) b = some x := rfl
theorem orV_none {b : Option HV} : orV none b = b := rfl
theorem step2_unOp {op : UnOp} {t : TypeId} {x : Operand} : step2 X C (some true) d pos (.unOp op t x) e h = optV C.N e h d (unH op (ev X e x)) := step2_val (op := .unOp op t x) fun _ _ _ => rfl
theorem step2_convert {s t : TypeId} {x : Operand} : step2 X C (some true) d pos (.convert s t x) e h = optV C.N e h d (convH X.P s t (ev X e x)) := step2_val (op := .convert s t x) fun _ _ _ => rfl
theorem step2_makeFunc {fn : Fn} {first captured : Array Operand} : step2 X C (some true) d pos (.makeFunc fn first captured) e h = some (putE C.N e d (.fn fn (first.toList.map (ev X e)) (captured.toList.map (ev X e))), h) := step2_val (op := .makeFunc fn first captured) fun _ _ _ => rfl
theorem step2_slice {t : TypeId} {x : Operand} {lo hi mx : Option Operand} : step2 X C (some true) d pos (.slice t x lo hi mx) e h = optV C.N e h d (sliceH X.P h t (ev X e x) (lo.map (ev X e)) (hi.map (ev X e)) (mx.map (ev X e))) := step2_val (op := .slice t x lo hi mx) fun _ _ _ => rfl
theorem step2_fieldAddr {t : TypeId} {x : Operand} {f : Nat} : step2 X C (some true) d pos (.fieldAddr t x f) e h = optV C.N e h d (fieldAddrH X.P t (ev X e x) f) := step2_val (op := .fieldAddr t x f) fun _ _ _ => rfl
theorem step2_field {t : TypeId} {x : Operand} {f : Nat} : step2 X C (some true) d pos (.field t x f) e h = optV C.N e h d (fieldValH X.P t (ev X e x) f) := step2_val (op := .field t x f) fun _ _ _ => rfl
theorem step2_indexAddr {t : TypeId} {x i : Operand} : step2 X C (some true) d pos (.indexAddr t x i) e h = optV C.N e h d (indexAddrH X.P h t (ev X e x) (ev X e i)) := step2_val (op := .indexAddr t x i) fun _ _ _ => rfl
theorem step2_index {t : TypeId} {x i : Operand} : step2 X C (some true) d pos (.index t x i) e h = optV C.N e h d (indexH X.P t (ev X e x) (ev X e i)) := step2_val (op := .index t x i) fun _ _ _ => rfl
theorem step2_extract {x : Operand} {i : Nat} : step2 X C (some true) d pos (.extract x i) e h = optV C.N e h d (extractH (ev X e x) i) := step2_val (op := .extract x i) fun _ _ _ => rfl
theorem step2_build {t : TypeId} {parts : Array (Nat × Operand)} : step2 X C (some true) d pos (.build t parts) e h = optV C.N e h d (buildH X.P t (parts.toList.map fun p => (p.1, ev X e p.2))) := step2_val (op := .build t parts) fun _ _ _ => rfl

def nilH : HV → Option HV
  | .ip cs => some (.ip cs)
  | .ep id i off => some (.ep id i off)
  | .fn (.func f) a b => some (.fn (.func f) a b)
  | _ => none
theorem step2_nilCheck {x : Operand} : step2 X C (some true) d pos (.nilCheck x) e h = optV C.N e h d (nilH (ev X e x)) := by
  rw [step2_val (fun _ _ _ => rfl)]
  congr 1
theorem step2_len {x : Operand} {t : TypeId} : step2 X C (some true) d pos (.call ⟨.builtin .len, #[x], #[t]⟩) e h = optV C.N e h d (lenH X.P h t (ev X e x)) := step2_val (op := .call ⟨.builtin .len, #[x], #[t]⟩) fun _ _ _ => rfl

def optE (N : Nat) (e : Env) (h : Hp) (d : Option Tmp) (r : Option ER) : Option (Env × Hp) := r.map fun r => (putE N e d r.x, setAll (h ++ r.ns) r.ws)
theorem optE_some {N : Nat} {x : HV} {ws : List (Nat × HO)} {ns : List HO} : optE N e h d (some ⟨x, ws, ns⟩) = some (putE N e d x, setAll (h ++ ns) ws) := rfl

theorem step2_box {t : TypeId} {x : Operand} : step2 X C (some true) d pos (.box t x) e h = optE C.N e h d (boxH X.P t h.length (ev X e x)) := rfl
theorem step2_alloc {t : TypeId} : step2 X C (some true) d pos (.alloc t) e h = optE C.N e h d ((zeroH X.P t).bind fun z => boxH X.P t h.length z) := by
  simp only [step2, optE, opE]
  cases zeroH X.P t <;> rfl
theorem step2_store {t : TypeId} {a x : Operand} : step2 X C (some true) d pos (.store t a x) e h = optE C.N e h d (storeH X.P h t (ev X e a) (ev X e x)) := rfl
theorem step2_buildSlice {t : TypeId} {len : Nat} {parts : Array (Nat × Operand)} : step2 X C (some true) d pos (.buildSlice t len parts) e h = optE C.N e h d (buildSliceH X.P (C.own.contains pos) h.length t len (parts.toList.map fun p => (p.1, ev X e p.2))) := rfl
theorem step2_makeSlice {t : TypeId} {l c : Operand} : step2 X C (some true) d pos (.makeSlice t l c) e h = optE C.N e h d (makeSliceH X.P h.length t (ev X e l) (ev X e c)) := rfl
theorem step2_makeMap {t : TypeId} : step2 X C (some true) d pos (.makeMap t none) e h = some (putE C.N e d (.mp h.length), h ++ [.map [] 0]) := rfl
theorem step2_lookup {t : TypeId} {x k : Operand} {ok : Bool} : step2 X C (some true) d pos (.lookup t x k ok) e h = optV C.N e h d (lookupH X.P h t (ev X e x) (ev X e k) ok) := by
  simp only [step2, opE, Option.map_map, optV]
  congr 1
  funext x
  simp [setAll]
theorem step2_mapUpdate {t : TypeId} {m k x : Operand} : step2 X C (some true) d pos (.mapUpdate t m k x) e h = optE C.N e h d (mapUpdateH X.P h t (ev X e m) (ev X e k) (ev X e x)) := rfl
theorem step2_insert {t : TypeId} {m k x : Operand} : step2 X C (some true) d pos (.insert t m k x) e h = optE C.N e h d (mapUpdateH X.P h t (ev X e m) (ev X e k) (ev X e x)) := rfl
theorem step2_range {t : TypeId} {x : Operand} : step2 X C (some true) d pos (.range t x) e h = optE C.N e h d (rangeH X.P h h.length t (ev X e x)) := rfl
theorem step2_next {it : Operand} : step2 X C (some true) d pos (.next it true) e h = optE C.N e h d (nextH h (ev X e it) true) := rfl
theorem step2_entry {it : Operand} : step2 X C (some true) d pos (.entry it) e h = optV C.N e h d (entryH h (ev X e it)) := by
  simp only [step2, opE, Option.map_map, optV]
  congr 1
  funext x
  simp [setAll]
theorem step2_append {t : TypeId} {s y : Operand} : step2 X C (some true) d pos (.call ⟨.builtin .append, #[s, y], #[t, t]⟩) e h = optE C.N e h d (appendH X.P h h.length t (ev X e s) (ev X e y)) := by
  simp [step2, opE, optE]
theorem step2_delete {t t' : TypeId} {m k : Operand} : step2 X C (some true) d pos (.call ⟨.builtin .delete, #[m, k], #[t, t']⟩) e h = optE C.N e h d (deleteH X.P h t (ev X e m) (ev X e k)) := rfl
theorem step2_min {args : Array Operand} {ts : Array TypeId} : step2 X C (some true) d pos (.call ⟨.builtin .min, args, ts⟩) e h = optV C.N e h d (foldH min2H (args.toList.map (ev X e))) := by
  exact step2_val (op := .call ⟨.builtin .min, args, ts⟩) fun _ _ _ => by simp [opE]
theorem step2_max {args : Array Operand} {ts : Array TypeId} : step2 X C (some true) d pos (.call ⟨.builtin .max, args, ts⟩) e h = optV C.N e h d (foldH max2H (args.toList.map (ev X e))) :=
  step2_val (op := .call ⟨.builtin .max, args, ts⟩) fun _ _ _ => by simp [opE]

theorem putE_some {N t : Nat} {x : HV} (ht : t < N) : putE N e (some t) x = upd e t x := by simp [putE, ht]
theorem putE_none {N : Nat} {x : HV} : putE N e none x = e := rfl
theorem ev_tmp {t : Nat} : ev X e (.tmp t) = e t := rfl
theorem ev_const {v : Value} : ev X e (.const v) = lit v := rfl
theorem ev_func {f : FuncId} : ev X e (.func f) = .fn (.func f) [] [] := rfl
theorem lit_bool {b : Bool} : lit (.bool b) = .bool b := rfl
theorem lit_int {k : IntKind} {n : Int} : lit (.int k n) = .int k n := rfl
theorem lit_str {s : ByteArray} : lit (.string s) = .str s := rfl
theorem lit_slice : lit (.slice none 0 0) = .sl true [] := rfl
theorem lit_nilFunc : lit .nilFunc = .nul .nilFunc := rfl
theorem lit_nilIface : lit .nilIface = .nul .nilIface := rfl
theorem lit_nilPtr : lit (.pointer none) = .nul (.pointer none) := rfl
theorem lit_nilMap : lit (.map none) = .nul (.map none) := rfl
theorem lit_agg {cs : Array Value} : lit (.agg cs) = .agg (cs.toList.map lit1) := rfl
end
end Go.HL

