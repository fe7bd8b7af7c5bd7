/-
  HL, part C: the program logic: what code does, said of abstract states; the rules of the structured code; a function's contract.
-/
import Derived.Test.YthfobbfechdoaaaHlB
import Derived.RangeFuncRecord
namespace Go.HL

def F0 (ro : Option Nat) : Fence := { fn := fun _ => True, depth := none, alive := false, round := ro }

theorem F0_depth {ro : Option Nat} {p : Prop} : (F0 ro).depth.isSome = true → p := fun h => by simp [F0] at h

theorem F0_none : F0 none = Fence.wide := rfl

theorem F0_calls {ro : Option Nat} {n : Nat} {P : Program} {f : FuncId} {args : Array Value} {w : World} {R : Ending → World → Prop} (h : CallsIn (F0 none) n P f args w R) : CallsIn (F0 ro) n P f args w R := h

/-- What is asked behind a piece of code. -/
def Post (X : PG) (K : KS) (h : Hp) (B N : Nat) (Q : Exit → Env → Hp → Prop) : Exit → Act → World → Prop := fun ex a' w' =>
  ∃ K' e' h', K'.w = w' ∧ ExtA K h K' h' ∧ RE K' B N e' a' ∧ RH X K' h' ∧ Q ex e' h'

/-- Where a piece of code stands: in a round of the loop over a function 'ro'; the number of temporaries; the places at which a slice that is written out is one of the call's own. -/
structure Cx where
  ro : Option Nat := none
  N : Nat
  own : List String := []

/-- The code 'c', begun in the abstract state (e, h), comes to an end that Q takes. -/
def WP (X : PG) (C : Cx) (c : Code) (Q : Exit → Env → Hp → Prop) (e : Env) (h : Hp) : Prop :=
  ∀ K B a, RE K B C.N e a → RH X K h → c.wpIn (F0 C.ro) 0 X.P (Post X K h B C.N Q) a K.w

theorem Post.trans {X : PG} {K K' : KS} {h h' : Hp} {B N : Nat} {Q : Exit → Env → Hp → Prop} {ex : Exit} {a : Act} {w : World} (x : ExtA K h K' h') (hh : RH X K h) (p : Post X K' h' B N Q ex a w) : Post X K h B N Q ex a w := by
  obtain ⟨K2, e2, h2, hw, x2, r1, r2, hq⟩ := p
  exact ⟨K2, e2, h2, hw, x.trans x2 hh, r1, r2, hq⟩

section
variable {X : PG} {C : Cx} {Q : Exit → Env → Hp → Prop} {e : Env} {h : Hp}

theorem WP.mono {c : Code} {Q' : Exit → Env → Hp → Prop} (hc : WP X C c Q e h) (hq : ∀ ex e h, Q ex e h → Q' ex e h) : WP X C c Q' e h :=
  fun K B a he hh => wpIn_mono (hc K B a he hh) fun _ _ _ ⟨K', e', h', hw, x, r1, r2, q⟩ => ⟨K', e', h', hw, x, r1, r2, hq _ _ _ q⟩

/-- Behind the first of two. -/
def seqK (X : PG) (C : Cx) (y : Code) (Q : Exit → Env → Hp → Prop) : Exit → Env → Hp → Prop
  | .normal, e, h => WP X C y Q e h
  | ex, e, h => Q ex e h

theorem WP.seq {x y : Code} (hx : WP X C x (seqK X C y Q) e h) : WP X C (.seq x y) Q e h := by
  intro K B a he hh
  refine wpIn_seq (wpIn_mono (hx K B a he hh) fun ex a' w' hp => ?_)
  obtain ⟨K', e', h', hw, x1, r1, r2, q⟩ := hp
  subst hw
  cases ex with
  | normal => exact wpIn_mono (q K' B a' r1 r2) fun _ _ _ hp => Post.trans x1 hh hp
  | exit id => exact ⟨K', e', h', rfl, x1, r1, r2, q⟩
  | goto l => exact ⟨K', e', h', rfl, x1, r1, r2, q⟩
  | ret => exact ⟨K', e', h', rfl, x1, r1, r2, q⟩
  | panic ch => exact ⟨K', e', h', rfl, x1, r1, r2, q⟩
  | outgrown => exact ⟨K', e', h', rfl, x1, r1, r2, q⟩

theorem WP.skip (hq : Q .normal e h) : WP X C .skip Q e h := fun K _ _ he hh => wpIn_skip ⟨K, e, h, rfl, .refl _ _, he, hh, hq⟩
theorem WP.label {l : Nat} (hq : Q .normal e h) : WP X C (.label l) Q e h := fun K _ _ he hh => wpIn_label ⟨K, e, h, rfl, .refl _ _, he, hh, hq⟩
theorem WP.exit {id : Nat} (hq : Q (.exit id) e h) : WP X C (.exit id) Q e h := fun K _ _ he hh => wpIn_exit ⟨K, e, h, rfl, .refl _ _, he, hh, hq⟩
theorem WP.ret (hq : Q .ret e h) : WP X C .ret Q e h := fun K _ _ he hh => wpIn_ret ⟨K, e, h, rfl, .refl _ _, he, hh, hq⟩

/-- A test: the branch by the condition's value. -/
def condB (c : HV) (x y : Prop) : Prop :=
  match c with
  | .bool true => x
  | .bool false => y
  | _ => False

theorem RV.ofBool {K : KS} {b : Bool} {v : Value} (hr : RV K (.bool b) v) : v = .bool b := by cases hr; rfl

theorem WP.cond {c : Operand} {x y : Code} (hc : condB (ev X e c) (WP X C x Q e h) (WP X C y Q e h)) : WP X C (.cond c x y) Q e h := by
  intro K B a he hh
  have hr := he.eval hh c
  cases hv : ev X e c with
  | bool b =>
    rw [hv] at hr hc
    have hb := hr.ofBool
    cases b with
    | true => exact wpIn_cond hb (hc K B a he hh)
    | false => exact wpIn_cond hb (hc K B a he hh)
  | _ => rw [hv] at hc; exact hc.elim

/-- A block catches its own exit. -/
def blockK (id : Nat) (Q : Exit → Env → Hp → Prop) : Exit → Env → Hp → Prop
  | .exit id', e, h => if id' = id then Q .normal e h else Q (.exit id') e h
  | ex, e, h => Q ex e h

theorem WP.block {id : Nat} {c : Code} (hc : WP X C c (blockK id Q) e h) : WP X C (.block id c) Q e h := by
  intro K B a he hh
  refine wpIn_block (wpIn_mono (hc K B a he hh) fun ex a' w' hp => ?_)
  obtain ⟨K', e', h', hw, x1, r1, r2, q⟩ := hp
  cases ex with
  | exit id' =>
    simp only [blockK] at q
    simp only [Exit.inBlock]
    split at q
    · rename_i hid; rw [if_pos hid]; exact ⟨K', e', h', hw, x1, r1, r2, q⟩
    · rename_i hid; rw [if_neg hid]; exact ⟨K', e', h', hw, x1, r1, r2, q⟩
  | normal => exact ⟨K', e', h', hw, x1, r1, r2, q⟩
  | goto l => exact ⟨K', e', h', hw, x1, r1, r2, q⟩
  | ret => exact ⟨K', e', h', hw, x1, r1, r2, q⟩
  | panic ch => exact ⟨K', e', h', hw, x1, r1, r2, q⟩
  | outgrown => exact ⟨K', e', h', hw, x1, r1, r2, q⟩

theorem least {p : Nat → Prop} (n : Nat) (hn : p n) : ∃ m, p m ∧ ∀ k, p k → m ≤ k := by
  induction n using Nat.strongRecOn with
  | _ n ih =>
    by_cases hex : ∃ k, k < n ∧ p k
    · obtain ⟨k, hk, hp⟩ := hex; exact ih k hk hp
    · exact ⟨n, hn, fun k hk => Nat.le_of_not_lt fun hlt => hex ⟨k, hlt, hk⟩⟩

open Classical in
noncomputable def leastOf (p : Nat → Prop) : Nat := if hx : ∃ n, p n then (least hx.choose hx.choose_spec).choose else 0

theorem leastOf_spec {p : Nat → Prop} {n : Nat} (hn : p n) : p (leastOf p) ∧ leastOf p ≤ n := by
  have hx : ∃ n, p n := ⟨n, hn⟩
  unfold leastOf
  rw [dif_pos hx]
  have := (least hx.choose hx.choose_spec).choose_spec
  exact ⟨this.1, this.2 n hn⟩

/-- Behind a round. -/
def loopK (I : Env → Hp → Prop) (μ : Env → Hp → Nat) (n : Nat) (Q : Exit → Env → Hp → Prop) : Exit → Env → Hp → Prop
  | .normal, e, h => I e h ∧ μ e h < n
  | ex, e, h => Q ex e h

theorem WP.loop {c : Code} (I : Env → Hp → Prop) (μ : Env → Hp → Nat) (h0 : I e h) (round : ∀ e h, I e h → WP X C c (loopK I μ (μ e h) Q) e h) : WP X C (.loop c) Q e h := by
  intro K B a he hh
  let rel (a' : Act) (w' : World) (n : Nat) : Prop := ∃ K' e' h', K'.w = w' ∧ ExtA K h K' h' ∧ RE K' B C.N e' a' ∧ RH X K' h' ∧ I e' h' ∧ μ e' h' = n
  refine wpIn_loop (fun a' w' => ∃ n, rel a' w' n) (fun a' w' => leastOf (rel a' w')) ⟨_, K, e, h, rfl, .refl _ _, he, hh, h0, rfl⟩ fun a1 w1 hI => ?_
  obtain ⟨n, hn⟩ := hI
  obtain ⟨⟨K1, e1, h1, hw1, x1, r1, r2, hI1, hμ⟩, _⟩ := leastOf_spec hn
  subst hw1
  rw [← hμ]
  refine wpIn_mono (round e1 h1 hI1 K1 B a1 r1 r2) fun ex a2 w2 hp => ?_
  obtain ⟨K2, e2, h2, hw2, x2, s1, s2, q⟩ := hp
  cases ex with
  | normal =>
    obtain ⟨hI2, hlt⟩ := q
    have hrel : rel a2 w2 (μ e2 h2) := ⟨K2, e2, h2, hw2, x1.trans x2 hh, s1, s2, hI2, rfl⟩
    exact ⟨⟨_, hrel⟩, Nat.lt_of_le_of_lt (leastOf_spec hrel).2 hlt⟩
  | exit id => exact ⟨K2, e2, h2, hw2, x1.trans x2 hh, s1, s2, q⟩
  | goto l => exact ⟨K2, e2, h2, hw2, x1.trans x2 hh, s1, s2, q⟩
  | ret => exact ⟨K2, e2, h2, hw2, x1.trans x2 hh, s1, s2, q⟩
  | panic ch => exact ⟨K2, e2, h2, hw2, x1.trans x2 hh, s1, s2, q⟩
  | outgrown => exact ⟨K2, e2, h2, hw2, x1.trans x2 hh, s1, s2, q⟩

/-- Any cut: what holds at a point may be forgotten down to J. -/
theorem WP.cut {x y : Code} (J : Env → Hp → Prop) (hy : ∀ e h, J e h → WP X C y Q e h) (hx : WP X C x (fun ex e h => match ex with | .normal => J e h | _ => Q ex e h) e h) : WP X C (.seq x y) Q e h :=
  WP.seq (hx.mono fun ex e h q => by cases ex <;> first | exact hy _ _ q | exact q)

/-- Temporaries may be forgotten. -/
theorem WP.forget {c : Code} (e2 : Env) (hx : ∀ t, e2 t = e t ∨ e2 t = .und) (hc : WP X C c Q e2 h) : WP X C c Q e h :=
  fun K B a he hh => hc K B a ⟨he.size, fun t => (hx t).elim (fun h' => h' ▸ he.tmps t) (fun h' => h' ▸ .und _), he.defers, he.le⟩ hh
end

/-- The arguments' values. -/
def RVs (K : KS) (xs : List HV) (vs : Array Value) : Prop := xs.length = vs.size ∧ ∀ i (hi : i < xs.length) (hi' : i < vs.size), RV K xs[i] vs[i]

/-- The call of 'f' at abstract arguments: it returns, and what it returns, and what has become of the objects, R takes. -/
def CallsH (X : PG) (f : FuncId) (args : List HV) (h : Hp) (R : HV → Hp → Prop) : Prop :=
  ∀ K (vs : Array Value), RVs K args vs → RH X K h → CallsIn (F0 none) 0 X.P f vs K.w fun en w' =>
    ∃ v K' r h', en = .returned v ∧ K'.w = w' ∧ ExtA K h K' h' ∧ RH X K' h' ∧ RV K' r v ∧ R r h'

theorem CallsH.mono {X : PG} {f : FuncId} {args : List HV} {h : Hp} {R R' : HV → Hp → Prop} (hc : CallsH X f args h R) (hr : ∀ r h, R r h → R' r h) : CallsH X f args h R' :=
  fun K vs ha hh => (hc K vs ha hh).mono fun _ _ ⟨v, K', r, h', e1, e2, x, y, z, hR⟩ => ⟨v, K', r, h', e1, e2, x, y, z, hr _ _ hR⟩

def isAggH (P : Program) (t : TypeId) : Option Bool :=
  match P.underlying t with
  | some (.struct _) | some (.array _ _) => some true
  | some _ => some false
  | none => none

/-- What is loaded from a pointer. -/
def loadH (P : Program) (h : Hp) (t : TypeId) (x : HV) : Option HV :=
  match isAggH P t, x with
  | some false, .ip cs => cs[0]?
  | some true, .ip cs => if P.cellsOf t ≤ cs.length then some (.agg (cs.take (P.cellsOf t))) else none
  | some ag, .ep id i off =>
    match h[id]? with
    | some (.row _ es) =>
      match es[i]? with
      | some cs => if ag then (if off + P.cellsOf t ≤ cs.length then some (.agg ((cs.drop off).take (P.cellsOf t))) else none) else cs[off]?
      | none => none
    | _ => none
  | _, _ => none

theorem cell_row {w : World} {b n : Nat} {cur : Array Value} {t : TypeId} {fr : Nat × Nat} (hb : w.heap[b]? = some (.cells cur t fr)) : w.cell? ⟨b, n, none⟩ = cur[n]? := by simp [World.cell?, hb]

theorem run_loadCellsFrom {P : Program} {w : World} {a : Addr} (vs : Nat → Value) : ∀ (n i : Nat) (acc : Array Value), (∀ j, j < n → w.cell? (a.add (i + j)) = some (vs (i + j))) →
    (loadCellsFrom a i n acc).run P w = .ok (acc ++ ((List.range' i n).map vs).toArray) w := by
  intro n
  induction n with
  | zero => intro i acc _; simp [loadCellsFrom]
  | succ n ih =>
    intro i acc hc
    have h0 := hc 0 (by omega)
    simp only [Nat.add_zero] at h0
    simp only [loadCellsFrom, Sem.run_bind, run_load, h0, Result.andThen_ok]
    rw [ih (i + 1) _ (fun j hj => by have := hc (j + 1) (by omega); rwa [show i + (j + 1) = i + 1 + j from by omega] at this)]
    simp [List.range'_succ]

theorem run_loadCells' {P : Program} {w : World} {a : Addr} (vs : Nat → Value) (n : Nat) (hc : ∀ j, j < n → w.cell? (a.add j) = some (vs j)) :
    (loadCells a n).run P w = .ok ((List.range n).map vs).toArray w := by
  unfold loadCells
  rw [run_loadCellsFrom vs n 0 #[] (fun j hj => by simpa using hc j hj)]
  simp [List.range_eq_range']

theorem run_isAggH {P : Program} {w : World} {t : TypeId} {b : Bool} (hb : isAggH P t = some b) : (isAgg t).run P w = .ok b w := by
  unfold isAggH at hb
  unfold isAgg underlying
  simp only [Sem.run_bind, run_program, Result.andThen_ok]
  cases hu : P.underlying t with
  | none => rw [hu] at hb; cases hb
  | some d =>
    rw [hu] at hb
    cases d <;> simp at hb <;> subst hb <;> rfl

theorem run_sizeOfH {P : Program} {w : World} {t : TypeId} {b : Bool} (hb : isAggH P t = some b) : (sizeOf t).run P w = .ok (P.cellsOf t) w := by
  unfold sizeOf typeInfo Program.cellsOf
  simp only [Sem.run_bind, run_program, Result.andThen_ok]
  cases hi : P.info? t with
  | none => simp [isAggH, Program.underlying, hi] at hb
  | some i => rfl

theorem loadH_run {X : PG} {K : KS} {h : Hp} {t : TypeId} {x y : HV} {v : Value} (hh : RH X K h) (hx : RV K x v) (hl : loadH X.P h t x = some y) :
    ∃ a u, v = .pointer (some a) ∧ (loadVar t a).run X.P K.w = .ok u K.w ∧ RV K y u := by
  unfold loadH at hl
  cases hag : isAggH X.P t with
  | none => simp [hag] at hl
  | some ag =>
    have r1 := run_isAggH (w := K.w) hag
    have r2 := run_sizeOfH (w := K.w) hag
    cases hx with
    | ip cs b off cv hb hL hc hr =>
      refine ⟨⟨b, off, none⟩, ?_⟩
      cases ag with
      | false =>
        simp only [hag] at hl
        obtain ⟨h0, e0⟩ := List.getElem?_eq_some_iff.1 hl
        have hc0 := hc 0 h0
        simp only [Nat.add_zero] at hc0
        refine ⟨cv 0, rfl, ?_, by rw [← e0]; exact hr 0 h0⟩
        unfold loadVar
        simp [r1, hc0]
      | true =>
        simp only [hag] at hl
        split at hl
        · rename_i hle
          injection hl with hl
          subst hl
          have hrun := run_loadCells' (P := X.P) (w := K.w) (a := ⟨b, off, none⟩) cv (X.P.cellsOf t) (fun j hj => by rw [Addr.add_lit]; exact hc j (by omega))
          refine ⟨.agg ((List.range (X.P.cellsOf t)).map cv).toArray, rfl, ?_, ?_⟩
          · unfold loadVar
            simp [r1, r2, hrun]
          · refine .agg _ _ (by simp; omega) (fun i hi => ?_)
            simp at hi ⊢
            exact hr i (by omega)
        · cases hl
    | ep id i off hA =>
      simp only [hag] at hl
      cases ho : h[id]? with
      | none => simp [ho] at hl
      | some o =>
        cases o with
        | row t' es =>
          simp only [ho] at hl
          cases he : es[i]? with
          | none => simp [he] at hl
          | some cs =>
            simp only [he] at hl
            obtain ⟨hi, ee⟩ := List.getElem?_eq_some_iff.1 he
            obtain ⟨_, hc0, hrow⟩ := hh.obj id _ hA ho
            obtain ⟨cur, hcur, hsz, hlen, hmax, hk, hone, hcell⟩ := hrow (fun e => by have := hc0 e; subst this; simp at hi)
            have hck : cs.length = K.k id := by rw [← ee]; exact hk i hi
            have hcell' : ∀ j (hj : j < cs.length), ∃ v, cur[i * K.k id + j]? = some v ∧ RV K cs[j] v := fun j hj => by
              obtain ⟨v, h1, h2⟩ := hcell i hi j (by rw [ee]; exact hj)
              exact ⟨v, h1, by simpa [ee] using h2⟩
            refine ⟨⟨K.b id, i * K.k id + off, none⟩, ?_⟩
            cases ag with
            | false =>
              simp at hl
              obtain ⟨h0, e0⟩ := List.getElem?_eq_some_iff.1 hl
              obtain ⟨v, h1, h2⟩ := hcell' off h0
              refine ⟨v, rfl, ?_, by rw [← e0]; exact h2⟩
              unfold loadVar
              simp [r1, cell_row hcur, h1]
            | true =>
              simp only [if_true] at hl
              split at hl
              · rename_i hle
                injection hl with hl
                subst hl
                have hex : ∀ j, j < X.P.cellsOf t → ∃ v, K.w.cell? ((⟨K.b id, i * K.k id + off, none⟩ : Addr).add j) = some v ∧ ∀ (hj : off + j < cs.length), RV K cs[off + j] v := fun j hj => by
                  obtain ⟨v, h1, h2⟩ := hcell' (off + j) (by omega)
                  refine ⟨v, ?_, fun _ => h2⟩
                  rw [Addr.add_lit, cell_row hcur, Nat.add_assoc]
                  exact h1
                let cv : Nat → Value := fun j => if hj : j < X.P.cellsOf t then (hex j hj).choose else undef
                have hcv : ∀ j (hj : j < X.P.cellsOf t), K.w.cell? ((⟨K.b id, i * K.k id + off, none⟩ : Addr).add j) = some (cv j) ∧ ∀ (hj : off + j < cs.length), RV K cs[off + j] (cv j) := fun j hj => by
                  simp only [cv, dif_pos hj]
                  exact (hex j hj).choose_spec
                have hrun := run_loadCells' (P := X.P) (w := K.w) (a := ⟨K.b id, i * K.k id + off, none⟩) cv (X.P.cellsOf t) (fun j hj => (hcv j hj).1)
                refine ⟨.agg ((List.range (X.P.cellsOf t)).map cv).toArray, rfl, ?_, ?_⟩
                · unfold loadVar
                  simp [r1, r2, hrun]
                · refine .agg _ _ (by simp; omega) (fun j hj => ?_)
                  simp at hj ⊢
                  exact (hcv j (by omega)).2 (by omega)
              · cases hl
        | _ => simp [ho] at hl
    | _ => simp [hag] at hl

/-- What a function hands back. -/
def resList (P : Program) (e : Env) (h : Hp) : List ResultVar → Option (List HV)
  | [] => some []
  | .tmp t :: rs => (resList P e h rs).map (e t :: ·)
  | .cell a t :: rs =>
    match loadH P h t (e a) with
    | some x => (resList P e h rs).map (x :: ·)
    | none => none

def resH (P : Program) (fn : Func) (e : Env) (h : Hp) : Option HV :=
  match resList P e h fn.results.toList with
  | some [x] => some x
  | some l => some (.tup l)
  | none => none

/-- At a function's end. -/
def fnPost (P : Program) (fn : Func) (R : HV → Hp → Prop) : Exit → Env → Hp → Prop
  | .normal, e, h | .ret, e, h => ∃ r, resH P fn e h = some r ∧ R r h
  | _, _, _ => False

def argEnv (N : Nat) (xs : List HV) : Env := fun t => if t < N then xs.getD t .und else .und

/-- The program that reads the results: what it comes to. -/
def resSem (tmps : Array Value) : ResultVar → Sem Value
  | .tmp t => pure (tmps.getD t undef)
  | .cell a t => do loadVar t (← asAddr (tmps.getD a undef))

theorem resList_run {X : PG} {K : KS} {h : Hp} {B N : Nat} {e : Env} {a : Act} (he : RE K B N e a) (hh : RH X K h) : ∀ (rs : List ResultVar) (xs : List HV), resList X.P e h rs = some xs →
    ∃ vs : List Value, (rs.mapM (resSem a.tmps)).run X.P K.w = .ok vs K.w ∧ vs.length = xs.length ∧ ∀ i (hi : i < xs.length) (hi' : i < vs.length), RV K xs[i] vs[i] := by
  intro rs
  induction rs with
  | nil =>
    intro xs hx
    simp only [resList, Option.some.injEq] at hx
    subst hx
    exact ⟨[], by simp, rfl, fun i hi => absurd hi (Nat.not_lt_zero _)⟩
  | cons r rs ih =>
    intro xs hx
    have key : ∀ (y : HV) (v : Value) (ys : List HV), (resSem a.tmps r).run X.P K.w = .ok v K.w → RV K y v → resList X.P e h rs = some ys → xs = y :: ys →
        ∃ vs : List Value, ((r :: rs).mapM (resSem a.tmps)).run X.P K.w = .ok vs K.w ∧ vs.length = xs.length ∧ ∀ i (hi : i < xs.length) (hi' : i < vs.length), RV K xs[i] vs[i] := by
      intro y v ys h1 h2 h3 h4
      obtain ⟨vs, g1, g2, g3⟩ := ih ys h3
      subst h4
      refine ⟨v :: vs, by simp [List.mapM_cons, h1, g1], by simp [g2], fun i hi hi' => ?_⟩
      cases i with
      | zero => exact h2
      | succ i => exact g3 i (by simpa using hi) (by simpa using hi')
    cases r with
    | tmp t =>
      simp only [resList, Option.map_eq_some_iff] at hx
      obtain ⟨ys, h3, h4⟩ := hx
      exact key (e t) _ ys (by simp [resSem]) (he.tmps t) h3 h4.symm
    | cell p t =>
      simp only [resList] at hx
      cases hl : loadH X.P h t (e p) with
      | none => simp [hl] at hx
      | some y =>
        simp only [hl, Option.map_eq_some_iff] at hx
        obtain ⟨ys, h3, h4⟩ := hx
        obtain ⟨ad, u, h5, h6, h7⟩ := loadH_run hh (he.tmps p) hl
        exact key y u ys (by simp only [resSem, Sem.run_bind, h5, asAddr, Sem.run_pure, Result.andThen_ok]; exact h6) h7 h3 h4.symm

theorem results_eq (fn : Func) (tmps : Array Value) : results fn tmps = (do let vs ← fn.results.mapM (resSem tmps); pure (if hx : vs.size = 1 then vs[0] else .tuple vs)) := by
  unfold results
  congr 2

theorem resH_run {X : PG} {K : KS} {h : Hp} {B N : Nat} {e : Env} {a : Act} {fn : Func} {r : HV} (he : RE K B N e a) (hh : RH X K h) (hr : resH X.P fn e h = some r) :
    ∃ v, (results fn a.tmps).run X.P K.w = .ok v K.w ∧ RV K r v := by
  unfold resH at hr
  cases hl : resList X.P e h fn.results.toList with
  | none => simp [hl] at hr
  | some xs =>
    obtain ⟨vs, h1, h2, h3⟩ := resList_run he hh _ _ hl
    have hm : (fn.results.mapM (resSem a.tmps)).run X.P K.w = .ok vs.toArray K.w := by
      rw [Array.mapM_eq_mapM_toList, Sem.run_map, h1]
      rfl
    rw [hl] at hr
    rw [results_eq]
    simp only [Sem.run_bind, hm, Result.andThen_ok, Sem.run_pure]
    match xs, vs, h2, h3, hr with
    | [x], [v], _, h3, hr =>
      simp only [Option.some.injEq] at hr
      subst hr
      exact ⟨v, by simp, h3 0 (by simp) (by simp)⟩
    | [], [], _, h3, hr =>
      simp only [Option.some.injEq] at hr
      subst hr
      exact ⟨_, rfl, .tup _ _ rfl (fun i hi => absurd hi (Nat.not_lt_zero _))⟩
    | x :: y :: l, v :: u :: m, h2, h3, hr =>
      simp only [Option.some.injEq] at hr
      subst hr
      exact ⟨.tuple (v :: u :: m).toArray, by simp, .tup _ _ (by simpa using h2.symm) (fun i hi => by simpa using h3 i hi (by simp at h2 hi ⊢; omega))⟩

theorem leaves_marks {P : Program} {F : Fence} {n : Nat} {fn : Func} {tmps : Array Value} {R : Ending → World → Prop} : ∀ (rs : List Nat) (w : World), rs.Nodup → (∀ r ∈ rs, w.heap[r]? = some (.deferred (some []))) →
    (∀ w', (∀ b, b ∉ rs → w'.heap[b]? = w.heap[b]?) → w'.heap.size = w.heap.size → w'.os = w.os → w'.tape = w.tape → w'.output = w.output → ∃ v, (results fn tmps).run P w' = .ok v w' ∧ R (.returned v) w') →
    LeavesInM F n P fn tmps R (rs.map fun r => { target := .collected r, args := #[] }) .returning w := by
  intro rs
  induction rs with
  | nil => intro w _ _ hR; exact hR w (fun _ _ => rfl) rfl rfl rfl rfl
  | cons r rs ih =>
    intro w hnd hw hR
    have hr := hw r (by simp)
    obtain ⟨hnr, hnd'⟩ := List.nodup_cons.1 hnd
    refine ⟨by simp, .inl ⟨r, _, rfl, run_takeDeferred hr, ih _ hnd' (fun x hx => ?_) (fun w' hb hs h1 h2 h3 => ?_)⟩⟩
    · rw [World.putObj_heap_other (fun e => hnr (by rw [← e]; exact hx))]
      exact hw x (by simp [hx])
    · refine hR w' (fun b hb' => ?_) (by rw [hs]; simp [World.putObj]) h1 h2 h3
      rw [hb b (fun hx => hb' (by simp [hx]))]
      exact World.putObj_heap_other (fun e => hb' (by simp [e]))

theorem args_RE {K : KS} {B : Nat} {xs : List HV} {vs : Array Value} {m : Nat} (ha : RVs K xs vs) (hB : B ≤ K.w.heap.size) :
    RE K B (xs.length + (m - xs.length)) (argEnv (xs.length + (m - xs.length)) xs) { tmps := vs ++ Array.replicate (m - vs.size) undef, defers := [] } := by
  obtain ⟨h1, h2⟩ := ha
  refine ⟨by simp [h1], fun t => ?_, ⟨[], rfl, List.nodup_nil, fun r hr => by cases hr⟩, hB⟩
  unfold argEnv
  by_cases ht : t < xs.length
  · rw [if_pos (by omega)]
    have ht' : t < vs.size := by omega
    have e1 : xs.getD t .und = xs[t] := by simp [List.getD, ht]
    have e2 : (vs ++ Array.replicate (m - vs.size) undef).getD t undef = vs[t] := by
      simp [Array.getD_eq_getD_getElem?, Array.getElem?_append, ht']
    rw [e1, e2]
    exact h2 t ht ht'
  · have e1 : (if t < xs.length + (m - xs.length) then xs.getD t HV.und else HV.und) = HV.und := by
      split
      · simp [List.getD, List.getElem?_eq_none (Nat.le_of_not_lt ht)]
      · rfl
    rw [e1]
    exact .und _

/-- Blocks that no object and no immutable value lies in may turn. -/
theorem RV.touch {K : KS} {w' : World} {D : Nat → Prop} (hs : w'.heap.size = K.w.heap.size) (hD : ∀ b, ¬ D b → w'.heap[b]? = K.w.heap[b]?) (hno : ∀ b, D b → ∃ ds, K.w.heap[b]? = some (.deferred ds)) {x : HV} {v : Value} (hr : RV K x v) : RV { K with w := w' } x v := by
  have hcell : ∀ {b off : Nat} {u : Value}, K.w.cell? ⟨b, off, none⟩ = some u → w'.cell? ⟨b, off, none⟩ = some u := fun {b off u} hc => by
    by_cases hb : D b
    · obtain ⟨ds, hds⟩ := hno b hb
      simp [World.cell?, hds] at hc
    · exact (World.cell?_of_block (w := K.w) (a := ⟨b, off, none⟩) (hD b hb)).trans hc
  induction hr with
  | bool b => exact .bool b
  | int k n => exact .int k n
  | str s => exact .str s
  | nul v hv => exact .nul v hv
  | sl0 full a cap h1 h2 h3 => exact .sl0 full a cap h1 h2 h3
  | sl full es k b off cap cv h0 h1 h2 h3 hb hL hk hc _ ih => exact .sl full es k b off cap cv h0 h1 h2 h3 (by show b < w'.heap.size; omega) hL hk (fun i hi j hj => hcell (hc i hi j hj)) ih
  | ow id lo len hA h0 h1 h2 => exact .ow id lo len hA h0 h1 h2
  | ow0 id a hA h0 => exact .ow0 id a hA h0
  | ip cs b off cv hb hL hc _ ih => exact .ip cs b off cv (by show b < w'.heap.size; omega) hL (fun j hj => hcell (hc j hj)) ih
  | ep id i off hA => exact .ep id i off hA
  | mp id hA => exact .mp id hA
  | it id hA => exact .it id hA
  | fn f fs cs vs us h1 h2 _ _ ih1 ih2 => exact .fn f fs cs vs us h1 h2 ih1 ih2
  | agg cs vs h1 _ ih => exact .agg cs vs h1 ih
  | tup cs vs h1 _ ih => exact .tup cs vs h1 ih
  | und v => exact .und v

theorem RO.touch {P : Program} {K : KS} {w' : World} {D : Nat → Prop} (hs : w'.heap.size = K.w.heap.size) (hD : ∀ b, ¬ D b → w'.heap[b]? = K.w.heap[b]?) (hno : ∀ b, D b → ∃ ds, K.w.heap[b]? = some (.deferred ds)) {id : Nat} {o : HO} (hr : RO P K id o) : RO P { K with w := w' } id o := by
  have e : o.live = true → K.c id ≠ 0 → w'.heap[K.b id]? = K.w.heap[K.b id]? := fun hl hc => hD _ fun hd => by
    obtain ⟨ds, hds⟩ := hno _ hd
    exact hr.notDeferred hl hc hds
  cases o with
  | row t es =>
    obtain ⟨h0, h1, h2⟩ := hr
    refine ⟨h0, h1, fun hc => ?_⟩
    obtain ⟨cur, h1, h2, h3, h4, h5, h6, h7⟩ := h2 hc
    exact ⟨cur, (e rfl hc).trans h1, h2, h3, h4, h5, h6, fun i hi j hj => by obtain ⟨v, g1, g2⟩ := h7 i hi j hj; exact ⟨v, g1, g2.touch hs hD hno⟩⟩
  | map kvs clock =>
    obtain ⟨hc, es, h1, h2, h3⟩ := hr
    exact ⟨hc, es, (e rfl hc).trans h1, h2, fun i x hx => by obtain ⟨m, g1, g2, g3, g4⟩ := h3 i x hx; exact ⟨m, g1, g2.touch hs hD hno, g3.touch hs hD hno, g4⟩⟩
  | iter m since seen last => obtain ⟨hc, hA, h1⟩ := hr; exact ⟨hc, hA, (e rfl hc).trans h1⟩
  | sit s pos => obtain ⟨hc, h1⟩ := hr; exact ⟨hc, (e rfl hc).trans h1⟩
  | loop l r => obtain ⟨hc, h0, h1⟩ := hr; exact ⟨hc, h0, (e rfl hc).trans h1⟩
  | gone => trivial

/-- A function's contract, out of its body. -/
theorem CallsH.of_wp {X : PG} {f : FuncId} {fn : Func} {c : Code} {args : List HV} {h : Hp} {R : HV → Hp → Prop} (own : List String) (hf : X.P.funcs[f]? = some fn) (hb : fn.body = some c)
    (hc : WP X { N := args.length + (fn.ntmps - args.length), own := own } c (fnPost X.P fn R) (argEnv (args.length + (fn.ntmps - args.length)) args) h) : CallsH X f args h R := by
  intro K vs ha hh
  refine callsIn_of_wp_marks hf hb trivial (wpIn_mono (hc K K.w.heap.size _ (args_RE ha (Nat.le_refl _)) hh) fun ex a' w' hp => ?_) rfl
  obtain ⟨K', e', h', hw, x, r1, r2, hq⟩ := hp
  subst hw
  have fin : (∃ r, resH X.P fn e' h' = some r ∧ R r h') → LeavesInM (F0 none) 0 X.P fn a'.tmps (fun en w' => ∃ v K' r h', en = Ending.returned v ∧ K'.w = w' ∧ ExtA K h K' h' ∧ RH X K' h' ∧ RV K' r v ∧ R r h') a'.defers .returning K'.w := by
    rintro ⟨r, hr, hR⟩
    obtain ⟨rs, hd1, hd2, hd3⟩ := r1.defers
    rw [hd1]
    refine leaves_marks rs K'.w hd2 (fun r hr => (hd3 r hr).1) fun w2 g1 g2 g3 g4 g5 => ?_
    have hno : ∀ b, b ∈ rs → ∃ ds, K'.w.heap[b]? = some (.deferred ds) := fun b hb => ⟨_, (hd3 b hb).1⟩
    have r1' : RE { K' with w := w2 } K.w.heap.size _ e' { a' with defers := [] } := ⟨r1.size, fun t => (r1.tmps t).touch (D := (· ∈ rs)) g2 g1 hno, ⟨[], rfl, List.nodup_nil, fun r hr => by cases hr⟩, by show _ ≤ w2.heap.size; rw [g2]; exact r1.le⟩
    have r2' : RH X { K' with w := w2 } h' := ⟨r2.A, fun id o hA ho => (r2.obj id o hA ho).touch (D := (· ∈ rs)) g2 g1 hno, r2.live, r2.inj, fun b hb => by show b < w2.heap.size; rw [g2]; exact r2.Lb b hb, ⟨fun g => (r2.glob.var g).touch (D := (· ∈ rs)) g2 g1 hno, by show _ ≤ w2.heap.size; rw [g2]; exact r2.glob.low, X.touch K' w2 g2 (fun b hb => g1 b (fun hbr => by have := (hd3 b hbr).2; have := hh.glob.low; omega)) r2.glob.inv⟩⟩
    have x' : ExtA K h { K' with w := w2 } h' := by
      refine ⟨⟨g3.trans x.os, g4.trans x.tape, g5.trans x.output, by show K.w.heap.size ≤ w2.heap.size; rw [g2]; exact x.size, fun b hb hn => ?_, x.new, x.L, x.keep, x.A⟩, x.len, x.An⟩
      have : b ∉ rs := fun hbr => by have := (hd3 b hbr).2; omega
      exact (g1 b this).trans (x.block b hb hn)
    obtain ⟨v, hv, hrv⟩ := resH_run r1' r2' hr
    exact ⟨v, hv, v, _, r, h', rfl, rfl, x', r2', hrv, hR⟩
  cases ex with
  | normal => exact fin hq
  | ret => exact fin hq
  | exit id => exact hq.elim
  | goto l => exact hq.elim
  | panic ch => exact hq.elim
  | outgrown => exact hq.elim

end Go.HL
