/-
  HL, part B: the call's own objects, the environment, and how both are kept from state to state.
-/
import Derived.Test.YthfobbfechdoaaaHlA
namespace Go.HL

/-- An object of the call's own: a row; a map (with each entry's stamp); an iterator over a map; one over a string; the record of a loop over a function. 'gone': it may not be used any more. -/
inductive HO where
  | row (t : TypeId) (es : List (List HV))
  | map (kvs : List (HV × HV × Nat)) (clock : Nat)
  | iter (m : Option Nat) (since : Nat) (seen : List Nat) (last : Nat)
  | sit (s : ByteArray) (pos : Nat)
  | loop (l : Nat) (r : Loop)
  | gone
  deriving Inhabited

def HO.live : HO → Bool
  | .gone => false
  | _ => true

abbrev Hp := List HO

/-- The program, and what its package-level variables are: pointers to immutable cells, or unknown; what else holds of the state, whatever the code does. -/
structure PG where
  P : Program
  G : Nat → HV
  fr : ∀ g, (G g).free = true
  low : Nat
  inv : KS → Prop
  mono : ∀ K K', K.le K' → inv K → inv K'
  touch : ∀ (K : KS) (w' : World), w'.heap.size = K.w.heap.size → (∀ b, b < low → w'.heap[b]? = K.w.heap[b]?) → inv K → inv { K with w := w' }

/-- What else holds of the state. -/
structure Inv where
  low : Nat
  inv : KS → Prop
  mono : ∀ K K', K.le K' → inv K → inv K'
  touch : ∀ (K : KS) (w' : World), w'.heap.size = K.w.heap.size → (∀ b, b < low → w'.heap[b]? = K.w.heap[b]?) → inv K → inv { K with w := w' }

def PG.i (X : PG) : Inv := ⟨X.low, X.inv, X.mono, X.touch⟩
abbrev PG.withI (X : PG) (i : Inv) : PG := { P := X.P, G := X.G, fr := X.fr, low := i.low, inv := i.inv, mono := i.mono, touch := i.touch }
theorem PG.withI_i (X : PG) : X.withI X.i = X := rfl
theorem PG.withI_P (X : PG) (i : Inv) : (X.withI i).P = X.P := rfl
theorem PG.withI_G (X : PG) (i : Inv) : (X.withI i).G = X.G := rfl
theorem PG.withI_withI (X : PG) (i j : Inv) : (X.withI i).withI j = X.withI j := rfl

/-- Nothing is asked of the state. -/
class PG.Flat (X : PG) : Prop where
  inv : ∀ K, X.inv K
  low : X.low = 0

/-- The entry of a map in the model. -/
def mapLike (K : KS) (kvs : List (HV × HV × Nat)) (es : Array MapEntry) : Prop :=
  es.size = kvs.length ∧ ∀ (i : Nat) x, kvs[i]? = some x → ∃ m, es[i]? = some m ∧ RV K x.1 m.key ∧ RV K x.2.1 m.val ∧ m.born = x.2.2

def szH (P : Program) (t : TypeId) : Option Nat := (P.info? t).map (·.size)

/-- A row that lies in memory. -/
def RowAt (K : KS) (id : Nat) (t : TypeId) (es : List (List HV)) : Prop :=
  ∃ cur, K.w.heap[K.b id]? = some (.cells cur t (0, 0)) ∧ cur.size = K.c id * K.k id ∧ es.length ≤ K.c id ∧ K.c id ≤ maxLen ∧ (∀ i (hi : i < es.length), es[i].length = K.k id) ∧
    (∀ i (hi : i < es.length) j (hj : j < es[i].length), es[i][j].one = true) ∧ (∀ i (hi : i < es.length) j (hj : j < es[i].length), ∃ v, cur[i * K.k id + j]? = some v ∧ RV K es[i][j] v)

/-- What an object says of the world. (A row of no capacity need not lie anywhere.) -/
def RO (P : Program) (K : KS) (id : Nat) : HO → Prop
  | .row t es => szH P t = some (K.k id) ∧ (K.c id = 0 → es = []) ∧ (K.c id ≠ 0 → RowAt K id t es)
  | .map kvs clock => K.c id ≠ 0 ∧ ∃ es, K.w.heap[K.b id]? = some (.map es clock) ∧ mapLike K kvs es
  | .iter m since seen last => K.c id ≠ 0 ∧ (∀ x, m = some x → K.A x) ∧ K.w.heap[K.b id]? = some (.mapIter (m.map K.b) since seen.toArray last)
  | .sit s pos => K.c id ≠ 0 ∧ K.w.heap[K.b id]? = some (.stringIter s pos)
  | .loop l r => K.c id ≠ 0 ∧ K.b id = l ∧ K.w.heap[K.b id]? = some (.loop r)
  | .gone => True

/-- The object takes a block of its own. -/
def liveAt (K : KS) (h : Hp) (id : Nat) : Prop := K.A id ∧ (∃ o, h[id]? = some o ∧ o.live = true) ∧ K.c id ≠ 0

structure Glob (X : PG) (K : KS) : Prop where
  var : ∀ g, RV K (X.G g) (.pointer (some ⟨g, 0, none⟩))
  low : X.low ≤ K.w.heap.size
  inv : X.inv K

theorem Glob.mono {X : PG} {K K' : KS} (h : Glob X K) (hle : K.le K') : Glob X K' := ⟨fun g => (h.var g).mono hle, Nat.le_trans h.low hle.size, X.mono _ _ hle h.inv⟩

structure RH (X : PG) (K : KS) (h : Hp) : Prop where
  A : ∀ id, K.A id → id < h.length
  obj : ∀ id o, K.A id → h[id]? = some o → RO X.P K id o
  live : ∀ id, liveAt K h id → K.L (K.b id)
  inj : ∀ i j, liveAt K h i → liveAt K h j → K.b i = K.b j → i = j
  Lb : ∀ b, K.L b → b < K.w.heap.size
  glob : Glob X K

structure Ext (K : KS) (h : Hp) (K' : KS) (h' : Hp) : Prop where
  os : K'.w.os = K.w.os
  tape : K'.w.tape = K.w.tape
  output : K'.w.output = K.w.output
  size : K.w.heap.size ≤ K'.w.heap.size
  block : ∀ b, b < K.w.heap.size → (∀ id, liveAt K h id → K.b id ≠ b) → K'.w.heap[b]? = K.w.heap[b]?
  new : ∀ id, liveAt K' h' id → (∃ i, liveAt K h i ∧ K.b i = K'.b id) ∨ K.w.heap.size ≤ K'.b id
  L : ∀ b, K'.L b → K.L b ∨ K.w.heap.size ≤ b
  keep : ∀ b, K.L b → (∀ id, liveAt K h id → K.b id ≠ b) → K'.L b
  A : ∀ i, K.A i → K'.A i ∧ K'.b i = K.b i ∧ K'.c i = K.c i ∧ K'.k i = K.k i

theorem Ext.refl (K : KS) (h : Hp) : Ext K h K h :=
  ⟨rfl, rfl, rfl, Nat.le_refl _, fun _ _ _ => rfl, fun id hl => .inl ⟨id, hl, rfl⟩, fun _ h => .inl h, fun _ h _ => h, fun _ h => ⟨h, rfl, rfl, rfl⟩⟩

theorem Ext.le {X : PG} {K K' : KS} {h h' : Hp} (x : Ext K h K' h') (hh : RH X K h) : K.le K' :=
  ⟨x.size, fun b hb hL => x.block b hb (fun id hl e => hL (e ▸ hh.live id hl)), x.L, x.A⟩

theorem Ext.trans {X : PG} {K K1 K2 : KS} {h h1 h2 : Hp} (x : Ext K h K1 h1) (y : Ext K1 h1 K2 h2) (hh : RH X K h) : Ext K h K2 h2 := by
  have nl : ∀ b, b < K.w.heap.size → (∀ id, liveAt K h id → K.b id ≠ b) → ∀ id, liveAt K1 h1 id → K1.b id ≠ b := fun b hb hn id hl e => by
    rcases x.new id hl with ⟨i, hi, e'⟩ | h'
    · exact hn i hi (e'.trans e)
    · omega
  refine ⟨y.os.trans x.os, y.tape.trans x.tape, y.output.trans x.output, Nat.le_trans x.size y.size, fun b hb hn => ?_, fun id hl => ?_, fun b hb => ?_, fun b hb hn => ?_, fun i hi => ?_⟩
  · rw [y.block b (Nat.lt_of_lt_of_le hb x.size) (nl b hb hn), x.block b hb hn]
  · rcases y.new id hl with ⟨i, hi, e⟩ | h'
    · rcases x.new i hi with ⟨j, hj, e'⟩ | h''
      · exact .inl ⟨j, hj, e'.trans e⟩
      · exact .inr (e ▸ h'')
    · exact .inr (Nat.le_trans x.size h')
  · rcases y.L b hb with h' | h'
    · exact x.L b h'
    · exact .inr (Nat.le_trans x.size h')
  · exact y.keep b (x.keep b hb hn) (nl b (hh.Lb b hb) hn)
  · obtain ⟨h1, h2, h3, h4⟩ := x.A i hi
    obtain ⟨k1, k2, k3, k4⟩ := y.A i h1
    exact ⟨k1, k2.trans h2, k3.trans h3, k4.trans h4⟩

/-- And what is new lies behind what was there. -/
structure ExtA (K : KS) (h : Hp) (K' : KS) (h' : Hp) : Prop extends Ext K h K' h' where
  len : h.length ≤ h'.length
  An : ∀ i, K'.A i → K.A i ∨ h.length ≤ i

theorem ExtA.refl (K : KS) (h : Hp) : ExtA K h K h := ⟨.refl _ _, Nat.le_refl _, fun _ h => .inl h⟩

theorem ExtA.le {X : PG} {K K' : KS} {h h' : Hp} (x : ExtA K h K' h') (hh : RH X K h) : K.le K' := x.toExt.le hh

theorem ExtA.trans {X : PG} {K K1 K2 : KS} {h h1 h2 : Hp} (x : ExtA K h K1 h1) (y : ExtA K1 h1 K2 h2) (hh : RH X K h) : ExtA K h K2 h2 :=
  ⟨x.toExt.trans y.toExt hh, Nat.le_trans x.len y.len, fun i hi => (y.An i hi).elim (x.An i) (fun h => .inr (Nat.le_trans x.len h))⟩

/-- The environment: what the temporaries hold. -/
abbrev Env := Nat → HV

def upd (e : Env) (d : Nat) (x : HV) : Env := fun t => if t = d then x else e t

theorem upd_same (e : Env) (d : Nat) (x : HV) : upd e d x d = x := by simp [upd]
theorem upd_ne (e : Env) (d t : Nat) (x : HV) (h : ¬ t = d) : upd e d x t = e t := by simp [upd, h]

/-- What is put into a temporary (N: how many there are). -/
def putE (N : Nat) (e : Env) (dst : Option Nat) (x : HV) : Env :=
  match dst with
  | none => e
  | some d => upd e d (if d < N then x else .und)

/-- A constant of the text. -/
def lit1 : Value → HV
  | .bool b => .bool b
  | .int k n => .int k n
  | .string s => .str s
  | .slice none 0 0 => .sl true []
  | v => if isNul v then .nul v else .und

def lit : Value → HV
  | .agg cs => .agg (cs.toList.map lit1)
  | v => lit1 v

theorem lit1_ok (K : KS) (v : Value) : RV K (lit1 v) v := by
  unfold lit1
  split
  · exact .bool _
  · exact .int _ _
  · exact .str _
  · exact .sl0 true none 0 (fun _ => rfl) (fun _ => rfl) (Nat.zero_le _)
  · split
    · exact .nul _ (by assumption)
    · exact .und _

theorem lit_ok (K : KS) (v : Value) : RV K (lit v) v := by
  unfold lit
  split
  · rename_i cs
    exact .agg _ _ (by simp) (fun i hi => by simp; exact lit1_ok K _)
  · exact lit1_ok K _

def ev (X : PG) (e : Env) : Operand → HV
  | .tmp t => e t
  | .const v => lit v
  | .global g => X.G g
  | .func f => .fn (.func f) [] []

/-- The marks of loops over a function among the deferred calls. -/
def DefOK (B : Nat) (w : World) (ds : List Deferred) : Prop :=
  ∃ rs : List Nat, ds = rs.map (fun r => { target := .collected r, args := #[] }) ∧ rs.Nodup ∧ ∀ r ∈ rs, w.heap[r]? = some (.deferred (some [])) ∧ B ≤ r

/-- The frame's temporaries (N of them) hold what the environment says; B: the heap's size when the function was entered. -/
structure RE (K : KS) (B N : Nat) (e : Env) (a : Act) : Prop where
  size : a.tmps.size = N
  tmps : ∀ t, RV K (e t) (a.tmps.getD t undef)
  defers : DefOK B K.w a.defers
  le : B ≤ K.w.heap.size

theorem RE.eval {X : PG} {K : KS} {hp : Hp} {B N : Nat} {e : Env} {a : Act} (h : RE K B N e a) (hh : RH X K hp) (x : Operand) : RV K (ev X e x) (a.eval x) := by
  cases x with
  | tmp t => exact h.tmps t
  | const v => exact lit_ok K v
  | global g => exact hh.glob.var g
  | func f => exact .fn (.func f) [] [] #[] #[] rfl rfl (fun i hi => absurd hi (Nat.not_lt_zero _)) (fun i hi => absurd hi (Nat.not_lt_zero _))

theorem RO.notDeferred {P : Program} {K : KS} {id : Nat} {o : HO} (h : RO P K id o) (hl : o.live = true) (hc : K.c id ≠ 0) {ds : Option (List Deferred)} : K.w.heap[K.b id]? ≠ some (.deferred ds) := by
  intro e
  cases o with
  | row t es => obtain ⟨_, _, h3⟩ := h; obtain ⟨cur, h1, _⟩ := h3 hc; rw [h1] at e; cases e
  | map kvs clock => obtain ⟨_, es, h1, _⟩ := h; rw [h1] at e; cases e
  | iter m since seen last => obtain ⟨_, _, h1⟩ := h; rw [h1] at e; cases e
  | sit s pos => obtain ⟨_, h1⟩ := h; rw [h1] at e; cases e
  | loop l r => obtain ⟨_, _, h1⟩ := h; rw [h1] at e; cases e
  | gone => cases hl

theorem DefOK.ext {X : PG} {K K' : KS} {h h' : Hp} {B : Nat} {ds : List Deferred} (hd : DefOK B K.w ds) (x : Ext K h K' h') (hh : RH X K h) : DefOK B K'.w ds := by
  obtain ⟨rs, h1, h2, h3⟩ := hd
  refine ⟨rs, h1, h2, fun r hr => ?_⟩
  obtain ⟨hr', hB⟩ := h3 r hr
  refine ⟨?_, hB⟩
  rw [x.block r (Array.getElem?_eq_some_iff.1 hr').1 (fun id hl e => ?_)]
  · exact hr'
  · obtain ⟨hA, ⟨o, ho, hlo⟩, hc⟩ := hl
    exact (hh.obj id o hA ho).notDeferred hlo hc (e ▸ hr')

theorem RE.ext {X : PG} {K K' : KS} {h h' : Hp} {B N : Nat} {e : Env} {a : Act} (he : RE K B N e a) (x : Ext K h K' h') (hh : RH X K h) : RE K' B N e a :=
  ⟨he.size, fun t => (he.tmps t).mono (x.le hh), he.defers.ext x hh, Nat.le_trans he.le x.size⟩

theorem RE.put {K : KS} {B N : Nat} {e : Env} {a : Act} (h : RE K B N e a) (dst : Option Nat) {x : HV} {v : Value} (hv : RV K x v) : RE K B N (putE N e dst x) (a.put dst v) := by
  cases dst with
  | none => exact h
  | some d =>
    refine ⟨by simp [Act.put, h.size], fun t => ?_, h.defers, h.le⟩
    simp only [putE, upd, Act.put]
    by_cases ht : t = d
    · subst ht
      rw [if_pos rfl]
      by_cases hd : t < N
      · rw [if_pos hd]
        have hd' : t < a.tmps.size := by rw [h.size]; exact hd
        simpa [hd'] using hv
      · rw [if_neg hd]; exact .und _
    · rw [if_neg ht]
      have := h.tmps t
      simp only [Array.getD_eq_getD_getElem?, Array.getElem?_setIfInBounds_ne (fun e => ht e.symm)] at this ⊢
      exact this

end Go.HL
