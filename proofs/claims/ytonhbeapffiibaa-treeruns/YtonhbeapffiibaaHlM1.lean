/-
  HL, part A: abstract values, the Kripke state, the relation between abstract values and the model's values, and that it is kept when the world grows.
-/
import Derived.WalkKit
import Derived.RangeFuncLeaves
import Derived.RangeFuncCalls
import Derived.RangeFuncRecord
import Derived.LaidEql
namespace Go.HL

/-- Abstract values. 'sl': an immutable slice, by its elements' cells ('full': it has no spare capacity). 'ow': a slice of a row of the call's own. 'ip': a pointer to immutable cells. 'ep': a pointer into an own row: element, cell. -/
inductive HV where
  | bool (b : Bool)
  | int (k : IntKind) (n : Int)
  | str (s : ByteArray)
  | nul (v : Value)
  | sl (full : Bool) (es : List (List HV))
  | ow (id lo len : Nat)
  | ip (cs : List HV)
  | ep (id i off : Nat)
  | mp (id : Nat)
  | it (id : Nat)
  | fn (f : Fn) (fs cs : List HV)
  | agg (cs : List HV)
  | tup (vs : List HV)
  | und
  deriving Inhabited

/-- The nil values of one cell. -/
def isNul : Value → Bool
  | .pointer none | .map none | .nilFunc | .nilIface => true
  | _ => false

/-- The state against which abstract values are read: the world; 'L': the blocks that no immutable value may lie in; of each object of the call's own: whether it is there, its block, its capacity in elements, its elements' size in cells. -/
structure KS where
  w : World
  L : Nat → Prop
  A : Nat → Prop
  b : Nat → Nat
  c : Nat → Nat
  k : Nat → Nat

inductive RV (K : KS) : HV → Value → Prop
  | bool (b : Bool) : RV K (.bool b) (.bool b)
  | int (k : IntKind) (n : Int) : RV K (.int k n) (.int k n)
  | str (s : ByteArray) : RV K (.str s) (.string s)
  | nul (v : Value) (h : isNul v = true) : RV K (.nul v) v
  | sl0 (full : Bool) (a : Option Addr) (cap : Nat) (h1 : a = none → cap = 0) (h2 : full = true → cap = 0) (h3 : cap ≤ maxLen) : RV K (.sl full []) (.slice a 0 cap)
  | sl (full : Bool) (es : List (List HV)) (k b off cap : Nat) (cv : Nat → Nat → Value) (h0 : 0 < es.length) (h1 : es.length ≤ cap) (h2 : full = true → cap = es.length) (h3 : cap ≤ maxLen)
      (hb : b < K.w.heap.size) (hL : ¬ K.L b) (hk : ∀ i (hi : i < es.length), es[i].length = k)
      (hc : ∀ i (hi : i < es.length) j (_ : j < es[i].length), K.w.cell? ⟨b, off + i * k + j, none⟩ = some (cv i j))
      (hr : ∀ i (hi : i < es.length) j (hj : j < es[i].length), RV K es[i][j] (cv i j)) : RV K (.sl full es) (.slice (some ⟨b, off, none⟩) es.length cap)
  | ow (id lo len : Nat) (hA : K.A id) (h0 : K.c id ≠ 0) (h1 : lo + len ≤ K.c id) (h2 : K.c id ≤ maxLen) : RV K (.ow id lo len) (.slice (some ⟨K.b id, lo * K.k id, none⟩) len (K.c id - lo))
  | ow0 (id : Nat) (a : Option Addr) (hA : K.A id) (h0 : K.c id = 0) : RV K (.ow id 0 0) (.slice a 0 0)
  | ip (cs : List HV) (b off : Nat) (cv : Nat → Value) (hb : b < K.w.heap.size) (hL : ¬ K.L b)
      (hc : ∀ j (_ : j < cs.length), K.w.cell? ⟨b, off + j, none⟩ = some (cv j)) (hr : ∀ j (hj : j < cs.length), RV K cs[j] (cv j)) : RV K (.ip cs) (.pointer (some ⟨b, off, none⟩))
  | ep (id i off : Nat) (hA : K.A id) : RV K (.ep id i off) (.pointer (some ⟨K.b id, i * K.k id + off, none⟩))
  | mp (id : Nat) (hA : K.A id) : RV K (.mp id) (.map (some (K.b id)))
  | it (id : Nat) (hA : K.A id) : RV K (.it id) (.pointer (some ⟨K.b id, 0, none⟩))
  | fn (f : Fn) (fs cs : List HV) (vs us : Array Value) (h1 : fs.length = vs.size) (h2 : cs.length = us.size)
      (hf : ∀ i (hi : i < fs.length), RV K fs[i] (vs[i]'(h1 ▸ hi))) (hc : ∀ i (hi : i < cs.length), RV K cs[i] (us[i]'(h2 ▸ hi))) : RV K (.fn f fs cs) (.func f vs us)
  | agg (cs : List HV) (vs : Array Value) (h1 : cs.length = vs.size) (hr : ∀ i (hi : i < cs.length), RV K cs[i] (vs[i]'(h1 ▸ hi))) : RV K (.agg cs) (.agg vs)
  | tup (cs : List HV) (vs : Array Value) (h1 : cs.length = vs.size) (hr : ∀ i (hi : i < cs.length), RV K cs[i] (vs[i]'(h1 ▸ hi))) : RV K (.tup cs) (.tuple vs)
  | und (v : Value) : RV K .und v

/-- 'K'' has grown out of 'K': what does not lie in L reads as before; L grows by new blocks alone; what is known of an object stays known. -/
structure KS.le (K K' : KS) : Prop where
  size : K.w.heap.size ≤ K'.w.heap.size
  block : ∀ b, b < K.w.heap.size → ¬ K.L b → K'.w.heap[b]? = K.w.heap[b]?
  L : ∀ b, K'.L b → K.L b ∨ K.w.heap.size ≤ b
  A : ∀ i, K.A i → K'.A i ∧ K'.b i = K.b i ∧ K'.c i = K.c i ∧ K'.k i = K.k i

theorem KS.le.refl (K : KS) : K.le K := ⟨Nat.le_refl _, fun _ _ _ => rfl, fun _ h => .inl h, fun _ h => ⟨h, rfl, rfl, rfl⟩⟩

theorem KS.le.trans {a b c : KS} (h : a.le b) (k : b.le c) : a.le c := by
  refine ⟨Nat.le_trans h.size k.size, fun i hi hL => ?_, fun i hi => ?_, fun i hi => ?_⟩
  · rw [k.block i (Nat.lt_of_lt_of_le hi h.size) (fun hb => ?_), h.block i hi hL]
    rcases h.L i hb with h' | h'
    · exact hL h'
    · omega
  · rcases k.L i hi with h' | h'
    · exact h.L i h'
    · exact .inr (Nat.le_trans h.size h')
  · obtain ⟨h1, h2, h3, h4⟩ := h.A i hi
    obtain ⟨k1, k2, k3, k4⟩ := k.A i h1
    exact ⟨k1, k2.trans h2, k3.trans h3, k4.trans h4⟩

theorem KS.le.cell {K K' : KS} (h : K.le K') {b off : Nat} {v : Value} (hb : b < K.w.heap.size) (hL : ¬ K.L b) (hc : K.w.cell? ⟨b, off, none⟩ = some v) : K'.w.cell? ⟨b, off, none⟩ = some v :=
  (World.cell?_of_block (w := K.w) (a := ⟨b, off, none⟩) (h.block b hb hL)).trans hc

theorem KS.le.notL {K K' : KS} (h : K.le K') {b : Nat} (hb : b < K.w.heap.size) (hL : ¬ K.L b) : ¬ K'.L b := fun hb' => by
  rcases h.L b hb' with h' | h'
  · exact hL h'
  · omega

theorem RV.mono {K K' : KS} (h : K.le K') {x : HV} {v : Value} (hr : RV K x v) : RV K' x v := by
  induction hr with
  | bool b => exact .bool b
  | int k n => exact .int k n
  | str s => exact .str s
  | nul v hv => exact .nul v hv
  | sl0 full a cap h1 h2 h3 => exact .sl0 full a cap h1 h2 h3
  | sl full es k b off cap cv h0 h1 h2 h3 hb hL hk hc _ ih =>
    exact .sl full es k b off cap cv h0 h1 h2 h3 (Nat.lt_of_lt_of_le hb h.size) (h.notL hb hL) hk (fun i hi j hj => h.cell hb hL (hc i hi j hj)) ih
  | ow id lo len hA h0 h1 h2 =>
    obtain ⟨a1, a2, a3, a4⟩ := h.A id hA
    rw [← a2, ← a3, ← a4]
    exact .ow id lo len a1 (by rw [a3]; exact h0) (by rw [a3]; exact h1) (by rw [a3]; exact h2)
  | ow0 id a hA h0 =>
    obtain ⟨a1, a2, a3, a4⟩ := h.A id hA
    exact .ow0 id a a1 (by rw [a3]; exact h0)
  | ip cs b off cv hb hL hc _ ih => exact .ip cs b off cv (Nat.lt_of_lt_of_le hb h.size) (h.notL hb hL) (fun j hj => h.cell hb hL (hc j hj)) ih
  | ep id i off hA =>
    obtain ⟨a1, a2, a3, a4⟩ := h.A id hA
    rw [← a2, ← a4]
    exact .ep id i off a1
  | mp id hA =>
    obtain ⟨a1, a2, a3, a4⟩ := h.A id hA
    rw [← a2]
    exact .mp id a1
  | it id hA =>
    obtain ⟨a1, a2, a3, a4⟩ := h.A id hA
    rw [← a2]
    exact .it id a1
  | fn f fs cs vs us h1 h2 _ _ ih1 ih2 => exact .fn f fs cs vs us h1 h2 ih1 ih2
  | agg cs vs h1 _ ih => exact .agg cs vs h1 ih
  | tup cs vs h1 _ ih => exact .tup cs vs h1 ih
  | und v => exact .und v

/-- One cell: what may stand in a cell of memory. -/
def HV.one : HV → Bool
  | .agg _ | .tup _ | .und => false
  | _ => true

theorem RV.oneCell {K : KS} {x : HV} {v : Value} (h : RV K x v) (ho : x.one = true) : v.oneCell' = true := by
  cases h <;> first | rfl | (simp [HV.one] at ho; done) | skip
  rename_i h
  cases v <;> simp [isNul] at h <;> rfl

/-- The cells of an abstract value, where it has any. -/
def HV.cells : HV → List HV
  | .agg cs => cs
  | x => [x]

theorem RV.cells {K : KS} {x : HV} {v : Value} (h : RV K x v) (hu : x ≠ .und) (ht : ∀ l, x ≠ .tup l) :
    x.cells.length = v.cells.size ∧ ∀ i (hi : i < x.cells.length) (hi' : i < v.cells.size), RV K x.cells[i] v.cells[i] := by
  cases h with
  | agg cs vs h1 hr => exact ⟨h1, fun i hi _ => hr i hi⟩
  | und => exact absurd rfl hu
  | tup cs vs h1 hr => exact absurd rfl (ht cs)
  | nul v hv =>
    have e : v.cells = #[v] := by cases v <;> simp [isNul] at hv <;> rfl
    refine ⟨by simp [HV.cells, e], fun i hi hi' => ?_⟩
    have h0 : i = 0 := by simp [HV.cells] at hi; exact hi
    subst h0
    have : v.cells[0] = v := by simp [e]
    rw [this]
    exact RV.nul v hv
  | bool => exact ⟨rfl, fun i hi _ => by have h0 : i = 0 := by (simp [HV.cells] at hi; exact hi)
                                         subst h0; exact .bool _⟩
  | int => exact ⟨rfl, fun i hi _ => by have h0 : i = 0 := by (simp [HV.cells] at hi; exact hi)
                                        subst h0; exact .int _ _⟩
  | str => exact ⟨rfl, fun i hi _ => by have h0 : i = 0 := by (simp [HV.cells] at hi; exact hi)
                                        subst h0; exact .str _⟩
  | sl0 full a cap h1 h2 h3 => exact ⟨rfl, fun i hi _ => by have h0 : i = 0 := by (simp [HV.cells] at hi; exact hi)
                                                            subst h0; exact .sl0 full a cap h1 h2 h3⟩
  | sl full es k b off cap cv h0 h1 h2 h3 hb hL hk hc hr => exact ⟨rfl, fun i hi _ => by have h0' : i = 0 := by (simp [HV.cells] at hi; exact hi)
                                                                                         subst h0'; exact .sl full es k b off cap cv h0 h1 h2 h3 hb hL hk hc hr⟩
  | ow id lo len hA h0' h1 h2 => exact ⟨rfl, fun i hi _ => by have h0 : i = 0 := by (simp [HV.cells] at hi; exact hi)
                                                              subst h0; exact .ow id lo len hA h0' h1 h2⟩
  | ow0 id a hA h0' => exact ⟨rfl, fun i hi _ => by have h0 : i = 0 := by (simp [HV.cells] at hi; exact hi)
                                                    subst h0; exact .ow0 id a hA h0'⟩
  | ip cs b off cv hb hL hc hr => exact ⟨rfl, fun i hi _ => by have h0 : i = 0 := by (simp [HV.cells] at hi; exact hi)
                                                               subst h0; exact .ip cs b off cv hb hL hc hr⟩
  | ep id i off hA => exact ⟨rfl, fun i' hi _ => by have h0 : i' = 0 := by (simp [HV.cells] at hi; exact hi)
                                                    subst h0; exact .ep id i off hA⟩
  | mp id hA => exact ⟨rfl, fun i hi _ => by have h0 : i = 0 := by (simp [HV.cells] at hi; exact hi)
                                             subst h0; exact .mp id hA⟩
  | it id hA => exact ⟨rfl, fun i hi _ => by have h0 : i = 0 := by (simp [HV.cells] at hi; exact hi)
                                             subst h0; exact .it id hA⟩
  | fn f fs cs vs us h1 h2 hf hc => exact ⟨rfl, fun i hi _ => by have h0 : i = 0 := by (simp [HV.cells] at hi; exact hi)
                                                                 subst h0; exact .fn f fs cs vs us h1 h2 hf hc⟩

mutual
/-- No reference to an object of the call's own. -/
def HV.free : HV → Bool
  | .sl _ es => HV.freeLL es
  | .ip cs => HV.freeL cs
  | .fn _ fs cs => HV.freeL fs && HV.freeL cs
  | .agg cs => HV.freeL cs
  | .tup vs => HV.freeL vs
  | .ow _ _ _ => false
  | .ep _ _ _ => false
  | .mp _ => false
  | .it _ => false
  | _ => true
def HV.freeL : List HV → Bool
  | [] => true
  | x :: rest => HV.free x && HV.freeL rest
def HV.freeLL : List (List HV) → Bool
  | [] => true
  | x :: rest => HV.freeL x && HV.freeLL rest
end

theorem freeL_all : ∀ l, HV.freeL l = l.all HV.free
  | [] => by simp [HV.freeL]
  | x :: rest => by simp [HV.freeL, freeL_all rest]

theorem freeLL_all : ∀ l, HV.freeLL l = l.all (fun cs => cs.all HV.free)
  | [] => by simp [HV.freeLL]
  | x :: rest => by simp [HV.freeLL, freeL_all, freeLL_all rest]

theorem freeL_get {l : List HV} (h : HV.freeL l = true) (i : Nat) (hi : i < l.length) : l[i].free = true := by
  rw [freeL_all] at h
  exact List.all_eq_true.1 h _ (List.getElem_mem hi)

theorem freeLL_get {l : List (List HV)} (h : HV.freeLL l = true) (i : Nat) (hi : i < l.length) : HV.freeL l[i] = true := by
  rw [freeLL_all] at h
  rw [freeL_all]
  exact List.all_eq_true.1 h _ (List.getElem_mem hi)

/-- What holds no reference to an own object does not ask which there are. -/
theorem RV.free {K K' : KS} (hw : K'.w = K.w) (hL : ∀ b, K'.L b → K.L b) {x : HV} {v : Value} (hr : RV K x v) (hx : x.free = true) : RV K' x v := by
  induction hr with
  | bool b => exact .bool b
  | int k n => exact .int k n
  | str s => exact .str s
  | nul v hv => exact .nul v hv
  | sl0 full a cap h1 h2 h3 => exact .sl0 full a cap h1 h2 h3
  | sl full es k b off cap cv h0 h1 h2 h3 hb hL' hk hc _ ih =>
    exact .sl full es k b off cap cv h0 h1 h2 h3 (by rw [hw]; exact hb) (fun h => hL' (hL b h)) hk (fun i hi j hj => by rw [hw]; exact hc i hi j hj)
      (fun i hi j hj => ih i hi j hj (freeL_get (freeLL_get (by simpa [HV.free] using hx) i hi) j hj))
  | ow id lo len => simp [HV.free] at hx
  | ow0 id a => simp [HV.free] at hx
  | ip cs b off cv hb hL' hc _ ih => exact .ip cs b off cv (by rw [hw]; exact hb) (fun h => hL' (hL b h)) (fun j hj => by rw [hw]; exact hc j hj) (fun j hj => ih j hj (freeL_get (by simpa [HV.free] using hx) j hj))
  | ep id i off => simp [HV.free] at hx
  | mp id => simp [HV.free] at hx
  | it id => simp [HV.free] at hx
  | fn f fs cs vs us h1 h2 _ _ ih1 ih2 =>
    simp only [HV.free, Bool.and_eq_true] at hx
    exact .fn f fs cs vs us h1 h2 (fun i hi => ih1 i hi (freeL_get hx.1 i hi)) (fun i hi => ih2 i hi (freeL_get hx.2 i hi))
  | agg cs vs h1 _ ih => exact .agg cs vs h1 (fun i hi => ih i hi (freeL_get (by simpa [HV.free] using hx) i hi))
  | tup cs vs h1 _ ih => exact .tup cs vs h1 (fun i hi => ih i hi (freeL_get (by simpa [HV.free] using hx) i hi))
  | und v => exact .und v

end Go.HL

/-
  HL, part B: the call's own objects, the environment, and how both are kept from state to state.
-/
namespace Go.HL

/-- An object of the call's own: a row; a map (with each entry's stamp); an iterator over a map; one over a string; the record of a loop over a function. 'gone': it may not be used any more. -/
inductive HO where
  | row (t : TypeId) (es : List (List HV))
  | map (kvs : List (HV × HV × Nat)) (clock : Nat)
  | iter (m : Option Nat) (since : Nat) (seen : List Nat) (last : Nat)
  | sit (s : ByteArray) (pos : Nat)
  | loop (l : Nat) (r : Loop)
  | gone
  deriving Inhabited

def HO.live : HO → Bool
  | .gone => false
  | _ => true

abbrev Hp := List HO

/-- The program, and what its package-level variables are: pointers to immutable cells, or unknown; what else holds of the state, whatever the code does. -/
structure PG where
  P : Program
  G : Nat → HV
  fr : ∀ g, (G g).free = true
  low : Nat
  inv : KS → Prop
  mono : ∀ K K', K.le K' → inv K → inv K'
  touch : ∀ (K : KS) (w' : World), w'.heap.size = K.w.heap.size → (∀ b, b < low → w'.heap[b]? = K.w.heap[b]?) → inv K → inv { K with w := w' }

/-- What else holds of the state. -/
structure Inv where
  low : Nat
  inv : KS → Prop
  mono : ∀ K K', K.le K' → inv K → inv K'
  touch : ∀ (K : KS) (w' : World), w'.heap.size = K.w.heap.size → (∀ b, b < low → w'.heap[b]? = K.w.heap[b]?) → inv K → inv { K with w := w' }

def PG.i (X : PG) : Inv := ⟨X.low, X.inv, X.mono, X.touch⟩
abbrev PG.withI (X : PG) (i : Inv) : PG := { P := X.P, G := X.G, fr := X.fr, low := i.low, inv := i.inv, mono := i.mono, touch := i.touch }
theorem PG.withI_i (X : PG) : X.withI X.i = X := rfl
theorem PG.withI_P (X : PG) (i : Inv) : (X.withI i).P = X.P := rfl
theorem PG.withI_G (X : PG) (i : Inv) : (X.withI i).G = X.G := rfl
theorem PG.withI_withI (X : PG) (i j : Inv) : (X.withI i).withI j = X.withI j := rfl

/-- Nothing is asked of the state. -/
class PG.Flat (X : PG) : Prop where
  inv : ∀ K, X.inv K
  low : X.low = 0

/-- The entry of a map in the model. -/
def mapLike (K : KS) (kvs : List (HV × HV × Nat)) (es : Array MapEntry) : Prop :=
  es.size = kvs.length ∧ ∀ (i : Nat) x, kvs[i]? = some x → ∃ m, es[i]? = some m ∧ RV K x.1 m.key ∧ RV K x.2.1 m.val ∧ m.born = x.2.2

def szH (P : Program) (t : TypeId) : Option Nat := (P.info? t).map (·.size)

/-- A row that lies in memory. -/
def RowAt (K : KS) (id : Nat) (t : TypeId) (es : List (List HV)) : Prop :=
  ∃ cur, K.w.heap[K.b id]? = some (.cells cur t (0, 0)) ∧ cur.size = K.c id * K.k id ∧ es.length ≤ K.c id ∧ K.c id ≤ maxLen ∧ (∀ i (hi : i < es.length), es[i].length = K.k id) ∧
    (∀ i (hi : i < es.length) j (hj : j < es[i].length), es[i][j].one = true) ∧ (∀ i (hi : i < es.length) j (hj : j < es[i].length), ∃ v, cur[i * K.k id + j]? = some v ∧ RV K es[i][j] v)

/-- What an object says of the world. (A row of no capacity need not lie anywhere.) -/
def RO (P : Program) (K : KS) (id : Nat) : HO → Prop
  | .row t es => szH P t = some (K.k id) ∧ (K.c id = 0 → es = []) ∧ (K.c id ≠ 0 → RowAt K id t es)
  | .map kvs clock => K.c id ≠ 0 ∧ ∃ es, K.w.heap[K.b id]? = some (.map es clock) ∧ mapLike K kvs es
  | .iter m since seen last => K.c id ≠ 0 ∧ (∀ x, m = some x → K.A x) ∧ K.w.heap[K.b id]? = some (.mapIter (m.map K.b) since seen.toArray last)
  | .sit s pos => K.c id ≠ 0 ∧ K.w.heap[K.b id]? = some (.stringIter s pos)
  | .loop l r => K.c id ≠ 0 ∧ K.b id = l ∧ K.w.heap[K.b id]? = some (.loop r)
  | .gone => True

/-- The object takes a block of its own. -/
def liveAt (K : KS) (h : Hp) (id : Nat) : Prop := K.A id ∧ (∃ o, h[id]? = some o ∧ o.live = true) ∧ K.c id ≠ 0

structure Glob (X : PG) (K : KS) : Prop where
  var : ∀ g, RV K (X.G g) (.pointer (some ⟨g, 0, none⟩))
  low : X.low ≤ K.w.heap.size
  inv : X.inv K

theorem Glob.mono {X : PG} {K K' : KS} (h : Glob X K) (hle : K.le K') : Glob X K' := ⟨fun g => (h.var g).mono hle, Nat.le_trans h.low hle.size, X.mono _ _ hle h.inv⟩

structure RH (X : PG) (K : KS) (h : Hp) : Prop where
  A : ∀ id, K.A id → id < h.length
  obj : ∀ id o, K.A id → h[id]? = some o → RO X.P K id o
  live : ∀ id, liveAt K h id → K.L (K.b id)
  inj : ∀ i j, liveAt K h i → liveAt K h j → K.b i = K.b j → i = j
  Lb : ∀ b, K.L b → b < K.w.heap.size
  glob : Glob X K

structure Ext (K : KS) (h : Hp) (K' : KS) (h' : Hp) : Prop where
  os : K'.w.os = K.w.os
  tape : K'.w.tape = K.w.tape
  output : K'.w.output = K.w.output
  size : K.w.heap.size ≤ K'.w.heap.size
  block : ∀ b, b < K.w.heap.size → (∀ id, liveAt K h id → K.b id ≠ b) → K'.w.heap[b]? = K.w.heap[b]?
  new : ∀ id, liveAt K' h' id → (∃ i, liveAt K h i ∧ K.b i = K'.b id) ∨ K.w.heap.size ≤ K'.b id
  L : ∀ b, K'.L b → K.L b ∨ K.w.heap.size ≤ b
  keep : ∀ b, K.L b → (∀ id, liveAt K h id → K.b id ≠ b) → K'.L b
  A : ∀ i, K.A i → K'.A i ∧ K'.b i = K.b i ∧ K'.c i = K.c i ∧ K'.k i = K.k i

theorem Ext.refl (K : KS) (h : Hp) : Ext K h K h :=
  ⟨rfl, rfl, rfl, Nat.le_refl _, fun _ _ _ => rfl, fun id hl => .inl ⟨id, hl, rfl⟩, fun _ h => .inl h, fun _ h _ => h, fun _ h => ⟨h, rfl, rfl, rfl⟩⟩

theorem Ext.le {X : PG} {K K' : KS} {h h' : Hp} (x : Ext K h K' h') (hh : RH X K h) : K.le K' :=
  ⟨x.size, fun b hb hL => x.block b hb (fun id hl e => hL (e ▸ hh.live id hl)), x.L, x.A⟩

theorem Ext.trans {X : PG} {K K1 K2 : KS} {h h1 h2 : Hp} (x : Ext K h K1 h1) (y : Ext K1 h1 K2 h2) (hh : RH X K h) : Ext K h K2 h2 := by
  have nl : ∀ b, b < K.w.heap.size → (∀ id, liveAt K h id → K.b id ≠ b) → ∀ id, liveAt K1 h1 id → K1.b id ≠ b := fun b hb hn id hl e => by
    rcases x.new id hl with ⟨i, hi, e'⟩ | h'
    · exact hn i hi (e'.trans e)
    · omega
  refine ⟨y.os.trans x.os, y.tape.trans x.tape, y.output.trans x.output, Nat.le_trans x.size y.size, fun b hb hn => ?_, fun id hl => ?_, fun b hb => ?_, fun b hb hn => ?_, fun i hi => ?_⟩
  · rw [y.block b (Nat.lt_of_lt_of_le hb x.size) (nl b hb hn), x.block b hb hn]
  · rcases y.new id hl with ⟨i, hi, e⟩ | h'
    · rcases x.new i hi with ⟨j, hj, e'⟩ | h''
      · exact .inl ⟨j, hj, e'.trans e⟩
      · exact .inr (e ▸ h'')
    · exact .inr (Nat.le_trans x.size h')
  · rcases y.L b hb with h' | h'
    · exact x.L b h'
    · exact .inr (Nat.le_trans x.size h')
  · exact y.keep b (x.keep b hb hn) (nl b (hh.Lb b hb) hn)
  · obtain ⟨h1, h2, h3, h4⟩ := x.A i hi
    obtain ⟨k1, k2, k3, k4⟩ := y.A i h1
    exact ⟨k1, k2.trans h2, k3.trans h3, k4.trans h4⟩

/-- And what is new lies behind what was there. -/
structure ExtA (K : KS) (h : Hp) (K' : KS) (h' : Hp) : Prop extends Ext K h K' h' where
  len : h.length ≤ h'.length
  An : ∀ i, K'.A i → K.A i ∨ h.length ≤ i

theorem ExtA.refl (K : KS) (h : Hp) : ExtA K h K h := ⟨.refl _ _, Nat.le_refl _, fun _ h => .inl h⟩

theorem ExtA.le {X : PG} {K K' : KS} {h h' : Hp} (x : ExtA K h K' h') (hh : RH X K h) : K.le K' := x.toExt.le hh

theorem ExtA.trans {X : PG} {K K1 K2 : KS} {h h1 h2 : Hp} (x : ExtA K h K1 h1) (y : ExtA K1 h1 K2 h2) (hh : RH X K h) : ExtA K h K2 h2 :=
  ⟨x.toExt.trans y.toExt hh, Nat.le_trans x.len y.len, fun i hi => (y.An i hi).elim (x.An i) (fun h => .inr (Nat.le_trans x.len h))⟩

/-- The environment: what the temporaries hold. -/
abbrev Env := Nat → HV

def upd (e : Env) (d : Nat) (x : HV) : Env := fun t => if t = d then x else e t

theorem upd_same (e : Env) (d : Nat) (x : HV) : upd e d x d = x := by simp [upd]
theorem upd_ne (e : Env) (d t : Nat) (x : HV) (h : ¬ t = d) : upd e d x t = e t := by simp [upd, h]

/-- What is put into a temporary (N: how many there are). -/
def putE (N : Nat) (e : Env) (dst : Option Nat) (x : HV) : Env :=
  match dst with
  | none => e
  | some d => upd e d (if d < N then x else .und)

/-- A constant of the text. -/
def lit1 : Value → HV
  | .bool b => .bool b
  | .int k n => .int k n
  | .string s => .str s
  | .slice none 0 0 => .sl true []
  | v => if isNul v then .nul v else .und

def lit : Value → HV
  | .agg cs => .agg (cs.toList.map lit1)
  | v => lit1 v

theorem lit1_ok (K : KS) (v : Value) : RV K (lit1 v) v := by
  unfold lit1
  split
  · exact .bool _
  · exact .int _ _
  · exact .str _
  · exact .sl0 true none 0 (fun _ => rfl) (fun _ => rfl) (Nat.zero_le _)
  · split
    · exact .nul _ (by assumption)
    · exact .und _

theorem lit_ok (K : KS) (v : Value) : RV K (lit v) v := by
  unfold lit
  split
  · rename_i cs
    exact .agg _ _ (by simp) (fun i hi => by simp; exact lit1_ok K _)
  · exact lit1_ok K _

def ev (X : PG) (e : Env) : Operand → HV
  | .tmp t => e t
  | .const v => lit v
  | .global g => X.G g
  | .func f => .fn (.func f) [] []

/-- The marks of loops over a function among the deferred calls. -/
def DefOK (B : Nat) (w : World) (ds : List Deferred) : Prop :=
  ∃ rs : List Nat, ds = rs.map (fun r => { target := .collected r, args := #[] }) ∧ rs.Nodup ∧ ∀ r ∈ rs, w.heap[r]? = some (.deferred (some [])) ∧ B ≤ r

/-- The frame's temporaries (N of them) hold what the environment says; B: the heap's size when the function was entered. -/
structure RE (K : KS) (B N : Nat) (e : Env) (a : Act) : Prop where
  size : a.tmps.size = N
  tmps : ∀ t, RV K (e t) (a.tmps.getD t undef)
  defers : DefOK B K.w a.defers
  le : B ≤ K.w.heap.size

theorem RE.eval {X : PG} {K : KS} {hp : Hp} {B N : Nat} {e : Env} {a : Act} (h : RE K B N e a) (hh : RH X K hp) (x : Operand) : RV K (ev X e x) (a.eval x) := by
  cases x with
  | tmp t => exact h.tmps t
  | const v => exact lit_ok K v
  | global g => exact hh.glob.var g
  | func f => exact .fn (.func f) [] [] #[] #[] rfl rfl (fun i hi => absurd hi (Nat.not_lt_zero _)) (fun i hi => absurd hi (Nat.not_lt_zero _))

theorem RO.notDeferred {P : Program} {K : KS} {id : Nat} {o : HO} (h : RO P K id o) (hl : o.live = true) (hc : K.c id ≠ 0) {ds : Option (List Deferred)} : K.w.heap[K.b id]? ≠ some (.deferred ds) := by
  intro e
  cases o with
  | row t es => obtain ⟨_, _, h3⟩ := h; obtain ⟨cur, h1, _⟩ := h3 hc; rw [h1] at e; cases e
  | map kvs clock => obtain ⟨_, es, h1, _⟩ := h; rw [h1] at e; cases e
  | iter m since seen last => obtain ⟨_, _, h1⟩ := h; rw [h1] at e; cases e
  | sit s pos => obtain ⟨_, h1⟩ := h; rw [h1] at e; cases e
  | loop l r => obtain ⟨_, _, h1⟩ := h; rw [h1] at e; cases e
  | gone => cases hl

theorem DefOK.ext {X : PG} {K K' : KS} {h h' : Hp} {B : Nat} {ds : List Deferred} (hd : DefOK B K.w ds) (x : Ext K h K' h') (hh : RH X K h) : DefOK B K'.w ds := by
  obtain ⟨rs, h1, h2, h3⟩ := hd
  refine ⟨rs, h1, h2, fun r hr => ?_⟩
  obtain ⟨hr', hB⟩ := h3 r hr
  refine ⟨?_, hB⟩
  rw [x.block r (Array.getElem?_eq_some_iff.1 hr').1 (fun id hl e => ?_)]
  · exact hr'
  · obtain ⟨hA, ⟨o, ho, hlo⟩, hc⟩ := hl
    exact (hh.obj id o hA ho).notDeferred hlo hc (e ▸ hr')

theorem RE.ext {X : PG} {K K' : KS} {h h' : Hp} {B N : Nat} {e : Env} {a : Act} (he : RE K B N e a) (x : Ext K h K' h') (hh : RH X K h) : RE K' B N e a :=
  ⟨he.size, fun t => (he.tmps t).mono (x.le hh), he.defers.ext x hh, Nat.le_trans he.le x.size⟩

theorem RE.put {K : KS} {B N : Nat} {e : Env} {a : Act} (h : RE K B N e a) (dst : Option Nat) {x : HV} {v : Value} (hv : RV K x v) : RE K B N (putE N e dst x) (a.put dst v) := by
  cases dst with
  | none => exact h
  | some d =>
    refine ⟨by simp [Act.put, h.size], fun t => ?_, h.defers, h.le⟩
    simp only [putE, upd, Act.put]
    by_cases ht : t = d
    · subst ht
      rw [if_pos rfl]
      by_cases hd : t < N
      · rw [if_pos hd]
        have hd' : t < a.tmps.size := by rw [h.size]; exact hd
        simpa [hd'] using hv
      · rw [if_neg hd]; exact .und _
    · rw [if_neg ht]
      have := h.tmps t
      simp only [Array.getD_eq_getD_getElem?, Array.getElem?_setIfInBounds_ne (fun e => ht e.symm)] at this ⊢
      exact this

end Go.HL

/-
  HL, part C: the program logic: what code does, said of abstract states; the rules of the structured code; a function's contract.
-/
namespace Go.HL

def F0 (ro : Option Nat) : Fence := { fn := fun _ => True, depth := none, alive := false, round := ro }

theorem F0_depth {ro : Option Nat} {p : Prop} : (F0 ro).depth.isSome = true → p := fun h => by simp [F0] at h

theorem F0_none : F0 none = Fence.wide := rfl

theorem F0_calls {ro : Option Nat} {n : Nat} {P : Program} {f : FuncId} {args : Array Value} {w : World} {R : Ending → World → Prop} (h : CallsIn (F0 none) n P f args w R) : CallsIn (F0 ro) n P f args w R := h

/-- What is asked behind a piece of code. -/
def Post (X : PG) (K : KS) (h : Hp) (B N : Nat) (Q : Exit → Env → Hp → Prop) : Exit → Act → World → Prop := fun ex a' w' =>
  ∃ K' e' h', K'.w = w' ∧ ExtA K h K' h' ∧ RE K' B N e' a' ∧ RH X K' h' ∧ Q ex e' h'

/-- Where a piece of code stands: in a round of the loop over a function 'ro'; the number of temporaries; the places at which a slice that is written out is one of the call's own. -/
structure Cx where
  ro : Option Nat := none
  N : Nat
  own : List String := []

/-- The code 'c', begun in the abstract state (e, h), comes to an end that Q takes. -/
def WP (X : PG) (C : Cx) (c : Code) (Q : Exit → Env → Hp → Prop) (e : Env) (h : Hp) : Prop :=
  ∀ K B a, RE K B C.N e a → RH X K h → c.wpIn (F0 C.ro) 0 X.P (Post X K h B C.N Q) a K.w

theorem Post.trans {X : PG} {K K' : KS} {h h' : Hp} {B N : Nat} {Q : Exit → Env → Hp → Prop} {ex : Exit} {a : Act} {w : World} (x : ExtA K h K' h') (hh : RH X K h) (p : Post X K' h' B N Q ex a w) : Post X K h B N Q ex a w := by
  obtain ⟨K2, e2, h2, hw, x2, r1, r2, hq⟩ := p
  exact ⟨K2, e2, h2, hw, x.trans x2 hh, r1, r2, hq⟩

section
variable {X : PG} {C : Cx} {Q : Exit → Env → Hp → Prop} {e : Env} {h : Hp}

theorem WP.mono {c : Code} {Q' : Exit → Env → Hp → Prop} (hc : WP X C c Q e h) (hq : ∀ ex e h, Q ex e h → Q' ex e h) : WP X C c Q' e h :=
  fun K B a he hh => wpIn_mono (hc K B a he hh) fun _ _ _ ⟨K', e', h', hw, x, r1, r2, q⟩ => ⟨K', e', h', hw, x, r1, r2, hq _ _ _ q⟩

/-- Behind the first of two. -/
def seqK (X : PG) (C : Cx) (y : Code) (Q : Exit → Env → Hp → Prop) : Exit → Env → Hp → Prop
  | .normal, e, h => WP X C y Q e h
  | ex, e, h => Q ex e h

theorem WP.seq {x y : Code} (hx : WP X C x (seqK X C y Q) e h) : WP X C (.seq x y) Q e h := by
  intro K B a he hh
  refine wpIn_seq (wpIn_mono (hx K B a he hh) fun ex a' w' hp => ?_)
  obtain ⟨K', e', h', hw, x1, r1, r2, q⟩ := hp
  subst hw
  cases ex with
  | normal => exact wpIn_mono (q K' B a' r1 r2) fun _ _ _ hp => Post.trans x1 hh hp
  | exit id => exact ⟨K', e', h', rfl, x1, r1, r2, q⟩
  | goto l => exact ⟨K', e', h', rfl, x1, r1, r2, q⟩
  | ret => exact ⟨K', e', h', rfl, x1, r1, r2, q⟩
  | panic ch => exact ⟨K', e', h', rfl, x1, r1, r2, q⟩
  | outgrown => exact ⟨K', e', h', rfl, x1, r1, r2, q⟩

theorem WP.skip (hq : Q .normal e h) : WP X C .skip Q e h := fun K _ _ he hh => wpIn_skip ⟨K, e, h, rfl, .refl _ _, he, hh, hq⟩
theorem WP.label {l : Nat} (hq : Q .normal e h) : WP X C (.label l) Q e h := fun K _ _ he hh => wpIn_label ⟨K, e, h, rfl, .refl _ _, he, hh, hq⟩
theorem WP.exit {id : Nat} (hq : Q (.exit id) e h) : WP X C (.exit id) Q e h := fun K _ _ he hh => wpIn_exit ⟨K, e, h, rfl, .refl _ _, he, hh, hq⟩
theorem WP.ret (hq : Q .ret e h) : WP X C .ret Q e h := fun K _ _ he hh => wpIn_ret ⟨K, e, h, rfl, .refl _ _, he, hh, hq⟩

/-- A test: the branch by the condition's value. -/
def condB (c : HV) (x y : Prop) : Prop :=
  match c with
  | .bool true => x
  | .bool false => y
  | _ => False

theorem RV.ofBool {K : KS} {b : Bool} {v : Value} (hr : RV K (.bool b) v) : v = .bool b := by cases hr; rfl

theorem WP.cond {c : Operand} {x y : Code} (hc : condB (ev X e c) (WP X C x Q e h) (WP X C y Q e h)) : WP X C (.cond c x y) Q e h := by
  intro K B a he hh
  have hr := he.eval hh c
  cases hv : ev X e c with
  | bool b =>
    rw [hv] at hr hc
    have hb := hr.ofBool
    cases b with
    | true => exact wpIn_cond hb (hc K B a he hh)
    | false => exact wpIn_cond hb (hc K B a he hh)
  | _ => rw [hv] at hc; exact hc.elim

/-- A block catches its own exit. -/
def blockK (id : Nat) (Q : Exit → Env → Hp → Prop) : Exit → Env → Hp → Prop
  | .exit id', e, h => if id' = id then Q .normal e h else Q (.exit id') e h
  | ex, e, h => Q ex e h

theorem WP.block {id : Nat} {c : Code} (hc : WP X C c (blockK id Q) e h) : WP X C (.block id c) Q e h := by
  intro K B a he hh
  refine wpIn_block (wpIn_mono (hc K B a he hh) fun ex a' w' hp => ?_)
  obtain ⟨K', e', h', hw, x1, r1, r2, q⟩ := hp
  cases ex with
  | exit id' =>
    simp only [blockK] at q
    simp only [Exit.inBlock]
    split at q
    · rename_i hid; rw [if_pos hid]; exact ⟨K', e', h', hw, x1, r1, r2, q⟩
    · rename_i hid; rw [if_neg hid]; exact ⟨K', e', h', hw, x1, r1, r2, q⟩
  | normal => exact ⟨K', e', h', hw, x1, r1, r2, q⟩
  | goto l => exact ⟨K', e', h', hw, x1, r1, r2, q⟩
  | ret => exact ⟨K', e', h', hw, x1, r1, r2, q⟩
  | panic ch => exact ⟨K', e', h', hw, x1, r1, r2, q⟩
  | outgrown => exact ⟨K', e', h', hw, x1, r1, r2, q⟩

theorem least {p : Nat → Prop} (n : Nat) (hn : p n) : ∃ m, p m ∧ ∀ k, p k → m ≤ k := by
  induction n using Nat.strongRecOn with
  | _ n ih =>
    by_cases hex : ∃ k, k < n ∧ p k
    · obtain ⟨k, hk, hp⟩ := hex; exact ih k hk hp
    · exact ⟨n, hn, fun k hk => Nat.le_of_not_lt fun hlt => hex ⟨k, hlt, hk⟩⟩

open Classical in
noncomputable def leastOf (p : Nat → Prop) : Nat := if hx : ∃ n, p n then (least hx.choose hx.choose_spec).choose else 0

theorem leastOf_spec {p : Nat → Prop} {n : Nat} (hn : p n) : p (leastOf p) ∧ leastOf p ≤ n := by
  have hx : ∃ n, p n := ⟨n, hn⟩
  unfold leastOf
  rw [dif_pos hx]
  have := (least hx.choose hx.choose_spec).choose_spec
  exact ⟨this.1, this.2 n hn⟩

/-- Behind a round. -/
def loopK (I : Env → Hp → Prop) (μ : Env → Hp → Nat) (n : Nat) (Q : Exit → Env → Hp → Prop) : Exit → Env → Hp → Prop
  | .normal, e, h => I e h ∧ μ e h < n
  | ex, e, h => Q ex e h

theorem WP.loop {c : Code} (I : Env → Hp → Prop) (μ : Env → Hp → Nat) (h0 : I e h) (round : ∀ e h, I e h → WP X C c (loopK I μ (μ e h) Q) e h) : WP X C (.loop c) Q e h := by
  intro K B a he hh
  let rel (a' : Act) (w' : World) (n : Nat) : Prop := ∃ K' e' h', K'.w = w' ∧ ExtA K h K' h' ∧ RE K' B C.N e' a' ∧ RH X K' h' ∧ I e' h' ∧ μ e' h' = n
  refine wpIn_loop (fun a' w' => ∃ n, rel a' w' n) (fun a' w' => leastOf (rel a' w')) ⟨_, K, e, h, rfl, .refl _ _, he, hh, h0, rfl⟩ fun a1 w1 hI => ?_
  obtain ⟨n, hn⟩ := hI
  obtain ⟨⟨K1, e1, h1, hw1, x1, r1, r2, hI1, hμ⟩, _⟩ := leastOf_spec hn
  subst hw1
  rw [← hμ]
  refine wpIn_mono (round e1 h1 hI1 K1 B a1 r1 r2) fun ex a2 w2 hp => ?_
  obtain ⟨K2, e2, h2, hw2, x2, s1, s2, q⟩ := hp
  cases ex with
  | normal =>
    obtain ⟨hI2, hlt⟩ := q
    have hrel : rel a2 w2 (μ e2 h2) := ⟨K2, e2, h2, hw2, x1.trans x2 hh, s1, s2, hI2, rfl⟩
    exact ⟨⟨_, hrel⟩, Nat.lt_of_le_of_lt (leastOf_spec hrel).2 hlt⟩
  | exit id => exact ⟨K2, e2, h2, hw2, x1.trans x2 hh, s1, s2, q⟩
  | goto l => exact ⟨K2, e2, h2, hw2, x1.trans x2 hh, s1, s2, q⟩
  | ret => exact ⟨K2, e2, h2, hw2, x1.trans x2 hh, s1, s2, q⟩
  | panic ch => exact ⟨K2, e2, h2, hw2, x1.trans x2 hh, s1, s2, q⟩
  | outgrown => exact ⟨K2, e2, h2, hw2, x1.trans x2 hh, s1, s2, q⟩

/-- Any cut: what holds at a point may be forgotten down to J. -/
theorem WP.cut {x y : Code} (J : Env → Hp → Prop) (hy : ∀ e h, J e h → WP X C y Q e h) (hx : WP X C x (fun ex e h => match ex with | .normal => J e h | _ => Q ex e h) e h) : WP X C (.seq x y) Q e h :=
  WP.seq (hx.mono fun ex e h q => by cases ex <;> first | exact hy _ _ q | exact q)

/-- Temporaries may be forgotten. -/
theorem WP.forget {c : Code} (e2 : Env) (hx : ∀ t, e2 t = e t ∨ e2 t = .und) (hc : WP X C c Q e2 h) : WP X C c Q e h :=
  fun K B a he hh => hc K B a ⟨he.size, fun t => (hx t).elim (fun h' => h' ▸ he.tmps t) (fun h' => h' ▸ .und _), he.defers, he.le⟩ hh
end

/-- The arguments' values. -/
def RVs (K : KS) (xs : List HV) (vs : Array Value) : Prop := xs.length = vs.size ∧ ∀ i (hi : i < xs.length) (hi' : i < vs.size), RV K xs[i] vs[i]

/-- The call of 'f' at abstract arguments: it returns, and what it returns, and what has become of the objects, R takes. -/
def CallsH (X : PG) (f : FuncId) (args : List HV) (h : Hp) (R : HV → Hp → Prop) : Prop :=
  ∀ K (vs : Array Value), RVs K args vs → RH X K h → CallsIn (F0 none) 0 X.P f vs K.w fun en w' =>
    ∃ v K' r h', en = .returned v ∧ K'.w = w' ∧ ExtA K h K' h' ∧ RH X K' h' ∧ RV K' r v ∧ R r h'

theorem CallsH.mono {X : PG} {f : FuncId} {args : List HV} {h : Hp} {R R' : HV → Hp → Prop} (hc : CallsH X f args h R) (hr : ∀ r h, R r h → R' r h) : CallsH X f args h R' :=
  fun K vs ha hh => (hc K vs ha hh).mono fun _ _ ⟨v, K', r, h', e1, e2, x, y, z, hR⟩ => ⟨v, K', r, h', e1, e2, x, y, z, hr _ _ hR⟩

def isAggH (P : Program) (t : TypeId) : Option Bool :=
  match P.underlying t with
  | some (.struct _) | some (.array _ _) => some true
  | some _ => some false
  | none => none

/-- What is loaded from a pointer. -/
def loadH (P : Program) (h : Hp) (t : TypeId) (x : HV) : Option HV :=
  match isAggH P t, x with
  | some false, .ip cs => cs[0]?
  | some true, .ip cs => if P.cellsOf t ≤ cs.length then some (.agg (cs.take (P.cellsOf t))) else none
  | some ag, .ep id i off =>
    match h[id]? with
    | some (.row _ es) =>
      match es[i]? with
      | some cs => if ag then (if off + P.cellsOf t ≤ cs.length then some (.agg ((cs.drop off).take (P.cellsOf t))) else none) else cs[off]?
      | none => none
    | _ => none
  | _, _ => none

theorem cell_row {w : World} {b n : Nat} {cur : Array Value} {t : TypeId} {fr : Nat × Nat} (hb : w.heap[b]? = some (.cells cur t fr)) : w.cell? ⟨b, n, none⟩ = cur[n]? := by simp [World.cell?, hb]

theorem run_loadCellsFrom {P : Program} {w : World} {a : Addr} (vs : Nat → Value) : ∀ (n i : Nat) (acc : Array Value), (∀ j, j < n → w.cell? (a.add (i + j)) = some (vs (i + j))) →
    (loadCellsFrom a i n acc).run P w = .ok (acc ++ ((List.range' i n).map vs).toArray) w := by
  intro n
  induction n with
  | zero => intro i acc _; simp [loadCellsFrom]
  | succ n ih =>
    intro i acc hc
    have h0 := hc 0 (by omega)
    simp only [Nat.add_zero] at h0
    simp only [loadCellsFrom, Sem.run_bind, run_load, h0, Result.andThen_ok]
    rw [ih (i + 1) _ (fun j hj => by have := hc (j + 1) (by omega); rwa [show i + (j + 1) = i + 1 + j from by omega] at this)]
    simp [List.range'_succ]

theorem run_loadCells' {P : Program} {w : World} {a : Addr} (vs : Nat → Value) (n : Nat) (hc : ∀ j, j < n → w.cell? (a.add j) = some (vs j)) :
    (loadCells a n).run P w = .ok ((List.range n).map vs).toArray w := by
  unfold loadCells
  rw [run_loadCellsFrom vs n 0 #[] (fun j hj => by simpa using hc j hj)]
  simp [List.range_eq_range']

theorem run_isAggH {P : Program} {w : World} {t : TypeId} {b : Bool} (hb : isAggH P t = some b) : (isAgg t).run P w = .ok b w := by
  unfold isAggH at hb
  unfold isAgg underlying
  simp only [Sem.run_bind, run_program, Result.andThen_ok]
  cases hu : P.underlying t with
  | none => rw [hu] at hb; cases hb
  | some d =>
    rw [hu] at hb
    cases d <;> simp at hb <;> subst hb <;> rfl

theorem run_sizeOfH {P : Program} {w : World} {t : TypeId} {b : Bool} (hb : isAggH P t = some b) : (sizeOf t).run P w = .ok (P.cellsOf t) w := by
  unfold sizeOf typeInfo Program.cellsOf
  simp only [Sem.run_bind, run_program, Result.andThen_ok]
  cases hi : P.info? t with
  | none => simp [isAggH, Program.underlying, hi] at hb
  | some i => rfl

theorem loadH_run {X : PG} {K : KS} {h : Hp} {t : TypeId} {x y : HV} {v : Value} (hh : RH X K h) (hx : RV K x v) (hl : loadH X.P h t x = some y) :
    ∃ a u, v = .pointer (some a) ∧ (loadVar t a).run X.P K.w = .ok u K.w ∧ RV K y u := by
  unfold loadH at hl
  cases hag : isAggH X.P t with
  | none => simp [hag] at hl
  | some ag =>
    have r1 := run_isAggH (w := K.w) hag
    have r2 := run_sizeOfH (w := K.w) hag
    cases hx with
    | ip cs b off cv hb hL hc hr =>
      refine ⟨⟨b, off, none⟩, ?_⟩
      cases ag with
      | false =>
        simp only [hag] at hl
        obtain ⟨h0, e0⟩ := List.getElem?_eq_some_iff.1 hl
        have hc0 := hc 0 h0
        simp only [Nat.add_zero] at hc0
        refine ⟨cv 0, rfl, ?_, by rw [← e0]; exact hr 0 h0⟩
        unfold loadVar
        simp [r1, hc0]
      | true =>
        simp only [hag] at hl
        split at hl
        · rename_i hle
          injection hl with hl
          subst hl
          have hrun := run_loadCells' (P := X.P) (w := K.w) (a := ⟨b, off, none⟩) cv (X.P.cellsOf t) (fun j hj => by rw [Addr.add_lit]; exact hc j (by omega))
          refine ⟨.agg ((List.range (X.P.cellsOf t)).map cv).toArray, rfl, ?_, ?_⟩
          · unfold loadVar
            simp [r1, r2, hrun]
          · refine .agg _ _ (by simp; omega) (fun i hi => ?_)
            simp at hi ⊢
            exact hr i (by omega)
        · cases hl
    | ep id i off hA =>
      simp only [hag] at hl
      cases ho : h[id]? with
      | none => simp [ho] at hl
      | some o =>
        cases o with
        | row t' es =>
          simp only [ho] at hl
          cases he : es[i]? with
          | none => simp [he] at hl
          | some cs =>
            simp only [he] at hl
            obtain ⟨hi, ee⟩ := List.getElem?_eq_some_iff.1 he
            obtain ⟨_, hc0, hrow⟩ := hh.obj id _ hA ho
            obtain ⟨cur, hcur, hsz, hlen, hmax, hk, hone, hcell⟩ := hrow (fun e => by have := hc0 e; subst this; simp at hi)
            have hck : cs.length = K.k id := by rw [← ee]; exact hk i hi
            have hcell' : ∀ j (hj : j < cs.length), ∃ v, cur[i * K.k id + j]? = some v ∧ RV K cs[j] v := fun j hj => by
              obtain ⟨v, h1, h2⟩ := hcell i hi j (by rw [ee]; exact hj)
              exact ⟨v, h1, by simpa [ee] using h2⟩
            refine ⟨⟨K.b id, i * K.k id + off, none⟩, ?_⟩
            cases ag with
            | false =>
              simp at hl
              obtain ⟨h0, e0⟩ := List.getElem?_eq_some_iff.1 hl
              obtain ⟨v, h1, h2⟩ := hcell' off h0
              refine ⟨v, rfl, ?_, by rw [← e0]; exact h2⟩
              unfold loadVar
              simp [r1, cell_row hcur, h1]
            | true =>
              simp only [if_true] at hl
              split at hl
              · rename_i hle
                injection hl with hl
                subst hl
                have hex : ∀ j, j < X.P.cellsOf t → ∃ v, K.w.cell? ((⟨K.b id, i * K.k id + off, none⟩ : Addr).add j) = some v ∧ ∀ (hj : off + j < cs.length), RV K cs[off + j] v := fun j hj => by
                  obtain ⟨v, h1, h2⟩ := hcell' (off + j) (by omega)
                  refine ⟨v, ?_, fun _ => h2⟩
                  rw [Addr.add_lit, cell_row hcur, Nat.add_assoc]
                  exact h1
                let cv : Nat → Value := fun j => if hj : j < X.P.cellsOf t then (hex j hj).choose else undef
                have hcv : ∀ j (hj : j < X.P.cellsOf t), K.w.cell? ((⟨K.b id, i * K.k id + off, none⟩ : Addr).add j) = some (cv j) ∧ ∀ (hj : off + j < cs.length), RV K cs[off + j] (cv j) := fun j hj => by
                  simp only [cv, dif_pos hj]
                  exact (hex j hj).choose_spec
                have hrun := run_loadCells' (P := X.P) (w := K.w) (a := ⟨K.b id, i * K.k id + off, none⟩) cv (X.P.cellsOf t) (fun j hj => (hcv j hj).1)
                refine ⟨.agg ((List.range (X.P.cellsOf t)).map cv).toArray, rfl, ?_, ?_⟩
                · unfold loadVar
                  simp [r1, r2, hrun]
                · refine .agg _ _ (by simp; omega) (fun j hj => ?_)
                  simp at hj ⊢
                  exact (hcv j (by omega)).2 (by omega)
              · cases hl
        | _ => simp [ho] at hl
    | _ => simp [hag] at hl

/-- What a function hands back. -/
def resList (P : Program) (e : Env) (h : Hp) : List ResultVar → Option (List HV)
  | [] => some []
  | .tmp t :: rs => (resList P e h rs).map (e t :: ·)
  | .cell a t :: rs =>
    match loadH P h t (e a) with
    | some x => (resList P e h rs).map (x :: ·)
    | none => none

def resH (P : Program) (fn : Func) (e : Env) (h : Hp) : Option HV :=
  match resList P e h fn.results.toList with
  | some [x] => some x
  | some l => some (.tup l)
  | none => none

/-- At a function's end. -/
def fnPost (P : Program) (fn : Func) (R : HV → Hp → Prop) : Exit → Env → Hp → Prop
  | .normal, e, h | .ret, e, h => ∃ r, resH P fn e h = some r ∧ R r h
  | _, _, _ => False

def argEnv (N : Nat) (xs : List HV) : Env := fun t => if t < N then xs.getD t .und else .und

/-- The program that reads the results: what it comes to. -/
def resSem (tmps : Array Value) : ResultVar → Sem Value
  | .tmp t => pure (tmps.getD t undef)
  | .cell a t => do loadVar t (← asAddr (tmps.getD a undef))

theorem resList_run {X : PG} {K : KS} {h : Hp} {B N : Nat} {e : Env} {a : Act} (he : RE K B N e a) (hh : RH X K h) : ∀ (rs : List ResultVar) (xs : List HV), resList X.P e h rs = some xs →
    ∃ vs : List Value, (rs.mapM (resSem a.tmps)).run X.P K.w = .ok vs K.w ∧ vs.length = xs.length ∧ ∀ i (hi : i < xs.length) (hi' : i < vs.length), RV K xs[i] vs[i] := by
  intro rs
  induction rs with
  | nil =>
    intro xs hx
    simp only [resList, Option.some.injEq] at hx
    subst hx
    exact ⟨[], by simp, rfl, fun i hi => absurd hi (Nat.not_lt_zero _)⟩
  | cons r rs ih =>
    intro xs hx
    have key : ∀ (y : HV) (v : Value) (ys : List HV), (resSem a.tmps r).run X.P K.w = .ok v K.w → RV K y v → resList X.P e h rs = some ys → xs = y :: ys →
        ∃ vs : List Value, ((r :: rs).mapM (resSem a.tmps)).run X.P K.w = .ok vs K.w ∧ vs.length = xs.length ∧ ∀ i (hi : i < xs.length) (hi' : i < vs.length), RV K xs[i] vs[i] := by
      intro y v ys h1 h2 h3 h4
      obtain ⟨vs, g1, g2, g3⟩ := ih ys h3
      subst h4
      refine ⟨v :: vs, by simp [List.mapM_cons, h1, g1], by simp [g2], fun i hi hi' => ?_⟩
      cases i with
      | zero => exact h2
      | succ i => exact g3 i (by simpa using hi) (by simpa using hi')
    cases r with
    | tmp t =>
      simp only [resList, Option.map_eq_some_iff] at hx
      obtain ⟨ys, h3, h4⟩ := hx
      exact key (e t) _ ys (by simp [resSem]) (he.tmps t) h3 h4.symm
    | cell p t =>
      simp only [resList] at hx
      cases hl : loadH X.P h t (e p) with
      | none => simp [hl] at hx
      | some y =>
        simp only [hl, Option.map_eq_some_iff] at hx
        obtain ⟨ys, h3, h4⟩ := hx
        obtain ⟨ad, u, h5, h6, h7⟩ := loadH_run hh (he.tmps p) hl
        exact key y u ys (by simp only [resSem, Sem.run_bind, h5, asAddr, Sem.run_pure, Result.andThen_ok]; exact h6) h7 h3 h4.symm

theorem results_eq (fn : Func) (tmps : Array Value) : results fn tmps = (do let vs ← fn.results.mapM (resSem tmps); pure (if hx : vs.size = 1 then vs[0] else .tuple vs)) := by
  unfold results
  congr 2

theorem resH_run {X : PG} {K : KS} {h : Hp} {B N : Nat} {e : Env} {a : Act} {fn : Func} {r : HV} (he : RE K B N e a) (hh : RH X K h) (hr : resH X.P fn e h = some r) :
    ∃ v, (results fn a.tmps).run X.P K.w = .ok v K.w ∧ RV K r v := by
  unfold resH at hr
  cases hl : resList X.P e h fn.results.toList with
  | none => simp [hl] at hr
  | some xs =>
    obtain ⟨vs, h1, h2, h3⟩ := resList_run he hh _ _ hl
    have hm : (fn.results.mapM (resSem a.tmps)).run X.P K.w = .ok vs.toArray K.w := by
      rw [Array.mapM_eq_mapM_toList, Sem.run_map, h1]
      rfl
    rw [hl] at hr
    rw [results_eq]
    simp only [Sem.run_bind, hm, Result.andThen_ok, Sem.run_pure]
    match xs, vs, h2, h3, hr with
    | [x], [v], _, h3, hr =>
      simp only [Option.some.injEq] at hr
      subst hr
      exact ⟨v, by simp, h3 0 (by simp) (by simp)⟩
    | [], [], _, h3, hr =>
      simp only [Option.some.injEq] at hr
      subst hr
      exact ⟨_, rfl, .tup _ _ rfl (fun i hi => absurd hi (Nat.not_lt_zero _))⟩
    | x :: y :: l, v :: u :: m, h2, h3, hr =>
      simp only [Option.some.injEq] at hr
      subst hr
      exact ⟨.tuple (v :: u :: m).toArray, by simp, .tup _ _ (by simpa using h2.symm) (fun i hi => by simpa using h3 i hi (by simp at h2 hi ⊢; omega))⟩

theorem leaves_marks {P : Program} {F : Fence} {n : Nat} {fn : Func} {tmps : Array Value} {R : Ending → World → Prop} : ∀ (rs : List Nat) (w : World), rs.Nodup → (∀ r ∈ rs, w.heap[r]? = some (.deferred (some []))) →
    (∀ w', (∀ b, b ∉ rs → w'.heap[b]? = w.heap[b]?) → w'.heap.size = w.heap.size → w'.os = w.os → w'.tape = w.tape → w'.output = w.output → ∃ v, (results fn tmps).run P w' = .ok v w' ∧ R (.returned v) w') →
    LeavesInM F n P fn tmps R (rs.map fun r => { target := .collected r, args := #[] }) .returning w := by
  intro rs
  induction rs with
  | nil => intro w _ _ hR; exact hR w (fun _ _ => rfl) rfl rfl rfl rfl
  | cons r rs ih =>
    intro w hnd hw hR
    have hr := hw r (by simp)
    obtain ⟨hnr, hnd'⟩ := List.nodup_cons.1 hnd
    refine ⟨by simp, .inl ⟨r, _, rfl, run_takeDeferred hr, ih _ hnd' (fun x hx => ?_) (fun w' hb hs h1 h2 h3 => ?_)⟩⟩
    · rw [World.putObj_heap_other (fun e => hnr (by rw [← e]; exact hx))]
      exact hw x (by simp [hx])
    · refine hR w' (fun b hb' => ?_) (by rw [hs]; simp [World.putObj]) h1 h2 h3
      rw [hb b (fun hx => hb' (by simp [hx]))]
      exact World.putObj_heap_other (fun e => hb' (by simp [e]))

theorem args_RE {K : KS} {B : Nat} {xs : List HV} {vs : Array Value} {m : Nat} (ha : RVs K xs vs) (hB : B ≤ K.w.heap.size) :
    RE K B (xs.length + (m - xs.length)) (argEnv (xs.length + (m - xs.length)) xs) { tmps := vs ++ Array.replicate (m - vs.size) undef, defers := [] } := by
  obtain ⟨h1, h2⟩ := ha
  refine ⟨by simp [h1], fun t => ?_, ⟨[], rfl, List.nodup_nil, fun r hr => by cases hr⟩, hB⟩
  unfold argEnv
  by_cases ht : t < xs.length
  · rw [if_pos (by omega)]
    have ht' : t < vs.size := by omega
    have e1 : xs.getD t .und = xs[t] := by simp [List.getD, ht]
    have e2 : (vs ++ Array.replicate (m - vs.size) undef).getD t undef = vs[t] := by
      simp [Array.getD_eq_getD_getElem?, Array.getElem?_append, ht']
    rw [e1, e2]
    exact h2 t ht ht'
  · have e1 : (if t < xs.length + (m - xs.length) then xs.getD t HV.und else HV.und) = HV.und := by
      split
      · simp [List.getD, List.getElem?_eq_none (Nat.le_of_not_lt ht)]
      · rfl
    rw [e1]
    exact .und _

/-- Blocks that no object and no immutable value lies in may turn. -/
theorem RV.touch {K : KS} {w' : World} {D : Nat → Prop} (hs : w'.heap.size = K.w.heap.size) (hD : ∀ b, ¬ D b → w'.heap[b]? = K.w.heap[b]?) (hno : ∀ b, D b → ∃ ds, K.w.heap[b]? = some (.deferred ds)) {x : HV} {v : Value} (hr : RV K x v) : RV { K with w := w' } x v := by
  have hcell : ∀ {b off : Nat} {u : Value}, K.w.cell? ⟨b, off, none⟩ = some u → w'.cell? ⟨b, off, none⟩ = some u := fun {b off u} hc => by
    by_cases hb : D b
    · obtain ⟨ds, hds⟩ := hno b hb
      simp [World.cell?, hds] at hc
    · exact (World.cell?_of_block (w := K.w) (a := ⟨b, off, none⟩) (hD b hb)).trans hc
  induction hr with
  | bool b => exact .bool b
  | int k n => exact .int k n
  | str s => exact .str s
  | nul v hv => exact .nul v hv
  | sl0 full a cap h1 h2 h3 => exact .sl0 full a cap h1 h2 h3
  | sl full es k b off cap cv h0 h1 h2 h3 hb hL hk hc _ ih => exact .sl full es k b off cap cv h0 h1 h2 h3 (by show b < w'.heap.size; omega) hL hk (fun i hi j hj => hcell (hc i hi j hj)) ih
  | ow id lo len hA h0 h1 h2 => exact .ow id lo len hA h0 h1 h2
  | ow0 id a hA h0 => exact .ow0 id a hA h0
  | ip cs b off cv hb hL hc _ ih => exact .ip cs b off cv (by show b < w'.heap.size; omega) hL (fun j hj => hcell (hc j hj)) ih
  | ep id i off hA => exact .ep id i off hA
  | mp id hA => exact .mp id hA
  | it id hA => exact .it id hA
  | fn f fs cs vs us h1 h2 _ _ ih1 ih2 => exact .fn f fs cs vs us h1 h2 ih1 ih2
  | agg cs vs h1 _ ih => exact .agg cs vs h1 ih
  | tup cs vs h1 _ ih => exact .tup cs vs h1 ih
  | und v => exact .und v

theorem RO.touch {P : Program} {K : KS} {w' : World} {D : Nat → Prop} (hs : w'.heap.size = K.w.heap.size) (hD : ∀ b, ¬ D b → w'.heap[b]? = K.w.heap[b]?) (hno : ∀ b, D b → ∃ ds, K.w.heap[b]? = some (.deferred ds)) {id : Nat} {o : HO} (hr : RO P K id o) : RO P { K with w := w' } id o := by
  have e : o.live = true → K.c id ≠ 0 → w'.heap[K.b id]? = K.w.heap[K.b id]? := fun hl hc => hD _ fun hd => by
    obtain ⟨ds, hds⟩ := hno _ hd
    exact hr.notDeferred hl hc hds
  cases o with
  | row t es =>
    obtain ⟨h0, h1, h2⟩ := hr
    refine ⟨h0, h1, fun hc => ?_⟩
    obtain ⟨cur, h1, h2, h3, h4, h5, h6, h7⟩ := h2 hc
    exact ⟨cur, (e rfl hc).trans h1, h2, h3, h4, h5, h6, fun i hi j hj => by obtain ⟨v, g1, g2⟩ := h7 i hi j hj; exact ⟨v, g1, g2.touch hs hD hno⟩⟩
  | map kvs clock =>
    obtain ⟨hc, es, h1, h2, h3⟩ := hr
    exact ⟨hc, es, (e rfl hc).trans h1, h2, fun i x hx => by obtain ⟨m, g1, g2, g3, g4⟩ := h3 i x hx; exact ⟨m, g1, g2.touch hs hD hno, g3.touch hs hD hno, g4⟩⟩
  | iter m since seen last => obtain ⟨hc, hA, h1⟩ := hr; exact ⟨hc, hA, (e rfl hc).trans h1⟩
  | sit s pos => obtain ⟨hc, h1⟩ := hr; exact ⟨hc, (e rfl hc).trans h1⟩
  | loop l r => obtain ⟨hc, h0, h1⟩ := hr; exact ⟨hc, h0, (e rfl hc).trans h1⟩
  | gone => trivial

/-- A function's contract, out of its body. -/
theorem CallsH.of_wp {X : PG} {f : FuncId} {fn : Func} {c : Code} {args : List HV} {h : Hp} {R : HV → Hp → Prop} (own : List String) (hf : X.P.funcs[f]? = some fn) (hb : fn.body = some c)
    (hc : WP X { N := args.length + (fn.ntmps - args.length), own := own } c (fnPost X.P fn R) (argEnv (args.length + (fn.ntmps - args.length)) args) h) : CallsH X f args h R := by
  intro K vs ha hh
  refine callsIn_of_wp_marks hf hb trivial (wpIn_mono (hc K K.w.heap.size _ (args_RE ha (Nat.le_refl _)) hh) fun ex a' w' hp => ?_) rfl
  obtain ⟨K', e', h', hw, x, r1, r2, hq⟩ := hp
  subst hw
  have fin : (∃ r, resH X.P fn e' h' = some r ∧ R r h') → LeavesInM (F0 none) 0 X.P fn a'.tmps (fun en w' => ∃ v K' r h', en = Ending.returned v ∧ K'.w = w' ∧ ExtA K h K' h' ∧ RH X K' h' ∧ RV K' r v ∧ R r h') a'.defers .returning K'.w := by
    rintro ⟨r, hr, hR⟩
    obtain ⟨rs, hd1, hd2, hd3⟩ := r1.defers
    rw [hd1]
    refine leaves_marks rs K'.w hd2 (fun r hr => (hd3 r hr).1) fun w2 g1 g2 g3 g4 g5 => ?_
    have hno : ∀ b, b ∈ rs → ∃ ds, K'.w.heap[b]? = some (.deferred ds) := fun b hb => ⟨_, (hd3 b hb).1⟩
    have r1' : RE { K' with w := w2 } K.w.heap.size _ e' { a' with defers := [] } := ⟨r1.size, fun t => (r1.tmps t).touch (D := (· ∈ rs)) g2 g1 hno, ⟨[], rfl, List.nodup_nil, fun r hr => by cases hr⟩, by show _ ≤ w2.heap.size; rw [g2]; exact r1.le⟩
    have r2' : RH X { K' with w := w2 } h' := ⟨r2.A, fun id o hA ho => (r2.obj id o hA ho).touch (D := (· ∈ rs)) g2 g1 hno, r2.live, r2.inj, fun b hb => by show b < w2.heap.size; rw [g2]; exact r2.Lb b hb, ⟨fun g => (r2.glob.var g).touch (D := (· ∈ rs)) g2 g1 hno, by show _ ≤ w2.heap.size; rw [g2]; exact r2.glob.low, X.touch K' w2 g2 (fun b hb => g1 b (fun hbr => by have := (hd3 b hbr).2; have := hh.glob.low; omega)) r2.glob.inv⟩⟩
    have x' : ExtA K h { K' with w := w2 } h' := by
      refine ⟨⟨g3.trans x.os, g4.trans x.tape, g5.trans x.output, by show K.w.heap.size ≤ w2.heap.size; rw [g2]; exact x.size, fun b hb hn => ?_, x.new, x.L, x.keep, x.A⟩, x.len, x.An⟩
      have : b ∉ rs := fun hbr => by have := (hd3 b hbr).2; omega
      exact (g1 b this).trans (x.block b hb hn)
    obtain ⟨v, hv, hrv⟩ := resH_run r1' r2' hr
    exact ⟨v, hv, v, _, r, h', rfl, rfl, x', r2', hrv, hR⟩
  cases ex with
  | normal => exact fin hq
  | ret => exact fin hq
  | exit id => exact hq.elim
  | goto l => exact hq.elim
  | panic ch => exact hq.elim
  | outgrown => exact hq.elim

end Go.HL

/-
  HL, part D: the operations that hand back a value and leave the world alone.
-/
namespace Go.HL

def elemH (P : Program) (t : TypeId) : Option TypeId := match P.underlying t with | some (.slice e) => some e | _ => none
def arrH (P : Program) (t : TypeId) : Option (Nat × TypeId) := match P.underlying t with | some (.array n e) => some (n, e) | _ => none
/-- A struct's fields: offset, size, whether an aggregate. -/
def fieldsH (P : Program) : List Field → Option (List (Nat × Nat × Bool))
  | [] => some []
  | f :: fs =>
    match szH P f.type, isAggH P f.type, fieldsH P fs with
    | some k, some g, some r => some ((f.offset, k, g) :: r)
    | _, _, _ => none
def structH (P : Program) (t : TypeId) : Option (List (Nat × Nat × Bool)) :=
  match P.underlying t with
  | some (.struct fs) => fieldsH P fs.toList
  | _ => none
def zeroH (P : Program) (t : TypeId) : Option HV := ((P.info? t).bind (·.zero)).map lit
def bytesH (P : Program) (t : TypeId) : Option Nat := (P.info? t).map (·.bytes)

section
variable {P : Program} {w : World}

theorem run_szH {t : TypeId} {k : Nat} (h : szH P t = some k) : (sizeOf t).run P w = .ok k w := by
  unfold szH at h
  obtain ⟨i, hi, rfl⟩ := Option.map_eq_some_iff.1 h
  unfold sizeOf typeInfo
  simp [hi]

theorem run_zeroH {t : TypeId} {z : HV} (h : zeroH P t = some z) : ∃ v, (zeroValue t).run P w = .ok v w ∧ ∀ K, RV K z v := by
  unfold zeroH at h
  obtain ⟨v, hv, rfl⟩ := Option.map_eq_some_iff.1 h
  obtain ⟨i, hi, hz⟩ := Option.bind_eq_some_iff.1 hv
  refine ⟨v, ?_, fun K => lit_ok K v⟩
  unfold zeroValue typeInfo
  simp [hi, hz]

theorem elemH_eq {t e : TypeId} (h : elemH P t = some e) : P.underlying t = some (.slice e) := by
  unfold elemH at h
  split at h
  · rename_i hu; rw [hu]; injection h with h; rw [h]
  · cases h

theorem arrH_eq {t e : TypeId} {n : Nat} (h : arrH P t = some (n, e)) : P.underlying t = some (.array n e) := by
  unfold arrH at h
  split at h
  · rename_i hu; rw [hu]; injection h with h; injection h with h1 h2; rw [h1, h2]
  · cases h

theorem fieldsH_get : ∀ {fs : List Field} {l : List (Nat × Nat × Bool)}, fieldsH P fs = some l → ∀ (i : Nat) (x : Nat × Nat × Bool), l[i]? = some x →
    ∃ f, fs[i]? = some f ∧ f.offset = x.1 ∧ szH P f.type = some x.2.1 ∧ isAggH P f.type = some x.2.2 := by
  intro fs
  induction fs with
  | nil => intro l h i x hx; simp [fieldsH] at h; subst h; simp at hx
  | cons f fs ih =>
    intro l h i x hx
    simp only [fieldsH] at h
    split at h
    · rename_i k g r h1 h2 h3
      injection h with h
      subst h
      cases i with
      | zero => simp at hx; subst hx; exact ⟨f, rfl, rfl, h1, h2⟩
      | succ i => exact ih h3 i x (by simpa using hx)
    · cases h

theorem structH_get {t : TypeId} {l : List (Nat × Nat × Bool)} (h : structH P t = some l) : ∃ fs, P.underlying t = some (.struct fs) ∧ fieldsH P fs.toList = some l := by
  unfold structH at h
  split at h
  · rename_i fs hu; exact ⟨fs, hu, h⟩
  · cases h
end

def inK (k : IntKind) (n : Int) : Prop := k.min ≤ n ∧ n ≤ k.max

/-- Operations on two integers, two strings, two bools, and comparisons with nil. -/
def binH (P : Program) (op : BinOp) (t : TypeId) : HV → HV → Option HV
  | .int k a, .int k' b =>
    match op with
    | .shl => if b < 0 then none else some (.int k (k.wrap (a * 2 ^ (min b.toNat k.bits))))
    | .shr => if b < 0 then none else some (.int k (a.fdiv (2 ^ (min b.toNat k.bits))))
    | op =>
      if k = k' then
        match op with
        | .add => some (.int k (k.wrap (a + b)))
        | .sub => some (.int k (k.wrap (a - b)))
        | .mul => some (.int k (k.wrap (a * b)))
        | .quo => if b = 0 then none else some (.int k (k.wrap (a.tdiv b)))
        | .rem => if b = 0 then none else some (.int k (a.tmod b))
        | .and => some (.int k (k.wrap (BitVec.ofInt k.bits a &&& BitVec.ofInt k.bits b).toNat))
        | .or => some (.int k (k.wrap (BitVec.ofInt k.bits a ||| BitVec.ofInt k.bits b).toNat))
        | .xor => some (.int k (k.wrap (BitVec.ofInt k.bits a ^^^ BitVec.ofInt k.bits b).toNat))
        | .andNot => some (.int k (k.wrap (BitVec.ofInt k.bits a &&& ~~~ BitVec.ofInt k.bits b).toNat))
        | .eql => some (.bool (decide (a = b)))
        | .neq => some (.bool (!decide (a = b)))
        | .lss => some (.bool (decide (a < b)))
        | .leq => some (.bool (decide (a ≤ b)))
        | .gtr => some (.bool (decide (b < a)))
        | .geq => some (.bool (decide (b ≤ a)))
        | _ => none
      else none
  | .str a, .str b =>
    match op with
    | .add => if ((a.size + b.size : Nat) : Int) > 9223372036854775807 then none else some (.str (a ++ b))
    | .eql => some (.bool (a.toList == b.toList))
    | .neq => some (.bool !(a.toList == b.toList))
    | .lss => some (.bool (Op.bytesLess a.toList b.toList))
    | .leq => some (.bool (Op.bytesLess a.toList b.toList || a.toList == b.toList))
    | .gtr => some (.bool !(Op.bytesLess a.toList b.toList || a.toList == b.toList))
    | .geq => some (.bool !Op.bytesLess a.toList b.toList)
    | _ => none
  | .bool a, .bool b =>
    match P.underlying t, op with
    | some .bool, .eql => some (.bool (a == b))
    | some .bool, .neq => some (.bool !(a == b))
    | _, _ => none
  | x, y =>
    match P.underlying t, x, y, op with
    | some (.pointer _), .nul (.pointer none), .nul (.pointer none), .eql => some (.bool true)
    | some (.pointer _), .nul (.pointer none), .nul (.pointer none), .neq => some (.bool false)
    | some (.pointer _), .ip _, .nul (.pointer none), .eql => some (.bool false)
    | some (.pointer _), .ip _, .nul (.pointer none), .neq => some (.bool true)
    | some (.pointer _), .ep _ _ _, .nul (.pointer none), .eql => some (.bool false)
    | some (.pointer _), .ep _ _ _, .nul (.pointer none), .neq => some (.bool true)
    | _, _, _, _ => none

theorem run_eqGuard_pass {P : Program} {w : World} {op : BinOp} {t : TypeId} {x y : Operand} {a b : Value} (h : ∀ p q, (a, b) ≠ (.agg p, .agg q)) (h2 : (a, b) ≠ (.nilIface, .nilIface)) :
    (eqGuard op t x y a b).run P w = .ok () w := by
  unfold eqGuard
  split
  all_goals
    simp only [Bool.not_true, Bool.false_eq_true, if_false, Bool.not_false, if_true]
    first
    | rfl
    | (split
       · exact absurd rfl h2
       · exact absurd rfl (h _ _)
       · rfl)

theorem run_equal_bool {P : Program} {w : World} {t : TypeId} (hu : P.underlying t = some .bool) (p q : Bool) : (Op.equal t (.bool p) (.bool q)).run P w = .ok (p == q) w := by
  unfold Op.equal Op.maxDepth Op.equalIn
  rw [Sem.run_bind, run_underlying hu]
  rfl

theorem run_equal_nil {P : Program} {w : World} {t e : TypeId} (hu : P.underlying t = some (.pointer e)) (a : Option Addr) : (Op.equal t (.pointer a) (.pointer none)).run P w = .ok a.isNone w := by
  unfold Op.equal Op.maxDepth Op.equalIn
  rw [Sem.run_bind, run_underlying hu]
  cases a <;> rfl

theorem run_eql {P : Program} {w : World} {t : TypeId} {x y : Value} {r : Bool} (hb : binOp .eql t x y = (do pure (.bool (← Op.equal t x y)) : Sem Value)) (h : (Op.equal t x y).run P w = .ok r w) : (binOp .eql t x y).run P w = .ok (.bool r) w := by
  rw [hb, Sem.run_bind, h]; rfl
theorem run_neq {P : Program} {w : World} {t : TypeId} {x y : Value} {r : Bool} (hb : binOp .neq t x y = (do pure (.bool (!(← Op.equal t x y))) : Sem Value)) (h : (Op.equal t x y).run P w = .ok r w) : (binOp .neq t x y).run P w = .ok (.bool !r) w := by
  rw [hb, Sem.run_bind, h]; rfl

theorem binInt_run {P : Program} {w : World} {op : BinOp} {t : TypeId} {k k' : IntKind} {a b : Int} {z : HV} (h : binH P op t (.int k a) (.int k' b) = some z) :
    ∃ v, (binOp op t (.int k a) (.int k' b)).run P w = .ok v w ∧ ∀ K, RV K z v := by
  by_cases hkk : k = k'
  · subst hkk
    cases op <;> simp [binH] at h
    case add => subst h; exact ⟨_, by simp [binOp, Op.intArith], fun K => .int _ _⟩
    case sub => subst h; exact ⟨_, by simp [binOp, Op.intArith], fun K => .int _ _⟩
    case mul => subst h; exact ⟨_, by simp [binOp, Op.intArith], fun K => .int _ _⟩
    case and => subst h; exact ⟨_, by simp [binOp, Op.intBits], fun K => .int _ _⟩
    case or => subst h; exact ⟨_, by simp [binOp, Op.intBits], fun K => .int _ _⟩
    case xor => subst h; exact ⟨_, by simp [binOp, Op.intBits], fun K => .int _ _⟩
    case andNot => subst h; exact ⟨_, by simp [binOp, Op.intBits], fun K => .int _ _⟩
    case quo => obtain ⟨h0, h⟩ := h; subst h; exact ⟨_, by simp [binOp, Op.intDiv, h0], fun K => .int _ _⟩
    case rem => obtain ⟨h0, h⟩ := h; subst h; exact ⟨_, by simp [binOp, Op.intDiv, h0], fun K => .int _ _⟩
    case shl => obtain ⟨h0, h⟩ := h; subst h; exact ⟨_, by simp [binOp, Op.shift, Int.not_lt.2 h0], fun K => .int _ _⟩
    case shr => obtain ⟨h0, h⟩ := h; subst h; exact ⟨_, by simp [binOp, Op.shift, Int.not_lt.2 h0], fun K => .int _ _⟩
    case eql => subst h; exact ⟨.bool (a == b), by simp [binOp, Op.intCmp], fun K => (show (a == b) = decide (a = b) from rfl) ▸ .bool _⟩
    case neq => subst h; exact ⟨.bool (a != b), by simp [binOp, Op.intCmp], fun K => (show (a != b) = !decide (a = b) from rfl) ▸ .bool _⟩
    case lss => subst h; exact ⟨.bool (decide (a < b)), by simp [binOp, Op.intCmp], fun K => .bool _⟩
    case leq => subst h; exact ⟨.bool (decide (a ≤ b)), by simp [binOp, Op.intCmp], fun K => .bool _⟩
    case gtr => subst h; exact ⟨.bool (decide (a > b)), by simp [binOp, Op.intCmp], fun K => .bool _⟩
    case geq => subst h; exact ⟨.bool (decide (a ≥ b)), by simp [binOp, Op.intCmp], fun K => .bool _⟩
  · cases op <;> simp [binH, hkk] at h
    all_goals
      obtain ⟨h0, h⟩ := h
      subst h
      exact ⟨_, by simp [binOp, Op.shift, Int.not_lt.2 h0], fun K => .int _ _⟩

theorem binStr_run {P : Program} {w : World} {op : BinOp} {t : TypeId} {a b : ByteArray} {z : HV} (h : binH P op t (.str a) (.str b) = some z) :
    ∃ v, (binOp op t (.string a) (.string b)).run P w = .ok v w ∧ ∀ K, RV K z v := by
  cases op <;> simp [binH] at h
  case add =>
    obtain ⟨h0, h⟩ := h
    subst h
    refine ⟨.string (a ++ b), ?_, fun K => .str _⟩
    have h0' : ¬ (((a.size + b.size : Nat) : Int) > IntKind.i64.max) := by simp [IntKind.max, IntKind.signed, IntKind.bits]; omega
    show (Op.stringOp .add a b).run P w = _
    unfold Op.stringOp
    simp only []
    rw [if_neg h0']
    rfl
  case gtr => subst h; exact ⟨_, rfl, fun K => by rw [Bool.not_or]; exact .bool _⟩
  all_goals (subst h; exact ⟨_, rfl, fun K => .bool _⟩)

theorem binH_sound {P : Program} {K : KS} {op : BinOp} {t : TypeId} {x y z : HV} {a b : Value} (hx : RV K x a) (hy : RV K y b) (h : binH P op t x y = some z) (ox oy : Operand) :
    ∃ v, (do eqGuard op t ox oy a b; binOp op t a b : Sem Value).run P K.w = .ok v K.w ∧ RV K z v := by
  have ext : ∀ v, (∀ p q, (a, b) ≠ (Value.agg p, Value.agg q)) → (a, b) ≠ (Value.nilIface, Value.nilIface) → (binOp op t a b).run P K.w = .ok v K.w → RV K z v →
      ∃ v, (do eqGuard op t ox oy a b; binOp op t a b : Sem Value).run P K.w = .ok v K.w ∧ RV K z v := fun v h1 h2 h3 h4 => ⟨v, by
        rw [Sem.run_bind, run_eqGuard_pass h1 h2]; exact h3, h4⟩
  have nilp : ∀ (p : Option Addr) (u : Value) (e : TypeId), a = .pointer p → y = .nul u → P.underlying t = some (.pointer e) → u = .pointer none →
      (op = .eql ∧ z = .bool p.isNone ∨ op = .neq ∧ z = .bool !p.isNone) → ∃ v, (do eqGuard op t ox oy a b; binOp op t a b : Sem Value).run P K.w = .ok v K.w ∧ RV K z v := by
    intro p u e h1 h2 h3 h4 h5
    subst h1 h2 h4
    cases hy
    rcases h5 with ⟨rfl, rfl⟩ | ⟨rfl, rfl⟩
    · exact ext _ (by simp) (by simp) (run_eql rfl (run_equal_nil h3 p)) (.bool _)
    · exact ext _ (by simp) (by simp) (run_neq rfl (run_equal_nil h3 p)) (.bool _)
  cases hx with
  | int k n =>
    cases hy with
    | int k' m => obtain ⟨v, h1, h2⟩ := binInt_run (w := K.w) h; exact ext v (by simp) (by simp) h1 (h2 K)
    | _ => cases op <;> simp [binH] at h
  | str s =>
    cases hy with
    | str s' => obtain ⟨v, h1, h2⟩ := binStr_run (w := K.w) h; exact ext v (by simp) (by simp) h1 (h2 K)
    | _ => cases op <;> simp [binH] at h
  | bool p =>
    cases hy with
    | bool q =>
      simp only [binH] at h
      split at h
      · rename_i hu
        injection h with h
        subst h
        exact ext _ (by simp) (by simp) (run_eql rfl (run_equal_bool hu p q)) (.bool _)
      · rename_i hu
        injection h with h
        subst h
        exact ext _ (by simp) (by simp) (run_neq rfl (run_equal_bool hu p q)) (.bool _)
      · cases h
    | _ => simp [binH] at h
  | nul v hv =>
    simp only [binH] at h
    split at h <;> first | (cases h; done) | skip
    all_goals
      rename_i e hP hx
      first
      | (cases hx; done)
      | (cases hx
         injection h with h
         subst h
         refine nilp none _ e rfl rfl hP rfl ?_
         simp)
  | ip cs b off cv hb hL hc hr =>
    simp only [binH] at h
    split at h <;> first | (cases h; done) | skip
    all_goals
      rename_i e hP hx
      first
      | (cases hx; done)
      | (cases hx
         injection h with h
         subst h
         refine nilp (some ⟨b, off, none⟩) _ _ rfl rfl ‹P.underlying t = _› rfl ?_
         simp)
  | ep id i off hA =>
    simp only [binH] at h
    split at h <;> first | (cases h; done) | skip
    all_goals
      rename_i e hP hx
      first
      | (cases hx; done)
      | (cases hx
         injection h with h
         subst h
         refine nilp (some _) _ _ rfl rfl ‹P.underlying t = _› rfl ?_
         simp)
  | _ => simp [binH] at h

end Go.HL

/-
  HL, part E: the operations that hand back a value, all in one function; that the model's operations do the same.
-/
namespace Go.HL

def unH (op : UnOp) : HV → Option HV
  | .bool b => match op with | .not => some (.bool !b) | _ => none
  | .int k n => match op with | .neg => some (.int k (k.wrap (0 - n))) | _ => none
  | _ => none

def convH (P : Program) (src dst : TypeId) (x : HV) : Option HV :=
  match P.underlying src, P.underlying dst, x with
  | some _, some (.int k), .int _ n => some (.int k (k.wrap n))
  | some _, some .string, .str s => some (.str s)
  | _, _, _ => none

/-- Cells 'zs' put over 'cs' at 'off'. -/
def putCells (cs : List HV) (off : Nat) (zs : List HV) : List HV := cs.take off ++ zs ++ cs.drop (off + zs.length)

def fillH (place : Nat → Option (Nat × Nat)) (cells : List HV) : List (Nat × HV) → Option (List HV)
  | [] => some cells
  | (i, x) :: rest =>
    match place i with
    | none => none
    | some (off, size) => if x.cells.length = size ∧ off + size ≤ cells.length ∧ x.cells.all HV.one = true then fillH place (putCells cells off x.cells) rest else none

/-- One bound of a slice expression. -/
def bndH (dflt lim : Nat) : Option HV → Option Nat
  | none => some dflt
  | some (.int _ n) => if 0 ≤ n ∧ n ≤ lim then some n.toNat else none
  | _ => none

/-- The bounds of a slice expression: low, high. -/
def boundsH (len : Nat) (lo hi : Option HV) : Option (Nat × Nat) :=
  match bndH len len hi with
  | none => none
  | some b =>
    match bndH 0 b lo with
    | none => none
    | some l => some (l, b)

def sliceH (P : Program) (h : Hp) (t : TypeId) (x : HV) (lo hi mx : Option HV) : Option HV :=
  match x with
  | .str s =>
    match P.underlying t with
    | some .string =>
      match mx with
      | none => (boundsH s.size lo hi).map fun lb => .str (s.extract lb.1 lb.2)
      | _ => none
    | _ => none
  | .sl full es =>
    match (elemH P t).bind (szH P) with
    | none => none
    | some k =>
      match mx with
      | none =>
        match boundsH es.length lo hi with
        | none => none
        | some lb => if ∀ cs ∈ es, cs.length = k then some (.sl (full && decide (lb.2 = es.length)) ((es.drop lb.1).take (lb.2 - lb.1))) else none
      | some (.int _ m) =>
        if 0 ≤ m ∧ m ≤ es.length ∧ hi ≠ none then
          match boundsH m.toNat lo hi with
          | none => none
          | some lb => if ∀ cs ∈ es, cs.length = k then some (.sl (decide (lb.2 = m.toNat)) ((es.drop lb.1).take (lb.2 - lb.1))) else none
        else none
      | _ => none
  | .ow id lo0 len =>
    match (elemH P t).bind (szH P), h[id]? with
    | some k, some (.row _ es) =>
      match mx with
      | none =>
        match boundsH len lo hi with
        | none => none
        | some lb =>
          if lb.2 = lb.1 then some (.sl false []) else
          match es[lo0 + lb.1]? with
          | some cs => if cs.length = k then some (.ow id (lo0 + lb.1) (lb.2 - lb.1)) else none
          | none => none
      | some (.int _ 0) =>
        match boundsH 0 lo hi with
        | none => none
        | some _ => if hi = none then none else some (.sl true [])
      | _ => none
    | _, _ => none
  | _ => none

def fieldAddrH (P : Program) (t : TypeId) (x : HV) (f : Nat) : Option HV :=
  match structH P t with
  | none => none
  | some fl =>
    match fl[f]? with
    | none => none
    | some (off, size, _) =>
      if size = 0 then none else
      match x with
      | .ip cs => some (.ip (cs.drop off))
      | .ep id i o => some (.ep id i (o + off))
      | _ => none

/-- A part of an aggregate. -/
def partH (ag : Bool) (cs : List HV) (off size : Nat) : Option HV :=
  if ag then (if off + size ≤ cs.length then some (.agg ((cs.drop off).take size)) else none) else cs[off]?

def fieldValH (P : Program) (t : TypeId) (x : HV) (f : Nat) : Option HV :=
  match structH P t, x with
  | some fl, .agg cs =>
    match fl[f]? with
    | none => none
    | some (off, size, ag) => partH ag cs off size
  | _, _ => none

def indexAddrH (P : Program) (h : Hp) (t : TypeId) (x i : HV) : Option HV :=
  match i with
  | .int _ n =>
    if 0 ≤ n then
      match x with
      | .sl _ es =>
        match elemH P t with
        | none => none
        | some e =>
          match es[n.toNat]? with
          | none => none
          | some cs => if szH P e = some cs.length then some (.ip cs) else none
      | .ow id lo len =>
        match elemH P t, h[id]? with
        | some e, some (.row _ es) =>
          if n < len then
            match es[lo + n.toNat]? with
            | none => none
            | some cs => if szH P e = some cs.length then some (.ep id (lo + n.toNat) 0) else none
          else none
        | _, _ => none
      | .ip cs =>
        match arrH P t with
        | none => none
        | some (len, e) =>
          match szH P e with
          | none => none
          | some k => if n < len then some (.ip (cs.drop (n.toNat * k))) else none
      | .ep id j off =>
        match arrH P t with
        | none => none
        | some (len, e) =>
          match szH P e with
          | none => none
          | some k => if n < len then some (.ep id j (off + n.toNat * k)) else none
      | _ => none
    else none
  | _ => none

def indexH (P : Program) (t : TypeId) (x i : HV) : Option HV :=
  match i with
  | .int _ n =>
    if 0 ≤ n then
      match x with
      | .str s => match P.underlying t, s[n.toNat]? with | some .string, some b => some (.int .u8 b.toNat) | _, _ => none
      | .agg cs =>
        match arrH P t with
        | none => none
        | some (len, e) =>
          match szH P e, isAggH P e with
          | some k, some ag => if n < len then partH ag cs (n.toNat * k) k else none
          | _, _ => none
      | _ => none
    else none
  | _ => none

def buildH (P : Program) (t : TypeId) (parts : List (Nat × HV)) : Option HV :=
  match zeroH P t with
  | some (.agg z) =>
    match structH P t with
    | some fl => (fillH (fun i => (fl[i]?).map fun x => (x.1, x.2.1)) z parts).map .agg
    | none =>
      match arrH P t with
      | none => none
      | some (_, e) =>
        match szH P e with
        | none => none
        | some k => (fillH (fun i => some (i * k, k)) z parts).map .agg
  | _ => none

def lenH (P : Program) (h : Hp) (t : TypeId) (x : HV) : Option HV :=
  match x with
  | .sl _ es => (elemH P t).map fun _ => .int .i64 es.length
  | .ow _ _ len => (elemH P t).map fun _ => .int .i64 len
  | .str s => match P.underlying t with | some .string => some (.int .i64 s.size) | _ => none
  | .nul (.map none) => match P.underlying t with | some (.map _ _) => some (.int .i64 0) | _ => none
  | .mp id =>
    match P.underlying t, h[id]? with
    | some (.map _ _), some (.map kvs _) => some (.int .i64 kvs.length)
    | _, _ => none
  | _ => none

def min2H : HV → HV → Option HV
  | .int k x, .int k' y => if k = k' then some (.int k (if y < x then y else x)) else none
  | _, _ => none

def max2H : HV → HV → Option HV
  | .int k x, .int k' y => if k = k' then some (.int k (if x < y then y else x)) else none
  | _, _ => none

def fold2H (f : HV → HV → Option HV) (x : HV) : List HV → Option HV
  | [] => some x
  | y :: rest => match f x y with | some z => fold2H f z rest | none => none

def foldH (f : HV → HV → Option HV) : List HV → Option HV
  | [] => none
  | x :: rest => fold2H f x rest

def extractH (x : HV) (i : Nat) : Option HV :=
  match x with
  | .tup vs => vs[i]?
  | _ => none

/-- A row with elements. -/
def rowLive (h : Hp) (id : Nat) : Bool := match h[id]? with | some (.row _ (_ :: _)) => true | _ => false

def eqB (op : BinOp) (b : Bool) : Option HV := match op with | .eql => some (.bool b) | .neq => some (.bool !b) | _ => none

/-- Comparisons for which one must know the objects, or that an operand is the literal nil. -/
def cmpH (P : Program) (h : Hp) (op : BinOp) (t : TypeId) (x : HV) (y : Operand) (yv : HV) : Option HV :=
  match P.underlying t with
  | some (.pointer e) =>
    match x, yv with
    | .ep id i off, .ep id' i' off' =>
      if id = id' ∧ i = i' ∧ off = off' then (if (isAggH P e).isSome && P.cellsOf e != 0 then eqB op true else none)
      else if id ≠ id' ∧ rowLive h id = true ∧ rowLive h id' = true then (if (isAggH P e).isSome && P.cellsOf e != 0 then eqB op false else none) else none
    | _, _ => none
  | some (.slice _) =>
    match x with
    | .sl _ (_ :: _) => match y with | .const (.slice none 0 0) => eqB op false | _ => none
    | _ => none
  | _ => none

/-- The first of two answers. -/
def orV (a b : Option HV) : Option HV := match a with | some x => some x | none => b

/-- An operation that hands back a value and turns nothing. -/
def opV (X : PG) (ρ : Operand → HV) (h : Hp) (o : Op) : Option HV :=
  match o with
  | .move x => some (ρ x)
  | .assign x => some (ρ x)
  | .pick c a b => match ρ c with | .bool t => some (if t then ρ a else ρ b) | _ => none
  | .load t a => loadH X.P h t (ρ a)
  | .nilCheck x =>
    match ρ x with
    | .ip cs => some (.ip cs)
    | .ep id i off => some (.ep id i off)
    | .fn (.func f) a b => some (.fn (.func f) a b)
    | _ => none
  | .binOp op t x y _ => orV (binH X.P op t (ρ x) (ρ y)) (cmpH X.P h op t (ρ x) y (ρ y))
  | .unOp op _ x => unH op (ρ x)
  | .convert src dst x => convH X.P src dst (ρ x)
  | .makeFunc fn first captured => some (.fn fn (first.toList.map ρ) (captured.toList.map ρ))
  | .slice t x lo hi mx => sliceH X.P h t (ρ x) (lo.map ρ) (hi.map ρ) (mx.map ρ)
  | .fieldAddr s x f => fieldAddrH X.P s (ρ x) f
  | .field t x f => fieldValH X.P t (ρ x) f
  | .indexAddr t x i => indexAddrH X.P h t (ρ x) (ρ i)
  | .index t x i => indexH X.P t (ρ x) (ρ i)
  | .extract x i => extractH (ρ x) i
  | .build t parts => buildH X.P t (parts.toList.map fun p => (p.1, ρ p.2))
  | .call c =>
    match c.callee with
    | .builtin .len => match c.argTypes.toList, c.args.toList with | t :: _, [x] => lenH X.P h t (ρ x) | _, _ => none
    | .builtin .min => foldH min2H (c.args.toList.map ρ)
    | .builtin .max => foldH max2H (c.args.toList.map ρ)
    | _ => none
  | _ => none

/-- A value operation's run. -/
def ValRun (X : PG) (K : KS) (ρv : Operand → Value) (o : Oper) (x : HV) : Prop := ∃ v, (execOp ρv o).run X.P K.w = .ok (.value v) K.w ∧ RV K x v

theorem ValRun.of {X : PG} {K : KS} {ρv : Operand → Value} {o : Oper} {x : HV} {s : Sem Value} (he : execOp ρv o = (do pure (.value (← s)) : Sem Next)) (h : ∃ v, s.run X.P K.w = .ok v K.w ∧ RV K x v) : ValRun X K ρv o x := by
  obtain ⟨v, h1, h2⟩ := h
  exact ⟨v, by rw [he, Sem.run_bind, h1]; rfl, h2⟩

section
variable {X : PG} {K : KS} {h : Hp}

theorem RV.ofInt {k : IntKind} {n : Int} {v : Value} (hr : RV K (.int k n) v) : v = .int k n := by cases hr; rfl
theorem RV.ofStr {s : ByteArray} {v : Value} (hr : RV K (.str s) v) : v = .string s := by cases hr; rfl

theorem unH_sound {op : UnOp} {x y : HV} {v : Value} (hx : RV K x v) (hu : unH op x = some y) : ∃ u, (Op.unary op v).run X.P K.w = .ok u K.w ∧ RV K y u := by
  cases hx <;> simp only [unH] at hu <;> try (cases hu; done)
  · split at hu
    · injection hu with hu; subst hu; exact ⟨_, rfl, .bool _⟩
    · cases hu
  · split at hu
    · injection hu with hu; subst hu; exact ⟨_, rfl, .int _ _⟩
    · cases hu

theorem convH_sound {s d : TypeId} {x y : HV} {v : Value} (hx : RV K x v) (hu : convH X.P s d x = some y) : ∃ u, (convert s d v).run X.P K.w = .ok u K.w ∧ RV K y u := by
  unfold convH at hu
  split at hu
  · rename_i h1 h2
    have := hx.ofInt
    subst this
    injection hu with hu
    subst hu
    refine ⟨_, ?_, .int _ _⟩
    unfold convert
    rw [Sem.run_bind, run_underlying h1, Result.andThen_ok, Sem.run_bind, run_underlying h2]
    rfl
  · rename_i d h1 h2
    have := hx.ofStr
    subst this
    injection hu with hu
    subst hu
    refine ⟨.string _, ?_, .str _⟩
    unfold convert
    rw [Sem.run_bind, run_underlying h1, Result.andThen_ok, Sem.run_bind, run_underlying h2]
    cases d <;> rfl
  · cases hu

theorem run_part {t : TypeId} {cs : List HV} {vs : Array Value} {off k : Nat} {ag : Bool} {y : HV} (hlen : cs.length = vs.size) (hr : ∀ i (hi : i < cs.length), RV K cs[i] (vs[i]'(hlen ▸ hi))) (hk : szH X.P t = some k) (hag : isAggH X.P t = some ag)
    (hp : partH ag cs off k = some y) : ∃ u, (part t vs off).run X.P K.w = .ok u K.w ∧ RV K y u := by
  unfold partH at hp
  unfold part
  rw [Sem.run_bind, run_isAggH hag, Result.andThen_ok]
  cases ag with
  | true =>
    simp only [if_true] at hp ⊢
    split at hp
    · rename_i hle
      injection hp with hp
      subst hp
      rw [Sem.run_bind, run_szH hk]
      refine ⟨_, rfl, .agg _ _ (by simp; omega) (fun i hi => ?_)⟩
      simp at hi ⊢
      exact hr (off + i) (by omega)
    · cases hp
  | false =>
    simp only [Bool.false_eq_true, if_false] at hp ⊢
    obtain ⟨h0, e0⟩ := List.getElem?_eq_some_iff.1 hp
    have h0' : off < vs.size := by omega
    simp only [Array.getElem?_eq_getElem h0']
    exact ⟨_, rfl, by rw [← e0]; exact hr off h0⟩

/-- The cells of a filled aggregate. -/
theorem foldl_set (us : List Value) : ∀ (vs : Array Value) (off j0 : Nat) (i : Nat), ((us.zipIdx j0).foldl (fun cs (p : Value × Nat) => cs.setIfInBounds (off + p.2) p.1) vs)[i]? =
    if off + j0 ≤ i ∧ i < off + j0 + us.length ∧ i < vs.size then us[i - (off + j0)]? else vs[i]? := by
  induction us with
  | nil => intro vs off j0 i; simp; omega
  | cons u us ih =>
    intro vs off j0 i
    simp only [List.zipIdx_cons, List.foldl_cons]
    rw [ih]
    simp only [Array.size_setIfInBounds, List.length_cons]
    by_cases h1 : i = off + j0
    · subst h1
      rw [if_neg (by omega)]
      by_cases h2 : off + j0 < vs.size
      · rw [if_pos (by omega)]
        simp [h2]
      · rw [if_neg (by omega)]
        simp [h2]
    · rw [Array.getElem?_setIfInBounds_ne (by omega)]
      by_cases h2 : off + j0 + 1 ≤ i ∧ i < off + j0 + 1 + us.length ∧ i < vs.size
      · rw [if_pos (by omega), if_pos (by omega)]
        rw [show i - (off + j0) = (i - (off + (j0 + 1))) + 1 from by omega]
        simp
      · rw [if_neg (by omega), if_neg (by omega)]

theorem size_foldl_set (us : List Value) : ∀ (vs : Array Value) (off j0 : Nat), ((us.zipIdx j0).foldl (fun cs (p : Value × Nat) => cs.setIfInBounds (off + p.2) p.1) vs).size = vs.size := by
  induction us with
  | nil => intro vs off j0; rfl
  | cons u us ih => intro vs off j0; simp only [List.zipIdx_cons, List.foldl_cons]; rw [ih]; simp

/-- Two rows of cells, one by one. -/
def RL (K : KS) (cs : List HV) (vs : Array Value) : Prop := cs.length = vs.size ∧ ∀ (i : Nat) (x : HV), cs[i]? = some x → ∃ v, vs[i]? = some v ∧ RV K x v

theorem RL.of {cs : List HV} {vs : Array Value} (hlen : cs.length = vs.size) (hr : ∀ i (hi : i < cs.length), RV K cs[i] (vs[i]'(hlen ▸ hi))) : RL K cs vs :=
  ⟨hlen, fun i x hx => by
    obtain ⟨h0, e0⟩ := List.getElem?_eq_some_iff.1 hx
    exact ⟨vs[i]'(by omega), Array.getElem?_eq_getElem _, by rw [← e0]; exact hr i h0⟩⟩

theorem RL.get {cs : List HV} {vs : Array Value} (hl : RL K cs vs) (i : Nat) (hi : i < cs.length) : RV K cs[i] (vs[i]'(hl.1 ▸ hi)) := by
  obtain ⟨v, h1, h2⟩ := hl.2 i _ (List.getElem?_eq_getElem hi)
  obtain ⟨_, e⟩ := Array.getElem?_eq_some_iff.1 h1
  rw [e]; exact h2

theorem RL.put {cs zs : List HV} {vs us : Array Value} {off : Nat} (h1 : RL K cs vs) (h2 : RL K zs us) (hle : off + zs.length ≤ cs.length) :
    RL K (putCells cs off zs) (us.zipIdx.foldl (fun cs (p : Value × Nat) => cs.setIfInBounds (off + p.2) p.1) vs) := by
  have hsz : zs.length = us.size := h2.1
  have e0 : us.zipIdx.foldl (fun cs (p : Value × Nat) => cs.setIfInBounds (off + p.2) p.1) vs = (us.toList.zipIdx 0).foldl (fun cs (p : Value × Nat) => cs.setIfInBounds (off + p.2) p.1) vs := by
    rw [← Array.foldl_toList]; simp
  rw [e0]
  refine ⟨by rw [size_foldl_set]; simp [putCells]; have := h1.1; omega, fun i x hx => ?_⟩
  rw [foldl_set]
  simp only [Nat.add_zero, Array.length_toList]
  unfold putCells at hx
  have hvs := h1.1
  by_cases hA : i < off
  · rw [if_neg (by omega)]
    rw [List.append_assoc, List.getElem?_append_left (by simp; omega), List.getElem?_take, if_pos hA] at hx
    exact h1.2 i x hx
  · by_cases hB : i < off + zs.length
    · rw [if_pos (by omega)]
      rw [List.append_assoc, List.getElem?_append_right (by simp; omega), List.getElem?_append_left (by simp; omega)] at hx
      obtain ⟨v, g1, g2⟩ := h2.2 _ x hx
      refine ⟨v, ?_, g2⟩
      rw [Array.getElem?_toList, ← g1]
      congr 1
      simp
      omega
    · rw [if_neg (by omega)]
      rw [List.getElem?_append_right (by simp; omega), List.getElem?_drop] at hx
      obtain ⟨v, g1, g2⟩ := h1.2 _ x hx
      refine ⟨v, ?_, g2⟩
      rw [← g1]
      congr 1
      simp
      omega

theorem one_cells {x : HV} (hx : x.cells.all HV.one = true) : x ≠ .und ∧ ∀ l, x ≠ .tup l := by
  constructor
  · rintro rfl; simp [HV.cells, HV.one] at hx
  · rintro l rfl; simp [HV.cells, HV.one] at hx

theorem RV.rl {x : HV} {v : Value} (hx : RV K x v) (ho : x.cells.all HV.one = true) : RL K x.cells v.cells := by
  obtain ⟨h1, h2⟩ := one_cells ho
  obtain ⟨g1, g2⟩ := hx.cells h1 h2
  exact RL.of g1 (fun i hi => g2 i hi (by omega))

theorem fillH_sound {place : Nat → Option (Nat × Nat)} : ∀ (parts : List (Nat × HV)) (vparts : List (Nat × Value)) (cells res : List HV) (vs : Array Value), parts.length = vparts.length →
    (∀ (j : Nat) p q, parts[j]? = some p → vparts[j]? = some q → p.1 = q.1 ∧ RV K p.2 q.2) → RL K cells vs → fillH place cells parts = some res → ∃ us, Instr.fill place vs vparts = some us ∧ RL K res us := by
  intro parts
  induction parts with
  | nil =>
    intro vparts cells res vs hl _ hrl hf
    cases vparts with
    | nil => simp [fillH] at hf; subst hf; exact ⟨vs, rfl, hrl⟩
    | cons _ _ => simp at hl
  | cons p parts ih =>
    intro vparts cells res vs hl hp hrl hf
    cases vparts with
    | nil => simp at hl
    | cons q vparts =>
      obtain ⟨i, x⟩ := p
      obtain ⟨i', v⟩ := q
      obtain ⟨e1, hx⟩ := hp 0 _ _ rfl rfl
      simp only at e1 hx
      subst e1
      simp only [fillH] at hf
      cases hpl : place i with
      | none => simp [hpl] at hf
      | some os =>
        obtain ⟨off, size⟩ := os
        simp only [hpl] at hf
        split at hf
        · rename_i hc
          obtain ⟨hsz, hle, hone⟩ := hc
          have hxl := hx.rl hone
          have hput := hrl.put (off := off) hxl (by omega)
          obtain ⟨us, g1, g2⟩ := ih vparts _ res _ (by simpa using hl) (fun j p q h1 h2 => hp (j + 1) p q h1 h2) hput hf
          refine ⟨us, ?_, g2⟩
          simp only [Instr.fill, hpl]
          have hs1 : v.cells.size = size := by rw [← hxl.1]; exact hsz
          have hs2 := hrl.1
          rw [if_neg (by simp [hs1]; omega)]
          exact g1
        · cases hf

theorem fieldsH_mapM : ∀ {fs : List Field} {l : List (Nat × Nat × Bool)} {w : World}, fieldsH X.P fs = some l → (fs.mapM (fun f => do pure (f.offset, ← sizeOf f.type) : Field → Sem (Nat × Nat))).run X.P w = .ok (l.map fun x => (x.1, x.2.1)) w := by
  intro fs
  induction fs with
  | nil => intro l w hf; simp [fieldsH] at hf; subst hf; simp
  | cons f fs ih =>
    intro l w hf
    simp only [fieldsH] at hf
    split at hf
    · rename_i k g r h1 h2 h3
      injection hf with hf
      subst hf
      simp only [List.mapM_cons, Sem.run_bind, run_szH h1, Result.andThen_ok, Sem.run_pure, ih h3, List.map_cons]
    · cases hf

theorem buildH_sound {t : TypeId} {parts : List (Nat × HV)} {vparts : Array (Nat × Value)} {x : HV} (hl : parts.length = vparts.size)
    (hp : ∀ (j : Nat) p q, parts[j]? = some p → vparts.toList[j]? = some q → p.1 = q.1 ∧ RV K p.2 q.2) (hb : buildH X.P t parts = some x) : ∃ v, (Instr.build t vparts).run X.P K.w = .ok v K.w ∧ RV K x v := by
  unfold buildH at hb
  split at hb
  · rename_i z hz
    obtain ⟨zv, h1, h2⟩ := run_zeroH (w := K.w) hz
    have hzr := h2 K
    cases hzr with
    | agg _ vs g1 g2 =>
      have hrl : RL K z vs := RL.of g1 g2
      unfold Instr.build
      rw [Sem.run_bind, h1]
      simp only [Result.andThen_ok, Value.cells]
      split at hb
      · rename_i fl hfl
        obtain ⟨fs, hu, hfs⟩ := structH_get hfl
        obtain ⟨res, hres, rfl⟩ := Option.map_eq_some_iff.1 hb
        obtain ⟨us, f1, f2⟩ := fillH_sound parts vparts.toList z res vs (by simpa using hl) hp hrl hres
        rw [Sem.run_bind, run_underlying hu]
        simp only [Result.andThen_ok]
        rw [Sem.run_bind, Array.mapM_eq_mapM_toList, Sem.run_map, fieldsH_mapM hfs]
        simp only [Result.andThen_ok]
        have e1 : (fun x => (List.map (fun x : Nat × Nat × Bool => (x.1, x.2.1)) fl).toArray[x]?) = fun (i : Nat) => (fl[i]?).map fun (x : Nat × Nat × Bool) => (x.1, x.2.1) := by
          funext i; simp
        rw [e1, f1]
        exact ⟨_, rfl, .agg _ _ f2.1 (fun i hi => f2.get i hi)⟩
      · rename_i hfl
        split at hb
        · cases hb
        · rename_i n e ha
          split at hb
          · cases hb
          · rename_i k hk
            obtain ⟨res, hres, rfl⟩ := Option.map_eq_some_iff.1 hb
            obtain ⟨us, f1, f2⟩ := fillH_sound parts vparts.toList z res vs (by simpa using hl) hp hrl hres
            rw [Sem.run_bind, run_underlying (arrH_eq ha)]
            simp only [Result.andThen_ok]
            rw [Sem.run_bind, run_szH hk]
            simp only [Result.andThen_ok]
            rw [f1]
            exact ⟨_, rfl, .agg _ _ f2.1 (fun i hi => f2.get i hi)⟩
  · cases hb

/-- Two optional operands. -/
def OV (K : KS) : Option HV → Option Value → Prop
  | none, none => True
  | some x, some v => RV K x v
  | _, _ => False

theorem OV.map {ρ : Operand → HV} {ρv : Operand → Value} (hρ : ∀ x, RV K (ρ x) (ρv x)) (o : Option Operand) : OV K (o.map ρ) (o.map ρv) := by
  cases o with
  | none => trivial
  | some x => exact hρ x

theorem bnd_run {P : Program} {w : World} {d lim y n : Nat} {x : Option HV} {v : Option Value} (code : BoundsCode) (ho : OV K x v) (hd : d ≤ lim) (hy : lim ≤ y) (hb : bndH d lim x = some n) :
    n ≤ lim ∧ (v = none → n = d) ∧ ∀ u, v = some u → (Instr.sliceBound u y code).run P w = .ok n w := by
  unfold bndH at hb
  split at hb
  · injection hb with hb; subst hb
    cases v with
    | none => exact ⟨hd, fun _ => rfl, fun u hu => by cases hu⟩
    | some u => exact ho.elim
  · split at hb
    · rename_i k m hm
      injection hb with hb; subst hb
      cases v with
      | none => exact ho.elim
      | some u =>
        have := RV.ofInt (show RV K (.int k m) u from ho)
        subst this
        refine ⟨by omega, fun hu => by (cases hu), fun u hu => ?_⟩
        injection hu with hu; subst hu
        simp only [Instr.sliceBound, Sem.run_bind, asIntOf, Sem.run_pure, Result.andThen_ok]
        rw [if_pos (by omega)]
        rfl
    · cases hb
  · cases hb

/-- A slice expression's bounds, as the model reckons them. -/
theorem boundsH_run {P : Program} {w : World} {isSlice : Bool} {len cap : Nat} {lo hi : Option HV} {vlo vhi : Option Value} {l b : Nat} (hcap : len ≤ cap) (h1 : OV K lo vlo) (h2 : OV K hi vhi)
    (hb : boundsH len lo hi = some (l, b)) : l ≤ b ∧ b ≤ len ∧ (Instr.sliceBounds isSlice len cap vlo vhi none).run P w = .ok (l, b, cap) w := by
  unfold boundsH at hb
  cases e1 : bndH len len hi with
  | none => simp [e1] at hb
  | some b' =>
    simp only [e1] at hb
    cases e2 : bndH 0 b' lo with
    | none => simp [e2] at hb
    | some l' =>
      simp only [e2, Option.some.injEq, Prod.mk.injEq] at hb
      obtain ⟨rfl, rfl⟩ := hb
      obtain ⟨g1, g2, g3⟩ := bnd_run (P := P) (w := w) (y := cap) (if isSlice = true then .sliceAcap else .sliceAlen) h2 (Nat.le_refl _) hcap e1
      obtain ⟨f1, f2, f3⟩ := bnd_run (P := P) (w := w) (y := b') .sliceB h1 (Nat.zero_le _) (Nat.le_refl _) e2
      refine ⟨f1, g1, ?_⟩
      unfold Instr.sliceBounds
      cases vhi with
      | none =>
        have := g2 rfl
        subst this
        cases vlo with
        | none => have := f2 rfl; subst this; simp
        | some u => simp [f3 u rfl]
      | some u' =>
        have e3 := g3 u' rfl
        cases vlo with
        | none => have := f2 rfl; subst this; simp [e3]
        | some u => simp [e3, f3 u rfl]

theorem boundsH_run3 {P : Program} {w : World} {len cap m : Nat} {k : IntKind} {lo hi : Option HV} {vlo vhi : Option Value} {l b : Nat} (hm : m ≤ cap) (h1 : OV K lo vlo) (h2 : OV K hi vhi) (hhi : hi ≠ none)
    (hb : boundsH m lo hi = some (l, b)) : l ≤ b ∧ b ≤ m ∧ (Instr.sliceBounds true len cap vlo vhi (some (.int k m))).run P w = .ok (l, b, m) w := by
  unfold boundsH at hb
  cases e1 : bndH m m hi with
  | none => simp [e1] at hb
  | some b' =>
    simp only [e1] at hb
    cases e2 : bndH 0 b' lo with
    | none => simp [e2] at hb
    | some l' =>
      simp only [e2, Option.some.injEq, Prod.mk.injEq] at hb
      obtain ⟨rfl, rfl⟩ := hb
      obtain ⟨g1, g2, g3⟩ := bnd_run (P := P) (w := w) (y := m) .slice3B h2 (Nat.le_refl _) (Nat.le_refl _) e1
      obtain ⟨f1, f2, f3⟩ := bnd_run (P := P) (w := w) (y := b') .slice3C h1 (Nat.zero_le _) (Nat.le_refl _) e2
      refine ⟨f1, g1, ?_⟩
      have em : (Instr.sliceBound (.int k m) cap .slice3Acap).run P w = .ok m w := by
        simp only [Instr.sliceBound, Sem.run_bind, asIntOf, Sem.run_pure, Result.andThen_ok]
        rw [if_pos (by omega)]
        simp
      unfold Instr.sliceBounds
      cases vhi with
      | none => cases hi with
        | none => exact absurd rfl hhi
        | some _ => exact h2.elim
      | some u' =>
        have e3 := g3 u' rfl
        cases vlo with
        | none => have := f2 rfl; subst this; simp [e3, em]
        | some u => simp [e3, em, f3 u rfl]

theorem RV.slice_some {full : Bool} {es : List (List HV)} {v : Value} (hr : RV K (.sl full es) v) : ∃ a cap, v = .slice a es.length cap ∧ es.length ≤ cap ∧ cap ≤ maxLen ∧ (full = true → cap = es.length) ∧ (a = none → cap = 0) ∧
    (0 < es.length → ∃ (k b off : Nat) (cv : Nat → Nat → Value), a = some ⟨b, off, none⟩ ∧ b < K.w.heap.size ∧ ¬ K.L b ∧ (∀ i (hi : i < es.length), es[i].length = k) ∧
      (∀ i (hi : i < es.length) j (_ : j < es[i].length), K.w.cell? ⟨b, off + i * k + j, none⟩ = some (cv i j)) ∧ (∀ i (hi : i < es.length) j (hj : j < es[i].length), RV K es[i][j] (cv i j))) := by
  cases hr with
  | sl0 full a cap h1 h2 h3 => exact ⟨a, cap, rfl, Nat.zero_le _, h3, h2, h1, fun h => absurd h (Nat.lt_irrefl _)⟩
  | sl full es k b off cap cv h0 h1 h2 h3 hb hL hk hc hr => exact ⟨_, cap, rfl, h1, h3, h2, fun h => (by cases h), fun _ => ⟨k, b, off, cv, rfl, hb, hL, hk, hc, hr⟩⟩

/-- A part of an immutable slice. -/
theorem RV.sub {full full' : Bool} {es : List (List HV)} {a : Option Addr} {cap k l b m : Nat} (hr : RV K (.sl full es) (.slice a es.length cap)) (hlb : l ≤ b) (hb : b ≤ es.length) (hbm : b ≤ m) (hm : m ≤ cap)
    (hk : ∀ cs ∈ es, cs.length = k) (hf : full' = true → m = b) :
    RV K (.sl full' ((es.drop l).take (b - l))) (.slice (if m = l then a else a.map (·.add (l * k))) (b - l) (m - l)) := by
  have hlen : ((es.drop l).take (b - l)).length = b - l := by simp; omega
  obtain ⟨a', cap', e1, h1, h2, h3, h4, h5⟩ := hr.slice_some
  injection e1 with e1 e2 e3
  subst e1 e3
  by_cases hz : b - l = 0
  · have e : (es.drop l).take (b - l) = [] := by rw [hz]; rfl
    rw [e, hz]
    refine .sl0 _ _ _ (fun hn => ?_) (fun hfu => by have := hf hfu; omega) (by omega)
    split at hn
    · omega
    · cases a with
      | none => have := h4 rfl; omega
      | some _ => cases hn
  · have q1 : 0 < ((es.drop l).take (b - l)).length := by rw [hlen]; omega
    have q2 : ((es.drop l).take (b - l)).length ≤ m - l := by rw [hlen]; omega
    have q3 : m - l ≤ maxLen := by omega
    have q4 : full' = true → m - l = ((es.drop l).take (b - l)).length := fun hfu => by have := hf hfu; rw [hlen]; omega
    have q5 : ¬ m = l := by omega
    obtain ⟨k', bb, off, cv, rfl, g1, g2, g3, g4, g5⟩ := h5 (by omega)
    have hk' : ∀ i (hi : i < es.length), es[i].length = k := fun i hi => hk _ (List.getElem_mem hi)
    have hkk : k' = k := by have := g3 l (by omega); rw [hk' l (by omega)] at this; exact this.symm
    subst hkk
    rw [if_neg q5]
    have e0 : (some (⟨bb, off, none⟩ : Addr)).map (·.add (l * k')) = some ⟨bb, off + l * k', none⟩ := by simp [Addr.add_lit]
    rw [e0]
    suffices key : RV K (.sl full' ((es.drop l).take (b - l))) (.slice (some ⟨bb, off + l * k', none⟩) ((es.drop l).take (b - l)).length (m - l)) by rw [hlen] at key; exact key
    refine .sl _ _ k' bb (off + l * k') (m - l) (fun i j => cv (l + i) j) q1 q2 q4 q3 g1 g2 (fun i hi => ?_) (fun i hi j hj => ?_) (fun i hi j hj => ?_)
    · simp at hi ⊢
      exact g3 (l + i) (by omega)
    · simp at hi hj ⊢
      have := g4 (l + i) (by omega) j hj
      rw [show off + l * k' + i * k' + j = off + (l + i) * k' + j from by rw [Nat.add_mul]; omega]
      exact this
    · simp at hi hj ⊢
      exact g5 (l + i) (by omega) j hj

theorem sliceAt_slice {P : Program} {w : World} {t e : TypeId} {x : Value} {lo hi mx : Option Value} (hu : P.underlying t = some (.slice e)) : (Instr.sliceAt t x lo hi mx).run P w = (Instr.slice t x lo hi mx).run P w := by
  unfold Instr.sliceAt
  rw [Sem.run_bind, run_underlying hu]
  rfl

theorem RV.ow_inv {id lo len : Nat} {v : Value} (hr : RV K (.ow id lo len) v) : K.A id ∧ ∃ a cap, v = .slice a len cap ∧ len ≤ cap ∧ cap ≤ maxLen ∧ (a = none → cap = 0) ∧
    (K.c id ≠ 0 → a = some ⟨K.b id, lo * K.k id, none⟩ ∧ cap = K.c id - lo ∧ lo + len ≤ K.c id ∧ K.c id ≤ maxLen) ∧ (K.c id = 0 → cap = 0 ∧ lo = 0) := by
  cases hr with
  | ow id lo len hA h0 h1 h2 => exact ⟨hA, _, _, rfl, by omega, by omega, fun h => by (cases h), fun _ => ⟨rfl, rfl, h1, h2⟩, fun h => absurd h h0⟩
  | ow0 id a hA h0 => exact ⟨hA, a, 0, rfl, Nat.le_refl _, Nat.zero_le _, fun _ => rfl, fun h => absurd h0 h, fun _ => ⟨rfl, rfl⟩⟩

theorem elemSz {P : Program} {t : TypeId} {k : Nat} (hk : (elemH P t).bind (szH P) = some k) : ∃ e, P.underlying t = some (.slice e) ∧ elemH P t = some e ∧ szH P e = some k := by
  obtain ⟨e, h1, h2⟩ := Option.bind_eq_some_iff.1 hk
  exact ⟨e, elemH_eq h1, h1, h2⟩

theorem OV.none_inv {v : Option Value} (ho : OV K none v) : v = none := by
  cases v with
  | none => rfl
  | some _ => exact ho.elim

theorem OV.int_inv {k : IntKind} {n : Int} {v : Option Value} (ho : OV K (some (.int k n)) v) : v = some (.int k n) := by
  cases v with
  | none => exact ho.elim
  | some u => rw [RV.ofInt (show RV K (.int k n) u from ho)]

theorem sliceH_sound {t : TypeId} {x y : HV} {lo hi mx : Option HV} {v : Value} {vlo vhi vmx : Option Value} (hh : RH X K h) (hx : RV K x v) (h1 : OV K lo vlo) (h2 : OV K hi vhi) (h3 : OV K mx vmx) (hs : sliceH X.P h t x lo hi mx = some y) :
    ∃ u, (Instr.sliceAt t v vlo vhi vmx).run X.P K.w = .ok u K.w ∧ RV K y u := by
  unfold sliceH at hs
  split at hs
  · -- a string
    rename_i s
    have := hx.ofStr
    subst this
    split at hs
    · rename_i hu
      split at hs
      · obtain ⟨lb, hb, rfl⟩ := Option.map_eq_some_iff.1 hs
        obtain ⟨l, b⟩ := lb
        obtain ⟨_, _, hr⟩ := boundsH_run (P := X.P) (w := K.w) (isSlice := false) (Nat.le_refl s.size) h1 h2 hb
        have := h3.none_inv
        subst this
        refine ⟨.string (s.extract l b), ?_, .str _⟩
        unfold Instr.sliceAt Instr.slice
        rw [Sem.run_bind, run_underlying hu]
        simp only [Result.andThen_ok]
        rw [Sem.run_bind, run_underlying hu]
        simp only [Result.andThen_ok, Option.isSome_none, Bool.false_eq_true, if_false]
        simp [hr]
      · cases hs
    · cases hs
  · -- an immutable slice
    rename_i full es
    split at hs
    · cases hs
    · rename_i k hk
      obtain ⟨e, hu, _, hsz⟩ := elemSz hk
      obtain ⟨a, cap, rfl, g1, g2, g3, g4, g5⟩ := hx.slice_some
      rw [sliceAt_slice hu]
      unfold Instr.slice
      split at hs
      · split at hs
        · cases hs
        · rename_i lb hb
          obtain ⟨l, b⟩ := lb
          split at hs
          · rename_i hz
            injection hs with hs; subst hs
            have := h3.none_inv
            subst this
            obtain ⟨r1, r2, hr⟩ := boundsH_run (P := X.P) (w := K.w) (isSlice := true) g1 h1 h2 hb
            refine ⟨_, ?_, hx.sub (k := k) (m := cap) r1 r2 (by omega) (Nat.le_refl _) hz (fun hf => ?_)⟩
            · rw [Sem.run_bind, run_underlying hu]
              simp [hr, run_szH hsz]
            · simp at hf
              have := g3 hf.1
              omega
          · cases hs
      · rename_i km m
        split at hs
        · rename_i hm
          split at hs
          · cases hs
          · rename_i lb hb
            obtain ⟨l, b⟩ := lb
            split at hs
            · rename_i hz
              injection hs with hs; subst hs
              have := h3.int_inv
              subst this
              obtain ⟨r1, r2, hr⟩ := boundsH_run3 (P := X.P) (w := K.w) (len := es.length) (cap := cap) (k := km) (by omega) h1 h2 hm.2.2 hb
              rw [show ((m.toNat : Nat) : Int) = m from by omega] at hr
              refine ⟨_, ?_, hx.sub (k := k) (m := m.toNat) r1 (by omega) (by omega) (by omega) hz (fun hf => ?_)⟩
              · rw [Sem.run_bind, run_underlying hu]
                simp [hr, run_szH hsz]
              · simp at hf
                omega
            · cases hs
        · cases hs
      · cases hs
  · -- an own one
    rename_i id lo0 len
    split at hs
    · rename_i k t' es hk ho
      obtain ⟨e, hu, _, hsz⟩ := elemSz hk
      obtain ⟨hA, av, capv, rfl, c1, c2, c3, c4, c5⟩ := hx.ow_inv
      obtain ⟨hszt, hc0, hrow⟩ := hh.obj id _ hA ho
      rw [sliceAt_slice hu]
      unfold Instr.slice
      split at hs
      · split at hs
        · cases hs
        · rename_i lb hb
          obtain ⟨l, b⟩ := lb
          have := h3.none_inv
          subst this
          obtain ⟨r1, r2, hr⟩ := boundsH_run (P := X.P) (w := K.w) (isSlice := true) (cap := capv) c1 h1 h2 hb
          split at hs
          · rename_i hbl
            injection hs with hs; subst hs
            simp only at hbl
            refine ⟨.slice (if capv = l then av else av.map (·.add (l * k))) (b - l) (capv - l), ?_, ?_⟩
            · rw [Sem.run_bind, run_underlying hu]
              simp [hr, run_szH hsz]
            · rw [show b - l = 0 from by omega]
              refine .sl0 _ _ _ (fun hn => ?_) (fun hf => by cases hf) (by omega)
              split at hn
              · omega
              · cases av with
                | none => have := c3 rfl; omega
                | some _ => cases hn
          · rename_i hbl
            simp only at hbl
            split at hs
            · rename_i cs hcs'
              split at hs
              · rename_i hck
                injection hs with hs; subst hs
                obtain ⟨hi', ee⟩ := List.getElem?_eq_some_iff.1 hcs'
                have hcne : K.c id ≠ 0 := fun e => by have := hc0 e; subst this; simp at hi'
                obtain ⟨cur, hcur, hcs, hlen, hmax, hkk, hone, hcell⟩ := hrow hcne
                obtain ⟨rfl, rfl, d1, d2⟩ := c4 hcne
                have hKk : K.k id = k := by have := hkk _ hi'; rw [ee] at this; omega
                refine ⟨.slice (some ⟨K.b id, (lo0 + l) * K.k id, none⟩) (b - l) (K.c id - (lo0 + l)), ?_, .ow id (lo0 + l) (b - l) hA hcne (by omega) d2⟩
                rw [Sem.run_bind, run_underlying hu]
                simp only [Result.andThen_ok, Sem.run_bind, hr, run_szH hsz, Sem.run_pure]
                rw [if_neg (by omega)]
                simp only [Option.map_some, Addr.add_lit]
                rw [hKk, Nat.add_mul, show K.c id - lo0 - l = K.c id - (lo0 + l) from by omega]
              · cases hs
            · cases hs
      · split at hs
        · cases hs
        · rename_i km lb hb
          split at hs
          · cases hs
          · rename_i hhi
            injection hs with hs; subst hs
            obtain ⟨l, b⟩ := lb
            have := h3.int_inv
            subst this
            obtain ⟨r1, r2, hr⟩ := boundsH_run3 (P := X.P) (w := K.w) (len := len) (cap := capv) (k := ‹IntKind›) (Nat.zero_le _) h1 h2 hhi hb
            have hb0 : b = 0 := by omega
            have hl0 : l = 0 := by omega
            subst hb0 hl0
            refine ⟨.slice av 0 0, ?_, .sl0 _ _ _ (fun _ => rfl) (fun _ => rfl) (Nat.zero_le _)⟩
            rw [Sem.run_bind, run_underlying hu]
            have hr' : (Instr.sliceBounds true len capv vlo vhi (some (.int ‹IntKind› 0))).run X.P K.w = .ok (0, 0, 0) K.w := by simpa using hr
            simp [hr', run_szH hsz]
      · cases hs
    · cases hs
  · cases hs

end
end Go.HL

/-
  HL, part F: the value operations, the rest; all of them in one theorem.
-/
namespace Go.HL
section
variable {X : PG} {K : KS} {h : Hp}

theorem fieldAt_run {t : TypeId} {fl : List (Nat × Nat × Bool)} {f off size : Nat} {ag : Bool} {a : Addr} (hs : structH X.P t = some fl) (hf : fl[f]? = some (off, size, ag)) (h0 : ¬ size = 0) :
    (Instr.fieldAt t (.pointer (some a)) f).run X.P K.w = .ok (.pointer (some (a.add off))) K.w := by
  obtain ⟨fs, hu, hfs⟩ := structH_get hs
  obtain ⟨fd, g1, g2, g3, g4⟩ := fieldsH_get hfs f _ hf
  simp only at g2 g3
  unfold Instr.fieldAt
  rw [Sem.run_bind, run_underlying hu]
  simp only [Result.andThen_ok]
  have e1 : fs[f]? = some fd := by simpa using g1
  rw [e1]
  simp only [Sem.run_bind, Instr.sureAddr, Sem.run_pure, Result.andThen_ok]
  unfold fieldPlace
  rw [Sem.run_bind, run_szH g3]
  simp only [Result.andThen_ok]
  rw [if_neg h0, g2]
  rfl

theorem fieldAddrH_sound {t : TypeId} {x y : HV} {v : Value} {f : Nat} (hx : RV K x v) (hf : fieldAddrH X.P t x f = some y) : ∃ u, (Instr.fieldAt t v f).run X.P K.w = .ok u K.w ∧ RV K y u := by
  unfold fieldAddrH at hf
  split at hf
  · cases hf
  · rename_i fl hs
    split at hf
    · cases hf
    · rename_i off size ag hfl
      split at hf
      · cases hf
      · rename_i h0
        split at hf
        · rename_i cs
          injection hf with hf; subst hf
          cases hx with
          | ip _ b o cv hb hL hc hr =>
            refine ⟨_, fieldAt_run hs hfl h0, ?_⟩
            rw [Addr.add_lit]
            refine .ip _ b (o + off) (fun j => cv (off + j)) hb hL (fun j hj => ?_) (fun j hj => ?_)
            · simp at hj
              rw [Nat.add_assoc]
              exact hc (off + j) (by omega)
            · simp at hj ⊢
              exact hr (off + j) (by omega)
        · rename_i id i o
          injection hf with hf; subst hf
          cases hx with
          | ep _ _ _ hA =>
            refine ⟨_, fieldAt_run hs hfl h0, ?_⟩
            rw [Addr.add_lit, Nat.add_assoc]
            exact .ep id i (o + off) hA
        · cases hf

theorem fieldValH_sound {t : TypeId} {x y : HV} {v : Value} {f : Nat} (hx : RV K x v) (hf : fieldValH X.P t x f = some y) : ∃ u, (Instr.field t v f).run X.P K.w = .ok u K.w ∧ RV K y u := by
  unfold fieldValH at hf
  split at hf
  · rename_i fl cs hs
    split at hf
    · cases hf
    · rename_i off size ag hfl
      cases hx with
      | agg _ vs hlen hr =>
        obtain ⟨fs, hu, hfs⟩ := structH_get hs
        obtain ⟨fd, g1, g2, g3, g4⟩ := fieldsH_get hfs f _ hfl
        simp only at g2 g3 g4
        have e1 : fs[f]? = some fd := by simpa using g1
        obtain ⟨u, h1, h2⟩ := run_part (X := X) (K := K) hlen hr g3 g4 hf
        refine ⟨u, ?_, h2⟩
        unfold Instr.field
        rw [Sem.run_bind, run_underlying hu]
        simp only [Result.andThen_ok]
        rw [e1]
        simp only [Sem.run_bind, asAgg, Sem.run_pure, Result.andThen_ok]
        rw [g2]
        exact h1
  · cases hf

theorem indexAt_slice {t e : TypeId} {k : Nat} {kk : IntKind} {n : Int} {a : Addr} {len cap : Nat} (hu : X.P.underlying t = some (.slice e)) (hk : szH X.P e = some k) (h0 : 0 ≤ n) (h1 : n < len) :
    (Instr.indexAt t (.slice (some a) len cap) (.int kk n)).run X.P K.w = .ok (.pointer (some (a.add (n.toNat * k)))) K.w := by
  unfold Instr.indexAt
  simp only [Sem.run_bind, asIntOf, Sem.run_pure, Result.andThen_ok, run_underlying hu]
  rw [if_pos ⟨h0, h1⟩]
  simp [run_szH hk]

theorem indexAt_array {t e : TypeId} {k : Nat} {kk : IntKind} {n : Int} {a : Addr} {len : Nat} (hu : X.P.underlying t = some (.array len e)) (hk : szH X.P e = some k) (h0 : 0 ≤ n) (h1 : n < len) :
    (Instr.indexAt t (.pointer (some a)) (.int kk n)).run X.P K.w = .ok (.pointer (some (a.add (n.toNat * k)))) K.w := by
  unfold Instr.indexAt
  simp only [Sem.run_bind, asIntOf, Sem.run_pure, Result.andThen_ok, run_underlying hu, Instr.sureAddr]
  rw [if_pos ⟨h0, h1⟩]
  simp [run_szH hk]

theorem indexAddrH_sound {t : TypeId} {x i y : HV} {v vi : Value} (hh : RH X K h) (hx : RV K x v) (hi : RV K i vi) (hf : indexAddrH X.P h t x i = some y) : ∃ u, (Instr.indexAt t v vi).run X.P K.w = .ok u K.w ∧ RV K y u := by
  unfold indexAddrH at hf
  split at hf
  · rename_i kk n
    have := hi.ofInt
    subst this
    split at hf
    · rename_i h0
      split at hf
      · rename_i full es
        split at hf
        · cases hf
        · rename_i e he
          split at hf
          · cases hf
          · rename_i cs hcs
            split at hf
            · rename_i hk
              injection hf with hf; subst hf
              obtain ⟨hn, ee⟩ := List.getElem?_eq_some_iff.1 hcs
              obtain ⟨a, cap, rfl, g1, g2, g3, g4, g5⟩ := hx.slice_some
              obtain ⟨k, b, off, cv, rfl, f1, f2, f3, f4, f5⟩ := g5 (by omega)
              have hkk : cs.length = k := by rw [← ee]; exact f3 _ hn
              refine ⟨_, indexAt_slice (elemH_eq he) hk h0 (by omega), ?_⟩
              rw [Addr.add_lit]
              refine .ip _ b (off + n.toNat * cs.length) (fun j => cv n.toNat j) f1 f2 (fun j hj => ?_) (fun j hj => ?_)
              · have := f4 _ hn j (by rw [ee]; exact hj)
                rw [hkk]; exact this
              · have := f5 _ hn j (by rw [ee]; exact hj)
                simpa [ee] using this
            · cases hf
      · rename_i id lo len
        split at hf
        · rename_i e t' es he ho
          split at hf
          · rename_i hlt
            split at hf
            · cases hf
            · rename_i cs hcs
              split at hf
              · rename_i hk
                injection hf with hf; subst hf
                obtain ⟨hn, ee⟩ := List.getElem?_eq_some_iff.1 hcs
                obtain ⟨hA, av, capv, rfl, c1, c2, c3, c4, c5⟩ := hx.ow_inv
                obtain ⟨_, hc0, hrow⟩ := hh.obj id _ hA ho
                have hcne : K.c id ≠ 0 := fun e => by have := hc0 e; subst this; simp at hn
                obtain ⟨cur, hcur, hcs', hlen, hmax, hkk, hone, hcell⟩ := hrow hcne
                obtain ⟨rfl, rfl, d1, d2⟩ := c4 hcne
                have hKk : K.k id = cs.length := by rw [← ee]; exact (hkk _ hn).symm
                refine ⟨_, indexAt_slice (elemH_eq he) hk h0 hlt, ?_⟩
                rw [Addr.add_lit]
                rw [show lo * K.k id + n.toNat * cs.length = (lo + n.toNat) * K.k id + 0 from by rw [Nat.add_mul, ← hKk]; rfl]
                exact .ep id (lo + n.toNat) 0 hA
              · cases hf
          · cases hf
        · cases hf
      · rename_i cs
        split at hf
        · cases hf
        · rename_i len e ha
          split at hf
          · cases hf
          · rename_i k hk
            split at hf
            · rename_i hlt
              injection hf with hf; subst hf
              cases hx with
              | ip _ b o cv hb hL hc hr =>
                refine ⟨_, indexAt_array (arrH_eq ha) hk h0 hlt, ?_⟩
                rw [Addr.add_lit]
                refine .ip _ b (o + n.toNat * k) (fun j => cv (n.toNat * k + j)) hb hL (fun j hj => ?_) (fun j hj => ?_)
                · simp at hj
                  rw [Nat.add_assoc]
                  exact hc (n.toNat * k + j) (by omega)
                · simp at hj ⊢
                  exact hr (n.toNat * k + j) (by omega)
            · cases hf
      · rename_i id j off
        split at hf
        · cases hf
        · rename_i len e ha
          split at hf
          · cases hf
          · rename_i k hk
            split at hf
            · rename_i hlt
              injection hf with hf; subst hf
              cases hx with
              | ep _ _ _ hA =>
                refine ⟨_, indexAt_array (arrH_eq ha) hk h0 hlt, ?_⟩
                rw [Addr.add_lit, Nat.add_assoc]
                exact .ep id j _ hA
            · cases hf
      · cases hf
    · cases hf
  · cases hf

theorem indexH_sound {t : TypeId} {x i y : HV} {v vi : Value} (hx : RV K x v) (hi : RV K i vi) (hf : indexH X.P t x i = some y) : ∃ u, (Instr.index t v vi).run X.P K.w = .ok u K.w ∧ RV K y u := by
  unfold indexH at hf
  split at hf
  · rename_i kk n
    have := hi.ofInt
    subst this
    split at hf
    · rename_i h0
      split at hf
      · rename_i s
        have := hx.ofStr
        subst this
        split at hf
        · rename_i b hu hb
          injection hf with hf; subst hf
          refine ⟨_, ?_, .int _ _⟩
          unfold Instr.index
          simp only [Sem.run_bind, asIntOf, Sem.run_pure, Result.andThen_ok, run_underlying hu]
          rw [if_pos h0, hb]
          rfl
        · cases hf
      · rename_i cs
        split at hf
        · cases hf
        · rename_i len e ha
          split at hf
          · rename_i k ag hk hag
            split at hf
            · rename_i hlt
              cases hx with
              | agg _ vs hlen hr =>
                obtain ⟨u, h1, h2⟩ := run_part (X := X) (K := K) hlen hr hk hag hf
                refine ⟨u, ?_, h2⟩
                unfold Instr.index
                simp only [Sem.run_bind, asIntOf, Sem.run_pure, Result.andThen_ok, run_underlying (arrH_eq ha)]
                rw [if_pos ⟨h0, hlt⟩]
                simp only [Sem.run_bind, run_szH hk, Result.andThen_ok]
                exact h1
            · cases hf
          · cases hf
      · cases hf
    · cases hf
  · cases hf

theorem extractH_sound {x y : HV} {v : Value} {i : Nat} (hx : RV K x v) (hf : extractH x i = some y) : ∃ u, (Instr.extract v i).run X.P K.w = .ok u K.w ∧ RV K y u := by
  unfold extractH at hf
  split at hf
  · rename_i vs
    obtain ⟨h0, e0⟩ := List.getElem?_eq_some_iff.1 hf
    cases hx with
    | tup _ us hlen hr =>
      have h0' : i < us.size := by omega
      refine ⟨us[i], ?_, by rw [← e0]; exact hr i h0⟩
      unfold Instr.extract
      simp [h0']
  · cases hf

theorem lenH_sound {t : TypeId} {x y : HV} {v : Value} {ty : TypeId} {argTypes : Array TypeId} (hh : RH X K h) (ht : argTypes[0]? = some t) (hx : RV K x v) (hf : lenH X.P h t x = some y) :
    ∃ u, (Builtin.len_ argTypes ty #[v]).run X.P K.w = .ok u K.w ∧ RV K y u := by
  unfold lenH at hf
  have e0 : ((#[v] : Array Value)[0]? : Option Value) = some v := rfl
  split at hf
  · rename_i full es
    obtain ⟨e, he, rfl⟩ := Option.map_eq_some_iff.1 hf
    obtain ⟨a, cap, rfl, _⟩ := hx.slice_some
    refine ⟨_, ?_, .int _ _⟩
    unfold Builtin.len_
    simp only [ht, e0, Sem.run_bind, run_underlying (elemH_eq he), Result.andThen_ok]
    rfl
  · rename_i id lo len
    obtain ⟨e, he, rfl⟩ := Option.map_eq_some_iff.1 hf
    obtain ⟨_, _, _, rfl, _⟩ := hx.ow_inv
    refine ⟨_, ?_, .int _ _⟩
    unfold Builtin.len_
    simp only [ht, e0, Sem.run_bind, run_underlying (elemH_eq he), Result.andThen_ok]
    rfl
  · rename_i s
    have := hx.ofStr
    subst this
    split at hf
    · rename_i hu
      injection hf with hf; subst hf
      refine ⟨_, ?_, .int _ _⟩
      unfold Builtin.len_
      simp only [ht, e0, Sem.run_bind, run_underlying hu, Result.andThen_ok]
      rfl
    · cases hf
  · split at hf
    · rename_i k e hu
      injection hf with hf; subst hf
      cases hx
      refine ⟨_, ?_, .int _ _⟩
      unfold Builtin.len_
      simp only [ht, e0, Sem.run_bind, run_underlying hu, Result.andThen_ok]
      rfl
    · cases hf
  · rename_i id
    split at hf
    · rename_i k e kvs ver hu ho
      injection hf with hf; subst hf
      cases hx with
      | mp _ hA =>
        obtain ⟨_, es, h1, h2, _⟩ := hh.obj id _ hA ho
        refine ⟨.int .i64 es.size, ?_, by rw [h2]; exact .int _ _⟩
        unfold Builtin.len_
        simp only [ht, e0, Sem.run_bind, run_underlying hu, Result.andThen_ok]
        simp [getObj, Sem.run, h1, goInt]
    · cases hf
  · cases hf

theorem fold2H_sound {f : HV → HV → Option HV} {g : Value → Value → Sem Value} (hfg : ∀ x y z a b, RV K x a → RV K y b → f x y = some z → ∃ v, (g a b).run X.P K.w = .ok v K.w ∧ RV K z v) :
    ∀ (ys : List HV) (bs : List Value) (x : HV) (a : Value) (z : HV), ys.length = bs.length → (∀ (i : Nat) y b, ys[i]? = some y → bs[i]? = some b → RV K y b) → RV K x a → fold2H f x ys = some z →
      ∃ v, (bs.foldlM g a).run X.P K.w = .ok v K.w ∧ RV K z v := by
  intro ys
  induction ys with
  | nil =>
    intro bs x a z hl _ hx hf
    cases bs with
    | nil => simp [fold2H] at hf; subst hf; exact ⟨a, rfl, hx⟩
    | cons _ _ => simp at hl
  | cons y ys ih =>
    intro bs x a z hl hy hx hf
    cases bs with
    | nil => simp at hl
    | cons b bs =>
      simp only [fold2H] at hf
      split at hf
      · rename_i z' hz'
        obtain ⟨v, h1, h2⟩ := hfg _ _ _ _ _ hx (hy 0 _ _ rfl rfl) hz'
        obtain ⟨u, g1, g2⟩ := ih bs z' v z (by simpa using hl) (fun i y b h1 h2 => hy (i + 1) y b h1 h2) h2 hf
        refine ⟨u, ?_, g2⟩
        rw [List.foldlM_cons, Sem.run_bind, h1]
        exact g1
      · cases hf

theorem min2H_sound {x y z : HV} {a b : Value} (hx : RV K x a) (hy : RV K y b) (hf : min2H x y = some z) : ∃ v, (Builtin.min2 a b).run X.P K.w = .ok v K.w ∧ RV K z v := by
  unfold min2H at hf
  split at hf
  · have := hx.ofInt; subst this
    have := hy.ofInt; subst this
    split at hf
    · injection hf with hf; subst hf
      exact ⟨_, rfl, .int _ _⟩
    · cases hf
  · cases hf

theorem max2H_sound {x y z : HV} {a b : Value} (hx : RV K x a) (hy : RV K y b) (hf : max2H x y = some z) : ∃ v, (Builtin.max2 a b).run X.P K.w = .ok v K.w ∧ RV K z v := by
  unfold max2H at hf
  split at hf
  · have := hx.ofInt; subst this
    have := hy.ofInt; subst this
    split at hf
    · injection hf with hf; subst hf
      exact ⟨_, rfl, .int _ _⟩
    · cases hf
  · cases hf

/-- **All value operations.** -/
theorem eqB_run {t : TypeId} {op : BinOp} {a b : Value} {r : Bool} {z : HV} (he : (Op.equal t a b).run X.P K.w = .ok r K.w) (hz : eqB op r = some z) (h1 : ∀ p q, (a, b) ≠ (Value.agg p, Value.agg q)) (h2 : (a, b) ≠ (Value.nilIface, Value.nilIface)) (h3 : binOp .eql t a b = (do pure (.bool (← Op.equal t a b)) : Sem Value)) (h4 : binOp .neq t a b = (do pure (.bool (!(← Op.equal t a b))) : Sem Value)) (ox oy : Operand) :
    ∃ v, (do eqGuard op t ox oy a b; binOp op t a b : Sem Value).run X.P K.w = .ok v K.w ∧ RV K z v := by
  unfold eqB at hz
  split at hz
  · injection hz with hz; subst hz
    exact ⟨.bool r, by rw [Sem.run_bind, run_eqGuard_pass h1 h2]; exact run_eql h3 he, .bool _⟩
  · injection hz with hz; subst hz
    exact ⟨.bool !r, by rw [Sem.run_bind, run_eqGuard_pass h1 h2]; exact run_neq h4 he, .bool _⟩
  · cases hz

theorem rowLive_at {id : Nat} (hh : RH X K h) (hA : K.A id) (hl : rowLive h id = true) : liveAt K h id ∧ ∃ cur t, K.w.heap[K.b id]? = some (.cells cur t (0, 0)) := by
  unfold rowLive at hl
  split at hl
  · rename_i t e es ho
    obtain ⟨h1, h2, h3⟩ := hh.obj id _ hA ho
    have hc : K.c id ≠ 0 := fun h0 => by have := h2 h0; cases this
    obtain ⟨cur, h4, _⟩ := h3 hc
    exact ⟨⟨hA, ⟨_, ho, rfl⟩, hc⟩, cur, t, h4⟩
  · cases hl

theorem cmpH_sound {op : BinOp} {t : TypeId} {x y z : HV} {a b : Value} {ox oy : Operand} (hh : RH X K h) (hx : RV K x a) (hy : RV K y b) (hc : ∀ v, oy = .const v → b = v) (hs : cmpH X.P h op t x oy y = some z) :
    ∃ v, (do eqGuard op t ox oy a b; binOp op t a b : Sem Value).run X.P K.w = .ok v K.w ∧ RV K z v := by
  unfold cmpH at hs
  split at hs
  · rename_i e hu
    split at hs
    · rename_i id i off id' i' off'
      cases hx with
      | ep _ _ _ hA =>
      cases hy with
      | ep _ _ _ hA' =>
      have hsz : ∀ q : Bool, (if (isAggH X.P e).isSome && X.P.cellsOf e != 0 then eqB op q else none) = some z → ∃ ag, isAggH X.P e = some ag ∧ X.P.cellsOf e ≠ 0 ∧ eqB op q = some z := fun q hq => by
        split at hq
        · rename_i hcond
          simp only [Bool.and_eq_true, bne_iff_ne, ne_eq, Option.isSome_iff_exists] at hcond
          obtain ⟨⟨ag, h1⟩, h2⟩ := hcond
          exact ⟨ag, h1, h2, hq⟩
        · cases hq
      have heq : ∀ (a b : Addr) (r : Bool) ag, isAggH X.P e = some ag → X.P.cellsOf e ≠ 0 → (sameAddr a b).run X.P K.w = .ok r K.w → (Op.equal t (.pointer (some a)) (.pointer (some b))).run X.P K.w = .ok r K.w := fun a b r ag h1 h2 h3 => by
        unfold Op.equal Op.maxDepth Op.equalIn
        rw [Sem.run_bind, run_underlying hu]
        simp only [Result.andThen_ok, Sem.run_bind, run_sizeOfH h1]
        rw [if_pos h2]
        exact h3
      split at hs
      · rename_i hsame
        obtain ⟨rfl, rfl, rfl⟩ := hsame
        obtain ⟨ag, h1, h2, h3⟩ := hsz _ hs
        exact eqB_run (heq _ _ true ag h1 h2 (run_sameAddr_same _ _)) h3 (by simp) (by simp) rfl rfl ox oy
      · split at hs
        · rename_i hcond
          obtain ⟨hne, l1, l2⟩ := hcond
          obtain ⟨ag, h1, h2, h3⟩ := hsz _ hs
          obtain ⟨k1, c1, t1, g1⟩ := rowLive_at hh hA l1
          obtain ⟨k2, c2, t2, g2⟩ := rowLive_at hh hA' l2
          have hb : K.b id ≠ K.b id' := fun e => hne (hh.inj _ _ k1 k2 e)
          exact eqB_run (heq _ _ false ag h1 h2 (run_sameAddr_other _ (fun e => hb (by injection e)) g1 g2)) h3 (by simp) (by simp) rfl rfl ox oy
        · cases hs
    · cases hs
  · rename_i e hu
    split at hs
    · split at hs
      · rename_i hoy
        have hb := hc _ rfl
        subst hb
        have hnn : ∃ ad n c, a = .slice (some ad) n c := by
          cases hx with
          | sl full es k b off cap cv h0 h1 h2 h3 => exact ⟨_, _, _, rfl⟩
        obtain ⟨ad, n, c, rfl⟩ := hnn
        have he : (Op.equal t (.slice (some ad) n c) (.slice none 0 0)).run X.P K.w = .ok false K.w := by
          unfold Op.equal Op.maxDepth Op.equalIn
          rw [Sem.run_bind, run_underlying hu]
          rfl
        exact eqB_run he hs (by simp) (by simp) rfl rfl ox _
      · cases hs
    · cases hs
  · cases hs

theorem opV_sound {ρ : Operand → HV} {ρv : Operand → Value} {o : Oper} {x : HV} (hh : RH X K h) (hcst : ∀ v, ρv (.const v) = v) (hρ : ∀ y, RV K (ρ y) (ρv y)) (ho : opV X ρ h o.op = some x) : ValRun X K ρv o x := by
  obtain ⟨dst, op, type, pos, after, guard⟩ := o
  simp only at ho
  cases op with
  | move y => simp only [opV, Option.some.injEq] at ho; subst ho; exact ⟨_, rfl, hρ y⟩
  | assign y => simp only [opV, Option.some.injEq] at ho; subst ho; exact ⟨_, rfl, hρ y⟩
  | pick c a b =>
    simp only [opV] at ho
    split at ho
    · rename_i t hc
      injection ho with ho; subst ho
      have := hρ c
      rw [hc] at this
      have := this.ofBool
      refine ⟨if t then ρv a else ρv b, ?_, by cases t <;> exact hρ _⟩
      unfold execOp
      simp only [this, asBool, Sem.run_bind, Sem.run_pure, Result.andThen_ok]
    · cases ho
  | load t a =>
    simp only [opV] at ho
    obtain ⟨ad, u, h1, h2, h3⟩ := loadH_run hh (hρ a) ho
    refine ValRun.of rfl ⟨u, ?_, h3⟩
    unfold Instr.loadAt
    rw [h1]
    exact h2
  | nilCheck y =>
    simp only [opV] at ho
    have hy := hρ y
    split at ho <;> first | (cases ho; done) | skip
    all_goals
      rename_i he
      injection ho with ho; subst ho
      rw [he] at hy
      generalize hv : ρv y = v at hy
      refine ⟨v, ?_, hy⟩
      unfold execOp
      simp only [hv]
      cases hy
      rfl
  | binOp op t x' y yt =>
    simp only [opV, orV] at ho
    split at ho
    · rename_i z hz
      injection ho with ho; subst ho
      exact ValRun.of rfl (binH_sound (hρ x') (hρ y) hz x' y)
    · exact ValRun.of rfl (cmpH_sound hh (hρ x') (hρ y) (fun v hv => by rw [hv]; exact hcst v) ho)
  | unOp op t y => simp only [opV] at ho; exact ValRun.of rfl (unH_sound (hρ y) ho)
  | convert s d y => simp only [opV] at ho; exact ValRun.of rfl (convH_sound (hρ y) ho)
  | makeFunc fn first captured =>
    simp only [opV, Option.some.injEq] at ho
    subst ho
    refine ValRun.of rfl ⟨.func fn (first.map ρv) (captured.map ρv), rfl, .fn _ _ _ _ _ (by simp) (by simp) (fun i hi => ?_) (fun i hi => ?_)⟩
    · simp; exact hρ _
    · simp; exact hρ _
  | slice t y lo hi mx => simp only [opV] at ho; exact ValRun.of rfl (sliceH_sound hh (hρ y) (OV.map hρ lo) (OV.map hρ hi) (OV.map hρ mx) ho)
  | fieldAddr s y f => simp only [opV] at ho; exact ValRun.of rfl (fieldAddrH_sound (hρ y) ho)
  | field t y f => simp only [opV] at ho; exact ValRun.of rfl (fieldValH_sound (hρ y) ho)
  | indexAddr t y i => simp only [opV] at ho; exact ValRun.of rfl (indexAddrH_sound hh (hρ y) (hρ i) ho)
  | index t y i => simp only [opV] at ho; exact ValRun.of rfl (indexH_sound (hρ y) (hρ i) ho)
  | extract y i => simp only [opV] at ho; exact ValRun.of rfl (extractH_sound (hρ y) ho)
  | build t parts =>
    simp only [opV] at ho
    refine ValRun.of rfl (buildH_sound (vparts := parts.map fun p => (p.1, ρv p.2)) (by simp) (fun j p q h1 h2 => ?_) ho)
    simp only [List.getElem?_map, Array.toList_map] at h1 h2
    obtain ⟨p0, e1, e2⟩ := Option.map_eq_some_iff.1 h1
    obtain ⟨q0, e3, e4⟩ := Option.map_eq_some_iff.1 h2
    rw [e1] at e3
    injection e3 with e3
    subst e3 e2 e4
    exact ⟨rfl, hρ _⟩
  | call c =>
    simp only [opV] at ho
    obtain ⟨callee, args, argTypes⟩ := c
    simp only at ho
    split at ho
    · rename_i hcal
      split at ho
      · rename_i t ts y ht hy
        obtain ⟨u, h1, h2⟩ := lenH_sound (ty := type) (argTypes := argTypes) hh (by rw [← Array.getElem?_toList, ht]; rfl) (hρ y) ho
        refine ⟨u, ?_, h2⟩
        have ea : args = #[y] := by cases args; simp_all
        subst ea
        unfold execOp
        simp only [resolve, Sem.run_bind, Sem.run_pure, Result.andThen_ok, invoke, builtin]
        have e2 : Array.map ρv #[y] = #[ρv y] := by simp
        rw [e2, h1]
        rfl
      · cases ho
    · cases hargs : args.toList with
      | nil => rw [hargs] at ho; simp [foldH] at ho
      | cons a rest =>
        rw [hargs] at ho
        simp only [List.map_cons, foldH] at ho
        obtain ⟨u, h1, h2⟩ := fold2H_sound (X := X) (f := min2H) (g := Builtin.min2) (fun _ _ _ _ _ => min2H_sound) (rest.map ρ) (rest.map ρv) (ρ a) (ρv a) x (by simp) (fun i y b g1 g2 => by
          simp only [List.getElem?_map] at g1 g2
          obtain ⟨p, e1, e2⟩ := Option.map_eq_some_iff.1 g1
          obtain ⟨q, e3, e4⟩ := Option.map_eq_some_iff.1 g2
          rw [e1] at e3; injection e3 with e3; subst e3 e2 e4; exact hρ _) (hρ a) ho
        refine ⟨u, ?_, h2⟩
        unfold execOp
        simp only [resolve, Sem.run_bind, Sem.run_pure, Result.andThen_ok, invoke, builtin, Builtin.min_]
        rw [Array.toList_map, hargs]
        simp only [List.map_cons]
        rw [h1]
        rfl
    · cases hargs : args.toList with
      | nil => rw [hargs] at ho; simp [foldH] at ho
      | cons a rest =>
        rw [hargs] at ho
        simp only [List.map_cons, foldH] at ho
        obtain ⟨u, h1, h2⟩ := fold2H_sound (X := X) (f := max2H) (g := Builtin.max2) (fun _ _ _ _ _ => max2H_sound) (rest.map ρ) (rest.map ρv) (ρ a) (ρv a) x (by simp) (fun i y b g1 g2 => by
          simp only [List.getElem?_map] at g1 g2
          obtain ⟨p, e1, e2⟩ := Option.map_eq_some_iff.1 g1
          obtain ⟨q, e3, e4⟩ := Option.map_eq_some_iff.1 g2
          rw [e1] at e3; injection e3 with e3; subst e3 e2 e4; exact hρ _) (hρ a) ho
        refine ⟨u, ?_, h2⟩
        unfold execOp
        simp only [resolve, Sem.run_bind, Sem.run_pure, Result.andThen_ok, invoke, builtin, Builtin.max_]
        rw [Array.toList_map, hargs]
        simp only [List.map_cons]
        rw [h1]
        rfl
    · cases ho
  | _ => simp [opV] at ho

end
end Go.HL

