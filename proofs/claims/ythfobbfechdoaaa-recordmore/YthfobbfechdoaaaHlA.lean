/-
  HL, part A: abstract values, the Kripke state, the relation between abstract values and the model's values, and that it is kept when the world grows.
-/
import Derived.WalkKit
import Derived.RangeFuncLeaves
import Derived.RangeFuncCalls
namespace Go.HL

/-- Abstract values. 'sl': an immutable slice, by its elements' cells ('full': it has no spare capacity). 'ow': a slice of a row of the call's own. 'ip': a pointer to immutable cells. 'ep': a pointer into an own row: element, cell. -/
inductive HV where
  | bool (b : Bool)
  | int (k : IntKind) (n : Int)
  | str (s : ByteArray)
  | nul (v : Value)
  | sl (full : Bool) (es : List (List HV))
  | ow (id lo len : Nat)
  | ip (cs : List HV)
  | ep (id i off : Nat)
  | mp (id : Nat)
  | it (id : Nat)
  | fn (f : Fn) (fs cs : List HV)
  | agg (cs : List HV)
  | tup (vs : List HV)
  | und
  deriving Inhabited

/-- The nil values of one cell. -/
def isNul : Value → Bool
  | .pointer none | .map none | .nilFunc | .nilIface => true
  | _ => false

/-- The state against which abstract values are read: the world; 'L': the blocks that no immutable value may lie in; of each object of the call's own: whether it is there, its block, its capacity in elements, its elements' size in cells. -/
structure KS where
  w : World
  L : Nat → Prop
  A : Nat → Prop
  b : Nat → Nat
  c : Nat → Nat
  k : Nat → Nat

inductive RV (K : KS) : HV → Value → Prop
  | bool (b : Bool) : RV K (.bool b) (.bool b)
  | int (k : IntKind) (n : Int) : RV K (.int k n) (.int k n)
  | str (s : ByteArray) : RV K (.str s) (.string s)
  | nul (v : Value) (h : isNul v = true) : RV K (.nul v) v
  | sl0 (full : Bool) (a : Option Addr) (cap : Nat) (h1 : a = none → cap = 0) (h2 : full = true → cap = 0) (h3 : cap ≤ maxLen) : RV K (.sl full []) (.slice a 0 cap)
  | sl (full : Bool) (es : List (List HV)) (k b off cap : Nat) (cv : Nat → Nat → Value) (h0 : 0 < es.length) (h1 : es.length ≤ cap) (h2 : full = true → cap = es.length) (h3 : cap ≤ maxLen)
      (hb : b < K.w.heap.size) (hL : ¬ K.L b) (hk : ∀ i (hi : i < es.length), es[i].length = k)
      (hc : ∀ i (hi : i < es.length) j (_ : j < es[i].length), K.w.cell? ⟨b, off + i * k + j, none⟩ = some (cv i j))
      (hr : ∀ i (hi : i < es.length) j (hj : j < es[i].length), RV K es[i][j] (cv i j)) : RV K (.sl full es) (.slice (some ⟨b, off, none⟩) es.length cap)
  | ow (id lo len : Nat) (hA : K.A id) (h0 : K.c id ≠ 0) (h1 : lo + len ≤ K.c id) (h2 : K.c id ≤ maxLen) : RV K (.ow id lo len) (.slice (some ⟨K.b id, lo * K.k id, none⟩) len (K.c id - lo))
  | ow0 (id : Nat) (a : Option Addr) (hA : K.A id) (h0 : K.c id = 0) : RV K (.ow id 0 0) (.slice a 0 0)
  | ip (cs : List HV) (b off : Nat) (cv : Nat → Value) (hb : b < K.w.heap.size) (hL : ¬ K.L b)
      (hc : ∀ j (_ : j < cs.length), K.w.cell? ⟨b, off + j, none⟩ = some (cv j)) (hr : ∀ j (hj : j < cs.length), RV K cs[j] (cv j)) : RV K (.ip cs) (.pointer (some ⟨b, off, none⟩))
  | ep (id i off : Nat) (hA : K.A id) : RV K (.ep id i off) (.pointer (some ⟨K.b id, i * K.k id + off, none⟩))
  | mp (id : Nat) (hA : K.A id) : RV K (.mp id) (.map (some (K.b id)))
  | it (id : Nat) (hA : K.A id) : RV K (.it id) (.pointer (some ⟨K.b id, 0, none⟩))
  | fn (f : Fn) (fs cs : List HV) (vs us : Array Value) (h1 : fs.length = vs.size) (h2 : cs.length = us.size)
      (hf : ∀ i (hi : i < fs.length), RV K fs[i] (vs[i]'(h1 ▸ hi))) (hc : ∀ i (hi : i < cs.length), RV K cs[i] (us[i]'(h2 ▸ hi))) : RV K (.fn f fs cs) (.func f vs us)
  | agg (cs : List HV) (vs : Array Value) (h1 : cs.length = vs.size) (hr : ∀ i (hi : i < cs.length), RV K cs[i] (vs[i]'(h1 ▸ hi))) : RV K (.agg cs) (.agg vs)
  | tup (cs : List HV) (vs : Array Value) (h1 : cs.length = vs.size) (hr : ∀ i (hi : i < cs.length), RV K cs[i] (vs[i]'(h1 ▸ hi))) : RV K (.tup cs) (.tuple vs)
  | und (v : Value) : RV K .und v

/-- 'K'' has grown out of 'K': what does not lie in L reads as before; L grows by new blocks alone; what is known of an object stays known. -/
structure KS.le (K K' : KS) : Prop where
  size : K.w.heap.size ≤ K'.w.heap.size
  block : ∀ b, b < K.w.heap.size → ¬ K.L b → K'.w.heap[b]? = K.w.heap[b]?
  L : ∀ b, K'.L b → K.L b ∨ K.w.heap.size ≤ b
  A : ∀ i, K.A i → K'.A i ∧ K'.b i = K.b i ∧ K'.c i = K.c i ∧ K'.k i = K.k i

theorem KS.le.refl (K : KS) : K.le K := ⟨Nat.le_refl _, fun _ _ _ => rfl, fun _ h => .inl h, fun _ h => ⟨h, rfl, rfl, rfl⟩⟩

theorem KS.le.trans {a b c : KS} (h : a.le b) (k : b.le c) : a.le c := by
  refine ⟨Nat.le_trans h.size k.size, fun i hi hL => ?_, fun i hi => ?_, fun i hi => ?_⟩
  · rw [k.block i (Nat.lt_of_lt_of_le hi h.size) (fun hb => ?_), h.block i hi hL]
    rcases h.L i hb with h' | h'
    · exact hL h'
    · omega
  · rcases k.L i hi with h' | h'
    · exact h.L i h'
    · exact .inr (Nat.le_trans h.size h')
  · obtain ⟨h1, h2, h3, h4⟩ := h.A i hi
    obtain ⟨k1, k2, k3, k4⟩ := k.A i h1
    exact ⟨k1, k2.trans h2, k3.trans h3, k4.trans h4⟩

theorem KS.le.cell {K K' : KS} (h : K.le K') {b off : Nat} {v : Value} (hb : b < K.w.heap.size) (hL : ¬ K.L b) (hc : K.w.cell? ⟨b, off, none⟩ = some v) : K'.w.cell? ⟨b, off, none⟩ = some v :=
  (World.cell?_of_block (w := K.w) (a := ⟨b, off, none⟩) (h.block b hb hL)).trans hc

theorem KS.le.notL {K K' : KS} (h : K.le K') {b : Nat} (hb : b < K.w.heap.size) (hL : ¬ K.L b) : ¬ K'.L b := fun hb' => by
  rcases h.L b hb' with h' | h'
  · exact hL h'
  · omega

theorem RV.mono {K K' : KS} (h : K.le K') {x : HV} {v : Value} (hr : RV K x v) : RV K' x v := by
  induction hr with
  | bool b => exact .bool b
  | int k n => exact .int k n
  | str s => exact .str s
  | nul v hv => exact .nul v hv
  | sl0 full a cap h1 h2 h3 => exact .sl0 full a cap h1 h2 h3
  | sl full es k b off cap cv h0 h1 h2 h3 hb hL hk hc _ ih =>
    exact .sl full es k b off cap cv h0 h1 h2 h3 (Nat.lt_of_lt_of_le hb h.size) (h.notL hb hL) hk (fun i hi j hj => h.cell hb hL (hc i hi j hj)) ih
  | ow id lo len hA h0 h1 h2 =>
    obtain ⟨a1, a2, a3, a4⟩ := h.A id hA
    rw [← a2, ← a3, ← a4]
    exact .ow id lo len a1 (by rw [a3]; exact h0) (by rw [a3]; exact h1) (by rw [a3]; exact h2)
  | ow0 id a hA h0 =>
    obtain ⟨a1, a2, a3, a4⟩ := h.A id hA
    exact .ow0 id a a1 (by rw [a3]; exact h0)
  | ip cs b off cv hb hL hc _ ih => exact .ip cs b off cv (Nat.lt_of_lt_of_le hb h.size) (h.notL hb hL) (fun j hj => h.cell hb hL (hc j hj)) ih
  | ep id i off hA =>
    obtain ⟨a1, a2, a3, a4⟩ := h.A id hA
    rw [← a2, ← a4]
    exact .ep id i off a1
  | mp id hA =>
    obtain ⟨a1, a2, a3, a4⟩ := h.A id hA
    rw [← a2]
    exact .mp id a1
  | it id hA =>
    obtain ⟨a1, a2, a3, a4⟩ := h.A id hA
    rw [← a2]
    exact .it id a1
  | fn f fs cs vs us h1 h2 _ _ ih1 ih2 => exact .fn f fs cs vs us h1 h2 ih1 ih2
  | agg cs vs h1 _ ih => exact .agg cs vs h1 ih
  | tup cs vs h1 _ ih => exact .tup cs vs h1 ih
  | und v => exact .und v

/-- One cell: what may stand in a cell of memory. -/
def HV.one : HV → Bool
  | .agg _ | .tup _ | .und => false
  | _ => true

theorem RV.oneCell {K : KS} {x : HV} {v : Value} (h : RV K x v) (ho : x.one = true) : v.oneCell' = true := by
  cases h <;> first | rfl | (simp [HV.one] at ho; done) | skip
  rename_i h
  cases v <;> simp [isNul] at h <;> rfl

/-- The cells of an abstract value, where it has any. -/
def HV.cells : HV → List HV
  | .agg cs => cs
  | x => [x]

theorem RV.cells {K : KS} {x : HV} {v : Value} (h : RV K x v) (hu : x ≠ .und) (ht : ∀ l, x ≠ .tup l) :
    x.cells.length = v.cells.size ∧ ∀ i (hi : i < x.cells.length) (hi' : i < v.cells.size), RV K x.cells[i] v.cells[i] := by
  cases h with
  | agg cs vs h1 hr => exact ⟨h1, fun i hi _ => hr i hi⟩
  | und => exact absurd rfl hu
  | tup cs vs h1 hr => exact absurd rfl (ht cs)
  | nul v hv =>
    have e : v.cells = #[v] := by cases v <;> simp [isNul] at hv <;> rfl
    refine ⟨by simp [HV.cells, e], fun i hi hi' => ?_⟩
    have h0 : i = 0 := by simp [HV.cells] at hi; exact hi
    subst h0
    have : v.cells[0] = v := by simp [e]
    rw [this]
    exact RV.nul v hv
  | bool => exact ⟨rfl, fun i hi _ => by have h0 : i = 0 := by (simp [HV.cells] at hi; exact hi)
                                         subst h0; exact .bool _⟩
  | int => exact ⟨rfl, fun i hi _ => by have h0 : i = 0 := by (simp [HV.cells] at hi; exact hi)
                                        subst h0; exact .int _ _⟩
  | str => exact ⟨rfl, fun i hi _ => by have h0 : i = 0 := by (simp [HV.cells] at hi; exact hi)
                                        subst h0; exact .str _⟩
  | sl0 full a cap h1 h2 h3 => exact ⟨rfl, fun i hi _ => by have h0 : i = 0 := by (simp [HV.cells] at hi; exact hi)
                                                            subst h0; exact .sl0 full a cap h1 h2 h3⟩
  | sl full es k b off cap cv h0 h1 h2 h3 hb hL hk hc hr => exact ⟨rfl, fun i hi _ => by have h0' : i = 0 := by (simp [HV.cells] at hi; exact hi)
                                                                                         subst h0'; exact .sl full es k b off cap cv h0 h1 h2 h3 hb hL hk hc hr⟩
  | ow id lo len hA h0' h1 h2 => exact ⟨rfl, fun i hi _ => by have h0 : i = 0 := by (simp [HV.cells] at hi; exact hi)
                                                              subst h0; exact .ow id lo len hA h0' h1 h2⟩
  | ow0 id a hA h0' => exact ⟨rfl, fun i hi _ => by have h0 : i = 0 := by (simp [HV.cells] at hi; exact hi)
                                                    subst h0; exact .ow0 id a hA h0'⟩
  | ip cs b off cv hb hL hc hr => exact ⟨rfl, fun i hi _ => by have h0 : i = 0 := by (simp [HV.cells] at hi; exact hi)
                                                               subst h0; exact .ip cs b off cv hb hL hc hr⟩
  | ep id i off hA => exact ⟨rfl, fun i' hi _ => by have h0 : i' = 0 := by (simp [HV.cells] at hi; exact hi)
                                                    subst h0; exact .ep id i off hA⟩
  | mp id hA => exact ⟨rfl, fun i hi _ => by have h0 : i = 0 := by (simp [HV.cells] at hi; exact hi)
                                             subst h0; exact .mp id hA⟩
  | it id hA => exact ⟨rfl, fun i hi _ => by have h0 : i = 0 := by (simp [HV.cells] at hi; exact hi)
                                             subst h0; exact .it id hA⟩
  | fn f fs cs vs us h1 h2 hf hc => exact ⟨rfl, fun i hi _ => by have h0 : i = 0 := by (simp [HV.cells] at hi; exact hi)
                                                                 subst h0; exact .fn f fs cs vs us h1 h2 hf hc⟩

mutual
/-- No reference to an object of the call's own. -/
def HV.free : HV → Bool
  | .sl _ es => HV.freeLL es
  | .ip cs => HV.freeL cs
  | .fn _ fs cs => HV.freeL fs && HV.freeL cs
  | .agg cs => HV.freeL cs
  | .tup vs => HV.freeL vs
  | .ow _ _ _ => false
  | .ep _ _ _ => false
  | .mp _ => false
  | .it _ => false
  | _ => true
def HV.freeL : List HV → Bool
  | [] => true
  | x :: rest => HV.free x && HV.freeL rest
def HV.freeLL : List (List HV) → Bool
  | [] => true
  | x :: rest => HV.freeL x && HV.freeLL rest
end

theorem freeL_all : ∀ l, HV.freeL l = l.all HV.free
  | [] => by simp [HV.freeL]
  | x :: rest => by simp [HV.freeL, freeL_all rest]

theorem freeLL_all : ∀ l, HV.freeLL l = l.all (fun cs => cs.all HV.free)
  | [] => by simp [HV.freeLL]
  | x :: rest => by simp [HV.freeLL, freeL_all, freeLL_all rest]

theorem freeL_get {l : List HV} (h : HV.freeL l = true) (i : Nat) (hi : i < l.length) : l[i].free = true := by
  rw [freeL_all] at h
  exact List.all_eq_true.1 h _ (List.getElem_mem hi)

theorem freeLL_get {l : List (List HV)} (h : HV.freeLL l = true) (i : Nat) (hi : i < l.length) : HV.freeL l[i] = true := by
  rw [freeLL_all] at h
  rw [freeL_all]
  exact List.all_eq_true.1 h _ (List.getElem_mem hi)

/-- What holds no reference to an own object does not ask which there are. -/
theorem RV.free {K K' : KS} (hw : K'.w = K.w) (hL : ∀ b, K'.L b → K.L b) {x : HV} {v : Value} (hr : RV K x v) (hx : x.free = true) : RV K' x v := by
  induction hr with
  | bool b => exact .bool b
  | int k n => exact .int k n
  | str s => exact .str s
  | nul v hv => exact .nul v hv
  | sl0 full a cap h1 h2 h3 => exact .sl0 full a cap h1 h2 h3
  | sl full es k b off cap cv h0 h1 h2 h3 hb hL' hk hc _ ih =>
    exact .sl full es k b off cap cv h0 h1 h2 h3 (by rw [hw]; exact hb) (fun h => hL' (hL b h)) hk (fun i hi j hj => by rw [hw]; exact hc i hi j hj)
      (fun i hi j hj => ih i hi j hj (freeL_get (freeLL_get (by simpa [HV.free] using hx) i hi) j hj))
  | ow id lo len => simp [HV.free] at hx
  | ow0 id a => simp [HV.free] at hx
  | ip cs b off cv hb hL' hc _ ih => exact .ip cs b off cv (by rw [hw]; exact hb) (fun h => hL' (hL b h)) (fun j hj => by rw [hw]; exact hc j hj) (fun j hj => ih j hj (freeL_get (by simpa [HV.free] using hx) j hj))
  | ep id i off => simp [HV.free] at hx
  | mp id => simp [HV.free] at hx
  | it id => simp [HV.free] at hx
  | fn f fs cs vs us h1 h2 _ _ ih1 ih2 =>
    simp only [HV.free, Bool.and_eq_true] at hx
    exact .fn f fs cs vs us h1 h2 (fun i hi => ih1 i hi (freeL_get hx.1 i hi)) (fun i hi => ih2 i hi (freeL_get hx.2 i hi))
  | agg cs vs h1 _ ih => exact .agg cs vs h1 (fun i hi => ih i hi (freeL_get (by simpa [HV.free] using hx) i hi))
  | tup cs vs h1 _ ih => exact .tup cs vs h1 (fun i hi => ih i hi (freeL_get (by simpa [HV.free] using hx) i hi))
  | und v => exact .und v

end Go.HL
