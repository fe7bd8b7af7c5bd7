/-
  HL, part G: operations that lay new blocks, or write into the call's own objects.
-/
import Derived.Test.YthfobbfechdoaaaHlF
namespace Go.HL

section
variable {X : PG} {K : KS}

/-- A new block for the object 'id'. -/
def KS.lay (K : KS) (id cap k : Nat) (o : Obj) : KS :=
  { w := K.w.alloc o, L := fun b => K.L b ∨ b = K.w.heap.size, A := fun i => K.A i ∨ i = id, b := fun i => if i = id then K.w.heap.size else K.b i,
    c := fun i => if i = id then cap else K.c i, k := fun i => if i = id then k else K.k i }

/-- A new block that no object lies in. -/
def KS.imm (K : KS) (o : Obj) : KS := { K with w := K.w.alloc o }

theorem alloc_old (w : World) (o : Obj) {b : Nat} (hb : b < w.heap.size) : (w.alloc o).heap[b]? = w.heap[b]? := RowKit.Below.heap_alloc w o b hb
theorem alloc_new (w : World) (o : Obj) : (w.alloc o).heap[w.heap.size]? = some o := by
  show (w.heap.push o)[w.heap.size]? = some o
  simp

theorem KS.imm_le (K : KS) (o : Obj) : K.le (K.imm o) := ⟨by simp [KS.imm], fun _ hb _ => alloc_old K.w o hb, fun _ h => .inl h, fun _ h => ⟨h, rfl, rfl, rfl⟩⟩

theorem KS.lay_le (K : KS) (id cap k : Nat) (o : Obj) (hn : ¬ K.A id) : K.le (K.lay id cap k o) := by
  refine ⟨by simp [KS.lay], fun _ hb _ => alloc_old K.w o hb, fun b h => ?_, fun i h => ?_⟩
  · rcases h with h | h
    · exact .inl h
    · exact .inr (by omega)
  · have hi : i ≠ id := fun e => hn (e ▸ h)
    exact ⟨.inl h, by simp [KS.lay, hi], by simp [KS.lay, hi], by simp [KS.lay, hi]⟩

theorem RO.mono {P : Program} {K K' : KS} (hle : K.le K') {id : Nat} {o : HO} (hA : K.A id) (hb : K.b id < K.w.heap.size → o.live = true → K.c id ≠ 0 → K'.w.heap[K.b id]? = K.w.heap[K.b id]?) (h : RO P K id o) : RO P K' id o := by
  obtain ⟨a1, a2, a3, a4⟩ := hle.A id hA
  have lt : ∀ {x : Obj}, o.live = true → K.c id ≠ 0 → K.w.heap[K.b id]? = some x → K'.w.heap[K'.b id]? = some x := fun {x} hl hc hx => by
    rw [a2, hb (Array.getElem?_eq_some_iff.1 hx).1 hl hc]; exact hx
  cases o with
  | row t es =>
    obtain ⟨g0, g1, g2⟩ := h
    refine ⟨by rw [a4]; exact g0, by rw [a3]; exact g1, fun hc => ?_⟩
    rw [a3] at hc
    obtain ⟨cur, h1, h2, h3, h4, h5, h6, h7⟩ := g2 hc
    refine ⟨cur, lt rfl hc h1, by rw [a3, a4]; exact h2, by rw [a3]; exact h3, by rw [a3]; exact h4, by rw [a4]; exact h5, h6, fun i hi j hj => ?_⟩
    obtain ⟨v, g1, g2⟩ := h7 i hi j hj
    exact ⟨v, by rw [a4]; exact g1, g2.mono hle⟩
  | map kvs clock =>
    obtain ⟨hc, es, h1, h2, h3⟩ := h
    exact ⟨by rw [a3]; exact hc, es, lt rfl hc h1, h2, fun i x hx => by obtain ⟨m, g1, g2, g3, g4⟩ := h3 i x hx; exact ⟨m, g1, g2.mono hle, g3.mono hle, g4⟩⟩
  | iter m since seen last =>
    obtain ⟨hc, hA', h1⟩ := h
    refine ⟨by rw [a3]; exact hc, fun x hx => (hle.A x (hA' x hx)).1, ?_⟩
    have : m.map K'.b = m.map K.b := by
      cases m with
      | none => rfl
      | some mid => simp [(hle.A mid (hA' mid rfl)).2.1]
    rw [this]
    exact lt rfl hc h1
  | sit s pos => obtain ⟨hc, h1⟩ := h; exact ⟨by rw [a3]; exact hc, lt rfl hc h1⟩
  | loop l r => obtain ⟨hc, h0, h1⟩ := h; exact ⟨by rw [a3]; exact hc, by rw [a2]; exact h0, lt rfl hc h1⟩
  | gone => trivial

/-- Nothing of the old objects has turned: what is known of them stays. -/
theorem RH.imm {h : Hp} (hh : RH X K h) (o : Obj) : Ext K h (K.imm o) h ∧ RH X (K.imm o) h := by
  have hle := K.imm_le o
  refine ⟨⟨rfl, rfl, rfl, hle.size, fun _ hb _ => alloc_old K.w o hb, fun id hl => .inl ⟨id, hl, rfl⟩, fun _ h => .inl h, fun _ h _ => h, hle.A⟩, ?_⟩
  exact ⟨hh.A, fun id ob hA ho => (hh.obj id ob hA ho).mono hle hA (fun hb _ _ => alloc_old K.w o hb), hh.live, hh.inj, fun b hb => Nat.lt_of_lt_of_le (hh.Lb b hb) hle.size, hh.glob.mono hle⟩

theorem RH.lay {h : Hp} (hh : RH X K h) {id cap k : Nat} {o : Obj} {ob : HO} (hn : ¬ K.A id) (ho : h[id]? = some ob) (hr : RO X.P (K.lay id cap k o) id ob) : Ext K h (K.lay id cap k o) h ∧ RH X (K.lay id cap k o) h := by
  have hle := K.lay_le id cap k o hn
  have hid : id < h.length := (List.getElem?_eq_some_iff.1 ho).1
  have old : ∀ i, liveAt (K.lay id cap k o) h i → i ≠ id → liveAt K h i ∧ (K.lay id cap k o).b i = K.b i := fun i hl hi => by
    obtain ⟨hA, hx, hc⟩ := hl
    rcases hA with hA | hA
    · exact ⟨⟨hA, hx, by simpa [KS.lay, hi] using hc⟩, by simp [KS.lay, hi]⟩
    · exact absurd hA hi
  have newb : (K.lay id cap k o).b id = K.w.heap.size := by simp [KS.lay]
  refine ⟨⟨rfl, rfl, rfl, hle.size, fun _ hb _ => alloc_old K.w o hb, fun i hl => ?_, fun b hb => ?_, fun b hb _ => .inl hb, hle.A⟩, ?_⟩
  · by_cases hi : i = id
    · subst hi; exact .inr (by rw [newb]; exact Nat.le_refl _)
    · obtain ⟨g1, g2⟩ := old i hl hi; exact .inl ⟨i, g1, g2.symm⟩
  · rcases hb with hb | hb
    · exact .inl hb
    · exact .inr (by omega)
  · refine ⟨fun i hA => ?_, fun i ob' hA ho' => ?_, fun i hl => ?_, fun i j hi hj e => ?_, fun b hb => ?_, hh.glob.mono hle⟩
    · rcases hA with hA | hA
      · exact hh.A i hA
      · subst hA; exact hid
    · by_cases hi : i = id
      · subst hi; rw [ho] at ho'; injection ho' with ho'; subst ho'; exact hr
      · rcases hA with hA | hA
        · exact (hh.obj i ob' hA ho').mono hle hA (fun hb _ _ => alloc_old K.w o hb)
        · exact absurd hA hi
    · by_cases hi : i = id
      · subst hi; exact .inr newb
      · obtain ⟨g1, g2⟩ := old i hl hi; rw [g2]; exact .inl (hh.live i g1)
    · by_cases h1 : i = id
      · by_cases h2 : j = id
        · rw [h1, h2]
        · subst h1
          obtain ⟨g1, g2⟩ := old j hj h2
          rw [newb, g2] at e
          have := hh.Lb _ (hh.live j g1)
          omega
      · by_cases h2 : j = id
        · subst h2
          obtain ⟨g1, g2⟩ := old i hi h1
          rw [newb, g2] at e
          have := hh.Lb _ (hh.live i g1)
          omega
        · obtain ⟨g1, g2⟩ := old i hi h1
          obtain ⟨f1, f2⟩ := old j hj h2
          rw [g2, f2] at e
          exact hh.inj i j g1 f1 e
    · show b < (K.w.alloc o).heap.size
      simp
      rcases hb with hb | hb
      · have := hh.Lb b hb; omega
      · omega

/-- A new row. -/
theorem RO.layRow {P : Program} {id cap k : Nat} {t : TypeId} {es : List (List HV)} {cur : Array Value} (hn : ¬ K.A id) (ht : szH P t = some k) (hs : cur.size = cap * k) (hl : es.length ≤ cap) (hm : cap ≤ maxLen) (hk : ∀ i (hi : i < es.length), es[i].length = k)
    (ho : ∀ i (hi : i < es.length) j (hj : j < es[i].length), es[i][j].one = true) (hc : ∀ i (hi : i < es.length) j (hj : j < es[i].length), ∃ v, cur[i * k + j]? = some v ∧ RV K es[i][j] v) :
    RO P (K.lay id cap k (.cells cur t)) id (.row t es) := by
  have e1 : (K.lay id cap k (.cells cur t)).b id = K.w.heap.size := by simp [KS.lay]
  have e2 : (K.lay id cap k (.cells cur t)).c id = cap := by simp [KS.lay]
  have e3 : (K.lay id cap k (.cells cur t)).k id = k := by simp [KS.lay]
  refine ⟨by rw [e3]; exact ht, fun h0 => List.eq_nil_of_length_eq_zero (by rw [e2] at h0; omega), fun _ => ⟨cur, by rw [e1]; exact alloc_new _ _, by rw [e2, e3]; exact hs, by rw [e2]; exact hl, by rw [e2]; exact hm, by rw [e3]; exact hk, ho, fun i hi j hj => ?_⟩⟩
  obtain ⟨v, g1, g2⟩ := hc i hi j hj
  exact ⟨v, by rw [e3]; exact g1, g2.mono (K.lay_le id cap k _ hn)⟩

theorem RL.mono {K' : KS} (hle : K.le K') {cs : List HV} {vs : Array Value} (h : RL K cs vs) : RL K' cs vs := ⟨h.1, fun i x hx => by obtain ⟨v, g1, g2⟩ := h.2 i x hx; exact ⟨v, g1, g2.mono hle⟩⟩

/-- Flat cells and their elements of k cells each. -/
def chunk (k : Nat) : Nat → List HV → List (List HV)
  | 0, _ => []
  | n + 1, cs => cs.take k :: chunk k n (cs.drop k)

theorem chunk_length (k : Nat) : ∀ (n : Nat) (cs : List HV), (chunk k n cs).length = n := by
  intro n
  induction n with
  | zero => intro cs; rfl
  | succ n ih => intro cs; simp [chunk, ih]

theorem chunk_get (k : Nat) : ∀ (n : Nat) (cs : List HV) (i : Nat), i < n → (chunk k n cs)[i]? = some ((cs.drop (i * k)).take k) := by
  intro n
  induction n with
  | zero => intro cs i hi; omega
  | succ n ih =>
    intro cs i hi
    cases i with
    | zero => simp [chunk]
    | succ i =>
      simp only [chunk, List.getElem?_cons_succ]
      rw [ih _ i (by omega), List.drop_drop]
      congr 3
      rw [Nat.add_mul]; omega

/-- What an operation with an effect comes to: its value, the objects that it turns, those that it makes. -/
structure ER where
  x : HV
  ws : List (Nat × HO) := []
  ns : List HO := []

def setAll (h : Hp) : List (Nat × HO) → Hp
  | [] => h
  | (id, o) :: rest => setAll (h.set id o) rest

theorem setAll_length : ∀ (ws : List (Nat × HO)) (h : Hp), (setAll h ws).length = h.length
  | [], _ => rfl
  | (_, _) :: rest, h => by simp [setAll, setAll_length rest]

def boxH (P : Program) (t : TypeId) (nid : Nat) (z : HV) : Option ER :=
  if z.cells.all HV.one = true ∧ szH P t = some z.cells.length then some { x := .ep nid 0 0, ns := [.row t [z.cells]] } else none

def storeH (P : Program) (h : Hp) (t : TypeId) (p z : HV) : Option ER :=
  match p with
  | .ep id i off =>
    match h[id]? with
    | some (.row t' es) =>
      match es[i]? with
      | some cs => if z.cells.all HV.one = true ∧ szH P t = some z.cells.length ∧ off + z.cells.length ≤ cs.length then some { x := .und, ws := [(id, .row t' (es.set i (putCells cs off z.cells)))] } else none
      | none => none
    | _ => none
  | _ => none

/-- A slice that is written out: immutable, or (at the places 'own') one of the call's own. -/
def buildSliceH (P : Program) (own : Bool) (nid : Nat) (t : TypeId) (len : Nat) (parts : List (Nat × HV)) : Option ER :=
  match elemH P t with
  | none => none
  | some e =>
    match szH P e, zeroH P e with
    | some k, some z =>
      if z.cells.length = k ∧ z.cells.all HV.one = true ∧ len * k ≤ 16777216 ∧ len ≤ 16777216 then
        match fillH (fun i => some (i * k, k)) (List.replicate len z.cells).flatten parts with
        | none => none
        | some cs => if own then some { x := .ow nid 0 len, ns := [.row e (chunk k len cs)] } else some { x := .sl true (chunk k len cs) }
      else none
    | _, _ => none

def makeSliceH (P : Program) (nid : Nat) (t : TypeId) (l c : HV) : Option ER :=
  match l, c with
  | .int _ n, .int _ m =>
    match elemH P t with
    | none => none
    | some e =>
      match szH P e, zeroH P e, bytesH P e with
      | some k, some z, some by_ =>
        if 0 ≤ n ∧ n ≤ m ∧ m ≤ 4611686018427387904 ∧ by_ * m ≤ 281474976710656 ∧ z.cells.length = k ∧ z.cells.all HV.one = true then some { x := .ow nid 0 n.toNat, ns := [.row e (List.replicate n.toNat z.cells)] } else none
      | _, _, _ => none
  | _, _ => none

/-- The run of an operation with an effect, from the heap 'h' that is read to the heap 'f' in which what is made stands already. -/
def EffRun (X : PG) (K : KS) (f : Hp) (nid : Nat) (ρv : Operand → Value) (o : Oper) (r : ER) : Prop :=
  ∃ v K', ((execOp ρv o).run X.P K.w = .ok (.value v) K'.w ∨ ((execOp ρv o).run X.P K.w = .ok .skip K'.w ∧ v = undef)) ∧ Ext K f K' (setAll f r.ws) ∧ RH X K' (setAll f r.ws) ∧ RV K' r.x v ∧
    ∀ id, K'.A id ↔ K.A id ∨ (nid ≤ id ∧ id < nid + r.ns.length)

theorem EffRun.ofVal {f : Hp} {nid : Nat} {ρv : Operand → Value} {o : Oper} {x : HV} (hf : RH X K f) (h : ValRun X K ρv o x) : EffRun X K f nid ρv o { x := x } := by
  obtain ⟨v, h1, h2⟩ := h
  exact ⟨v, K, .inl h1, .refl _ _, hf, h2, fun id => ⟨.inl, fun h => h.elim (fun h => h) (fun h => by simp at h; omega)⟩⟩

theorem lay_A {id cap k : Nat} {o : Obj} : ∀ i, (K.lay id cap k o).A i ↔ K.A i ∨ (id ≤ i ∧ i < id + 1) := fun i => by
  constructor
  · rintro (h | h)
    · exact .inl h
    · exact .inr (by omega)
  · rintro (h | h)
    · exact .inl h
    · exact .inr (by omega)

theorem boxH_run {f : Hp} {nid : Nat} {t : TypeId} {z : HV} {v : Value} {r : ER} (hf : RH X K f) (hz : RV K z v) (hb : boxH X.P t nid z = some r) (hn : f[nid]? = some (.row t [z.cells])) (hA : ¬ K.A nid) :
    ∃ K', K'.w = K.w.alloc (.cells v.cells t) ∧ Ext K f K' (setAll f r.ws) ∧ RH X K' (setAll f r.ws) ∧ RV K' r.x (.pointer (some ⟨K.w.heap.size, 0, none⟩)) ∧ ∀ id, K'.A id ↔ K.A id ∨ (nid ≤ id ∧ id < nid + r.ns.length) := by
  unfold boxH at hb
  split at hb
  · rename_i hone
    obtain ⟨hone, hsz⟩ := hone
    injection hb with hb; subst hb
    have hl := hz.rl hone
    have hro : RO X.P (K.lay nid 1 z.cells.length (.cells v.cells t)) nid (.row t [z.cells]) := by
      refine RO.layRow hA hsz (by rw [Nat.one_mul]; exact hl.1.symm) (by simp) (by simp [maxLen]) (fun i hi => ?_) (fun i hi j hj => ?_) (fun i hi j hj => ?_)
      · have h0 : i = 0 := by simp at hi; exact hi
        subst h0; rfl
      · have h0 : i = 0 := by simp at hi; exact hi
        subst h0
        exact List.all_eq_true.1 hone _ (List.getElem_mem _)
      · have h0 : i = 0 := by simp at hi; exact hi
        subst h0
        simp only [Nat.zero_mul, Nat.zero_add]
        exact hl.2 j _ (List.getElem?_eq_getElem hj)
    obtain ⟨g1, g2⟩ := hf.lay hA hn hro
    refine ⟨_, rfl, g1, g2, ?_, lay_A⟩
    have := RV.ep (K := K.lay nid 1 z.cells.length (.cells v.cells t)) nid 0 0 (.inr rfl)
    simpa [KS.lay] using this
  · cases hb

end
end Go.HL
