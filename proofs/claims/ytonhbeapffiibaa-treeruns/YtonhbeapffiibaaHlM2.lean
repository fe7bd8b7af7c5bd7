/-
  HL, part G: operations that lay new blocks, or write into the call's own objects.
-/
import Derived.Test.YtonhbeapffiibaaHlM1
import Derived.MapKept
namespace Go.HL

section
variable {X : PG} {K : KS}

/-- A new block for the object 'id'. -/
def KS.lay (K : KS) (id cap k : Nat) (o : Obj) : KS :=
  { w := K.w.alloc o, L := fun b => K.L b ∨ b = K.w.heap.size, A := fun i => K.A i ∨ i = id, b := fun i => if i = id then K.w.heap.size else K.b i,
    c := fun i => if i = id then cap else K.c i, k := fun i => if i = id then k else K.k i }

/-- A new block that no object lies in. -/
def KS.imm (K : KS) (o : Obj) : KS := { K with w := K.w.alloc o }

theorem alloc_old (w : World) (o : Obj) {b : Nat} (hb : b < w.heap.size) : (w.alloc o).heap[b]? = w.heap[b]? := RowKit.Below.heap_alloc w o b hb
theorem alloc_new (w : World) (o : Obj) : (w.alloc o).heap[w.heap.size]? = some o := by
  show (w.heap.push o)[w.heap.size]? = some o
  simp

theorem KS.imm_le (K : KS) (o : Obj) : K.le (K.imm o) := ⟨by simp [KS.imm], fun _ hb _ => alloc_old K.w o hb, fun _ h => .inl h, fun _ h => ⟨h, rfl, rfl, rfl⟩⟩

theorem KS.lay_le (K : KS) (id cap k : Nat) (o : Obj) (hn : ¬ K.A id) : K.le (K.lay id cap k o) := by
  refine ⟨by simp [KS.lay], fun _ hb _ => alloc_old K.w o hb, fun b h => ?_, fun i h => ?_⟩
  · rcases h with h | h
    · exact .inl h
    · exact .inr (by omega)
  · have hi : i ≠ id := fun e => hn (e ▸ h)
    exact ⟨.inl h, by simp [KS.lay, hi], by simp [KS.lay, hi], by simp [KS.lay, hi]⟩

theorem RO.mono {P : Program} {K K' : KS} (hle : K.le K') {id : Nat} {o : HO} (hA : K.A id) (hb : K.b id < K.w.heap.size → o.live = true → K.c id ≠ 0 → K'.w.heap[K.b id]? = K.w.heap[K.b id]?) (h : RO P K id o) : RO P K' id o := by
  obtain ⟨a1, a2, a3, a4⟩ := hle.A id hA
  have lt : ∀ {x : Obj}, o.live = true → K.c id ≠ 0 → K.w.heap[K.b id]? = some x → K'.w.heap[K'.b id]? = some x := fun {x} hl hc hx => by
    rw [a2, hb (Array.getElem?_eq_some_iff.1 hx).1 hl hc]; exact hx
  cases o with
  | row t es =>
    obtain ⟨g0, g1, g2⟩ := h
    refine ⟨by rw [a4]; exact g0, by rw [a3]; exact g1, fun hc => ?_⟩
    rw [a3] at hc
    obtain ⟨cur, h1, h2, h3, h4, h5, h6, h7⟩ := g2 hc
    refine ⟨cur, lt rfl hc h1, by rw [a3, a4]; exact h2, by rw [a3]; exact h3, by rw [a3]; exact h4, by rw [a4]; exact h5, h6, fun i hi j hj => ?_⟩
    obtain ⟨v, g1, g2⟩ := h7 i hi j hj
    exact ⟨v, by rw [a4]; exact g1, g2.mono hle⟩
  | map kvs clock =>
    obtain ⟨hc, es, h1, h2, h3⟩ := h
    exact ⟨by rw [a3]; exact hc, es, lt rfl hc h1, h2, fun i x hx => by obtain ⟨m, g1, g2, g3, g4⟩ := h3 i x hx; exact ⟨m, g1, g2.mono hle, g3.mono hle, g4⟩⟩
  | iter m since seen last =>
    obtain ⟨hc, hA', h1⟩ := h
    refine ⟨by rw [a3]; exact hc, fun x hx => (hle.A x (hA' x hx)).1, ?_⟩
    have : m.map K'.b = m.map K.b := by
      cases m with
      | none => rfl
      | some mid => simp [(hle.A mid (hA' mid rfl)).2.1]
    rw [this]
    exact lt rfl hc h1
  | sit s pos => obtain ⟨hc, h1⟩ := h; exact ⟨by rw [a3]; exact hc, lt rfl hc h1⟩
  | loop l r => obtain ⟨hc, h0, h1⟩ := h; exact ⟨by rw [a3]; exact hc, by rw [a2]; exact h0, lt rfl hc h1⟩
  | gone => trivial

/-- Nothing of the old objects has turned: what is known of them stays. -/
theorem RH.imm {h : Hp} (hh : RH X K h) (o : Obj) : Ext K h (K.imm o) h ∧ RH X (K.imm o) h := by
  have hle := K.imm_le o
  refine ⟨⟨rfl, rfl, rfl, hle.size, fun _ hb _ => alloc_old K.w o hb, fun id hl => .inl ⟨id, hl, rfl⟩, fun _ h => .inl h, fun _ h _ => h, hle.A⟩, ?_⟩
  exact ⟨hh.A, fun id ob hA ho => (hh.obj id ob hA ho).mono hle hA (fun hb _ _ => alloc_old K.w o hb), hh.live, hh.inj, fun b hb => Nat.lt_of_lt_of_le (hh.Lb b hb) hle.size, hh.glob.mono hle⟩

theorem RH.lay {h : Hp} (hh : RH X K h) {id cap k : Nat} {o : Obj} {ob : HO} (hn : ¬ K.A id) (ho : h[id]? = some ob) (hr : RO X.P (K.lay id cap k o) id ob) : Ext K h (K.lay id cap k o) h ∧ RH X (K.lay id cap k o) h := by
  have hle := K.lay_le id cap k o hn
  have hid : id < h.length := (List.getElem?_eq_some_iff.1 ho).1
  have old : ∀ i, liveAt (K.lay id cap k o) h i → i ≠ id → liveAt K h i ∧ (K.lay id cap k o).b i = K.b i := fun i hl hi => by
    obtain ⟨hA, hx, hc⟩ := hl
    rcases hA with hA | hA
    · exact ⟨⟨hA, hx, by simpa [KS.lay, hi] using hc⟩, by simp [KS.lay, hi]⟩
    · exact absurd hA hi
  have newb : (K.lay id cap k o).b id = K.w.heap.size := by simp [KS.lay]
  refine ⟨⟨rfl, rfl, rfl, hle.size, fun _ hb _ => alloc_old K.w o hb, fun i hl => ?_, fun b hb => ?_, fun b hb _ => .inl hb, hle.A⟩, ?_⟩
  · by_cases hi : i = id
    · subst hi; exact .inr (by rw [newb]; exact Nat.le_refl _)
    · obtain ⟨g1, g2⟩ := old i hl hi; exact .inl ⟨i, g1, g2.symm⟩
  · rcases hb with hb | hb
    · exact .inl hb
    · exact .inr (by omega)
  · refine ⟨fun i hA => ?_, fun i ob' hA ho' => ?_, fun i hl => ?_, fun i j hi hj e => ?_, fun b hb => ?_, hh.glob.mono hle⟩
    · rcases hA with hA | hA
      · exact hh.A i hA
      · subst hA; exact hid
    · by_cases hi : i = id
      · subst hi; rw [ho] at ho'; injection ho' with ho'; subst ho'; exact hr
      · rcases hA with hA | hA
        · exact (hh.obj i ob' hA ho').mono hle hA (fun hb _ _ => alloc_old K.w o hb)
        · exact absurd hA hi
    · by_cases hi : i = id
      · subst hi; exact .inr newb
      · obtain ⟨g1, g2⟩ := old i hl hi; rw [g2]; exact .inl (hh.live i g1)
    · by_cases h1 : i = id
      · by_cases h2 : j = id
        · rw [h1, h2]
        · subst h1
          obtain ⟨g1, g2⟩ := old j hj h2
          rw [newb, g2] at e
          have := hh.Lb _ (hh.live j g1)
          omega
      · by_cases h2 : j = id
        · subst h2
          obtain ⟨g1, g2⟩ := old i hi h1
          rw [newb, g2] at e
          have := hh.Lb _ (hh.live i g1)
          omega
        · obtain ⟨g1, g2⟩ := old i hi h1
          obtain ⟨f1, f2⟩ := old j hj h2
          rw [g2, f2] at e
          exact hh.inj i j g1 f1 e
    · show b < (K.w.alloc o).heap.size
      simp
      rcases hb with hb | hb
      · have := hh.Lb b hb; omega
      · omega

/-- A new row. -/
theorem RO.layRow {P : Program} {id cap k : Nat} {t : TypeId} {es : List (List HV)} {cur : Array Value} (hn : ¬ K.A id) (ht : szH P t = some k) (hs : cur.size = cap * k) (hl : es.length ≤ cap) (hm : cap ≤ maxLen) (hk : ∀ i (hi : i < es.length), es[i].length = k)
    (ho : ∀ i (hi : i < es.length) j (hj : j < es[i].length), es[i][j].one = true) (hc : ∀ i (hi : i < es.length) j (hj : j < es[i].length), ∃ v, cur[i * k + j]? = some v ∧ RV K es[i][j] v) :
    RO P (K.lay id cap k (.cells cur t)) id (.row t es) := by
  have e1 : (K.lay id cap k (.cells cur t)).b id = K.w.heap.size := by simp [KS.lay]
  have e2 : (K.lay id cap k (.cells cur t)).c id = cap := by simp [KS.lay]
  have e3 : (K.lay id cap k (.cells cur t)).k id = k := by simp [KS.lay]
  refine ⟨by rw [e3]; exact ht, fun h0 => List.eq_nil_of_length_eq_zero (by rw [e2] at h0; omega), fun _ => ⟨cur, by rw [e1]; exact alloc_new _ _, by rw [e2, e3]; exact hs, by rw [e2]; exact hl, by rw [e2]; exact hm, by rw [e3]; exact hk, ho, fun i hi j hj => ?_⟩⟩
  obtain ⟨v, g1, g2⟩ := hc i hi j hj
  exact ⟨v, by rw [e3]; exact g1, g2.mono (K.lay_le id cap k _ hn)⟩

theorem RL.mono {K' : KS} (hle : K.le K') {cs : List HV} {vs : Array Value} (h : RL K cs vs) : RL K' cs vs := ⟨h.1, fun i x hx => by obtain ⟨v, g1, g2⟩ := h.2 i x hx; exact ⟨v, g1, g2.mono hle⟩⟩

/-- Flat cells and their elements of k cells each. -/
def chunk (k : Nat) : Nat → List HV → List (List HV)
  | 0, _ => []
  | n + 1, cs => cs.take k :: chunk k n (cs.drop k)

theorem chunk_length (k : Nat) : ∀ (n : Nat) (cs : List HV), (chunk k n cs).length = n := by
  intro n
  induction n with
  | zero => intro cs; rfl
  | succ n ih => intro cs; simp [chunk, ih]

theorem chunk_get (k : Nat) : ∀ (n : Nat) (cs : List HV) (i : Nat), i < n → (chunk k n cs)[i]? = some ((cs.drop (i * k)).take k) := by
  intro n
  induction n with
  | zero => intro cs i hi; omega
  | succ n ih =>
    intro cs i hi
    cases i with
    | zero => simp [chunk]
    | succ i =>
      simp only [chunk, List.getElem?_cons_succ]
      rw [ih _ i (by omega), List.drop_drop]
      congr 3
      rw [Nat.add_mul]; omega

/-- What an operation with an effect comes to: its value, the objects that it turns, those that it makes. -/
structure ER where
  x : HV
  ws : List (Nat × HO) := []
  ns : List HO := []

def setAll (h : Hp) : List (Nat × HO) → Hp
  | [] => h
  | (id, o) :: rest => setAll (h.set id o) rest

theorem setAll_length : ∀ (ws : List (Nat × HO)) (h : Hp), (setAll h ws).length = h.length
  | [], _ => rfl
  | (_, _) :: rest, h => by simp [setAll, setAll_length rest]

def boxH (P : Program) (t : TypeId) (nid : Nat) (z : HV) : Option ER :=
  if z.cells.all HV.one = true ∧ szH P t = some z.cells.length then some { x := .ep nid 0 0, ns := [.row t [z.cells]] } else none

def storeH (P : Program) (h : Hp) (t : TypeId) (p z : HV) : Option ER :=
  match p with
  | .ep id i off =>
    match h[id]? with
    | some (.row t' es) =>
      match es[i]? with
      | some cs => if z.cells.all HV.one = true ∧ szH P t = some z.cells.length ∧ off + z.cells.length ≤ cs.length then some { x := .und, ws := [(id, .row t' (es.set i (putCells cs off z.cells)))] } else none
      | none => none
    | _ => none
  | _ => none

/-- A slice that is written out: immutable, or (at the places 'own') one of the call's own. -/
def buildSliceH (P : Program) (own : Bool) (nid : Nat) (t : TypeId) (len : Nat) (parts : List (Nat × HV)) : Option ER :=
  match elemH P t with
  | none => none
  | some e =>
    match szH P e, zeroH P e with
    | some k, some z =>
      if z.cells.length = k ∧ z.cells.all HV.one = true ∧ len * k ≤ 16777216 ∧ len ≤ 16777216 then
        match fillH (fun i => some (i * k, k)) (List.replicate len z.cells).flatten parts with
        | none => none
        | some cs => if own then some { x := .ow nid 0 len, ns := [.row e (chunk k len cs)] } else some { x := .sl true (chunk k len cs) }
      else none
    | _, _ => none

def makeSliceH (P : Program) (nid : Nat) (t : TypeId) (l c : HV) : Option ER :=
  match l, c with
  | .int _ n, .int _ m =>
    match elemH P t with
    | none => none
    | some e =>
      match szH P e, zeroH P e, bytesH P e with
      | some k, some z, some by_ =>
        if 0 ≤ n ∧ n ≤ m ∧ m ≤ 4611686018427387904 ∧ by_ * m ≤ 281474976710656 ∧ z.cells.length = k ∧ z.cells.all HV.one = true then some { x := .ow nid 0 n.toNat, ns := [.row e (List.replicate n.toNat z.cells)] } else none
      | _, _, _ => none
  | _, _ => none

/-- The run of an operation with an effect, from the heap 'h' that is read to the heap 'f' in which what is made stands already. -/
def EffRun (X : PG) (K : KS) (f : Hp) (nid : Nat) (ρv : Operand → Value) (o : Oper) (r : ER) : Prop :=
  ∃ v K', ((execOp ρv o).run X.P K.w = .ok (.value v) K'.w ∨ ((execOp ρv o).run X.P K.w = .ok .skip K'.w ∧ v = undef)) ∧ Ext K f K' (setAll f r.ws) ∧ RH X K' (setAll f r.ws) ∧ RV K' r.x v ∧
    ∀ id, K'.A id ↔ K.A id ∨ (nid ≤ id ∧ id < nid + r.ns.length)

theorem EffRun.ofVal {f : Hp} {nid : Nat} {ρv : Operand → Value} {o : Oper} {x : HV} (hf : RH X K f) (h : ValRun X K ρv o x) : EffRun X K f nid ρv o { x := x } := by
  obtain ⟨v, h1, h2⟩ := h
  exact ⟨v, K, .inl h1, .refl _ _, hf, h2, fun id => ⟨.inl, fun h => h.elim (fun h => h) (fun h => by simp at h; omega)⟩⟩

theorem lay_A {id cap k : Nat} {o : Obj} : ∀ i, (K.lay id cap k o).A i ↔ K.A i ∨ (id ≤ i ∧ i < id + 1) := fun i => by
  constructor
  · rintro (h | h)
    · exact .inl h
    · exact .inr (by omega)
  · rintro (h | h)
    · exact .inl h
    · exact .inr (by omega)

theorem boxH_run {f : Hp} {nid : Nat} {t : TypeId} {z : HV} {v : Value} {r : ER} (hf : RH X K f) (hz : RV K z v) (hb : boxH X.P t nid z = some r) (hn : f[nid]? = some (.row t [z.cells])) (hA : ¬ K.A nid) :
    ∃ K', K'.w = K.w.alloc (.cells v.cells t) ∧ Ext K f K' (setAll f r.ws) ∧ RH X K' (setAll f r.ws) ∧ RV K' r.x (.pointer (some ⟨K.w.heap.size, 0, none⟩)) ∧ ∀ id, K'.A id ↔ K.A id ∨ (nid ≤ id ∧ id < nid + r.ns.length) := by
  unfold boxH at hb
  split at hb
  · rename_i hone
    obtain ⟨hone, hsz⟩ := hone
    injection hb with hb; subst hb
    have hl := hz.rl hone
    have hro : RO X.P (K.lay nid 1 z.cells.length (.cells v.cells t)) nid (.row t [z.cells]) := by
      refine RO.layRow hA hsz (by rw [Nat.one_mul]; exact hl.1.symm) (by simp) (by simp [maxLen]) (fun i hi => ?_) (fun i hi j hj => ?_) (fun i hi j hj => ?_)
      · have h0 : i = 0 := by simp at hi; exact hi
        subst h0; rfl
      · have h0 : i = 0 := by simp at hi; exact hi
        subst h0
        exact List.all_eq_true.1 hone _ (List.getElem_mem _)
      · have h0 : i = 0 := by simp at hi; exact hi
        subst h0
        simp only [Nat.zero_mul, Nat.zero_add]
        exact hl.2 j _ (List.getElem?_eq_getElem hj)
    obtain ⟨g1, g2⟩ := hf.lay hA hn hro
    refine ⟨_, rfl, g1, g2, ?_, lay_A⟩
    have := RV.ep (K := K.lay nid 1 z.cells.length (.cells v.cells t)) nid 0 0 (.inr rfl)
    simpa [KS.lay] using this
  · cases hb

end
end Go.HL

/-
  HL, part H: the operations with an effect, proved.
-/
namespace Go.HL

section
variable {X : PG} {K : KS}

/-- One of the call's own blocks is written. -/
theorem RH.write {h : Hp} (hh : RH X K h) {id : Nat} {ob ob' : HO} {w' : World} (hA : K.A id) (ho : h[id]? = some ob) (hl : ob.live = true) (hc : K.c id ≠ 0) (hs : w'.heap.size = K.w.heap.size)
    (hb : ∀ b, b ≠ K.b id → w'.heap[b]? = K.w.heap[b]?) (e1 : w'.os = K.w.os) (e2 : w'.tape = K.w.tape) (e3 : w'.output = K.w.output) (hr : K.le { K with w := w' } → RO X.P { K with w := w' } id ob') :
    Ext K h { K with w := w' } (h.set id ob') ∧ RH X { K with w := w' } (h.set id ob') := by
  have hlive : liveAt K h id := ⟨hA, ⟨ob, ho, hl⟩, hc⟩
  have hle : K.le { K with w := w' } := ⟨by show K.w.heap.size ≤ w'.heap.size; omega, fun b _ hL => hb b (fun e => hL (e ▸ hh.live id hlive)), fun _ h => .inl h, fun _ h => ⟨h, rfl, rfl, rfl⟩⟩
  have hid := hh.A id hA
  have back : ∀ i, liveAt { K with w := w' } (h.set id ob') i → liveAt K h i := fun i ⟨hA', ⟨o, ho', hlo⟩, hc'⟩ => by
    by_cases hi : i = id
    · subst hi; exact hlive
    · rw [List.getElem?_set_ne (fun e => hi e.symm)] at ho'
      exact ⟨hA', ⟨o, ho', hlo⟩, hc'⟩
  refine ⟨⟨e1, e2, e3, hle.size, fun b hb' hn => hb b (fun e => hn id hlive e.symm), fun i hi => .inl ⟨i, back i hi, rfl⟩, fun _ h => .inl h, fun _ h _ => h, fun _ h => ⟨h, rfl, rfl, rfl⟩⟩, ?_⟩
  refine ⟨fun i hi => by rw [List.length_set]; exact hh.A i hi, fun i o hAi ho' => ?_, fun i hi => hh.live i (back i hi), fun i j hi hj => hh.inj i j (back i hi) (back j hj), fun b hb => by show b < w'.heap.size; rw [hs]; exact hh.Lb b hb, hh.glob.mono hle⟩
  by_cases hi : i = id
  · subst hi
    rw [List.getElem?_set_self hid] at ho'
    injection ho' with ho'; subst ho'
    exact hr hle
  · rw [List.getElem?_set_ne (fun e => hi e.symm)] at ho'
    refine (hh.obj i o hAi ho').mono hle hAi (fun _ hlo hco => hb _ (fun e => hi ?_))
    exact hh.inj i id ⟨hAi, ⟨o, ho', hlo⟩, hco⟩ hlive e

theorem putCells_length {cs zs : List HV} {off : Nat} (hle : off + zs.length ≤ cs.length) : (putCells cs off zs).length = cs.length := by simp [putCells]; omega

theorem putCells_get {cs zs : List HV} {off : Nat} (hle : off + zs.length ≤ cs.length) (j : Nat) : (putCells cs off zs)[j]? = if off ≤ j ∧ j < off + zs.length then zs[j - off]? else cs[j]? := by
  unfold putCells
  by_cases h1 : j < off
  · rw [if_neg (by omega), List.append_assoc, List.getElem?_append_left (by simp; omega), List.getElem?_take, if_pos h1]
  · by_cases h2 : j < off + zs.length
    · rw [if_pos (by omega), List.append_assoc, List.getElem?_append_right (by simp; omega), List.getElem?_append_left (by simp; omega)]
      simp only [List.length_take]
      rw [Nat.min_eq_left (by omega)]
    · rw [if_neg (by omega), List.getElem?_append_right (by simp; omega), List.getElem?_drop]
      simp only [List.length_append, List.length_take]
      rw [Nat.min_eq_left (by omega), show off + zs.length + (j - (off + zs.length)) = j from by omega]

/-- A row in memory, told by lookups. -/
theorem RowAt.of {id : Nat} {t : TypeId} {es : List (List HV)} {cur : Array Value} (h1 : K.w.heap[K.b id]? = some (.cells cur t (0, 0))) (h2 : cur.size = K.c id * K.k id) (h3 : es.length ≤ K.c id) (h4 : K.c id ≤ maxLen)
    (h5 : ∀ (i : Nat) cs, es[i]? = some cs → cs.length = K.k id ∧ ∀ (j : Nat) x, cs[j]? = some x → x.one = true ∧ ∃ v, cur[i * K.k id + j]? = some v ∧ RV K x v) : RowAt K id t es :=
  ⟨cur, h1, h2, h3, h4, fun i hi => (h5 i _ (List.getElem?_eq_getElem hi)).1, fun i hi j hj => ((h5 i _ (List.getElem?_eq_getElem hi)).2 j _ (List.getElem?_eq_getElem hj)).1,
    fun i hi j hj => ((h5 i _ (List.getElem?_eq_getElem hi)).2 j _ (List.getElem?_eq_getElem hj)).2⟩

theorem RowAt.get {id : Nat} {t : TypeId} {es : List (List HV)} (h : RowAt K id t es) : ∃ cur, K.w.heap[K.b id]? = some (.cells cur t (0, 0)) ∧ cur.size = K.c id * K.k id ∧ es.length ≤ K.c id ∧ K.c id ≤ maxLen ∧
    ∀ (i : Nat) cs, es[i]? = some cs → cs.length = K.k id ∧ ∀ (j : Nat) x, cs[j]? = some x → x.one = true ∧ ∃ v, cur[i * K.k id + j]? = some v ∧ RV K x v := by
  obtain ⟨cur, h1, h2, h3, h4, h5, h6, h7⟩ := h
  refine ⟨cur, h1, h2, h3, h4, fun i cs hcs => ?_⟩
  obtain ⟨hi, e⟩ := List.getElem?_eq_some_iff.1 hcs
  subst e
  refine ⟨h5 i hi, fun j x hx => ?_⟩
  obtain ⟨hj, e⟩ := List.getElem?_eq_some_iff.1 hx
  subst e
  exact ⟨h6 i hi j hj, h7 i hi j hj⟩

/-- Cells written over a row. -/
theorem row_put {cur : Array Value} {o : Nat} {us : List Value} (hle : o + us.length ≤ cur.size) (j : Nat) :
    (cur.toList.take o ++ us ++ cur.toList.drop (o + us.length)).toArray[j]? = if o ≤ j ∧ j < o + us.length then us[j - o]? else cur[j]? := by
  simp only [List.getElem?_toArray]
  by_cases h1 : j < o
  · rw [if_neg (by omega), List.append_assoc, List.getElem?_append_left (by simp; omega), List.getElem?_take, if_pos h1]
    simp
  · by_cases h2 : j < o + us.length
    · rw [if_pos (by omega), List.append_assoc, List.getElem?_append_right (by simp; omega), List.getElem?_append_left (by simp; omega)]
      simp only [List.length_take, Array.length_toList]
      rw [Nat.min_eq_left (by omega)]
    · rw [if_neg (by omega), List.getElem?_append_right (by simp; omega), List.getElem?_drop]
      simp only [Array.getElem?_toList, List.length_append, List.length_take, Array.length_toList]
      rw [Nat.min_eq_left (by omega), show o + us.length + (j - (o + us.length)) = j from by omega]

theorem row_put_size {cur : Array Value} {o : Nat} {us : List Value} (hle : o + us.length ≤ cur.size) : (cur.toList.take o ++ us ++ cur.toList.drop (o + us.length)).toArray.size = cur.size := by
  simp; omega

theorem storeH_run {h f : Hp} {t : TypeId} {p z : HV} {vp vz : Value} {r : ER} (hh : RH X K h) (hf : RH X K f) (hsub : ∀ id o, K.A id → o.live = true → h[id]? = some o → f[id]? = some o) (hp : RV K p vp) (hz : RV K z vz) (hs : storeH X.P h t p z = some r) :
    ∃ K', (Instr.storeAt t vp vz).run X.P K.w = .ok () K'.w ∧ Ext K f K' (setAll f r.ws) ∧ RH X K' (setAll f r.ws) ∧ r.x = .und ∧ r.ns = [] ∧ ∀ id, K'.A id ↔ K.A id := by
  unfold storeH at hs
  split at hs
  · rename_i id i off
    split at hs
    · rename_i t' es ho
      split at hs
      · rename_i cs hcs
        split at hs
        · rename_i hcond
          obtain ⟨hone, hsz, hle⟩ := hcond
          injection hs with hs; subst hs
          cases hp with
          | ep _ _ _ hA =>
            obtain ⟨hi, _⟩ := List.getElem?_eq_some_iff.1 hcs
            have hof := hsub id _ hA rfl ho
            obtain ⟨hst, hc0, hrow⟩ := hh.obj id _ hA ho
            have hcne : K.c id ≠ 0 := fun e => by have := hc0 e; subst this; simp at hi
            obtain ⟨cur, hcur, hcsz, hlen, hmax, hget⟩ := (hrow hcne).get
            have hl := hz.rl hone
            have hck : cs.length = K.k id := (hget i cs hcs).1
            have hus : vz.cells.toList.length = z.cells.length := by rw [Array.length_toList]; exact hl.1.symm
            have hbound : i * K.k id + off + vz.cells.toList.length ≤ cur.size := by
              rw [hcsz, hus]
              have : (i + 1) * K.k id ≤ K.c id * K.k id := Nat.mul_le_mul_right _ (by omega)
              rw [Nat.add_mul] at this
              omega
            have hrun := run_storeCells_at X.P (K.b id) (i * K.k id + off) t' vz.cells.toList 0 cur K.w hcur (by omega) (fun v hv => by
              obtain ⟨j, hj, ej⟩ := List.getElem_of_mem hv
              have hj' : j < z.cells.length := by omega
              have h1 := hl.get j hj'
              have h2 := List.all_eq_true.1 hone _ (List.getElem_mem hj')
              have := h1.oneCell h2
              rw [← ej]
              simpa using this)
            simp only [Nat.add_zero] at hrun
            have hat := row_put hbound
            have hasz := row_put_size hbound
            generalize (cur.toList.take (i * K.k id + off) ++ vz.cells.toList ++ cur.toList.drop (i * K.k id + off + vz.cells.toList.length)).toArray = cur' at hrun hat hasz
            rw [hus] at hat
            have hset := setRow_heap K.w (K.b id) cur cur' t' (0, 0) hcur
            have hw := hf.write (w' := K.w.setRow (K.b id) cur') (ob' := .row t' (es.set i (putCells cs off z.cells))) hA hof rfl hcne (by simp) (fun b hb => setRow_other K.w (K.b id) b cur' hb) rfl rfl rfl (fun hle' => by
              refine ⟨hst, fun h0 => absurd h0 hcne, fun _ => RowAt.of hset (by show cur'.size = K.c id * K.k id; omega) (by simpa using hlen) hmax (fun i' cs' hcs' => ?_)⟩
              show cs'.length = K.k id ∧ ∀ (j : Nat) x, cs'[j]? = some x → x.one = true ∧ ∃ v, cur'[i' * K.k id + j]? = some v ∧ _
              by_cases heq : i = i'
              · subst heq
                rw [List.getElem?_set_self hi] at hcs'
                injection hcs' with hcs'; subst hcs'
                refine ⟨by rw [putCells_length hle]; exact hck, fun j x hx => ?_⟩
                rw [putCells_get hle] at hx
                rw [hat]
                have hjl : j < cs.length := by
                  split at hx
                  · omega
                  · exact (List.getElem?_eq_some_iff.1 hx).1
                by_cases h2 : off ≤ j ∧ j < off + z.cells.length
                · rw [if_pos h2] at hx
                  rw [if_pos (by omega)]
                  obtain ⟨v, g1, g2⟩ := hl.2 (j - off) x hx
                  obtain ⟨_, e⟩ := List.getElem?_eq_some_iff.1 hx
                  refine ⟨by rw [← e]; exact List.all_eq_true.1 hone _ (List.getElem_mem _), v, ?_, g2.mono hle'⟩
                  rw [Array.getElem?_toList, ← g1]
                  congr 1
                  omega
                · rw [if_neg h2] at hx
                  rw [if_neg (by omega)]
                  obtain ⟨g0, v, g1, g2⟩ := (hget i cs hcs).2 j x hx
                  exact ⟨g0, v, g1, g2.mono hle'⟩
              · rw [List.getElem?_set_ne heq] at hcs'
                obtain ⟨f1, f2⟩ := hget i' cs' hcs'
                refine ⟨f1, fun j x hx => ?_⟩
                obtain ⟨g0, v, g1, g2⟩ := f2 j x hx
                refine ⟨g0, v, ?_, g2.mono hle'⟩
                rw [hat, if_neg]
                · exact g1
                · rintro ⟨h1, h2⟩
                  have hjk : j < K.k id := by have := (List.getElem?_eq_some_iff.1 hx).1; omega
                  rcases Nat.lt_or_gt_of_ne heq with hlt | hgt
                  · have : (i + 1) * K.k id ≤ i' * K.k id := Nat.mul_le_mul_right _ (by omega)
                    rw [Nat.add_mul] at this
                    omega
                  · have : (i' + 1) * K.k id ≤ i * K.k id := Nat.mul_le_mul_right _ (by omega)
                    rw [Nat.add_mul] at this
                    omega)
            refine ⟨_, ?_, hw.1, hw.2, rfl, rfl, fun _ => Iff.rfl⟩
            unfold Instr.storeAt storeVar
            simp only [Sem.run_bind, Instr.sureAddr, Sem.run_pure, Result.andThen_ok, run_szH hsz]
            rw [if_neg (by rw [hl.1]; simp)]
            exact hrun
        · cases hs
      · cases hs
    · cases hs
  · cases hs

theorem rep_get {k : Nat} {z : List HV} (hz : z.length = k) : ∀ (n j : Nat), j < n * k → (List.replicate n z).flatten[j]? = z[j % k]? := by
  intro n
  induction n with
  | zero => intro j hj; omega
  | succ n ih =>
    intro j hj
    simp only [List.replicate_succ, List.flatten_cons]
    by_cases h : j < k
    · rw [List.getElem?_append_left (by omega), Nat.mod_eq_of_lt h]
    · rw [List.getElem?_append_right (by omega), hz, ih (j - k) (by rw [Nat.add_mul] at hj; omega)]
      rw [← Nat.mod_eq_sub_mod (by omega)]

theorem rep_length {k : Nat} {z : List HV} (hz : z.length = k) (n : Nat) : (List.replicate n z).flatten.length = n * k := by simp [hz]

/-- The cells of n zero values. -/
theorem RL.rep {k n : Nat} {z : List HV} {zv : Array Value} (hz : RL K z zv) (hk : z.length = k) : RL K (List.replicate n z).flatten ((Array.range (n * k)).map (zv[· % zv.size]!)) := by
  refine ⟨by rw [rep_length hk]; simp, fun j x hx => ?_⟩
  have hj : j < n * k := by rw [← rep_length hk n]; exact (List.getElem?_eq_some_iff.1 hx).1
  rw [rep_get hk n j hj] at hx
  obtain ⟨v, g1, g2⟩ := hz.2 _ x hx
  refine ⟨v, ?_, g2⟩
  have hsz : zv.size = k := by rw [← hz.1]; exact hk
  simp only [Array.getElem?_map, Array.getElem?_range, hj, if_true, Option.map_some, hsz]
  rw [getElem!_def, g1]

end
end Go.HL

/-
  HL, part I: slices that are written out or made; append; all operations with an effect in one theorem.
-/
namespace Go.HL

section
variable {X : PG} {K : KS}

theorem fillH_one {place : Nat → Option (Nat × Nat)} : ∀ (parts : List (Nat × HV)) (cells res : List HV), (∀ x ∈ cells, x.one = true) → fillH place cells parts = some res → ∀ x ∈ res, x.one = true := by
  intro parts
  induction parts with
  | nil => intro cells res h hf; simp [fillH] at hf; subst hf; exact h
  | cons p parts ih =>
    intro cells res h hf
    obtain ⟨i, x⟩ := p
    simp only [fillH] at hf
    cases hpl : place i with
    | none => simp [hpl] at hf
    | some os =>
      obtain ⟨off, size⟩ := os
      simp only [hpl] at hf
      split at hf
      · rename_i hc
        refine ih _ _ (fun y hy => ?_) hf
        unfold putCells at hy
        rcases List.mem_append.1 hy with hy | hy
        · rcases List.mem_append.1 hy with hy | hy
          · exact h y (List.mem_of_mem_take hy)
          · exact List.all_eq_true.1 hc.2.2 y hy
        · exact h y (List.mem_of_mem_drop hy)
      · cases hf

theorem chunk_elem {k n : Nat} {cs : List HV} (hl : cs.length = n * k) {i : Nat} {es : List HV} (he : (chunk k n cs)[i]? = some es) : i < n ∧ es.length = k ∧ ∀ (j : Nat) x, es[j]? = some x → cs[i * k + j]? = some x ∧ j < k := by
  have hi : i < n := by rw [← chunk_length k n cs]; exact (List.getElem?_eq_some_iff.1 he).1
  rw [chunk_get k n cs i hi] at he
  injection he with he
  subst he
  have hik : (i + 1) * k ≤ n * k := Nat.mul_le_mul_right _ (by omega)
  rw [Nat.add_mul] at hik
  refine ⟨hi, by simp; omega, fun j x hx => ?_⟩
  rw [List.getElem?_take] at hx
  split at hx
  · rename_i hj
    rw [List.getElem?_drop] at hx
    exact ⟨hx, hj⟩
  · cases hx

/-- An immutable slice over a new block. -/
theorem RV.fresh {es : List (List HV)} {cur : Array Value} {t : TypeId} {k cap : Nat} (full : Bool) (hcap : es.length ≤ cap) (hm : cap ≤ maxLen) (hf : full = true → cap = es.length) (hL : ¬ K.L K.w.heap.size)
    (hg : ∀ (i : Nat) cs, es[i]? = some cs → cs.length = k ∧ ∀ (j : Nat) x, cs[j]? = some x → ∃ v, cur[i * k + j]? = some v ∧ RV K x v) :
    RV (K.imm (.cells cur t)) (.sl full es) (.slice (some ⟨K.w.heap.size, 0, none⟩) es.length cap) := by
  by_cases h0 : es.length = 0
  · have : es = [] := List.eq_nil_of_length_eq_zero h0
    subst this
    exact .sl0 _ _ _ (fun h => by cases h) hf hm
  · have hle := K.imm_le (.cells cur t)
    have hx : ∀ i (hi : i < es.length) j (hj : j < es[i].length), ∃ v, cur[i * k + j]? = some v ∧ RV K es[i][j] v := fun i hi j hj => (hg i _ (List.getElem?_eq_getElem hi)).2 j _ (List.getElem?_eq_getElem hj)
    let cv : Nat → Nat → Value := fun i j => (cur[i * k + j]?).getD undef
    refine .sl full es k K.w.heap.size 0 cap cv (by omega) hcap hf hm (by simp [KS.imm]) hL (fun i hi => (hg i _ (List.getElem?_eq_getElem hi)).1) (fun i hi j hj => ?_) (fun i hi j hj => ?_)
    · obtain ⟨v, g1, g2⟩ := hx i hi j hj
      simp only [Nat.zero_add]
      show (K.w.alloc (.cells cur t)).cell? _ = _
      rw [cell_row (alloc_new K.w _)]
      simp [cv, g1]
    · obtain ⟨v, g1, g2⟩ := hx i hi j hj
      have : cv i j = v := by simp [cv, g1]
      rw [this]
      exact g2.mono hle

theorem buildSliceH_run {f : Hp} {own : Bool} {nid : Nat} {t : TypeId} {len : Nat} {parts : List (Nat × HV)} {vparts : Array (Nat × Value)} {r : ER} (hf : RH X K f) (hl : parts.length = vparts.size)
    (hp : ∀ (j : Nat) p q, parts[j]? = some p → vparts.toList[j]? = some q → p.1 = q.1 ∧ RV K p.2 q.2) (hb : buildSliceH X.P own nid t len parts = some r)
    (hn : ∀ i (hi : i < r.ns.length), f[nid + i]? = some r.ns[i]) (hA : ∀ i, i < r.ns.length → ¬ K.A (nid + i)) :
    ∃ v K', (Instr.buildSlice t len vparts).run X.P K.w = .ok v K'.w ∧ Ext K f K' (setAll f r.ws) ∧ RH X K' (setAll f r.ws) ∧ RV K' r.x v ∧ ∀ id, K'.A id ↔ K.A id ∨ (nid ≤ id ∧ id < nid + r.ns.length) := by
  unfold buildSliceH at hb
  split at hb
  · cases hb
  · rename_i e he
    split at hb
    · rename_i k z hk hz
      split at hb
      · rename_i hc
        obtain ⟨hzk, hzo, hsmall, hsmall2⟩ := hc
        split at hb
        · cases hb
        · rename_i cs hcs
          obtain ⟨zv, hz1, hz2⟩ := run_zeroH (w := K.w) hz
          have hzr := (hz2 K).rl hzo
          have hrep := RL.rep (n := len) hzr hzk
          obtain ⟨us, f1, f2⟩ := fillH_sound parts vparts.toList _ cs _ (by simpa using hl) hp hrep hcs
          have hcl : cs.length = len * k := by
            have := f2.1
            have h2 : us.size = len * k := by
              have : ∀ (l : List (Nat × Value)) (a b : Array Value), Instr.fill (fun i => some (i * k, k)) a l = some b → b.size = a.size := by
                intro l
                induction l with
                | nil => intro a b hab; simp [Instr.fill] at hab; rw [hab]
                | cons p l ih =>
                  intro a b hab
                  simp only [Instr.fill] at hab
                  split at hab
                  · cases hab
                  · have := ih _ _ hab
                    rw [this]
                    rw [show (fun (cs : Array Value) (x : Value × Nat) => match x with | (c, j) => cs.setIfInBounds (p.1 * k + j) c) = fun cs x => cs.setIfInBounds (p.1 * k + x.2) x.1 from rfl]
                    have e0 : p.2.cells.zipIdx.foldl (fun cs (q : Value × Nat) => cs.setIfInBounds (p.1 * k + q.2) q.1) a = (p.2.cells.toList.zipIdx 0).foldl (fun cs (q : Value × Nat) => cs.setIfInBounds (p.1 * k + q.2) q.1) a := by
                      rw [← Array.foldl_toList]; simp
                    rw [e0, size_foldl_set]
              rw [this _ _ _ f1]; simp
            omega
          have hrun : (Instr.buildSlice t len vparts).run X.P K.w = .ok (.slice (some ⟨K.w.heap.size, 0, none⟩) len len) (K.w.alloc (.cells us e)) := by
            unfold Instr.buildSlice
            rw [Sem.run_bind, run_underlying (elemH_eq he)]
            simp only [Result.andThen_ok, Sem.run_bind, run_szH hk]
            rw [if_neg (by omega)]
            by_cases h0 : len * k = 0
            · rw [if_pos h0]
              simp only [Sem.run_bind, Sem.run_pure, Result.andThen_ok]
              have e1 : (Array.range (len * k)).map (fun x => (#[] : Array Value)[x % (#[] : Array Value).size]!) = (Array.range (len * k)).map (fun x => zv.cells[x % zv.cells.size]!) := by rw [h0]; simp
              rw [e1, f1]
              rfl
            · rw [if_neg h0]
              simp only [Sem.run_bind, hz1, Sem.run_pure, Result.andThen_ok]
              rw [f1]
              rfl
          have hget : ∀ (i : Nat) ces, (chunk k len cs)[i]? = some ces → ces.length = k ∧ ∀ (j : Nat) x, ces[j]? = some x → ∃ v, us[i * k + j]? = some v ∧ RV K x v := fun i ces hi => by
            obtain ⟨g1, g2, g3⟩ := chunk_elem hcl hi
            exact ⟨g2, fun j x hx => f2.2 _ x (g3 j x hx).1⟩
          have hlen := chunk_length k len cs
          have hmax : len ≤ maxLen := by unfold maxLen; omega
          split at hb
          · injection hb with hb; subst hb
            have hA0 := hA 0 (by simp)
            have hn0 := hn 0 (by simp)
            simp only [Nat.add_zero, List.getElem_cons_zero] at hA0 hn0
            have hone : ∀ x ∈ cs, x.one = true := fillH_one parts _ cs (fun x hx => by
              obtain ⟨l, hl1, hl2⟩ := List.mem_flatten.1 hx
              rw [List.eq_of_mem_replicate hl1] at hl2
              exact List.all_eq_true.1 hzo x hl2) hcs
            have hro : RO X.P (K.lay nid len k (.cells us e)) nid (.row e (chunk k len cs)) := by
              refine RO.layRow hA0 hk (by rw [← f2.1]; exact hcl) (by rw [hlen]; exact Nat.le_refl _) hmax (fun i hi => (hget i _ (List.getElem?_eq_getElem hi)).1) (fun i hi j hj => ?_) (fun i hi j hj => (hget i _ (List.getElem?_eq_getElem hi)).2 j _ (List.getElem?_eq_getElem hj))
              have := ((chunk_elem hcl (List.getElem?_eq_getElem hi)).2.2 j _ (List.getElem?_eq_getElem hj)).1
              exact hone _ (List.mem_of_getElem? this)
            obtain ⟨g1, g2⟩ := hf.lay hA0 hn0 hro
            refine ⟨_, _, hrun, g1, g2, ?_, lay_A⟩
            by_cases h0 : len = 0
            · subst h0
              exact .ow0 nid _ (.inr rfl) (by simp [KS.lay])
            · have := RV.ow (K := K.lay nid len k (.cells us e)) nid 0 len (.inr rfl) (by simpa [KS.lay] using h0) (by simp [KS.lay]) (by simpa [KS.lay] using hmax)
              simpa [KS.lay] using this
          · injection hb with hb; subst hb
            obtain ⟨g1, g2⟩ := hf.imm (.cells us e)
            refine ⟨_, _, hrun, g1, g2, ?_, fun id => ⟨.inl, fun h => h.elim (fun h => h) (fun h => by simp at h; omega)⟩⟩
            have := RV.fresh (K := K) (cur := us) (t := e) (k := k) (cap := len) true (by rw [hlen]; exact Nat.le_refl _) hmax (fun _ => hlen.symm) (fun hL => by have := hf.Lb _ hL; omega) hget
            rw [hlen] at this
            exact this
      · cases hb
    · cases hb

theorem infoH {P : Program} {e : TypeId} {k by_ : Nat} {z : HV} (hk : szH P e = some k) (hz : zeroH P e = some z) (hb : bytesH P e = some by_) :
    ∃ i zv, P.info? e = some i ∧ i.zero = some zv ∧ i.size = k ∧ i.bytes = by_ ∧ ∀ K, RV K z zv := by
  unfold szH at hk
  unfold zeroH at hz
  unfold bytesH at hb
  obtain ⟨i, h1, h2⟩ := Option.map_eq_some_iff.1 hk
  obtain ⟨zv, h3, rfl⟩ := Option.map_eq_some_iff.1 hz
  obtain ⟨i', h4, h5⟩ := Option.map_eq_some_iff.1 hb
  obtain ⟨i'', h6, h7⟩ := Option.bind_eq_some_iff.1 h3
  rw [h1] at h4 h6
  injection h4 with h4
  injection h6 with h6
  subst h4 h6
  exact ⟨i, zv, h1, h7, h2, h5, fun K => lit_ok K zv⟩

theorem makeSliceH_run {f : Hp} {nid : Nat} {t : TypeId} {l c : HV} {vl vc : Value} {r : ER} (hf : RH X K f) (h1 : RV K l vl) (h2 : RV K c vc) (hb : makeSliceH X.P nid t l c = some r)
    (hn : ∀ i (hi : i < r.ns.length), f[nid + i]? = some r.ns[i]) (hA : ∀ i, i < r.ns.length → ¬ K.A (nid + i)) :
    ∃ v K', (Instr.makeSlice t vl vc).run X.P K.w = .ok v K'.w ∧ Ext K f K' (setAll f r.ws) ∧ RH X K' (setAll f r.ws) ∧ RV K' r.x v ∧ ∀ id, K'.A id ↔ K.A id ∨ (nid ≤ id ∧ id < nid + r.ns.length) := by
  unfold makeSliceH at hb
  split at hb
  · rename_i kl n kc m
    have := h1.ofInt; subst this
    have := h2.ofInt; subst this
    split at hb
    · cases hb
    · rename_i e he
      split at hb
      · rename_i k z by_ hk hz hby
        split at hb
        · rename_i hc
          obtain ⟨c1, c2, c3, c4, hzk, hzo⟩ := hc
          injection hb with hb; subst hb
          have hA0 := hA 0 (by simp)
          have hn0 := hn 0 (by simp)
          simp only [Nat.add_zero, List.getElem_cons_zero] at hA0 hn0
          obtain ⟨i, zv, i1, i2, i3, i4, i5⟩ := infoH hk hz hby
          have hzr := (i5 K).rl hzo
          have hrep := RL.rep (n := m.toNat) hzr hzk
          have hrun := run_make (P := X.P) K.w t e i zv (elemH_eq he) i1 i2 kl kc n m c1 c2 (by rw [i4]; exact c4) (by omega)
          rw [i3] at hrun
          have hro : RO X.P (K.lay nid m.toNat k (.cells (madeCells zv.cells (m.toNat * k)) e)) nid (.row e (List.replicate n.toNat z.cells)) := by
            refine RO.layRow hA0 hk (size_madeCells _ _) (by simp; omega) (by unfold maxLen; omega) (fun i hi => by simp [hzk]) (fun i hi j hj => ?_) (fun i hi j hj => ?_)
            · simp at hj ⊢
              exact List.all_eq_true.1 hzo _ (List.getElem_mem _)
            · simp at hi hj
              have hik : i * k + j < m.toNat * k := by
                have : (i + 1) * k ≤ m.toNat * k := Nat.mul_le_mul_right _ (by omega)
                rw [Nat.add_mul] at this
                omega
              have hx : (List.replicate m.toNat z.cells).flatten[i * k + j]? = some z.cells[j] := by
                rw [rep_get hzk _ _ hik, Nat.mul_comm, Nat.mul_add_mod, Nat.mod_eq_of_lt (by omega)]
                exact List.getElem?_eq_getElem hj
              obtain ⟨v, g1, g2⟩ := hrep.2 _ _ hx
              exact ⟨v, g1, by simpa using g2⟩
          obtain ⟨g1, g2⟩ := hf.lay hA0 hn0 hro
          refine ⟨_, _, hrun, g1, g2, ?_, lay_A⟩
          by_cases h0 : m.toNat = 0
          · have : n.toNat = 0 := by omega
            rw [this, h0]
            exact .ow0 nid _ (.inr rfl) (by simp [KS.lay])
          · have := RV.ow (K := K.lay nid m.toNat k (.cells (madeCells zv.cells (m.toNat * k)) e)) nid 0 n.toNat (.inr rfl) (by simpa [KS.lay] using h0) (by simp [KS.lay]; omega) (by simp [KS.lay, maxLen]; omega)
            simpa [KS.lay] using this
        · cases hb
      · cases hb
  · cases hb

/-- The elements of what is appended. -/
def elemsH (h : Hp) (y : HV) : Option (List (List HV)) :=
  match y with
  | .sl _ es => some es
  | .ow id lo len =>
    match h[id]? with
    | some (.row _ es) => if lo + len ≤ es.length then some ((es.drop lo).take len) else none
    | _ => none
  | _ => none

theorem cells_list {w : World} {b off n k : Nat} {ys : List (List HV)} (hn : ys.length = n) (hk : ∀ cs ∈ ys, cs.length = k) (hc : ∀ (i : Nat) cs (j : Nat) x, ys[i]? = some cs → cs[j]? = some x → ∃ v, w.cell? ⟨b, off + i * k + j, none⟩ = some v ∧ RV K x v) :
    ∃ news : List Value, news.length = n * k ∧ (∀ j u, news[j]? = some u → w.cell? ((⟨b, off, none⟩ : Addr).add j) = some u) ∧
      ∀ (i : Nat) cs (j : Nat) x, ys[i]? = some cs → cs[j]? = some x → ∃ u, news[i * k + j]? = some u ∧ RV K x u := by
  refine ⟨(List.range (n * k)).map fun p => (w.cell? ⟨b, off + p, none⟩).getD undef, by simp, fun j u hu => ?_, fun i cs j x hi hj => ?_⟩
  · have hj : j < n * k := by simpa using (List.getElem?_eq_some_iff.1 hu).1
    have hk0 : 0 < k := Nat.pos_of_ne_zero (fun h => by subst h; simp at hj)
    simp [hj] at hu
    have hi : j / k < n := Nat.div_lt_of_lt_mul (by rw [Nat.mul_comm]; exact hj)
    obtain ⟨cs, hcs⟩ : ∃ cs, ys[j / k]? = some cs := ⟨_, List.getElem?_eq_getElem (by omega)⟩
    have hcl := hk cs (List.mem_of_getElem? hcs)
    have hm : j % k < cs.length := by rw [hcl]; exact Nat.mod_lt _ hk0
    obtain ⟨v, g1, _⟩ := hc (j / k) cs (j % k) _ hcs (List.getElem?_eq_getElem hm)
    have e : off + j / k * k + j % k = off + j := by rw [Nat.add_assoc, Nat.mul_comm, Nat.div_add_mod]
    rw [e] at g1
    rw [Addr.add_lit, g1]
    rw [g1] at hu
    simpa using hu
  · obtain ⟨v, g1, g2⟩ := hc i cs j x hi hj
    have hil : i < n := by have := (List.getElem?_eq_some_iff.1 hi).1; omega
    have hjl : j < k := by have := (List.getElem?_eq_some_iff.1 hj).1; rw [hk cs (List.mem_of_getElem? hi)] at this; exact this
    have hlt : i * k + j < n * k := by
      have : (i + 1) * k ≤ n * k := Nat.mul_le_mul_right _ (by omega)
      rw [Nat.add_mul] at this
      omega
    refine ⟨v, ?_, g2⟩
    rw [Nat.add_assoc] at g1
    simp [hlt, g1]

/-- What is appended, as cells. -/
theorem elemsH_cells {h : Hp} {y : HV} {v : Value} {ys : List (List HV)} {k : Nat} (hh : RH X K h) (hy : RV K y v) (he : elemsH h y = some ys) (hk : ∀ cs ∈ ys, cs.length = k) :
    ∃ a c, v = .slice a ys.length c ∧ (0 < ys.length → ∃ ad, a = some ad ∧ ∃ news : List Value, news.length = ys.length * k ∧ (∀ j u, news[j]? = some u → K.w.cell? (ad.add j) = some u) ∧
      ∀ (i : Nat) cs (j : Nat) x, ys[i]? = some cs → cs[j]? = some x → ∃ u, news[i * k + j]? = some u ∧ RV K x u) := by
  unfold elemsH at he
  split at he
  · rename_i full es
    injection he with he; subst he
    obtain ⟨a, cap, rfl, g1, g2, g3, g4, g5⟩ := hy.slice_some
    refine ⟨a, cap, rfl, fun h0 => ?_⟩
    obtain ⟨k', b, off, cv, rfl, f1, f2, f3, f4, f5⟩ := g5 h0
    have hkk : k' = k := by have := f3 0 h0; rw [hk _ (List.getElem_mem h0)] at this; exact this.symm
    subst hkk
    refine ⟨_, rfl, cells_list (K := K) rfl hk (fun i cs j x hi hj => ?_)⟩
    obtain ⟨hi', e1⟩ := List.getElem?_eq_some_iff.1 hi
    subst e1
    obtain ⟨hj', e2⟩ := List.getElem?_eq_some_iff.1 hj
    subst e2
    exact ⟨_, f4 i hi' j hj', f5 i hi' j hj'⟩
  · rename_i id lo len
    split at he
    · rename_i t es ho
      split at he
      · rename_i hle
        injection he with he; subst he
        obtain ⟨hA, a, cap, rfl, c1, c2, c3, c4, c5⟩ := hy.ow_inv
        have hlen : ((es.drop lo).take len).length = len := by simp; omega
        refine ⟨a, cap, by rw [hlen], fun h0 => ?_⟩
        rw [hlen] at h0
        obtain ⟨_, hc0, hrow⟩ := hh.obj id _ hA ho
        have hcne : K.c id ≠ 0 := fun e => by have := hc0 e; subst this; simp at hle; omega
        obtain ⟨rfl, rfl, d1, d2⟩ := c4 hcne
        obtain ⟨cur, hcur, hcsz, hl, hmax, hget⟩ := (hrow hcne).get
        have hkk : K.k id = k := by
          have h1 : ((es.drop lo).take len)[0]? = es[lo]? := by rw [List.getElem?_take, if_pos h0, List.getElem?_drop]; rfl
          have h2 : es[lo]? = some es[lo] := List.getElem?_eq_getElem (by omega)
          rw [h2] at h1
          have := hk _ (List.mem_of_getElem? h1)
          rw [(hget lo _ h2).1] at this
          exact this
        rw [← hkk]
        refine ⟨_, rfl, cells_list (K := K) rfl (fun cs hcs => by rw [hkk]; exact hk cs hcs) (fun i cs j x hi hj => ?_)⟩
        rw [List.getElem?_take] at hi
        split at hi
        · rw [List.getElem?_drop] at hi
          obtain ⟨_, v, g1, g2⟩ := (hget (lo + i) cs hi).2 j x hj
          refine ⟨v, ?_, g2⟩
          rw [cell_row hcur, show lo * K.k id + i * K.k id + j = (lo + i) * K.k id + j from by rw [Nat.add_mul]]
          exact g1
        · cases hi
      · cases he
    · cases he
  · cases he

/-- append. -/
def appendH (P : Program) (h : Hp) (nid : Nat) (t : TypeId) (s y : HV) : Option ER :=
  match elemH P t with
  | none => none
  | some e =>
    match szH P e, zeroH P e, bytesH P e, elemsH h y with
    | some k, some z, some bt, some ys =>
      if 0 < bt ∧ z.cells.length = k ∧ z.cells.all HV.one = true ∧ (∀ cs ∈ ys, cs.length = k ∧ cs.all HV.one = true) then
        match s with
        | .sl true [] => if ys.length * bt ≤ 140737488355328 then some { x := .ow nid 0 ys.length, ns := [.row e ys] } else none
        | .sl true (c :: cs) =>
          match ys with
          | [] => some { x := .sl true (c :: cs) }
          | d :: ds =>
            if ((c :: cs).length + (d :: ds).length) * bt ≤ 140737488355328 ∧ (∀ cs' ∈ c :: cs, cs'.length = k ∧ cs'.all HV.one = true) then
              some { x := .ow nid 0 ((c :: cs).length + (d :: ds).length), ns := [.row e (c :: cs ++ d :: ds)] }
            else none
        | .ow id 0 len =>
          match h[id]? with
          | some (.row e' es) =>
            if e' = e ∧ len = es.length ∧ (es.length + ys.length) * bt ≤ 140737488355328 then some { x := .ow nid 0 (es.length + ys.length), ws := [(id, .gone)], ns := [.row e (es ++ ys)] }
            else if e' = e ∧ len + ys.length ≤ es.length then some { x := .ow nid 0 (len + ys.length), ws := [(id, .gone)], ns := [.row e (es.take len ++ ys ++ es.drop (len + ys.length))] }
            else none
          | _ => none
        | _ => none
      else none
    | _, _, _, _ => none

/-- An object is given up. -/
theorem RH.gone {h : Hp} {K' : KS} (id : Nat) (x : Ext K h K' h) (hh : RH X K' h) : Ext K h K' (h.set id .gone) ∧ RH X K' (h.set id .gone) := by
  have back : ∀ i, liveAt K' (h.set id .gone) i → liveAt K' h i ∧ i ≠ id := fun i ⟨hA, ⟨o, ho, hlo⟩, hc⟩ => by
    by_cases hi : i = id
    · subst hi
      have hlt := hh.A i hA
      rw [List.getElem?_set_self hlt] at ho
      injection ho with ho; subst ho; cases hlo
    · rw [List.getElem?_set_ne (fun e => hi e.symm)] at ho
      exact ⟨⟨hA, ⟨o, ho, hlo⟩, hc⟩, hi⟩
  refine ⟨⟨x.os, x.tape, x.output, x.size, x.block, fun i hi => x.new i (back i hi).1, x.L, x.keep, x.A⟩, ⟨fun i hi => by rw [List.length_set]; exact hh.A i hi, fun i o hA ho => ?_, fun i hi => hh.live i (back i hi).1, fun i j hi hj => hh.inj i j (back i hi).1 (back j hj).1, hh.Lb, hh.glob⟩⟩
  by_cases hi : i = id
  · subst hi
    rw [List.getElem?_set_self (hh.A i hA)] at ho
    injection ho with ho; subst ho; trivial
  · rw [List.getElem?_set_ne (fun e => hi e.symm)] at ho
    exact hh.obj i o hA ho

/-- A draw. -/
theorem RH.drew {h : Hp} (hh : RH X K h) : Ext K h { K with w := K.w.drew } h ∧ RH X { K with w := K.w.drew } h := by
  have hle : K.le { K with w := K.w.drew } := ⟨Nat.le_refl _, fun _ _ _ => rfl, fun _ h => .inl h, fun _ h => ⟨h, rfl, rfl, rfl⟩⟩
  exact ⟨⟨rfl, rfl, rfl, Nat.le_refl _, fun _ _ _ => rfl, fun i hi => .inl ⟨i, hi, rfl⟩, fun _ h => .inl h, fun _ h _ => h, fun _ h => ⟨h, rfl, rfl, rfl⟩⟩,
    ⟨hh.A, fun i o hA ho => (hh.obj i o hA ho).mono hle hA (fun _ _ _ => rfl), hh.live, hh.inj, hh.Lb, hh.glob.mono hle⟩⟩

end
end Go.HL

/-
  HL, part J: append, proved.
-/
namespace Go.HL

section
variable {X : PG} {K : KS}

theorem run_append_zero {P : Program} {w : World} {t ty e : TypeId} {i : TypeInfo} (ht : P.underlying t = some (.slice e)) (hi : P.info? e = some i) {b a : Option Addr} {n cap c : Nat} (hn : n ≤ cap) :
    (Builtin.append_ #[t, t] ty #[.slice b n cap, .slice a 0 c]).run P w = .ok (.slice b n cap) w := by
  have h1 : (Builtin.firstCells i.size 0 (.slice a 0 c)).run P w = .ok #[] w := by
    cases a <;> simp [Builtin.firstCells, loadCells, loadCellsFrom]
  cases b <;> simp [Builtin.append_, run_underlying ht, sizeOf, typeInfo, hi, Builtin.lenOf, hn, h1, storeCells]

/-- A row of no capacity, made of nothing. -/
def KS.virt (K : KS) (id k : Nat) : KS :=
  { w := K.w, L := K.L, A := fun i => K.A i ∨ i = id, b := K.b, c := fun i => if i = id then 0 else K.c i, k := fun i => if i = id then k else K.k i }

theorem KS.virt_le (K : KS) (id k : Nat) (hn : ¬ K.A id) : K.le (K.virt id k) :=
  ⟨Nat.le_refl _, fun _ _ _ => rfl, fun _ h => .inl h, fun i h => by
    have hi : i ≠ id := fun e => hn (e ▸ h)
    exact ⟨.inl h, rfl, by simp [KS.virt, hi], by simp [KS.virt, hi]⟩⟩

theorem RH.virt {h : Hp} (hh : RH X K h) {id k : Nat} {e : TypeId} (hn : ¬ K.A id) (ho : h[id]? = some (.row e [])) (hk : szH X.P e = some k) : Ext K h (K.virt id k) h ∧ RH X (K.virt id k) h := by
  have hle := K.virt_le id k hn
  have old : ∀ i, liveAt (K.virt id k) h i → liveAt K h i := fun i ⟨hA, hx, hc⟩ => by
    by_cases hi : i = id
    · subst hi; simp [KS.virt] at hc
    · rcases hA with hA | hA
      · exact ⟨hA, hx, by simpa [KS.virt, hi] using hc⟩
      · exact absurd hA hi
  refine ⟨⟨rfl, rfl, rfl, Nat.le_refl _, fun _ _ _ => rfl, fun i hi => .inl ⟨i, old i hi, rfl⟩, fun _ h => .inl h, fun _ h _ => h, hle.A⟩,
    ⟨fun i hA => ?_, fun i o hA ho' => ?_, fun i hi => hh.live i (old i hi), fun i j hi hj => hh.inj i j (old i hi) (old j hj), hh.Lb, hh.glob.mono hle⟩⟩
  · rcases hA with hA | hA
    · exact hh.A i hA
    · subst hA; exact (List.getElem?_eq_some_iff.1 ho).1
  · by_cases hi : i = id
    · subst hi
      rw [ho] at ho'
      injection ho' with ho'; subst ho'
      exact ⟨by simp [KS.virt, hk], fun _ => rfl, fun hc => by simp [KS.virt] at hc⟩
    · rcases hA with hA | hA
      · exact (hh.obj i o hA ho').mono hle hA (fun _ _ _ => rfl)
      · exact absurd hA hi

/-- Elements and their cells in a row. -/
def CL (K : KS) (k : Nat) (es : List (List HV)) (l : List Value) : Prop :=
  l.length = es.length * k ∧ ∀ (i : Nat) cs (j : Nat) x, es[i]? = some cs → cs[j]? = some x → ∃ u, l[i * k + j]? = some u ∧ RV K x u

theorem CL.append {k : Nat} {es ys : List (List HV)} {l m : List Value} (h1 : CL K k es l) (h2 : CL K k ys m) : CL K k (es ++ ys) (l ++ m) := by
  refine ⟨by simp [h1.1, h2.1, Nat.add_mul], fun i cs j x hi hj => ?_⟩
  by_cases h : i < es.length
  · rw [List.getElem?_append_left h] at hi
    obtain ⟨u, g1, g2⟩ := h1.2 i cs j x hi hj
    have hlt := (List.getElem?_eq_some_iff.1 g1).1
    exact ⟨u, by rw [List.getElem?_append_left hlt]; exact g1, g2⟩
  · rw [List.getElem?_append_right (by omega)] at hi
    obtain ⟨u, g1, g2⟩ := h2.2 _ cs j x hi hj
    refine ⟨u, ?_, g2⟩
    have hle : es.length * k ≤ i * k := Nat.mul_le_mul_right _ (by omega)
    rw [List.getElem?_append_right (by rw [h1.1]; omega), h1.1, ← g1]
    congr 1
    rw [Nat.sub_mul]
    omega

/-- A row that an append lays anew. -/
theorem grow_RH {f : Hp} (hf : RH X K f) {nid k cap : Nat} {e : TypeId} {es : List (List HV)} {l rest : List Value} {cur : Array Value} (hA : ¬ K.A nid) (hn : f[nid]? = some (.row e es)) (hk : szH X.P e = some k) (hcur : cur.toList = l ++ rest)
    (hcl : CL K k es l) (hone : ∀ cs ∈ es, cs.length = k ∧ cs.all HV.one = true) (hs : cur.size = cap * k) (hle : es.length ≤ cap) (hm : cap ≤ maxLen) (h0 : 0 < es.length) :
    let K' := ({ K with w := K.w.drew } : KS).lay nid cap k (.cells cur e)
    K'.w = K.w.drew.alloc (.cells cur e) ∧ Ext K f K' f ∧ RH X K' f ∧ RV K' (.ow nid 0 es.length) (.slice (some ⟨K.w.heap.size, 0, none⟩) es.length cap) ∧ ∀ id, K'.A id ↔ K.A id ∨ (nid ≤ id ∧ id < nid + 1) := by
  intro K'
  obtain ⟨d1, d2⟩ := hf.drew
  have hle1 : K.le { K with w := K.w.drew } := d1.le hf
  have hro : RO X.P K' nid (.row e es) := by
    refine RO.layRow (K := { K with w := K.w.drew }) hA hk hs hle hm (fun i hi => (hone _ (List.getElem_mem hi)).1) (fun i hi j hj => List.all_eq_true.1 (hone _ (List.getElem_mem hi)).2 _ (List.getElem_mem hj)) (fun i hi j hj => ?_)
    obtain ⟨u, g1, g2⟩ := hcl.2 i _ j _ (List.getElem?_eq_getElem hi) (List.getElem?_eq_getElem hj)
    refine ⟨u, ?_, g2.mono hle1⟩
    rw [← Array.getElem?_toList, hcur, List.getElem?_append_left (List.getElem?_eq_some_iff.1 g1).1]
    exact g1
  obtain ⟨g1, g2⟩ := d2.lay (id := nid) (cap := cap) (k := k) (o := .cells cur e) hA hn hro
  refine ⟨rfl, d1.trans g1 hf, g2, ?_, fun id => lay_A (K := { K with w := K.w.drew }) id⟩
  have := RV.ow (K := K') nid 0 es.length (.inr rfl) (by simp [K', KS.lay]; omega) (by simp [K', KS.lay]; exact hle) (by simpa [K', KS.lay] using hm)
  simpa [K', KS.lay] using this

/-- An append within the capacity: the block goes over to the new object. -/
theorem inplace_RH {f : Hp} (hf : RH X K f) {id nid k len : Nat} {e : TypeId} {es ys es' : List (List HV)} {cur : Array Value} {news : List Value} (hA : ¬ K.A nid) (hAi : K.A id) (hoi : f[id]? = some (.row e es)) (hn : f[nid]? = some (.row e es'))
    (hk : szH X.P e = some k) (hkid : K.k id = k) (hc : K.c id ≠ 0) (hcur : K.w.heap[K.b id]? = some (.cells cur e (0, 0))) (hs : cur.size = K.c id * k) (hm : K.c id ≤ maxLen)
    (hget : ∀ (i : Nat) cs, es[i]? = some cs → cs.length = k ∧ ∀ (j : Nat) x, cs[j]? = some x → x.one = true ∧ ∃ v, cur[i * k + j]? = some v ∧ RV K x v) (hlen : len ≤ es.length) (hroom : len + ys.length ≤ K.c id) (hesl : es.length ≤ K.c id)
    (hnews : CL K k ys news) (hone : ∀ cs ∈ ys, cs.length = k ∧ cs.all HV.one = true) (hes' : es' = es.take len ++ ys ++ es.drop (len + ys.length)) :
    let w' := K.w.setRow (K.b id) (cur.toList.take (len * k) ++ news ++ cur.toList.drop (len * k + news.length)).toArray
    let K' : KS := { w := w', L := K.L, A := fun i => K.A i ∨ i = nid, b := fun i => if i = nid then K.b id else K.b i, c := fun i => if i = nid then K.c id else K.c i, k := fun i => if i = nid then k else K.k i }
    Ext K f K' (f.set id .gone) ∧ RH X K' (f.set id .gone) ∧ RV K' (.ow nid 0 (len + ys.length)) (.slice (some ⟨K.b id, 0, none⟩) (len + ys.length) (K.c id)) ∧ ∀ i, K'.A i ↔ K.A i ∨ (nid ≤ i ∧ i < nid + 1) := by
  intro w' K'
  have hne : id ≠ nid := fun e => hA (e ▸ hAi)
  have hlive : liveAt K f id := ⟨hAi, ⟨_, hoi, rfl⟩, hc⟩
  have hidlt := hf.A id hAi
  have hnl : news.length = ys.length * k := hnews.1
  have hfit : len * k + news.length ≤ cur.size := by rw [hnl, hs, ← Nat.add_mul]; exact Nat.mul_le_mul_right _ hroom
  have hat := row_put hfit
  have hasz := row_put_size hfit
  have hset : w'.heap[K.b id]? = some (.cells _ e (0, 0)) := setRow_heap K.w (K.b id) cur _ e (0, 0) hcur
  have hoth : ∀ b, b ≠ K.b id → w'.heap[b]? = K.w.heap[b]? := fun b hb => setRow_other K.w (K.b id) b _ hb
  have hsz : w'.heap.size = K.w.heap.size := by simp [w']
  generalize (cur.toList.take (len * k) ++ news ++ cur.toList.drop (len * k + news.length)).toArray = cur' at hat hasz hset
  have hle : K.le K' := ⟨by show _ ≤ w'.heap.size; omega, fun b _ hL => hoth b (fun e => hL (e ▸ hf.live id hlive)), fun _ h => .inl h, fun i h => by
    have hi : i ≠ nid := fun e => hA (e ▸ h)
    exact ⟨.inl h, by simp [K', hi], by simp [K', hi], by simp [K', hi]⟩⟩
  have back : ∀ i, liveAt K' (f.set id .gone) i → (i = nid) ∨ (liveAt K f i ∧ i ≠ id ∧ i ≠ nid) := fun i ⟨hA', ⟨o, ho, hlo⟩, hc'⟩ => by
    by_cases h1 : i = nid
    · exact .inl h1
    · by_cases h2 : i = id
      · subst h2
        rw [List.getElem?_set_self hidlt] at ho
        injection ho with ho; subst ho; cases hlo
      · rw [List.getElem?_set_ne (fun e => h2 e.symm)] at ho
        rcases hA' with hA' | hA'
        · exact .inr ⟨⟨hA', ⟨o, ho, hlo⟩, by simpa [K', h1] using hc'⟩, h2, h1⟩
        · exact absurd hA' h1
  have bn : K'.b nid = K.b id := by simp [K']
  have bo : ∀ i, i ≠ nid → K'.b i = K.b i := fun i hi => by simp [K', hi]
  refine ⟨⟨rfl, rfl, rfl, hle.size, fun b _ hn => hoth b (fun e => hn id hlive e.symm), fun i hi => ?_, fun _ h => .inl h, fun _ h _ => h, hle.A⟩, ⟨fun i hi => ?_, fun i o hAi' ho => ?_, fun i hi => ?_, fun i j hi hj e => ?_, fun b hb => by show b < w'.heap.size; rw [hsz]; exact hf.Lb b hb, hf.glob.mono hle⟩, ?_, fun i => ?_⟩
  · rcases back i hi with rfl | ⟨h1, h2, h3⟩
    · exact .inl ⟨id, hlive, bn.symm⟩
    · exact .inl ⟨i, h1, (bo i h3).symm⟩
  · rw [List.length_set]
    rcases hi with hi | hi
    · exact hf.A i hi
    · subst hi; exact (List.getElem?_eq_some_iff.1 hn).1
  · by_cases h1 : i = nid
    · subst h1
      rw [List.getElem?_set_ne hne, hn] at ho
      injection ho with ho; subst ho
      have ek : K'.k i = k := by simp [K']
      have ec : K'.c i = K.c id := by simp [K']
      refine ⟨by rw [ek]; exact hk, fun h0 => absurd (ec ▸ h0) hc, fun _ => RowAt.of (cur := cur') (by rw [bn]; exact hset) (by rw [hasz, ec, ek]; exact hs) (by rw [ec, hes']; simp; omega) (by rw [ec]; exact hm) (fun p cs hp => ?_)⟩
      rw [ek]
      have hys : ys.length * k = news.length := hnl.symm
      by_cases c1 : p < len
      · have hp' : es[p]? = some cs := by
          rw [hes', List.append_assoc, List.getElem?_append_left (by simp; omega), List.getElem?_take, if_pos c1] at hp
          exact hp
        obtain ⟨g1, g2⟩ := hget p cs hp'
        refine ⟨g1, fun j x hx => ?_⟩
        obtain ⟨q1, v, q2, q3⟩ := g2 j x hx
        refine ⟨q1, v, ?_, q3.mono hle⟩
        have hj : j < k := by rw [← g1]; exact (List.getElem?_eq_some_iff.1 hx).1
        have : (p + 1) * k ≤ len * k := Nat.mul_le_mul_right _ (by omega)
        rw [Nat.add_mul] at this
        rw [hat, if_neg (by omega)]
        exact q2
      · by_cases c2 : p < len + ys.length
        · have hp' : ys[p - len]? = some cs := by
            rw [hes', List.append_assoc, List.getElem?_append_right (by simp; omega), List.getElem?_append_left (by simp; omega)] at hp
            simp only [List.length_take] at hp
            rw [Nat.min_eq_left hlen] at hp
            exact hp
          obtain ⟨g1, g2⟩ := hone cs (List.mem_of_getElem? hp')
          refine ⟨g1, fun j x hx => ?_⟩
          obtain ⟨u, q1, q2⟩ := hnews.2 _ cs j x hp' hx
          have hj : j < k := by rw [← g1]; exact (List.getElem?_eq_some_iff.1 hx).1
          refine ⟨List.all_eq_true.1 g2 _ (List.mem_of_getElem? hx), u, ?_, q2.mono hle⟩
          have h3 : len * k ≤ p * k := Nat.mul_le_mul_right _ (by omega)
          have h4 : (p + 1) * k ≤ (len + ys.length) * k := Nat.mul_le_mul_right _ (by omega)
          rw [Nat.add_mul, Nat.add_mul] at h4
          rw [hat, if_pos (by omega), ← q1]
          congr 1
          rw [Nat.sub_mul]
          omega
        · have hp' : es[p]? = some cs := by
            rw [hes', List.getElem?_append_right (by simp; omega), List.getElem?_drop] at hp
            simp only [List.length_append, List.length_take] at hp
            rw [Nat.min_eq_left hlen, show len + ys.length + (p - (len + ys.length)) = p from by omega] at hp
            exact hp
          obtain ⟨g1, g2⟩ := hget p cs hp'
          refine ⟨g1, fun j x hx => ?_⟩
          obtain ⟨q1, v, q2, q3⟩ := g2 j x hx
          refine ⟨q1, v, ?_, q3.mono hle⟩
          have : (len + ys.length) * k ≤ p * k := Nat.mul_le_mul_right _ (by omega)
          rw [Nat.add_mul] at this
          rw [hat, if_neg (by omega)]
          exact q2
    · by_cases h2 : i = id
      · subst h2
        rw [List.getElem?_set_self hidlt] at ho
        injection ho with ho; subst ho; trivial
      · rw [List.getElem?_set_ne (fun e => h2 e.symm)] at ho
        rcases hAi' with hAi' | hAi'
        · exact (hf.obj i o hAi' ho).mono hle hAi' (fun _ hlo hco => hoth _ (fun e => h2 (hf.inj i id ⟨hAi', ⟨o, ho, hlo⟩, hco⟩ hlive e)))
        · exact absurd hAi' h1
  · rcases back i hi with rfl | ⟨h1, h2, h3⟩
    · rw [bn]; exact hf.live id hlive
    · rw [bo i h3]; exact hf.live i h1
  · rcases back i hi with rfl | ⟨h1, h2, h3⟩
    · rcases back j hj with rfl | ⟨f1, f2, f3⟩
      · rfl
      · rw [bn, bo j f3] at e; exact absurd (hf.inj id j hlive f1 e).symm f2
    · rcases back j hj with rfl | ⟨f1, f2, f3⟩
      · rw [bn, bo i h3] at e; exact absurd (hf.inj i id h1 hlive e) h2
      · rw [bo i h3, bo j f3] at e; exact hf.inj i j h1 f1 e
  · have := RV.ow (K := K') nid 0 (len + ys.length) (.inr rfl) (by simpa [K'] using hc) (by simp [K']; exact hroom) (by simpa [K'] using hm)
    simpa [K'] using this
  · constructor
    · rintro (h | h)
      · exact .inl h
      · exact .inr (by omega)
    · rintro (h | h)
      · exact .inl h
      · exact .inr (by omega)

end
end Go.HL

/-
  HL, part K: append's rule; all operations with an effect in one theorem.
-/
namespace Go.HL

section
variable {X : PG} {K : KS}

theorem zeroCells_size' (z : Array Value) (n : Nat) : (Builtin.zeroCells z n).size = n * z.size := by simp [Builtin.zeroCells]

theorem appendH_run {h f : Hp} {nid : Nat} {t ty : TypeId} {s y : HV} {vs vy : Value} {r : ER} (hh : RH X K h) (hf : RH X K f) (hsub : ∀ id o, K.A id → o.live = true → h[id]? = some o → f[id]? = some o) (h1 : RV K s vs) (h2 : RV K y vy) (hb : appendH X.P h nid t s y = some r)
    (hn : ∀ i (hi : i < r.ns.length), f[nid + i]? = some r.ns[i]) (hA : ∀ i, i < r.ns.length → ¬ K.A (nid + i)) :
    ∃ v K', (Builtin.append_ #[t, t] ty #[vs, vy]).run X.P K.w = .ok v K'.w ∧ Ext K f K' (setAll f r.ws) ∧ RH X K' (setAll f r.ws) ∧ RV K' r.x v ∧ ∀ id, K'.A id ↔ K.A id ∨ (nid ≤ id ∧ id < nid + r.ns.length) := by
  unfold appendH at hb
  split at hb
  · cases hb
  · rename_i e he
    have hu := elemH_eq he
    split at hb
    · rename_i k z bt ys hk hz hbt hys
      split at hb
      · rename_i hc
        obtain ⟨hbt0, hzk, hzo, hyk⟩ := hc
        obtain ⟨info, zv, i1, i2, i3, i4, i5⟩ := infoH hk hz hbt
        have hzs : zv.cells.size = k := by rw [← ((i5 K).rl hzo).1]; exact hzk
        obtain ⟨ya, yc, rfl, hyn⟩ := elemsH_cells hh h2 hys (fun cs hcs => (hyk cs hcs).1)
        have hnl : ∀ news : List Value, news.length = ys.length * k → (∀ (i : Nat) cs (j : Nat) x, ys[i]? = some cs → cs[j]? = some x → ∃ u, news[i * k + j]? = some u ∧ RV K x u) → CL K k ys news := fun news g1 g2 => ⟨g1, g2⟩
        have hone' : ∀ (l : List (List HV)) (m : List Value), CL K k l m → (∀ cs ∈ l, cs.length = k ∧ cs.all HV.one = true) → ∀ u ∈ m, u.oneCell' = true := fun l m hcl hl u hu => by
          obtain ⟨p, hp, rfl⟩ := List.getElem_of_mem hu
          rw [hcl.1] at hp
          have hk0 : 0 < k := Nat.pos_of_ne_zero (fun h => by subst h; simp at hp)
          have hi : p / k < l.length := Nat.div_lt_of_lt_mul (by rw [Nat.mul_comm]; exact hp)
          obtain ⟨cs, hcs⟩ : ∃ cs, l[p / k]? = some cs := ⟨_, List.getElem?_eq_getElem hi⟩
          obtain ⟨g1, g2⟩ := hl cs (List.mem_of_getElem? hcs)
          have hm : p % k < cs.length := by rw [g1]; exact Nat.mod_lt _ hk0
          obtain ⟨u', q1, q2⟩ := hcl.2 (p / k) cs (p % k) _ hcs (List.getElem?_eq_getElem hm)
          have e : p / k * k + p % k = p := by rw [Nat.mul_comm, Nat.div_add_mod]
          rw [e] at q1
          obtain ⟨_, e'⟩ := List.getElem?_eq_some_iff.1 q1
          rw [e']
          exact q2.oneCell (List.all_eq_true.1 g2 _ (List.getElem_mem hm))
        -- a row laid anew
        have grow : ∀ (es : List (List HV)) (l : List Value) (n cap0 : Nat), CL K k es l → (∀ cs ∈ es, cs.length = k ∧ cs.all HV.one = true) → es.length = n → 0 < n + ys.length → (n + ys.length) * bt ≤ 140737488355328 → 0 < ys.length →
            r.ns = [.row e (es ++ ys)] → r.x = .ow nid 0 (n + ys.length) → ∀ (base : Option Addr), (∀ j u, l[j]? = some u → ∃ ad, base = some ad ∧ K.w.cell? (ad.add j) = some u) → cap0 < n + ys.length →
            (base = none → n = 0 ∧ cap0 = 0) →
            ∃ v K', (Builtin.append_ #[t, t] ty #[.slice base n cap0, .slice ya ys.length yc]).run X.P K.w = .ok v K'.w ∧ Ext K f K' f ∧ RH X K' f ∧ RV K' r.x v ∧ ∀ id, K'.A id ↔ K.A id ∨ (nid ≤ id ∧ id < nid + r.ns.length) := by
          intro es l n cap0 hcl hes hn0 hpos hbytes hys0 hns hx base hbase hcap hbn
          have hA0 := hA 0 (by rw [hns]; simp)
          have hn0' := hn 0 (by rw [hns]; simp)
          simp only [Nat.add_zero, hns, List.getElem_cons_zero] at hA0 hn0'
          obtain ⟨ad, rfl, news, w1, w2, w3⟩ := hyn hys0
          have hncl := hnl news w1 w3
          have hlm : n + ys.length ≤ maxLen := by
            have := Nat.le_mul_of_pos_right (n + ys.length) hbt0
            unfold maxLen; omega
          have hge := grownCap_ge K.w (n + ys.length) cap0 e
          have hcm := grownCap_le_maxLen K.w (n + ys.length) cap0 e hlm
          have hrun : (Builtin.append_ #[t, t] ty #[.slice base n cap0, .slice (some ad) ys.length yc]).run X.P K.w =
              .ok (.slice (some ⟨K.w.heap.size, 0, none⟩) (n + ys.length) (grownCap K.w (n + ys.length) cap0 e)) (K.w.drew.alloc (.cells (l.toArray ++ news.toArray ++ Builtin.zeroCells zv.cells (grownCap K.w (n + ys.length) cap0 e - (n + ys.length))) e)) := by
            cases base with
            | none =>
              obtain ⟨rfl, rfl⟩ := hbn rfl
              have hl0 : l = [] := List.eq_nil_of_length_eq_zero (by rw [hcl.1, hn0]; simp)
              subst hl0
              have := run_append_nil (P := X.P) K.w t ty e info zv hu i1 i2 ad ys.length yc news (by rw [i3]; exact w1) w2 hys0 (by unfold maxLen at hlm; omega) (by rw [i4]; simp only [Nat.zero_add] at hbytes; omega)
              simp only [Nat.zero_add] at this ⊢
              rw [this]
              simp
            | some ad0 =>
              exact run_append_grow (P := X.P) K.w t ty e info zv hu i1 i2 ad0 n cap0 l (by rw [i3, hcl.1, hn0]) (fun j u hu' => by obtain ⟨ad', q1, q2⟩ := hbase j u hu'; injection q1 with q1; subst q1; exact q2) ad ys.length yc news (by rw [i3]; exact w1) w2 hcap (by unfold maxLen at hlm; omega)
                (by rw [i4]; exact growslice_fits hcap hbytes)
          have hlast := grow_RH (K := K) hf (nid := nid) (k := k) (cap := grownCap K.w (n + ys.length) cap0 e) (e := e) (es := es ++ ys) (l := l ++ news) (rest := (Builtin.zeroCells zv.cells (grownCap K.w (n + ys.length) cap0 e - (n + ys.length))).toList)
            (cur := l.toArray ++ news.toArray ++ Builtin.zeroCells zv.cells (grownCap K.w (n + ys.length) cap0 e - (n + ys.length))) hA0 hn0' hk (by simp) (hcl.append hncl) (fun cs hcs => by
              rcases List.mem_append.1 hcs with hcs | hcs
              · exact hes cs hcs
              · exact hyk cs hcs) (by simp only [Array.size_append, List.size_toArray, zeroCells_size', hzs, hcl.1, w1, hn0, ← Nat.add_mul]; congr 1; omega) (by simp [hn0]; exact hge) hcm (by simp [hn0]; omega)
          obtain ⟨q1, q2, q3, q4, q5⟩ := hlast
          refine ⟨_, _, by rw [hrun, ← q1], q2, q3, ?_, fun id => by rw [hns]; exact q5 id⟩
          rw [hx]
          simpa [hn0] using q4
        split at hb
        · -- nil, or no element and no capacity
          split at hb
          · rename_i hbytes
            injection hb with hb; subst hb
            obtain ⟨a, cap, rfl, g1, g2, g3, g4, _⟩ := h1.slice_some
            have hcap0 : cap = 0 := g3 rfl
            subst hcap0
            by_cases hy0 : ys.length = 0
            · have hys' : ys = [] := List.eq_nil_of_length_eq_zero hy0
              subst hys'
              have hA0 := hA 0 (by simp)
              have hn0 := hn 0 (by simp)
              simp only [Nat.add_zero, List.getElem_cons_zero] at hA0 hn0
              obtain ⟨q1, q2⟩ := hf.virt (id := nid) (k := k) hA0 hn0 hk
              refine ⟨_, K.virt nid k, run_append_zero hu i1 (Nat.le_refl _), q1, q2, .ow0 nid a (.inr rfl) (by simp [KS.virt]), fun id => ?_⟩
              constructor
              · rintro (h | h)
                · exact .inl h
                · exact .inr (by simp; omega)
              · rintro (h | h)
                · exact .inl h
                · exact .inr (by simp at h; omega)
            · obtain ⟨v, K', q1, q2, q3, q4, q5⟩ := grow [] [] 0 0 ⟨by simp, fun i cs j x hi => by simp at hi⟩ (fun cs hcs => by cases hcs) rfl (by omega) (by simpa using hbytes) (by omega) (by simp) (by simp) a (fun j u hu' => by simp at hu') (by omega) (fun _ => ⟨rfl, rfl⟩)
              exact ⟨v, K', q1, q2, q3, q4, q5⟩
          · cases hb
        · -- an immutable slice without spare capacity
          rename_i c cs
          split at hb
          · injection hb with hb; subst hb
            obtain ⟨a, cap, rfl, g1, g2, g3, g4, _⟩ := h1.slice_some
            exact ⟨_, K, run_append_zero hu i1 g1, .refl _ _, hf, h1, fun id => ⟨.inl, fun h => h.elim (fun h => h) (fun h => by simp at h; omega)⟩⟩
          · rename_i d ds
            split at hb
            · rename_i hc2
              obtain ⟨hbytes, hck⟩ := hc2
              injection hb with hb; subst hb
              obtain ⟨a, cap, rfl, g1, g2, g3, g4, g5⟩ := h1.slice_some
              have hcap : cap = (c :: cs).length := g3 rfl
              obtain ⟨k', b, off, cv, rfl, f1, f2, f3, f4, f5⟩ := g5 (by simp)
              have hkk : k' = k := by
                have e1 := f3 0 (by simp)
                have e2 := (hck c (by simp)).1
                simp only [List.getElem_cons_zero] at e1
                omega
              subst hkk
              obtain ⟨l, l1, l2, l3⟩ := cells_list (K := K) (b := b) (off := off) (n := (c :: cs).length) (k := k') (ys := c :: cs) rfl (fun cs' hcs' => (hck cs' hcs').1) (fun i cs' j x hi hj => by
                obtain ⟨hi', e1⟩ := List.getElem?_eq_some_iff.1 hi
                subst e1
                obtain ⟨hj', e2⟩ := List.getElem?_eq_some_iff.1 hj
                subst e2
                exact ⟨_, f4 i hi' j hj', f5 i hi' j hj'⟩)
              obtain ⟨v, K', q1, q2, q3, q4, q5⟩ := grow (c :: cs) l (c :: cs).length cap ⟨l1, l3⟩ hck rfl (by simp only [List.length_cons]; omega) hbytes (by simp) rfl rfl (some ⟨b, off, none⟩) (fun j u hu' => ⟨_, rfl, l2 j u hu'⟩) (by rw [hcap]; simp) (fun h => by cases h)
              exact ⟨v, K', q1, q2, q3, q4, q5⟩
            · cases hb
        · -- a row of the call's own
          rename_i id len
          split at hb
          · rename_i e' es ho
            obtain ⟨hAi, a, cap, rfl, c1, c2, c3, c4, c5⟩ := h1.ow_inv
            have hoi := hsub id _ hAi rfl ho
            obtain ⟨hst, hc0, hrow⟩ := hh.obj id _ hAi ho
            have hne : id ≠ nid ∨ r.ns = [] := by
              by_cases h0 : r.ns = []
              · exact .inr h0
              · exact .inl (fun e => hA 0 (List.length_pos_iff.2 h0) (by simpa using e ▸ hAi))
            split at hb
            · rename_i hcond
              obtain ⟨rfl, hlen, hbytes⟩ := hcond
              injection hb with hb; subst hb
              have hkid : K.k id = k := by rw [hst] at hk; injection hk
              have hA0 := hA 0 (by simp)
              have hn0 := hn 0 (by simp)
              simp only [Nat.add_zero, List.getElem_cons_zero] at hA0 hn0
              by_cases hcz : K.c id = 0
              · have := hc0 hcz
                subst this
                simp only [List.length_nil] at hlen
                subst hlen
                obtain ⟨rfl, _⟩ := c5 hcz
                by_cases hy0 : ys.length = 0
                · have hys' : ys = [] := List.eq_nil_of_length_eq_zero hy0
                  subst hys'
                  obtain ⟨q1, q2⟩ := hf.virt (id := nid) (k := k) hA0 (by simpa using hn0) hk
                  obtain ⟨p1, p2⟩ := RH.gone id q1 q2
                  refine ⟨_, K.virt nid k, run_append_zero hu i1 (Nat.le_refl _), p1, p2, .ow0 nid a (.inr rfl) (by simp [KS.virt]), fun id => ?_⟩
                  constructor
                  · rintro (h | h)
                    · exact .inl h
                    · exact .inr (by simp; omega)
                  · rintro (h | h)
                    · exact .inl h
                    · exact .inr (by simp at h; omega)
                · obtain ⟨v, K', q1, q2, q3, q4, q5⟩ := grow [] [] 0 0 ⟨by simp, fun i cs j x hi => by simp at hi⟩ (fun cs hcs => by cases hcs) rfl (by omega) (by simpa using hbytes) (by omega) (by simp) (by simp) a (fun j u hu' => by simp at hu') (by omega) (fun _ => ⟨rfl, rfl⟩)
                  obtain ⟨p1, p2⟩ := RH.gone id q2 q3
                  exact ⟨v, K', q1, p1, p2, q4, q5⟩
              · obtain ⟨rfl, rfl, d1, d2⟩ := c4 hcz
                obtain ⟨cur, hcur, hcs, hl1, hl2, hget⟩ := (hrow hcz).get
                rw [hkid] at hcs hget
                subst hlen
                simp only [Nat.zero_mul, Nat.sub_zero] at hcs ⊢
                by_cases hy0 : ys.length = 0
                · have hys' : ys = [] := List.eq_nil_of_length_eq_zero hy0
                  subst hys'
                  have hip := inplace_RH (K := K) hf (id := id) (nid := nid) (k := k) (len := es.length) (e := e') (es := es) (ys := []) (es' := es ++ []) (cur := cur) (news := []) hA0 hAi hoi hn0 hk hkid hcz hcur hcs hl2 hget (Nat.le_refl _) (by simpa using hl1) hl1 ⟨by simp, fun i cs j x hi => by simp at hi⟩ (fun cs hcs => by cases hcs) (by simp)
                  obtain ⟨q2, q3, q4, q5⟩ := hip
                  refine ⟨_, _, ?_, q2, q3, q4, q5⟩
                  refine (run_append_zero hu i1 (by simpa using hl1)).trans ?_
                  have : (cur.toList.take (es.length * k) ++ ([] : List Value) ++ cur.toList.drop (es.length * k + ([] : List Value).length)).toArray = cur := by simp
                  rw [this, setRow_self K.w (K.b id) cur e' (0, 0) hcur]
                  simp
                · obtain ⟨ad, rfl, news, w1, w2, w3⟩ := hyn (by omega)
                  have hncl := hnl news w1 w3
                  by_cases hroom : es.length + ys.length ≤ K.c id
                  · have hip := inplace_RH (K := K) hf (id := id) (nid := nid) (k := k) (len := es.length) (e := e') (es := es) (ys := ys) (es' := es ++ ys) (cur := cur) (news := news) hA0 hAi hoi hn0 hk hkid hcz hcur hcs hl2 hget (Nat.le_refl _) hroom hl1 hncl hyk (by simp)
                    obtain ⟨q2, q3, q4, q5⟩ := hip
                    have hrun := run_append_room (P := X.P) K.w t ty e' info hu i1 (K.b id) es.length (K.c id) cur hcur ad ys.length yc news (by rw [i3]; exact w1) w2 (hone' ys news hncl hyk) hroom (by rw [i3, w1, hcs, ← Nat.add_mul]; exact Nat.mul_le_mul_right _ hroom)
                    rw [i3] at hrun
                    exact ⟨_, _, hrun, q2, q3, q4, q5⟩
                  · obtain ⟨l, l1, l2, l3⟩ := cells_list (K := K) (b := K.b id) (off := 0) (n := es.length) (k := k) (ys := es) rfl (fun cs' hcs' => by
                      obtain ⟨i, hi, rfl⟩ := List.getElem_of_mem hcs'
                      exact (hget i _ (List.getElem?_eq_getElem hi)).1) (fun i cs' j x hi hj => by
                        obtain ⟨_, v, q1, q2⟩ := (hget i cs' hi).2 j x hj
                        exact ⟨v, by rw [cell_row hcur, Nat.zero_add]; exact q1, q2⟩)
                    obtain ⟨v, K', q1, q2, q3, q4, q5⟩ := grow es l es.length (K.c id) ⟨l1, l3⟩ (fun cs' hcs' => by
                      obtain ⟨i, hi, rfl⟩ := List.getElem_of_mem hcs'
                      obtain ⟨g1, g2⟩ := hget i _ (List.getElem?_eq_getElem hi)
                      refine ⟨g1, List.all_eq_true.2 fun x hx => ?_⟩
                      obtain ⟨j, hj, rfl⟩ := List.getElem_of_mem hx
                      exact (g2 j _ (List.getElem?_eq_getElem hj)).1) rfl (by omega) hbytes (by omega) rfl rfl (some ⟨K.b id, 0, none⟩) (fun j u hu' => ⟨_, rfl, l2 j u hu'⟩) (by omega) (fun h => by cases h)
                    obtain ⟨p1, p2⟩ := RH.gone id q2 q3
                    exact ⟨v, K', q1, p1, p2, q4, q5⟩
            · rename_i hnot
              split at hb
              · rename_i hcond
                obtain ⟨rfl, hlen⟩ := hcond
                injection hb with hb; subst hb
                have hkid : K.k id = k := by rw [hst] at hk; injection hk
                have hA0 := hA 0 (by simp)
                have hn0 := hn 0 (by simp)
                simp only [Nat.add_zero, List.getElem_cons_zero] at hA0 hn0
                have hcz : K.c id ≠ 0 := fun h0 => by
                  have := hc0 h0
                  subst this
                  simp only [List.length_nil] at hlen hnot
                  have hy00 : ys.length = 0 := by omega
                  exact hnot ⟨trivial, by omega, by rw [hy00]; simp⟩
                obtain ⟨rfl, rfl, d1, d2⟩ := c4 hcz
                obtain ⟨cur, hcur, hcs, hl1, hl2, hget⟩ := (hrow hcz).get
                rw [hkid] at hcs hget
                simp only [Nat.zero_mul, Nat.sub_zero] at hcs ⊢
                by_cases hy0 : ys.length = 0
                · have hys' : ys = [] := List.eq_nil_of_length_eq_zero hy0
                  subst hys'
                  have hip := inplace_RH (K := K) hf (id := id) (nid := nid) (k := k) (len := len) (e := e') (es := es) (ys := []) (cur := cur) (news := []) hA0 hAi hoi hn0 hk hkid hcz hcur hcs hl2 hget (by omega) (by simp; omega) hl1 ⟨by simp, fun i cs j x hi => by simp at hi⟩ (fun cs hcs => by cases hcs) rfl
                  obtain ⟨q2, q3, q4, q5⟩ := hip
                  refine ⟨_, _, ?_, q2, q3, q4, q5⟩
                  refine (run_append_zero hu i1 (by omega)).trans ?_
                  have : (cur.toList.take (len * k) ++ ([] : List Value) ++ cur.toList.drop (len * k + ([] : List Value).length)).toArray = cur := by simp
                  rw [this, setRow_self K.w (K.b id) cur e' (0, 0) hcur]
                  simp
                · obtain ⟨ad, rfl, news, w1, w2, w3⟩ := hyn (by omega)
                  have hncl := hnl news w1 w3
                  have hroom : len + ys.length ≤ K.c id := by omega
                  have hip := inplace_RH (K := K) hf (id := id) (nid := nid) (k := k) (len := len) (e := e') (es := es) (ys := ys) (cur := cur) (news := news) hA0 hAi hoi hn0 hk hkid hcz hcur hcs hl2 hget (by omega) hroom hl1 hncl hyk rfl
                  obtain ⟨q2, q3, q4, q5⟩ := hip
                  have hrun := run_append_room (P := X.P) K.w t ty e' info hu i1 (K.b id) len (K.c id) cur hcur ad ys.length yc news (by rw [i3]; exact w1) w2 (hone' ys news hncl hyk) hroom (by rw [i3, w1, hcs, ← Nat.add_mul]; exact Nat.mul_le_mul_right _ hroom)
                  rw [i3] at hrun
                  exact ⟨_, _, hrun, q2, q3, q4, q5⟩
              · cases hb
          · cases hb
        · cases hb
      · cases hb
    · cases hb

end
end Go.HL

/-
  HL, part L: maps: looking up, putting in, taking out.
-/
namespace Go.HL
open Go.MapKept (IsKey)

section
variable {X : PG} {K : KS}

/-- The kind of a map's keys: truth values, integers, strings. -/
def keyD (P : Program) (t : TypeId) : Option TypeDesc :=
  match P.underlying t with
  | some .bool => some .bool
  | some (.int k) => some (.int k)
  | some .string => some .string
  | _ => none

def mapH (P : Program) (t : TypeId) : Option (TypeId × TypeId × TypeDesc) :=
  match P.underlying t with
  | some (.map k e) => (keyD P k).map fun d => (k, e, d)
  | _ => none

def isKeyH : TypeDesc → HV → Bool
  | .bool, .bool _ => true
  | .int k, .int k' _ => decide (k' = k)
  | .string, .str _ => true
  | _, _ => false

def sameH : HV → HV → Bool
  | .bool a, .bool b => decide (a = b)
  | .int _ a, .int _ b => decide (a = b)
  | .str a, .str b => decide (a = b)
  | _, _ => false

def findH (k : HV) : List (HV × HV × Nat) → Nat → Option (Nat × HV)
  | [], _ => none
  | x :: rest, i => if sameH k x.1 then some (i, x.2.1) else findH k rest (i + 1)

def kvsH (h : Hp) : HV → Option (List (HV × HV × Nat))
  | .nul (.map none) => some []
  | .mp id => match h[id]? with | some (.map kvs _) => some kvs | _ => none
  | _ => none

def lookupH (P : Program) (h : Hp) (t : TypeId) (x k : HV) (ok : Bool) : Option HV :=
  match mapH P t, kvsH h x with
  | some (_, e, d), some kvs =>
    if isKeyH d k = true ∧ (∀ y ∈ kvs, isKeyH d y.1 = true) then
      match findH k kvs 0 with
      | some (_, v) => some (if ok then .tup [v, .bool true] else v)
      | none => match zeroH P e with | some z => some (if ok then .tup [z, .bool false] else z) | none => none
    else none
  | _, _ => none

def mapUpdateH (P : Program) (h : Hp) (t : TypeId) (x k v : HV) : Option ER :=
  match mapH P t, x with
  | some (_, _, d), .mp id =>
    match h[id]? with
    | some (.map kvs clock) =>
      if isKeyH d k = true ∧ (∀ y ∈ kvs, isKeyH d y.1 = true) then
        match findH k kvs 0 with
        | some (i, _) => some { x := .und, ws := [(id, .map (kvs.modify i fun y => (k, v, y.2.2)) clock)] }
        | none => some { x := .und, ws := [(id, .map (kvs ++ [(k, v, clock)]) (clock + 1))] }
      else none
    | _ => none
  | _, _ => none

def deleteH (P : Program) (h : Hp) (t : TypeId) (x k : HV) : Option ER :=
  match mapH P t, x with
  | some (_, _, d), .mp id =>
    match h[id]? with
    | some (.map kvs clock) =>
      if isKeyH d k = true ∧ (∀ y ∈ kvs, isKeyH d y.1 = true) then
        match findH k kvs 0 with
        | some (i, _) => some { x := .und, ws := [(id, .map (kvs.eraseIdx i) clock)] }
        | none => some { x := .und, ws := [(id, .map kvs clock)] }
      else none
    | _ => none
  | some (_, _, d), .nul (.map none) => if isKeyH d k = true then some { x := .und } else none
  | _, _ => none

theorem mapH_eq {P : Program} {t k e : TypeId} {d : TypeDesc} (h : mapH P t = some (k, e, d)) : P.underlying t = some (.map k e) ∧ P.underlying k = some d := by
  unfold mapH at h
  split at h
  · rename_i k' e' hu
    obtain ⟨d', h1, h2⟩ := Option.map_eq_some_iff.1 h
    injection h2 with h2 h3
    injection h3 with h3 h4
    subst h2 h3 h4
    refine ⟨hu, ?_⟩
    unfold keyD at h1
    split at h1 <;> first | (cases h1; done) | (injection h1 with h1; subst h1; assumption)
  · cases h

theorem isKeyH_key {d : TypeDesc} {x : HV} {v : Value} (hr : RV K x v) (hk : isKeyH d x = true) : IsKey d v := by
  cases d <;> cases x <;> simp [isKeyH] at hk <;> cases hr <;> simp [IsKey, hk]

theorem sameH_iff {d : TypeDesc} {x y : HV} {v u : Value} (hx : RV K x v) (hy : RV K y u) (h1 : isKeyH d x = true) (h2 : isKeyH d y = true) : sameH x y = true ↔ u = v := by
  cases d <;> cases x <;> simp [isKeyH] at h1 <;> cases y <;> simp [isKeyH] at h2 <;> cases hx <;> cases hy <;> simp [sameH] <;> (try subst h1) <;> (try subst h2) <;> simp [eq_comm]

theorem findH_sound {d : TypeDesc} {k : HV} {vk : Value} (hk : RV K k vk) (h1 : isKeyH d k = true) : ∀ (kvs : List (HV × HV × Nat)) (es : List MapEntry) (n : Nat), es.length = kvs.length →
    (∀ (i : Nat) x, kvs[i]? = some x → ∃ m, es[i]? = some m ∧ RV K x.1 m.key ∧ RV K x.2.1 m.val ∧ m.born = x.2.2) → (∀ y ∈ kvs, isKeyH d y.1 = true) →
    match findH k kvs n with
    | none => Instr.findNow d vk es n = some none
    | some (i, x) => ∃ u m, Instr.findNow d vk es n = some (some (i, u)) ∧ RV K x u ∧ n ≤ i ∧ es[i - n]? = some m ∧ m.key = vk := by
  intro kvs
  induction kvs with
  | nil =>
    intro es n hl _ _
    have : es = [] := List.eq_nil_of_length_eq_zero hl
    subst this
    rfl
  | cons x rest ih =>
    intro es n hl hm hks
    cases es with
    | nil => simp at hl
    | cons m ms =>
      obtain ⟨m', e1, g1, g2, g3⟩ := hm 0 x rfl
      simp only [List.getElem?_cons_zero, Option.some.injEq] at e1
      subst e1
      have hx := hks x (by simp)
      obtain ⟨r, hr, hiff⟩ := Go.MapKept.sameNow_of_keys (isKeyH_key hk h1) (isKeyH_key g1 hx)
      have hs := sameH_iff hk g1 h1 hx
      unfold findH
      cases hsb : sameH k x.1 with
      | true =>
        have hkey : m.key = vk := hs.1 hsb
        have hrt : r = true := hiff.2 hkey.symm
        subst hrt
        exact ⟨m.val, m, by simp [Instr.findNow, hr], g2, Nat.le_refl _, by simp, hkey⟩
      | false =>
        have hrf : r = false := by
          cases r with
          | false => rfl
          | true => have := hs.2 (hiff.1 rfl).symm; rw [hsb] at this; cases this
        subst hrf
        have := ih ms (n + 1) (by simpa using hl) (fun i y hy => by obtain ⟨m', e, h⟩ := hm (i + 1) y (by simpa using hy); exact ⟨m', by simpa using e, h⟩) (fun y hy => hks y (by simp [hy]))
        simp only [Bool.false_eq_true, if_false]
        cases hf : findH k rest (n + 1) with
        | none => rw [hf] at this; simp only at this ⊢; simp [Instr.findNow, hr, this]
        | some p =>
          obtain ⟨i, y⟩ := p
          rw [hf] at this
          simp only at this ⊢
          obtain ⟨u, m', q1, q2, q3, q4, q5⟩ := this
          refine ⟨u, m', by simp [Instr.findNow, hr, q1], q2, by omega, ?_, q5⟩
          rw [show i - n = (i - (n + 1)) + 1 from by omega]
          simpa using q4

theorem kvsH_sound {h : Hp} {x : HV} {v : Value} {kvs : List (HV × HV × Nat)} (hh : RH X K h) (hx : RV K x v) (hk : kvsH h x = some kvs) :
    (v = .map none ∧ kvs = []) ∨ ∃ r es clock, v = .map (some r) ∧ K.w.heap[r]? = some (.map es clock) ∧ mapLike K kvs es := by
  unfold kvsH at hk
  split at hk
  · injection hk with hk; subst hk
    cases hx with
    | nul v hv => exact .inl ⟨rfl, rfl⟩
  · rename_i id
    split at hk
    · rename_i kvs' clock ho
      injection hk with hk; subst hk
      cases hx with
      | mp _ hA =>
        obtain ⟨_, es, h1, h2⟩ := hh.obj id _ hA ho
        exact .inr ⟨_, es, clock, rfl, h1, h2⟩
    · cases hk
  · cases hk

theorem lookupH_sound {h : Hp} {t : TypeId} {x k y : HV} {vx vk : Value} {ok : Bool} (hh : RH X K h) (hx : RV K x vx) (hk : RV K k vk) (hl : lookupH X.P h t x k ok = some y) :
    ∃ u, (Instr.lookup t vx vk ok).run X.P K.w = .ok u K.w ∧ RV K y u := by
  unfold lookupH at hl
  split at hl
  · rename_i kt e d kvs hm hkv
    obtain ⟨hu, hd⟩ := mapH_eq hm
    split at hl
    · rename_i hc
      obtain ⟨h1, h2⟩ := hc
      have hkey := isKeyH_key hk h1
      have tup : ∀ (z : HV) (vz : Value) (b : Bool), RV K z vz → RV K (if ok = true then HV.tup [z, .bool b] else z) (if ok = true then .tuple #[vz, .bool b] else vz) := fun z vz b hz => by
        cases ok with
        | false => exact hz
        | true =>
          refine .tup _ _ rfl (fun i hi => ?_)
          match i with
          | 0 => exact hz
          | 1 => exact .bool b
          | i + 2 => simp at hi; omega
      rcases kvsH_sound hh hx hkv with ⟨rfl, rfl⟩ | ⟨r, es, clock, rfl, g1, g2, g3⟩
      · simp only [findH] at hl
        split at hl
        · rename_i z hz
          injection hl with hl; subst hl
          obtain ⟨vz, z1, z2⟩ := run_zeroH (w := K.w) hz
          refine ⟨_, ?_, tup z vz false (z2 K)⟩
          simp [Instr.lookup, run_underlying hu, Go.MapKept.run_checkKey hd hkey, Go.MapKept.run_findKey hd (show Instr.findNow d vk [] 0 = some none from rfl), z1, Result.andThen]
        · cases hl
      · have hf := findH_sound hk h1 kvs es.toList 0 (by simpa using g2) (fun i x hx => by simpa using g3 i x hx) h2
        split at hl
        · rename_i i v he
          injection hl with hl; subst hl
          rw [he] at hf
          obtain ⟨u, m, q1, q2, _⟩ := hf
          refine ⟨_, ?_, tup v u true q2⟩
          simp [Instr.lookup, run_underlying hu, Go.MapKept.run_getObj_map g1, Go.MapKept.run_checkKey hd hkey, Go.MapKept.run_findKey hd q1, Result.andThen]
        · rename_i he
          rw [he] at hf
          split at hl
          · rename_i z hz
            injection hl with hl; subst hl
            obtain ⟨vz, z1, z2⟩ := run_zeroH (w := K.w) hz
            refine ⟨_, ?_, tup z vz false (z2 K)⟩
            simp [Instr.lookup, run_underlying hu, Go.MapKept.run_getObj_map g1, Go.MapKept.run_checkKey hd hkey, Go.MapKept.run_findKey hd hf, z1, Result.andThen]
          · cases hl
    · cases hl
  · cases hl

/-- A map of the call's own is written. -/
theorem RH.writeMap {f : Hp} (hf : RH X K f) {id : Nat} {kvs kvs' : List (HV × HV × Nat)} {clock clock' : Nat} {es es' : Array MapEntry} (hA : K.A id) (ho : f[id]? = some (.map kvs clock))
    (hb : K.w.heap[K.b id]? = some (.map es clock)) (hl : mapLike K kvs' es') :
    ∃ K', K'.w = { K.w with heap := K.w.heap.setIfInBounds (K.b id) (.map es' clock') } ∧ Ext K f K' (f.set id (.map kvs' clock')) ∧ RH X K' (f.set id (.map kvs' clock')) ∧ ∀ i, K'.A i ↔ K.A i := by
  obtain ⟨hc, _⟩ := hf.obj id _ hA ho
  obtain ⟨g1, g2⟩ := Go.MapKept.heap_set (o' := .map es' clock') hb
  obtain ⟨q1, q2⟩ := RH.write (w' := { K.w with heap := K.w.heap.setIfInBounds (K.b id) (.map es' clock') }) (ob' := .map kvs' clock') hf hA ho rfl hc (by simp) (fun b hne => g2 b hne) rfl rfl rfl
    (fun hle => ⟨hc, es', g1, hl.1, fun i x hx => by obtain ⟨m, p1, p2, p3, p4⟩ := hl.2 i x hx; exact ⟨m, p1, p2.mono hle, p3.mono hle, p4⟩⟩)
  exact ⟨_, rfl, q1, q2, fun _ => Iff.rfl⟩

theorem mapUpdateH_run {h f : Hp} {t : TypeId} {x k v : HV} {vx vk vv : Value} {r : ER} (hh : RH X K h) (hf : RH X K f) (hsub : ∀ id o, K.A id → o.live = true → h[id]? = some o → f[id]? = some o)
    (hx : RV K x vx) (hk : RV K k vk) (hv : RV K v vv) (hs : mapUpdateH X.P h t x k v = some r) :
    ∃ K', (Instr.mapUpdate t vx vk vv).run X.P K.w = .ok () K'.w ∧ Ext K f K' (setAll f r.ws) ∧ RH X K' (setAll f r.ws) ∧ r.x = .und ∧ r.ns = [] ∧ ∀ id, K'.A id ↔ K.A id := by
  unfold mapUpdateH at hs
  split at hs
  · rename_i kt e d id hm
    obtain ⟨hu, hd⟩ := mapH_eq hm
    split at hs
    · rename_i kvs clock ho
      split at hs
      · rename_i hc
        obtain ⟨h1, h2⟩ := hc
        have hkey := isKeyH_key hk h1
        cases hx with
        | mp _ hA =>
          have hof := hsub id _ hA rfl ho
          obtain ⟨_, es, g1, g2, g3⟩ := hh.obj id _ hA ho
          have hfd := findH_sound hk h1 kvs es.toList 0 (by simpa using g2) (fun i x hx => by simpa using g3 i x hx) h2
          split at hs
          · rename_i i y he
            injection hs with hs; subst hs
            rw [he] at hfd
            obtain ⟨u, m, q1, q2, _, q4, q5⟩ := hfd
            have hj : es[i]? = some m := by simpa using q4
            obtain ⟨K', e1, e2, e3, e4⟩ := RH.writeMap (kvs' := kvs.modify i fun y => (k, v, y.2.2)) (clock' := clock) (es' := es.modify i fun e => { e with key := vk, val := vv }) hf hA hof g1 ⟨by simpa using g2, fun j x hx => by
              rw [List.getElem?_modify] at hx
              rw [Array.getElem?_modify]
              by_cases hij : i = j
              · subst hij
                simp only [if_true] at hx ⊢
                obtain ⟨x0, hx0, rfl⟩ := Option.map_eq_some_iff.1 hx
                obtain ⟨m0, p1, p2, p3, p4⟩ := g3 i x0 hx0
                exact ⟨{ m0 with key := vk, val := vv }, by simp [p1], hk, hv, p4⟩
              · simp only [hij, if_false] at hx ⊢
                simp only [Option.map_eq_map, Option.map_id_fun', id_eq] at hx
                exact g3 j x (by simpa using hx)⟩
            refine ⟨K', ?_, e2, e3, rfl, rfl, e4⟩
            rw [e1]
            simp [Instr.mapUpdate, run_underlying hu, Go.MapKept.run_getObj_map g1, Go.MapKept.run_checkKey hd hkey, Go.MapKept.run_findKey hd q1, hj, q5, Go.MapKept.run_keyThatStays hkey, Go.MapKept.run_setObj_map _ g1, Result.andThen]
          · rename_i he
            injection hs with hs; subst hs
            rw [he] at hfd
            obtain ⟨K', e1, e2, e3, e4⟩ := RH.writeMap (kvs' := kvs ++ [(k, v, clock)]) (clock' := clock + 1) (es' := es.push { key := vk, val := vv, born := clock }) hf hA hof g1 ⟨by simp [g2], fun j x hx => by
              by_cases hj : j < kvs.length
              · rw [List.getElem?_append_left hj] at hx
                obtain ⟨m, p1, p2⟩ := g3 j x hx
                exact ⟨m, by rw [Array.getElem?_push, if_neg (by omega)]; exact p1, p2⟩
              · rw [List.getElem?_append_right (by omega)] at hx
                have h0 : j = kvs.length := by
                  have := (List.getElem?_eq_some_iff.1 hx).1
                  simp at this
                  omega
                subst h0
                simp at hx
                subst hx
                exact ⟨_, by rw [Array.getElem?_push, if_pos g2.symm], hk, hv, rfl⟩⟩
            refine ⟨K', ?_, e2, e3, rfl, rfl, e4⟩
            rw [e1]
            simp [Instr.mapUpdate, run_underlying hu, Go.MapKept.run_getObj_map g1, Go.MapKept.run_checkKey hd hkey, Go.MapKept.run_findKey hd hfd, Go.MapKept.run_setObj_map _ g1, Result.andThen]
      · cases hs
    · cases hs
  · cases hs

theorem deleteH_run {h f : Hp} {t t' ty : TypeId} {x k : HV} {vx vk : Value} {r : ER} (hh : RH X K h) (hf : RH X K f) (hsub : ∀ id o, K.A id → o.live = true → h[id]? = some o → f[id]? = some o)
    (hx : RV K x vx) (hk : RV K k vk) (hs : deleteH X.P h t x k = some r) :
    ∃ K', (Builtin.delete_ #[t, t'] ty #[vx, vk]).run X.P K.w = .ok (.tuple #[]) K'.w ∧ Ext K f K' (setAll f r.ws) ∧ RH X K' (setAll f r.ws) ∧ r.x = .und ∧ r.ns = [] ∧ ∀ id, K'.A id ↔ K.A id := by
  unfold deleteH at hs
  split at hs
  · rename_i kt e d id hm
    obtain ⟨hu, hd⟩ := mapH_eq hm
    split at hs
    · rename_i kvs clock ho
      split at hs
      · rename_i hc
        obtain ⟨h1, h2⟩ := hc
        have hkey := isKeyH_key hk h1
        cases hx with
        | mp _ hA =>
          have hof := hsub id _ hA rfl ho
          obtain ⟨_, es, g1, g2, g3⟩ := hh.obj id _ hA ho
          have hfd := findH_sound hk h1 kvs es.toList 0 (by simpa using g2) (fun i x hx => by simpa using g3 i x hx) h2
          split at hs
          · rename_i i y he
            injection hs with hs; subst hs
            rw [he] at hfd
            obtain ⟨u, m, q1, q2, _, q4, q5⟩ := hfd
            have hj : es[i]? = some m := by simpa using q4
            have hil : i < es.size := (Array.getElem?_eq_some_iff.1 hj).1
            obtain ⟨K', e1, e2, e3, e4⟩ := RH.writeMap (kvs' := kvs.eraseIdx i) (clock' := clock) (es' := es.eraseIdxIfInBounds i) hf hA hof g1 ⟨by simp [Array.eraseIdxIfInBounds, hil, List.length_eraseIdx, ← g2], fun j x hx => by
              rw [List.getElem?_eraseIdx] at hx
              simp only [Array.eraseIdxIfInBounds, hil, dif_pos, Array.getElem?_eraseIdx]
              split at hx
              · rename_i hji; rw [if_pos hji]; exact g3 j x hx
              · rename_i hji; rw [if_neg hji]; exact g3 (j + 1) x hx⟩
            refine ⟨K', ?_, e2, e3, rfl, rfl, e4⟩
            rw [e1]
            simp [Builtin.delete_, run_underlying hu, Go.MapKept.run_getObj_map g1, Go.MapKept.run_checkKey hd hkey, Go.MapKept.run_findKey hd q1, Go.MapKept.run_setObj_map _ g1, Result.andThen]
          · rename_i he
            injection hs with hs; subst hs
            rw [he] at hfd
            obtain ⟨K', e1, e2, e3, e4⟩ := RH.writeMap (kvs' := kvs) (clock' := clock) (es' := es) hf hA hof g1 ⟨g2, g3⟩
            refine ⟨K', ?_, e2, e3, rfl, rfl, e4⟩
            rw [e1]
            simp [Builtin.delete_, run_underlying hu, Go.MapKept.run_getObj_map g1, Go.MapKept.run_checkKey hd hkey, Go.MapKept.run_findKey hd hfd, Go.MapKept.run_setObj_map _ g1, Result.andThen]
      · cases hs
    · cases hs
  · rename_i kt e d hm
    obtain ⟨hu, hd⟩ := mapH_eq hm
    split at hs
    · rename_i h1
      injection hs with hs; subst hs
      have hkey := isKeyH_key hk h1
      cases hx with
      | nul v hv =>
        refine ⟨K, ?_, .refl _ _, hf, rfl, rfl, fun _ => Iff.rfl⟩
        simp [Builtin.delete_, run_underlying hu, Go.MapKept.run_checkKey hd hkey, Result.andThen]
    · cases hs
  · cases hs

end
end Go.HL

/-
  HL, part M: iterators; copy; all operations with an effect in one theorem.
-/
namespace Go.HL

section
variable {X : PG} {K : KS}

def rangeH (P : Program) (h : Hp) (nid : Nat) (t : TypeId) (x : HV) : Option ER :=
  match P.underlying t, x with
  | some .string, .str s => some { x := .it nid, ns := [.sit s 0] }
  | some (.map _ _), .nul (.map none) => some { x := .it nid, ns := [.iter none 0 [] 0] }
  | some (.map _ _), .mp id => match h[id]? with | some (.map _ clock) => some { x := .it nid, ns := [.iter (some id) clock [] clock] } | _ => none
  | _, _ => none

/-- The next step of an iterator that leaves nothing open: over a string, over no map. -/
def nextH (h : Hp) (it : HV) (isString : Bool) : Option ER :=
  match it with
  | .it id =>
    match h[id]?, isString with
    | some (.sit s pos), true =>
      if pos < s.size then some { x := .tup [.bool true, .int .i64 pos, .int .i32 (Utf8.decode s pos).1], ws := [(id, .sit s (pos + (Utf8.decode s pos).2))] }
      else some { x := .tup [.bool false] }
    | some (.iter none _ _ _), false => some { x := .tup [.bool false] }
    | _, _ => none
  | _ => none

/-- What the next step of an iterator over a map may be. -/
def candH (kvs : List (HV × HV × Nat)) (since : Nat) (seen : List Nat) : List (Option (HV × HV × Nat)) :=
  let left := kvs.filter fun x => !seen.contains x.2.2
  let old := left.filter fun x => decide (x.2.2 < since)
  let new := left.filter fun x => decide (since ≤ x.2.2)
  (if old.isEmpty then [none] else []) ++ (old ++ new).map some

/-- The entry at which an iterator stands. -/
def entryH (h : Hp) (it : HV) : Option HV :=
  match it with
  | .it id =>
    match h[id]? with
    | some (.iter (some mid) _ seen last) =>
      match h[mid]?, seen.getLast? with
      | some (.map kvs clock), some stamp =>
        if clock = last then (kvs.find? fun x => x.2.2 == stamp).map fun x => .tup [x.1, x.2.1] else none
      | _, _ => none
    | _ => none
  | _ => none

theorem getObj_run {P : Program} {w : World} {r : Nat} {o : Obj} (hb : w.heap[r]? = some o) (hc : ∀ a b c, o ≠ .cells a b c := by intros; exact Obj.noConfusion) : (getObj r).run P w = .ok o w := by
  simp only [getObj, Sem.run, hb]

theorem mapLike.find {kvs : List (HV × HV × Nat)} {es : Array MapEntry} (hm : mapLike K kvs es) {stamp : Nat} {x : HV × HV × Nat} (hx : kvs.find? (fun x => x.2.2 == stamp) = some x) :
    ∃ m, es.find? (·.born == stamp) = some m ∧ RV K x.1 m.key ∧ RV K x.2.1 m.val := by
  obtain ⟨hs, hm⟩ := hm
  rw [← Array.find?_toList]
  have hs' : es.toList.length = kvs.length := by simpa using hs
  have hm' : ∀ (i : Nat) x, kvs[i]? = some x → ∃ m, es.toList[i]? = some m ∧ RV K x.1 m.key ∧ RV K x.2.1 m.val ∧ m.born = x.2.2 := fun i x hx => by simpa using hm i x hx
  generalize es.toList = l at hs' hm'
  clear hm hs
  induction kvs generalizing l with
  | nil => cases hx
  | cons y rest ih =>
    cases l with
    | nil => simp at hs'
    | cons m ms =>
      obtain ⟨m', e1, g1, g2, g3⟩ := hm' 0 y rfl
      simp only [List.getElem?_cons_zero, Option.some.injEq] at e1
      subst e1
      simp only [List.find?_cons] at hx ⊢
      rw [g3]
      split at hx
      · rename_i hb
        injection hx with hx; subst hx
        exact ⟨m, rfl, g1, g2⟩
      · rename_i hb
        exact ih hx ms (by simpa using hs') (fun i z hz => by obtain ⟨m', e, q⟩ := hm' (i + 1) z (by simpa using hz); exact ⟨m', by simpa using e, q⟩)

theorem entryH_sound {h : Hp} {it y : HV} {v : Value} (hh : RH X K h) (hx : RV K it v) (he : entryH h it = some y) : ∃ u, (Instr.entry v).run X.P K.w = .ok u K.w ∧ RV K y u := by
  unfold entryH at he
  split at he
  · rename_i id
    split at he
    · rename_i mid since seen last ho
      split at he
      · rename_i kvs clock stamp hm hlast
        split at he
        · rename_i hcl
          obtain ⟨x, hx', rfl⟩ := Option.map_eq_some_iff.1 he
          cases hx with
          | it _ hA =>
            obtain ⟨_, hAm, h1⟩ := hh.obj id _ hA ho
            obtain ⟨_, es, h2, h3⟩ := hh.obj mid _ (hAm mid rfl) hm
            obtain ⟨m, q1, q2, q3⟩ := h3.find hx'
            subst hcl
            refine ⟨.tuple #[m.key, m.val], ?_, .tup _ _ rfl (fun i hi => ?_)⟩
            · unfold Instr.entry
              simp [getObj_run h1, getObj_run h2, hlast, q1]
            · match i with
              | 0 => exact q2
              | 1 => exact q3
              | i + 2 => simp at hi; omega
        · cases he
      · cases he
    · cases he
  · cases he

/-- A block that is none of a row. -/
theorem RH.layObj {f : Hp} (hf : RH X K f) {nid : Nat} {ob : HO} {o : Obj} (hn : f[nid]? = some ob) (hA : ¬ K.A nid) (hr : RO X.P (K.lay nid 1 0 o) nid ob) :
    ∃ K', K'.w = K.w.alloc o ∧ Ext K f K' f ∧ RH X K' f ∧ K'.A nid ∧ K'.b nid = K.w.heap.size ∧ ∀ i, K'.A i ↔ K.A i ∨ (nid ≤ i ∧ i < nid + 1) := by
  obtain ⟨q1, q2⟩ := hf.lay hA hn hr
  exact ⟨_, rfl, q1, q2, .inr rfl, by simp [KS.lay], lay_A⟩

theorem rangeH_run {h f : Hp} {nid : Nat} {t : TypeId} {x : HV} {vx : Value} {r : ER} (hh : RH X K h) (hf : RH X K f) (hx : RV K x vx) (hs : rangeH X.P h nid t x = some r)
    (hn : ∀ i (hi : i < r.ns.length), f[nid + i]? = some r.ns[i]) (hA : ∀ i, i < r.ns.length → ¬ K.A (nid + i)) :
    ∃ v K', (Instr.range t vx).run X.P K.w = .ok v K'.w ∧ Ext K f K' (setAll f r.ws) ∧ RH X K' (setAll f r.ws) ∧ RV K' r.x v ∧ ∀ id, K'.A id ↔ K.A id ∨ (nid ≤ id ∧ id < nid + r.ns.length) := by
  unfold rangeH at hs
  split at hs
  · rename_i s hu
    injection hs with hs; subst hs
    have hn0 := hn 0 (by simp)
    have hA0 := hA 0 (by simp)
    simp only [Nat.add_zero] at hn0 hA0
    cases hx
    obtain ⟨K', e1, e2, e3, e4, e5, e6⟩ := RH.layObj (o := .stringIter s 0) hf hn0 hA0 ⟨by simp [KS.lay], by simp only [KS.lay, if_true]; exact alloc_new _ _⟩
    refine ⟨.pointer (some ⟨K'.b nid, 0, none⟩), K', ?_, e2, e3, .it nid e4, e6⟩
    rw [e1, e5]
    simp [Instr.range, run_underlying hu, Result.andThen]
  · rename_i hu
    injection hs with hs; subst hs
    have hn0 := hn 0 (by simp)
    have hA0 := hA 0 (by simp)
    simp only [Nat.add_zero] at hn0 hA0
    cases hx
    obtain ⟨K', e1, e2, e3, e4, e5, e6⟩ := RH.layObj (o := .mapIter none 0 #[] 0) hf hn0 hA0 ⟨by simp [KS.lay], (fun _ h => by cases h), by simp only [KS.lay, if_true]; exact alloc_new _ _⟩
    refine ⟨.pointer (some ⟨K'.b nid, 0, none⟩), K', ?_, e2, e3, .it nid e4, e6⟩
    rw [e1, e5]
    simp [Instr.range, run_underlying hu, Result.andThen]
  · rename_i id hu
    split at hs
    · rename_i kvs clock ho
      injection hs with hs; subst hs
      have hn0 := hn 0 (by simp)
      have hA0 := hA 0 (by simp)
      simp only [Nat.add_zero] at hn0 hA0
      cases hx with
      | mp _ hAi =>
        have hne : id ≠ nid := fun e => hA0 (e ▸ hAi)
        obtain ⟨_, es, h1, _⟩ := hh.obj id _ hAi ho
        obtain ⟨K', e1, e2, e3, e4, e5, e6⟩ := RH.layObj (o := .mapIter (some (K.b id)) clock #[] clock) hf hn0 hA0 ⟨by simp [KS.lay], (fun x h => by injection h with h; subst h; exact .inl hAi), by
          simp only [KS.lay, if_true, Option.map_some, if_neg hne]; exact alloc_new _ _⟩
        refine ⟨.pointer (some ⟨K'.b nid, 0, none⟩), K', ?_, e2, e3, .it nid e4, e6⟩
        rw [e1, e5]
        simp [Instr.range, run_underlying hu, getObj_run h1, Result.andThen]
    · cases hs
  · cases hs

theorem nextH_run {h f : Hp} {it : HV} {vi : Value} {b : Bool} {ty : TypeId} {r : ER} (hh : RH X K h) (hf : RH X K f) (hsub : ∀ id o, K.A id → o.live = true → h[id]? = some o → f[id]? = some o)
    (hx : RV K it vi) (hs : nextH h it b = some r) :
    ∃ v K', (Instr.next vi b ty).run X.P K.w = .ok v K'.w ∧ Ext K f K' (setAll f r.ws) ∧ RH X K' (setAll f r.ws) ∧ RV K' r.x v ∧ r.ns = [] ∧ ∀ id, K'.A id ↔ K.A id := by
  have over : ∀ K : KS, RV K (.tup [.bool false]) (.tuple #[.bool false]) := fun K => .tup _ _ rfl (fun i hi => by
    match i with
    | 0 => exact .bool false
    | i + 1 => simp at hi)
  unfold nextH at hs
  split at hs
  · rename_i id
    cases hx with
    | it _ hA =>
      split at hs
      · rename_i s pos ho
        obtain ⟨hc, h1⟩ := hh.obj id _ hA ho
        split at hs
        · rename_i hlt
          injection hs with hs; subst hs
          have hof := hsub id _ hA rfl ho
          obtain ⟨g1, g2⟩ := Go.MapKept.heap_set (o' := .stringIter s (pos + (Utf8.decode s pos).2)) h1
          obtain ⟨q1, q2⟩ := RH.write (w' := { K.w with heap := K.w.heap.setIfInBounds (K.b id) (.stringIter s (pos + (Utf8.decode s pos).2)) }) (ob' := .sit s (pos + (Utf8.decode s pos).2)) hf hA hof rfl hc (by simp) (fun b hne => g2 b hne) rfl rfl rfl
            (fun hle => ⟨hc, g1⟩)
          refine ⟨.tuple #[.bool true, goInt pos, .int .i32 (Utf8.decode s pos).1], _, ?_, q1, q2, .tup _ _ rfl (fun i hi => ?_), rfl, fun _ => Iff.rfl⟩
          · unfold Instr.next
            simp [getObj_run h1, hlt, setObj, Sem.run, h1]
          · match i with
            | 0 => exact .bool true
            | 1 => exact .int .i64 _
            | 2 => exact .int .i32 _
            | i + 3 => simp at hi; omega
        · rename_i hlt
          injection hs with hs; subst hs
          refine ⟨_, K, ?_, .refl _ _, hf, over K, rfl, fun _ => Iff.rfl⟩
          unfold Instr.next
          simp [getObj_run h1, hlt]
      · rename_i since seen last ho
        obtain ⟨hc, _, h1⟩ := hh.obj id _ hA ho
        injection hs with hs; subst hs
        refine ⟨_, K, ?_, .refl _ _, hf, over K, rfl, fun _ => Iff.rfl⟩
        unfold Instr.next
        simp only [Option.map_none] at h1
        simp [getObj_run h1]
      · cases hs
  · cases hs

/-- An operation with an effect. -/
def opE (X : PG) (own : Bool) (ρ : Operand → HV) (h : Hp) (nid : Nat) (o : Op) : Option ER :=
  match o with
  | .box t x => boxH X.P t nid (ρ x)
  | .alloc t => match zeroH X.P t with | some z => boxH X.P t nid z | none => none
  | .store t a x => storeH X.P h t (ρ a) (ρ x)
  | .buildSlice t len parts => buildSliceH X.P own nid t len (parts.toList.map fun p => (p.1, ρ p.2))
  | .makeSlice t l c => makeSliceH X.P nid t (ρ l) (ρ c)
  | .makeMap _ none => some { x := .mp nid, ns := [.map [] 0] }
  | .lookup t x k ok => (lookupH X.P h t (ρ x) (ρ k) ok).map fun x => { x := x }
  | .mapUpdate t m k x | .insert t m k x => mapUpdateH X.P h t (ρ m) (ρ k) (ρ x)
  | .range t x => rangeH X.P h nid t (ρ x)
  | .next it b => nextH h (ρ it) b
  | .entry it => (entryH h (ρ it)).map fun x => { x := x }
  | .call c =>
    match c.callee, c.argTypes.toList, c.args.toList with
    | .builtin .append, [t, t'], [s, y] => if t' = t then appendH X.P h nid t (ρ s) (ρ y) else none
    | .builtin .delete, [t, _], [m, k] => deleteH X.P h t (ρ m) (ρ k)
    | _, _, _ => (opV X ρ h o).map fun x => { x := x }
  | o => (opV X ρ h o).map fun x => { x := x }

theorem EffRun.opt {h f : Hp} {nid : Nat} {ρ : Operand → HV} {ρv : Operand → Value} {o : Oper} {r : ER} (hh : RH X K h) (hf : RH X K f) (hcst : ∀ v, ρv (.const v) = v) (hρ : ∀ y, RV K (ρ y) (ρv y)) (hs : (opV X ρ h o.op).map (fun x => ({ x := x } : ER)) = some r) :
    EffRun X K f nid ρv o r := by
  obtain ⟨x, h1, rfl⟩ := Option.map_eq_some_iff.1 hs
  exact .ofVal hf (opV_sound hh hcst hρ h1)

theorem EffRun.val {f : Hp} {nid : Nat} {ρv : Operand → Value} {o : Oper} {r : ER} {s : Sem Value} (he : execOp ρv o = (do pure (.value (← s)) : Sem Next))
    (h : ∃ v K', s.run X.P K.w = .ok v K'.w ∧ Ext K f K' (setAll f r.ws) ∧ RH X K' (setAll f r.ws) ∧ RV K' r.x v ∧ ∀ id, K'.A id ↔ K.A id ∨ (nid ≤ id ∧ id < nid + r.ns.length)) : EffRun X K f nid ρv o r := by
  obtain ⟨v, K', h1, h2⟩ := h
  exact ⟨v, K', .inl (by rw [he, Sem.run_bind, h1]; rfl), h2⟩

theorem EffRun.unit {f : Hp} {nid : Nat} {ρv : Operand → Value} {o : Oper} {r : ER} {s : Sem Unit} (he : execOp ρv o = (do s; pure .skip : Sem Next))
    (h : ∃ K', s.run X.P K.w = .ok () K'.w ∧ Ext K f K' (setAll f r.ws) ∧ RH X K' (setAll f r.ws) ∧ r.x = .und ∧ r.ns = [] ∧ ∀ id, K'.A id ↔ K.A id) : EffRun X K f nid ρv o r := by
  obtain ⟨K', h1, h2, h3, h4, h5, h6⟩ := h
  exact ⟨undef, K', .inr ⟨by rw [he, Sem.run_bind, h1]; rfl, rfl⟩, h2, h3, by rw [h4]; exact .und _, fun id => by rw [h5, h6]; simp; omega⟩

theorem exec_buildSlice {ρv : Operand → Value} {o : Oper} {t : TypeId} {len : Nat} {parts : Array (Nat × Operand)} (h : o.op = .buildSlice t len parts) :
    execOp ρv o = (do pure (.value (← Instr.buildSlice t len (parts.map fun p => (p.1, ρv p.2)))) : Sem Next) := by
  unfold execOp
  rw [h]

/-- What an operation says of the run: read in the heap 'h', carried out in the heap 'f', in which what is made stands already. -/
theorem opE_sound {h f : Hp} {own : Bool} {nid : Nat} {ρ : Operand → HV} {ρv : Operand → Value} {o : Oper} {r : ER} (hh : RH X K h) (hf : RH X K f) (hsub : ∀ id o, K.A id → o.live = true → h[id]? = some o → f[id]? = some o)
    (hcst : ∀ v, ρv (.const v) = v) (hρ : ∀ y, RV K (ρ y) (ρv y)) (hs : opE X own ρ h nid o.op = some r) (hn : ∀ i (hi : i < r.ns.length), f[nid + i]? = some r.ns[i]) (hA : ∀ i, i < r.ns.length → ¬ K.A (nid + i)) : EffRun X K f nid ρv o r := by
  obtain ⟨dst, op, type, pos, after, guard⟩ := o
  simp only at hs
  have nons : ∀ r' : ER, boxH X.P 0 0 .und = some r' → True := fun _ _ => trivial
  clear nons
  have box : ∀ (t : TypeId) (z : HV) (v : Value), RV K z v → boxH X.P t nid z = some r → ∃ K', K'.w = K.w.alloc (.cells v.cells t) ∧ Ext K f K' (setAll f r.ws) ∧ RH X K' (setAll f r.ws) ∧ RV K' r.x (.pointer (some ⟨K.w.heap.size, 0, none⟩)) ∧ ∀ id, K'.A id ↔ K.A id ∨ (nid ≤ id ∧ id < nid + r.ns.length) := fun t z v hz hb => by
    have hr : r = { x := .ep nid 0 0, ns := [.row t [z.cells]] } := by
      have hb' := hb
      unfold boxH at hb'
      split at hb'
      · injection hb' with hb'; exact hb'.symm
      · cases hb'
    have hn0 := hn 0 (by rw [hr]; simp)
    have hA0 := hA 0 (by rw [hr]; simp)
    subst hr
    exact boxH_run hf hz hb (by simpa using hn0) (by simpa using hA0)
  cases op with
  | box t x =>
    obtain ⟨K', e1, e2⟩ := box t _ _ (hρ x) hs
    exact .val (s := Instr.box t (ρv x)) rfl ⟨_, K', by rw [e1]; simp [Instr.box, newVar, newRow], e2⟩
  | alloc t =>
    simp only [opE] at hs
    split at hs
    · rename_i z hz
      obtain ⟨vz, z1, z2⟩ := run_zeroH (w := K.w) hz
      obtain ⟨K', e1, e2⟩ := box t _ _ (z2 K) hs
      exact .val (s := Instr.alloc t true (.tuple #[])) rfl ⟨_, K', by rw [e1]; simp [Instr.alloc, z1, newVar, newRow], e2⟩
    · cases hs
  | store t a x =>
    simp only [opE] at hs
    exact .unit (s := Instr.storeAt t (ρv a) (ρv x)) rfl (storeH_run hh hf hsub (hρ a) (hρ x) hs)
  | buildSlice t len parts =>
    simp only [opE] at hs
    refine .val (exec_buildSlice rfl) ?_
    have key := fun h1 h2 => @buildSliceH_run X K f own nid t len (parts.toList.map fun p => (p.1, ρ p.2)) (parts.map fun p => (p.1, ρv p.2)) r hf h1 h2 hs hn hA
    refine key (by simp) (fun j p q h1 h2 => ?_)
    simp only [List.getElem?_map, Array.toList_map] at h1 h2
    obtain ⟨p0, e1, e2⟩ := Option.map_eq_some_iff.1 h1
    obtain ⟨q0, e3, e4⟩ := Option.map_eq_some_iff.1 h2
    rw [e1] at e3
    injection e3 with e3
    subst e3 e2 e4
    exact ⟨rfl, hρ _⟩
  | makeSlice t l c =>
    simp only [opE] at hs
    exact .val (s := Instr.makeSlice t (ρv l) (ρv c)) rfl (makeSliceH_run hf (hρ l) (hρ c) hs hn hA)
  | makeMap t r' =>
    cases r' with
    | some y => simp [opE, opV] at hs
    | none =>
      simp only [opE, Option.some.injEq] at hs
      subst hs
      have hn0 := hn 0 (by simp)
      have hA0 := hA 0 (by simp)
      simp only [Nat.add_zero] at hn0 hA0
      obtain ⟨K', e1, e2, e3, e4, e5, e6⟩ := RH.layObj (o := .map #[] 0) hf hn0 hA0 ⟨by simp [KS.lay], #[], by simp only [KS.lay, if_true]; exact alloc_new _ _, by simp, fun i x hx => by simp at hx⟩
      refine .val (s := Instr.makeMap t none) rfl ⟨.map (some (K'.b nid)), K', ?_, e2, e3, .mp nid e4, e6⟩
      rw [e1, e5]
      simp [Instr.makeMap]
  | lookup t x k ok =>
    simp only [opE] at hs
    obtain ⟨y, h1, rfl⟩ := Option.map_eq_some_iff.1 hs
    exact .ofVal hf (ValRun.of rfl (lookupH_sound hh (hρ x) (hρ k) h1))
  | mapUpdate t m k x =>
    simp only [opE] at hs
    exact .unit (s := Instr.mapUpdate t (ρv m) (ρv k) (ρv x)) rfl (mapUpdateH_run hh hf hsub (hρ m) (hρ k) (hρ x) hs)
  | insert t m k x =>
    simp only [opE] at hs
    exact .unit (s := Instr.mapUpdate t (ρv m) (ρv k) (ρv x)) rfl (mapUpdateH_run hh hf hsub (hρ m) (hρ k) (hρ x) hs)
  | range t x =>
    simp only [opE] at hs
    exact .val (s := Instr.range t (ρv x)) rfl (rangeH_run hh hf (hρ x) hs hn hA)
  | next it b =>
    simp only [opE] at hs
    obtain ⟨v, K', e1, e2, e3, e4, e5, e6⟩ := nextH_run (ty := type) hh hf hsub (hρ it) hs
    exact .val (s := Instr.next (ρv it) b type) rfl ⟨v, K', e1, e2, e3, e4, fun id => by rw [e5, e6]; simp; omega⟩
  | entry it =>
    simp only [opE] at hs
    obtain ⟨y, h1, rfl⟩ := Option.map_eq_some_iff.1 hs
    exact .ofVal hf (ValRun.of rfl (entryH_sound hh (hρ it) h1))
  | call c =>
    simp only [opE] at hs
    obtain ⟨callee, args, argTypes⟩ := c
    simp only at hs
    split at hs
    · rename_i t t' s y ht hargs
      split at hs
      · rename_i heq
        subst heq
        have ea : args = #[s, y] := by cases args; simp_all
        have et : argTypes = #[t', t'] := by cases argTypes; simp_all
        subst ea et
        refine .val (s := Builtin.append_ #[t', t'] type #[ρv s, ρv y]) ?_ (appendH_run hh hf hsub (hρ s) (hρ y) hs hn hA)
        unfold execOp
        simp [resolve, invoke, builtin]
      · cases hs
    · rename_i t t' m k ht hargs
      have ea : args = #[m, k] := by cases args; simp_all
      have et : argTypes = #[t, t'] := by cases argTypes; simp_all
      subst ea et
      obtain ⟨K', e1, e2, e3, e4, e5, e6⟩ := deleteH_run (ty := type) (t' := t') hh hf hsub (hρ m) (hρ k) hs
      refine .val (s := Builtin.delete_ #[t, t'] type #[ρv m, ρv k]) ?_ ⟨_, K', e1, e2, e3, by rw [e4]; exact .und _, fun id => by rw [e5, e6]; simp; omega⟩
      unfold execOp
      simp [resolve, invoke, builtin]
    · exact .opt hh hf hcst hρ hs
  | _ => exact .opt hh hf hcst hρ hs

end
end Go.HL

