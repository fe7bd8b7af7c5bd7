/-
  HL, part E: the operations that hand back a value, all in one function; that the model's operations do the same.
-/
import Derived.Test.YthfobbfechdoaaaHlD
namespace Go.HL

def unH (op : UnOp) : HV → Option HV
  | .bool b => match op with | .not => some (.bool !b) | _ => none
  | .int k n => match op with | .neg => some (.int k (k.wrap (0 - n))) | _ => none
  | _ => none

def convH (P : Program) (src dst : TypeId) (x : HV) : Option HV :=
  match P.underlying src, P.underlying dst, x with
  | some _, some (.int k), .int _ n => some (.int k (k.wrap n))
  | some _, some .string, .str s => some (.str s)
  | _, _, _ => none

/-- Cells 'zs' put over 'cs' at 'off'. -/
def putCells (cs : List HV) (off : Nat) (zs : List HV) : List HV := cs.take off ++ zs ++ cs.drop (off + zs.length)

def fillH (place : Nat → Option (Nat × Nat)) (cells : List HV) : List (Nat × HV) → Option (List HV)
  | [] => some cells
  | (i, x) :: rest =>
    match place i with
    | none => none
    | some (off, size) => if x.cells.length = size ∧ off + size ≤ cells.length ∧ x.cells.all HV.one = true then fillH place (putCells cells off x.cells) rest else none

/-- One bound of a slice expression. -/
def bndH (dflt lim : Nat) : Option HV → Option Nat
  | none => some dflt
  | some (.int _ n) => if 0 ≤ n ∧ n ≤ lim then some n.toNat else none
  | _ => none

/-- The bounds of a slice expression: low, high. -/
def boundsH (len : Nat) (lo hi : Option HV) : Option (Nat × Nat) :=
  match bndH len len hi with
  | none => none
  | some b =>
    match bndH 0 b lo with
    | none => none
    | some l => some (l, b)

def sliceH (P : Program) (h : Hp) (t : TypeId) (x : HV) (lo hi mx : Option HV) : Option HV :=
  match x with
  | .str s =>
    match P.underlying t with
    | some .string =>
      match mx with
      | none => (boundsH s.size lo hi).map fun lb => .str (s.extract lb.1 lb.2)
      | _ => none
    | _ => none
  | .sl full es =>
    match (elemH P t).bind (szH P) with
    | none => none
    | some k =>
      match mx with
      | none =>
        match boundsH es.length lo hi with
        | none => none
        | some lb => if ∀ cs ∈ es, cs.length = k then some (.sl (full && decide (lb.2 = es.length)) ((es.drop lb.1).take (lb.2 - lb.1))) else none
      | some (.int _ m) =>
        if 0 ≤ m ∧ m ≤ es.length ∧ hi ≠ none then
          match boundsH m.toNat lo hi with
          | none => none
          | some lb => if ∀ cs ∈ es, cs.length = k then some (.sl (decide (lb.2 = m.toNat)) ((es.drop lb.1).take (lb.2 - lb.1))) else none
        else none
      | _ => none
  | .ow id lo0 len =>
    match (elemH P t).bind (szH P), h[id]? with
    | some k, some (.row _ es) =>
      match mx with
      | none =>
        match boundsH len lo hi with
        | none => none
        | some lb =>
          if lb.2 = lb.1 then some (.sl false []) else
          match es[lo0 + lb.1]? with
          | some cs => if cs.length = k then some (.ow id (lo0 + lb.1) (lb.2 - lb.1)) else none
          | none => none
      | some (.int _ 0) =>
        match boundsH 0 lo hi with
        | none => none
        | some _ => if hi = none then none else some (.sl true [])
      | _ => none
    | _, _ => none
  | _ => none

def fieldAddrH (P : Program) (t : TypeId) (x : HV) (f : Nat) : Option HV :=
  match structH P t with
  | none => none
  | some fl =>
    match fl[f]? with
    | none => none
    | some (off, size, _) =>
      if size = 0 then none else
      match x with
      | .ip cs => some (.ip (cs.drop off))
      | .ep id i o => some (.ep id i (o + off))
      | _ => none

/-- A part of an aggregate. -/
def partH (ag : Bool) (cs : List HV) (off size : Nat) : Option HV :=
  if ag then (if off + size ≤ cs.length then some (.agg ((cs.drop off).take size)) else none) else cs[off]?

def fieldValH (P : Program) (t : TypeId) (x : HV) (f : Nat) : Option HV :=
  match structH P t, x with
  | some fl, .agg cs =>
    match fl[f]? with
    | none => none
    | some (off, size, ag) => partH ag cs off size
  | _, _ => none

def indexAddrH (P : Program) (h : Hp) (t : TypeId) (x i : HV) : Option HV :=
  match i with
  | .int _ n =>
    if 0 ≤ n then
      match x with
      | .sl _ es =>
        match elemH P t with
        | none => none
        | some e =>
          match es[n.toNat]? with
          | none => none
          | some cs => if szH P e = some cs.length then some (.ip cs) else none
      | .ow id lo len =>
        match elemH P t, h[id]? with
        | some e, some (.row _ es) =>
          if n < len then
            match es[lo + n.toNat]? with
            | none => none
            | some cs => if szH P e = some cs.length then some (.ep id (lo + n.toNat) 0) else none
          else none
        | _, _ => none
      | .ip cs =>
        match arrH P t with
        | none => none
        | some (len, e) =>
          match szH P e with
          | none => none
          | some k => if n < len then some (.ip (cs.drop (n.toNat * k))) else none
      | .ep id j off =>
        match arrH P t with
        | none => none
        | some (len, e) =>
          match szH P e with
          | none => none
          | some k => if n < len then some (.ep id j (off + n.toNat * k)) else none
      | _ => none
    else none
  | _ => none

def indexH (P : Program) (t : TypeId) (x i : HV) : Option HV :=
  match i with
  | .int _ n =>
    if 0 ≤ n then
      match x with
      | .str s => match P.underlying t, s[n.toNat]? with | some .string, some b => some (.int .u8 b.toNat) | _, _ => none
      | .agg cs =>
        match arrH P t with
        | none => none
        | some (len, e) =>
          match szH P e, isAggH P e with
          | some k, some ag => if n < len then partH ag cs (n.toNat * k) k else none
          | _, _ => none
      | _ => none
    else none
  | _ => none

def buildH (P : Program) (t : TypeId) (parts : List (Nat × HV)) : Option HV :=
  match zeroH P t with
  | some (.agg z) =>
    match structH P t with
    | some fl => (fillH (fun i => (fl[i]?).map fun x => (x.1, x.2.1)) z parts).map .agg
    | none =>
      match arrH P t with
      | none => none
      | some (_, e) =>
        match szH P e with
        | none => none
        | some k => (fillH (fun i => some (i * k, k)) z parts).map .agg
  | _ => none

def lenH (P : Program) (h : Hp) (t : TypeId) (x : HV) : Option HV :=
  match x with
  | .sl _ es => (elemH P t).map fun _ => .int .i64 es.length
  | .ow _ _ len => (elemH P t).map fun _ => .int .i64 len
  | .str s => match P.underlying t with | some .string => some (.int .i64 s.size) | _ => none
  | .nul (.map none) => match P.underlying t with | some (.map _ _) => some (.int .i64 0) | _ => none
  | .mp id =>
    match P.underlying t, h[id]? with
    | some (.map _ _), some (.map kvs _) => some (.int .i64 kvs.length)
    | _, _ => none
  | _ => none

def min2H : HV → HV → Option HV
  | .int k x, .int k' y => if k = k' then some (.int k (if y < x then y else x)) else none
  | _, _ => none

def max2H : HV → HV → Option HV
  | .int k x, .int k' y => if k = k' then some (.int k (if x < y then y else x)) else none
  | _, _ => none

def fold2H (f : HV → HV → Option HV) (x : HV) : List HV → Option HV
  | [] => some x
  | y :: rest => match f x y with | some z => fold2H f z rest | none => none

def foldH (f : HV → HV → Option HV) : List HV → Option HV
  | [] => none
  | x :: rest => fold2H f x rest

def extractH (x : HV) (i : Nat) : Option HV :=
  match x with
  | .tup vs => vs[i]?
  | _ => none

/-- An operation that hands back a value and turns nothing. -/
def opV (X : PG) (ρ : Operand → HV) (h : Hp) (o : Op) : Option HV :=
  match o with
  | .move x => some (ρ x)
  | .assign x => some (ρ x)
  | .pick c a b => match ρ c with | .bool t => some (if t then ρ a else ρ b) | _ => none
  | .load t a => loadH X.P h t (ρ a)
  | .nilCheck x =>
    match ρ x with
    | .ip cs => some (.ip cs)
    | .ep id i off => some (.ep id i off)
    | .fn (.func f) a b => some (.fn (.func f) a b)
    | _ => none
  | .binOp op t x y _ => binH X.P op t (ρ x) (ρ y)
  | .unOp op _ x => unH op (ρ x)
  | .convert src dst x => convH X.P src dst (ρ x)
  | .makeFunc fn first captured => some (.fn fn (first.toList.map ρ) (captured.toList.map ρ))
  | .slice t x lo hi mx => sliceH X.P h t (ρ x) (lo.map ρ) (hi.map ρ) (mx.map ρ)
  | .fieldAddr s x f => fieldAddrH X.P s (ρ x) f
  | .field t x f => fieldValH X.P t (ρ x) f
  | .indexAddr t x i => indexAddrH X.P h t (ρ x) (ρ i)
  | .index t x i => indexH X.P t (ρ x) (ρ i)
  | .extract x i => extractH (ρ x) i
  | .build t parts => buildH X.P t (parts.toList.map fun p => (p.1, ρ p.2))
  | .call c =>
    match c.callee with
    | .builtin .len => match c.argTypes.toList, c.args.toList with | t :: _, [x] => lenH X.P h t (ρ x) | _, _ => none
    | .builtin .min => foldH min2H (c.args.toList.map ρ)
    | .builtin .max => foldH max2H (c.args.toList.map ρ)
    | _ => none
  | _ => none

/-- A value operation's run. -/
def ValRun (X : PG) (K : KS) (ρv : Operand → Value) (o : Oper) (x : HV) : Prop := ∃ v, (execOp ρv o).run X.P K.w = .ok (.value v) K.w ∧ RV K x v

theorem ValRun.of {X : PG} {K : KS} {ρv : Operand → Value} {o : Oper} {x : HV} {s : Sem Value} (he : execOp ρv o = (do pure (.value (← s)) : Sem Next)) (h : ∃ v, s.run X.P K.w = .ok v K.w ∧ RV K x v) : ValRun X K ρv o x := by
  obtain ⟨v, h1, h2⟩ := h
  exact ⟨v, by rw [he, Sem.run_bind, h1]; rfl, h2⟩

section
variable {X : PG} {K : KS} {h : Hp}

theorem RV.ofInt {k : IntKind} {n : Int} {v : Value} (hr : RV K (.int k n) v) : v = .int k n := by cases hr; rfl
theorem RV.ofStr {s : ByteArray} {v : Value} (hr : RV K (.str s) v) : v = .string s := by cases hr; rfl

theorem unH_sound {op : UnOp} {x y : HV} {v : Value} (hx : RV K x v) (hu : unH op x = some y) : ∃ u, (Op.unary op v).run X.P K.w = .ok u K.w ∧ RV K y u := by
  cases hx <;> simp only [unH] at hu <;> try (cases hu; done)
  · split at hu
    · injection hu with hu; subst hu; exact ⟨_, rfl, .bool _⟩
    · cases hu
  · split at hu
    · injection hu with hu; subst hu; exact ⟨_, rfl, .int _ _⟩
    · cases hu

theorem convH_sound {s d : TypeId} {x y : HV} {v : Value} (hx : RV K x v) (hu : convH X.P s d x = some y) : ∃ u, (convert s d v).run X.P K.w = .ok u K.w ∧ RV K y u := by
  unfold convH at hu
  split at hu
  · rename_i h1 h2
    have := hx.ofInt
    subst this
    injection hu with hu
    subst hu
    refine ⟨_, ?_, .int _ _⟩
    unfold convert
    rw [Sem.run_bind, run_underlying h1, Result.andThen_ok, Sem.run_bind, run_underlying h2]
    rfl
  · rename_i d h1 h2
    have := hx.ofStr
    subst this
    injection hu with hu
    subst hu
    refine ⟨.string _, ?_, .str _⟩
    unfold convert
    rw [Sem.run_bind, run_underlying h1, Result.andThen_ok, Sem.run_bind, run_underlying h2]
    cases d <;> rfl
  · cases hu

theorem run_part {t : TypeId} {cs : List HV} {vs : Array Value} {off k : Nat} {ag : Bool} {y : HV} (hlen : cs.length = vs.size) (hr : ∀ i (hi : i < cs.length), RV K cs[i] (vs[i]'(hlen ▸ hi))) (hk : szH X.P t = some k) (hag : isAggH X.P t = some ag)
    (hp : partH ag cs off k = some y) : ∃ u, (part t vs off).run X.P K.w = .ok u K.w ∧ RV K y u := by
  unfold partH at hp
  unfold part
  rw [Sem.run_bind, run_isAggH hag, Result.andThen_ok]
  cases ag with
  | true =>
    simp only [if_true] at hp ⊢
    split at hp
    · rename_i hle
      injection hp with hp
      subst hp
      rw [Sem.run_bind, run_szH hk]
      refine ⟨_, rfl, .agg _ _ (by simp; omega) (fun i hi => ?_)⟩
      simp at hi ⊢
      exact hr (off + i) (by omega)
    · cases hp
  | false =>
    simp only [Bool.false_eq_true, if_false] at hp ⊢
    obtain ⟨h0, e0⟩ := List.getElem?_eq_some_iff.1 hp
    have h0' : off < vs.size := by omega
    simp only [Array.getElem?_eq_getElem h0']
    exact ⟨_, rfl, by rw [← e0]; exact hr off h0⟩

/-- The cells of a filled aggregate. -/
theorem foldl_set (us : List Value) : ∀ (vs : Array Value) (off j0 : Nat) (i : Nat), ((us.zipIdx j0).foldl (fun cs (p : Value × Nat) => cs.setIfInBounds (off + p.2) p.1) vs)[i]? =
    if off + j0 ≤ i ∧ i < off + j0 + us.length ∧ i < vs.size then us[i - (off + j0)]? else vs[i]? := by
  induction us with
  | nil => intro vs off j0 i; simp; omega
  | cons u us ih =>
    intro vs off j0 i
    simp only [List.zipIdx_cons, List.foldl_cons]
    rw [ih]
    simp only [Array.size_setIfInBounds, List.length_cons]
    by_cases h1 : i = off + j0
    · subst h1
      rw [if_neg (by omega)]
      by_cases h2 : off + j0 < vs.size
      · rw [if_pos (by omega)]
        simp [h2]
      · rw [if_neg (by omega)]
        simp [h2]
    · rw [Array.getElem?_setIfInBounds_ne (by omega)]
      by_cases h2 : off + j0 + 1 ≤ i ∧ i < off + j0 + 1 + us.length ∧ i < vs.size
      · rw [if_pos (by omega), if_pos (by omega)]
        rw [show i - (off + j0) = (i - (off + (j0 + 1))) + 1 from by omega]
        simp
      · rw [if_neg (by omega), if_neg (by omega)]

theorem size_foldl_set (us : List Value) : ∀ (vs : Array Value) (off j0 : Nat), ((us.zipIdx j0).foldl (fun cs (p : Value × Nat) => cs.setIfInBounds (off + p.2) p.1) vs).size = vs.size := by
  induction us with
  | nil => intro vs off j0; rfl
  | cons u us ih => intro vs off j0; simp only [List.zipIdx_cons, List.foldl_cons]; rw [ih]; simp

/-- Two rows of cells, one by one. -/
def RL (K : KS) (cs : List HV) (vs : Array Value) : Prop := cs.length = vs.size ∧ ∀ (i : Nat) (x : HV), cs[i]? = some x → ∃ v, vs[i]? = some v ∧ RV K x v

theorem RL.of {cs : List HV} {vs : Array Value} (hlen : cs.length = vs.size) (hr : ∀ i (hi : i < cs.length), RV K cs[i] (vs[i]'(hlen ▸ hi))) : RL K cs vs :=
  ⟨hlen, fun i x hx => by
    obtain ⟨h0, e0⟩ := List.getElem?_eq_some_iff.1 hx
    exact ⟨vs[i]'(by omega), Array.getElem?_eq_getElem _, by rw [← e0]; exact hr i h0⟩⟩

theorem RL.get {cs : List HV} {vs : Array Value} (hl : RL K cs vs) (i : Nat) (hi : i < cs.length) : RV K cs[i] (vs[i]'(hl.1 ▸ hi)) := by
  obtain ⟨v, h1, h2⟩ := hl.2 i _ (List.getElem?_eq_getElem hi)
  obtain ⟨_, e⟩ := Array.getElem?_eq_some_iff.1 h1
  rw [e]; exact h2

theorem RL.put {cs zs : List HV} {vs us : Array Value} {off : Nat} (h1 : RL K cs vs) (h2 : RL K zs us) (hle : off + zs.length ≤ cs.length) :
    RL K (putCells cs off zs) (us.zipIdx.foldl (fun cs (p : Value × Nat) => cs.setIfInBounds (off + p.2) p.1) vs) := by
  have hsz : zs.length = us.size := h2.1
  have e0 : us.zipIdx.foldl (fun cs (p : Value × Nat) => cs.setIfInBounds (off + p.2) p.1) vs = (us.toList.zipIdx 0).foldl (fun cs (p : Value × Nat) => cs.setIfInBounds (off + p.2) p.1) vs := by
    rw [← Array.foldl_toList]; simp
  rw [e0]
  refine ⟨by rw [size_foldl_set]; simp [putCells]; have := h1.1; omega, fun i x hx => ?_⟩
  rw [foldl_set]
  simp only [Nat.add_zero, Array.length_toList]
  unfold putCells at hx
  have hvs := h1.1
  by_cases hA : i < off
  · rw [if_neg (by omega)]
    rw [List.append_assoc, List.getElem?_append_left (by simp; omega), List.getElem?_take, if_pos hA] at hx
    exact h1.2 i x hx
  · by_cases hB : i < off + zs.length
    · rw [if_pos (by omega)]
      rw [List.append_assoc, List.getElem?_append_right (by simp; omega), List.getElem?_append_left (by simp; omega)] at hx
      obtain ⟨v, g1, g2⟩ := h2.2 _ x hx
      refine ⟨v, ?_, g2⟩
      rw [Array.getElem?_toList, ← g1]
      congr 1
      simp
      omega
    · rw [if_neg (by omega)]
      rw [List.getElem?_append_right (by simp; omega), List.getElem?_drop] at hx
      obtain ⟨v, g1, g2⟩ := h1.2 _ x hx
      refine ⟨v, ?_, g2⟩
      rw [← g1]
      congr 1
      simp
      omega

theorem one_cells {x : HV} (hx : x.cells.all HV.one = true) : x ≠ .und ∧ ∀ l, x ≠ .tup l := by
  constructor
  · rintro rfl; simp [HV.cells, HV.one] at hx
  · rintro l rfl; simp [HV.cells, HV.one] at hx

theorem RV.rl {x : HV} {v : Value} (hx : RV K x v) (ho : x.cells.all HV.one = true) : RL K x.cells v.cells := by
  obtain ⟨h1, h2⟩ := one_cells ho
  obtain ⟨g1, g2⟩ := hx.cells h1 h2
  exact RL.of g1 (fun i hi => g2 i hi (by omega))

theorem fillH_sound {place : Nat → Option (Nat × Nat)} : ∀ (parts : List (Nat × HV)) (vparts : List (Nat × Value)) (cells res : List HV) (vs : Array Value), parts.length = vparts.length →
    (∀ (j : Nat) p q, parts[j]? = some p → vparts[j]? = some q → p.1 = q.1 ∧ RV K p.2 q.2) → RL K cells vs → fillH place cells parts = some res → ∃ us, Instr.fill place vs vparts = some us ∧ RL K res us := by
  intro parts
  induction parts with
  | nil =>
    intro vparts cells res vs hl _ hrl hf
    cases vparts with
    | nil => simp [fillH] at hf; subst hf; exact ⟨vs, rfl, hrl⟩
    | cons _ _ => simp at hl
  | cons p parts ih =>
    intro vparts cells res vs hl hp hrl hf
    cases vparts with
    | nil => simp at hl
    | cons q vparts =>
      obtain ⟨i, x⟩ := p
      obtain ⟨i', v⟩ := q
      obtain ⟨e1, hx⟩ := hp 0 _ _ rfl rfl
      simp only at e1 hx
      subst e1
      simp only [fillH] at hf
      cases hpl : place i with
      | none => simp [hpl] at hf
      | some os =>
        obtain ⟨off, size⟩ := os
        simp only [hpl] at hf
        split at hf
        · rename_i hc
          obtain ⟨hsz, hle, hone⟩ := hc
          have hxl := hx.rl hone
          have hput := hrl.put (off := off) hxl (by omega)
          obtain ⟨us, g1, g2⟩ := ih vparts _ res _ (by simpa using hl) (fun j p q h1 h2 => hp (j + 1) p q h1 h2) hput hf
          refine ⟨us, ?_, g2⟩
          simp only [Instr.fill, hpl]
          have hs1 : v.cells.size = size := by rw [← hxl.1]; exact hsz
          have hs2 := hrl.1
          rw [if_neg (by simp [hs1]; omega)]
          exact g1
        · cases hf

theorem fieldsH_mapM : ∀ {fs : List Field} {l : List (Nat × Nat × Bool)} {w : World}, fieldsH X.P fs = some l → (fs.mapM (fun f => do pure (f.offset, ← sizeOf f.type) : Field → Sem (Nat × Nat))).run X.P w = .ok (l.map fun x => (x.1, x.2.1)) w := by
  intro fs
  induction fs with
  | nil => intro l w hf; simp [fieldsH] at hf; subst hf; simp
  | cons f fs ih =>
    intro l w hf
    simp only [fieldsH] at hf
    split at hf
    · rename_i k g r h1 h2 h3
      injection hf with hf
      subst hf
      simp only [List.mapM_cons, Sem.run_bind, run_szH h1, Result.andThen_ok, Sem.run_pure, ih h3, List.map_cons]
    · cases hf

theorem buildH_sound {t : TypeId} {parts : List (Nat × HV)} {vparts : Array (Nat × Value)} {x : HV} (hl : parts.length = vparts.size)
    (hp : ∀ (j : Nat) p q, parts[j]? = some p → vparts.toList[j]? = some q → p.1 = q.1 ∧ RV K p.2 q.2) (hb : buildH X.P t parts = some x) : ∃ v, (Instr.build t vparts).run X.P K.w = .ok v K.w ∧ RV K x v := by
  unfold buildH at hb
  split at hb
  · rename_i z hz
    obtain ⟨zv, h1, h2⟩ := run_zeroH (w := K.w) hz
    have hzr := h2 K
    cases hzr with
    | agg _ vs g1 g2 =>
      have hrl : RL K z vs := RL.of g1 g2
      unfold Instr.build
      rw [Sem.run_bind, h1]
      simp only [Result.andThen_ok, Value.cells]
      split at hb
      · rename_i fl hfl
        obtain ⟨fs, hu, hfs⟩ := structH_get hfl
        obtain ⟨res, hres, rfl⟩ := Option.map_eq_some_iff.1 hb
        obtain ⟨us, f1, f2⟩ := fillH_sound parts vparts.toList z res vs (by simpa using hl) hp hrl hres
        rw [Sem.run_bind, run_underlying hu]
        simp only [Result.andThen_ok]
        rw [Sem.run_bind, Array.mapM_eq_mapM_toList, Sem.run_map, fieldsH_mapM hfs]
        simp only [Result.andThen_ok]
        have e1 : (fun x => (List.map (fun x : Nat × Nat × Bool => (x.1, x.2.1)) fl).toArray[x]?) = fun (i : Nat) => (fl[i]?).map fun (x : Nat × Nat × Bool) => (x.1, x.2.1) := by
          funext i; simp
        rw [e1, f1]
        exact ⟨_, rfl, .agg _ _ f2.1 (fun i hi => f2.get i hi)⟩
      · rename_i hfl
        split at hb
        · cases hb
        · rename_i n e ha
          split at hb
          · cases hb
          · rename_i k hk
            obtain ⟨res, hres, rfl⟩ := Option.map_eq_some_iff.1 hb
            obtain ⟨us, f1, f2⟩ := fillH_sound parts vparts.toList z res vs (by simpa using hl) hp hrl hres
            rw [Sem.run_bind, run_underlying (arrH_eq ha)]
            simp only [Result.andThen_ok]
            rw [Sem.run_bind, run_szH hk]
            simp only [Result.andThen_ok]
            rw [f1]
            exact ⟨_, rfl, .agg _ _ f2.1 (fun i hi => f2.get i hi)⟩
  · cases hb

/-- Two optional operands. -/
def OV (K : KS) : Option HV → Option Value → Prop
  | none, none => True
  | some x, some v => RV K x v
  | _, _ => False

theorem OV.map {ρ : Operand → HV} {ρv : Operand → Value} (hρ : ∀ x, RV K (ρ x) (ρv x)) (o : Option Operand) : OV K (o.map ρ) (o.map ρv) := by
  cases o with
  | none => trivial
  | some x => exact hρ x

theorem bnd_run {P : Program} {w : World} {d lim y n : Nat} {x : Option HV} {v : Option Value} (code : BoundsCode) (ho : OV K x v) (hd : d ≤ lim) (hy : lim ≤ y) (hb : bndH d lim x = some n) :
    n ≤ lim ∧ (v = none → n = d) ∧ ∀ u, v = some u → (Instr.sliceBound u y code).run P w = .ok n w := by
  unfold bndH at hb
  split at hb
  · injection hb with hb; subst hb
    cases v with
    | none => exact ⟨hd, fun _ => rfl, fun u hu => by cases hu⟩
    | some u => exact ho.elim
  · split at hb
    · rename_i k m hm
      injection hb with hb; subst hb
      cases v with
      | none => exact ho.elim
      | some u =>
        have := RV.ofInt (show RV K (.int k m) u from ho)
        subst this
        refine ⟨by omega, fun hu => by (cases hu), fun u hu => ?_⟩
        injection hu with hu; subst hu
        simp only [Instr.sliceBound, Sem.run_bind, asIntOf, Sem.run_pure, Result.andThen_ok]
        rw [if_pos (by omega)]
        rfl
    · cases hb
  · cases hb

/-- A slice expression's bounds, as the model reckons them. -/
theorem boundsH_run {P : Program} {w : World} {isSlice : Bool} {len cap : Nat} {lo hi : Option HV} {vlo vhi : Option Value} {l b : Nat} (hcap : len ≤ cap) (h1 : OV K lo vlo) (h2 : OV K hi vhi)
    (hb : boundsH len lo hi = some (l, b)) : l ≤ b ∧ b ≤ len ∧ (Instr.sliceBounds isSlice len cap vlo vhi none).run P w = .ok (l, b, cap) w := by
  unfold boundsH at hb
  cases e1 : bndH len len hi with
  | none => simp [e1] at hb
  | some b' =>
    simp only [e1] at hb
    cases e2 : bndH 0 b' lo with
    | none => simp [e2] at hb
    | some l' =>
      simp only [e2, Option.some.injEq, Prod.mk.injEq] at hb
      obtain ⟨rfl, rfl⟩ := hb
      obtain ⟨g1, g2, g3⟩ := bnd_run (P := P) (w := w) (y := cap) (if isSlice = true then .sliceAcap else .sliceAlen) h2 (Nat.le_refl _) hcap e1
      obtain ⟨f1, f2, f3⟩ := bnd_run (P := P) (w := w) (y := b') .sliceB h1 (Nat.zero_le _) (Nat.le_refl _) e2
      refine ⟨f1, g1, ?_⟩
      unfold Instr.sliceBounds
      cases vhi with
      | none =>
        have := g2 rfl
        subst this
        cases vlo with
        | none => have := f2 rfl; subst this; simp
        | some u => simp [f3 u rfl]
      | some u' =>
        have e3 := g3 u' rfl
        cases vlo with
        | none => have := f2 rfl; subst this; simp [e3]
        | some u => simp [e3, f3 u rfl]

theorem boundsH_run3 {P : Program} {w : World} {len cap m : Nat} {k : IntKind} {lo hi : Option HV} {vlo vhi : Option Value} {l b : Nat} (hm : m ≤ cap) (h1 : OV K lo vlo) (h2 : OV K hi vhi) (hhi : hi ≠ none)
    (hb : boundsH m lo hi = some (l, b)) : l ≤ b ∧ b ≤ m ∧ (Instr.sliceBounds true len cap vlo vhi (some (.int k m))).run P w = .ok (l, b, m) w := by
  unfold boundsH at hb
  cases e1 : bndH m m hi with
  | none => simp [e1] at hb
  | some b' =>
    simp only [e1] at hb
    cases e2 : bndH 0 b' lo with
    | none => simp [e2] at hb
    | some l' =>
      simp only [e2, Option.some.injEq, Prod.mk.injEq] at hb
      obtain ⟨rfl, rfl⟩ := hb
      obtain ⟨g1, g2, g3⟩ := bnd_run (P := P) (w := w) (y := m) .slice3B h2 (Nat.le_refl _) (Nat.le_refl _) e1
      obtain ⟨f1, f2, f3⟩ := bnd_run (P := P) (w := w) (y := b') .slice3C h1 (Nat.zero_le _) (Nat.le_refl _) e2
      refine ⟨f1, g1, ?_⟩
      have em : (Instr.sliceBound (.int k m) cap .slice3Acap).run P w = .ok m w := by
        simp only [Instr.sliceBound, Sem.run_bind, asIntOf, Sem.run_pure, Result.andThen_ok]
        rw [if_pos (by omega)]
        simp
      unfold Instr.sliceBounds
      cases vhi with
      | none => cases hi with
        | none => exact absurd rfl hhi
        | some _ => exact h2.elim
      | some u' =>
        have e3 := g3 u' rfl
        cases vlo with
        | none => have := f2 rfl; subst this; simp [e3, em]
        | some u => simp [e3, em, f3 u rfl]

theorem RV.slice_some {full : Bool} {es : List (List HV)} {v : Value} (hr : RV K (.sl full es) v) : ∃ a cap, v = .slice a es.length cap ∧ es.length ≤ cap ∧ cap ≤ maxLen ∧ (full = true → cap = es.length) ∧ (a = none → cap = 0) ∧
    (0 < es.length → ∃ (k b off : Nat) (cv : Nat → Nat → Value), a = some ⟨b, off, none⟩ ∧ b < K.w.heap.size ∧ ¬ K.L b ∧ (∀ i (hi : i < es.length), es[i].length = k) ∧
      (∀ i (hi : i < es.length) j (_ : j < es[i].length), K.w.cell? ⟨b, off + i * k + j, none⟩ = some (cv i j)) ∧ (∀ i (hi : i < es.length) j (hj : j < es[i].length), RV K es[i][j] (cv i j))) := by
  cases hr with
  | sl0 full a cap h1 h2 h3 => exact ⟨a, cap, rfl, Nat.zero_le _, h3, h2, h1, fun h => absurd h (Nat.lt_irrefl _)⟩
  | sl full es k b off cap cv h0 h1 h2 h3 hb hL hk hc hr => exact ⟨_, cap, rfl, h1, h3, h2, fun h => (by cases h), fun _ => ⟨k, b, off, cv, rfl, hb, hL, hk, hc, hr⟩⟩

/-- A part of an immutable slice. -/
theorem RV.sub {full full' : Bool} {es : List (List HV)} {a : Option Addr} {cap k l b m : Nat} (hr : RV K (.sl full es) (.slice a es.length cap)) (hlb : l ≤ b) (hb : b ≤ es.length) (hbm : b ≤ m) (hm : m ≤ cap)
    (hk : ∀ cs ∈ es, cs.length = k) (hf : full' = true → m = b) :
    RV K (.sl full' ((es.drop l).take (b - l))) (.slice (if m = l then a else a.map (·.add (l * k))) (b - l) (m - l)) := by
  have hlen : ((es.drop l).take (b - l)).length = b - l := by simp; omega
  obtain ⟨a', cap', e1, h1, h2, h3, h4, h5⟩ := hr.slice_some
  injection e1 with e1 e2 e3
  subst e1 e3
  by_cases hz : b - l = 0
  · have e : (es.drop l).take (b - l) = [] := by rw [hz]; rfl
    rw [e, hz]
    refine .sl0 _ _ _ (fun hn => ?_) (fun hfu => by have := hf hfu; omega) (by omega)
    split at hn
    · omega
    · cases a with
      | none => have := h4 rfl; omega
      | some _ => cases hn
  · have q1 : 0 < ((es.drop l).take (b - l)).length := by rw [hlen]; omega
    have q2 : ((es.drop l).take (b - l)).length ≤ m - l := by rw [hlen]; omega
    have q3 : m - l ≤ maxLen := by omega
    have q4 : full' = true → m - l = ((es.drop l).take (b - l)).length := fun hfu => by have := hf hfu; rw [hlen]; omega
    have q5 : ¬ m = l := by omega
    obtain ⟨k', bb, off, cv, rfl, g1, g2, g3, g4, g5⟩ := h5 (by omega)
    have hk' : ∀ i (hi : i < es.length), es[i].length = k := fun i hi => hk _ (List.getElem_mem hi)
    have hkk : k' = k := by have := g3 l (by omega); rw [hk' l (by omega)] at this; exact this.symm
    subst hkk
    rw [if_neg q5]
    have e0 : (some (⟨bb, off, none⟩ : Addr)).map (·.add (l * k')) = some ⟨bb, off + l * k', none⟩ := by simp [Addr.add_lit]
    rw [e0]
    suffices key : RV K (.sl full' ((es.drop l).take (b - l))) (.slice (some ⟨bb, off + l * k', none⟩) ((es.drop l).take (b - l)).length (m - l)) by rw [hlen] at key; exact key
    refine .sl _ _ k' bb (off + l * k') (m - l) (fun i j => cv (l + i) j) q1 q2 q4 q3 g1 g2 (fun i hi => ?_) (fun i hi j hj => ?_) (fun i hi j hj => ?_)
    · simp at hi ⊢
      exact g3 (l + i) (by omega)
    · simp at hi hj ⊢
      have := g4 (l + i) (by omega) j hj
      rw [show off + l * k' + i * k' + j = off + (l + i) * k' + j from by rw [Nat.add_mul]; omega]
      exact this
    · simp at hi hj ⊢
      exact g5 (l + i) (by omega) j hj

theorem sliceAt_slice {P : Program} {w : World} {t e : TypeId} {x : Value} {lo hi mx : Option Value} (hu : P.underlying t = some (.slice e)) : (Instr.sliceAt t x lo hi mx).run P w = (Instr.slice t x lo hi mx).run P w := by
  unfold Instr.sliceAt
  rw [Sem.run_bind, run_underlying hu]
  rfl

theorem RV.ow_inv {id lo len : Nat} {v : Value} (hr : RV K (.ow id lo len) v) : K.A id ∧ ∃ a cap, v = .slice a len cap ∧ len ≤ cap ∧ cap ≤ maxLen ∧ (a = none → cap = 0) ∧
    (K.c id ≠ 0 → a = some ⟨K.b id, lo * K.k id, none⟩ ∧ cap = K.c id - lo ∧ lo + len ≤ K.c id ∧ K.c id ≤ maxLen) ∧ (K.c id = 0 → cap = 0 ∧ lo = 0) := by
  cases hr with
  | ow id lo len hA h0 h1 h2 => exact ⟨hA, _, _, rfl, by omega, by omega, fun h => by (cases h), fun _ => ⟨rfl, rfl, h1, h2⟩, fun h => absurd h h0⟩
  | ow0 id a hA h0 => exact ⟨hA, a, 0, rfl, Nat.le_refl _, Nat.zero_le _, fun _ => rfl, fun h => absurd h0 h, fun _ => ⟨rfl, rfl⟩⟩

theorem elemSz {P : Program} {t : TypeId} {k : Nat} (hk : (elemH P t).bind (szH P) = some k) : ∃ e, P.underlying t = some (.slice e) ∧ elemH P t = some e ∧ szH P e = some k := by
  obtain ⟨e, h1, h2⟩ := Option.bind_eq_some_iff.1 hk
  exact ⟨e, elemH_eq h1, h1, h2⟩

theorem OV.none_inv {v : Option Value} (ho : OV K none v) : v = none := by
  cases v with
  | none => rfl
  | some _ => exact ho.elim

theorem OV.int_inv {k : IntKind} {n : Int} {v : Option Value} (ho : OV K (some (.int k n)) v) : v = some (.int k n) := by
  cases v with
  | none => exact ho.elim
  | some u => rw [RV.ofInt (show RV K (.int k n) u from ho)]

theorem sliceH_sound {t : TypeId} {x y : HV} {lo hi mx : Option HV} {v : Value} {vlo vhi vmx : Option Value} (hh : RH X K h) (hx : RV K x v) (h1 : OV K lo vlo) (h2 : OV K hi vhi) (h3 : OV K mx vmx) (hs : sliceH X.P h t x lo hi mx = some y) :
    ∃ u, (Instr.sliceAt t v vlo vhi vmx).run X.P K.w = .ok u K.w ∧ RV K y u := by
  unfold sliceH at hs
  split at hs
  · -- a string
    rename_i s
    have := hx.ofStr
    subst this
    split at hs
    · rename_i hu
      split at hs
      · obtain ⟨lb, hb, rfl⟩ := Option.map_eq_some_iff.1 hs
        obtain ⟨l, b⟩ := lb
        obtain ⟨_, _, hr⟩ := boundsH_run (P := X.P) (w := K.w) (isSlice := false) (Nat.le_refl s.size) h1 h2 hb
        have := h3.none_inv
        subst this
        refine ⟨.string (s.extract l b), ?_, .str _⟩
        unfold Instr.sliceAt Instr.slice
        rw [Sem.run_bind, run_underlying hu]
        simp only [Result.andThen_ok]
        rw [Sem.run_bind, run_underlying hu]
        simp only [Result.andThen_ok, Option.isSome_none, Bool.false_eq_true, if_false]
        simp [hr]
      · cases hs
    · cases hs
  · -- an immutable slice
    rename_i full es
    split at hs
    · cases hs
    · rename_i k hk
      obtain ⟨e, hu, _, hsz⟩ := elemSz hk
      obtain ⟨a, cap, rfl, g1, g2, g3, g4, g5⟩ := hx.slice_some
      rw [sliceAt_slice hu]
      unfold Instr.slice
      split at hs
      · split at hs
        · cases hs
        · rename_i lb hb
          obtain ⟨l, b⟩ := lb
          split at hs
          · rename_i hz
            injection hs with hs; subst hs
            have := h3.none_inv
            subst this
            obtain ⟨r1, r2, hr⟩ := boundsH_run (P := X.P) (w := K.w) (isSlice := true) g1 h1 h2 hb
            refine ⟨_, ?_, hx.sub (k := k) (m := cap) r1 r2 (by omega) (Nat.le_refl _) hz (fun hf => ?_)⟩
            · rw [Sem.run_bind, run_underlying hu]
              simp [hr, run_szH hsz]
            · simp at hf
              have := g3 hf.1
              omega
          · cases hs
      · rename_i km m
        split at hs
        · rename_i hm
          split at hs
          · cases hs
          · rename_i lb hb
            obtain ⟨l, b⟩ := lb
            split at hs
            · rename_i hz
              injection hs with hs; subst hs
              have := h3.int_inv
              subst this
              obtain ⟨r1, r2, hr⟩ := boundsH_run3 (P := X.P) (w := K.w) (len := es.length) (cap := cap) (k := km) (by omega) h1 h2 hm.2.2 hb
              rw [show ((m.toNat : Nat) : Int) = m from by omega] at hr
              refine ⟨_, ?_, hx.sub (k := k) (m := m.toNat) r1 (by omega) (by omega) (by omega) hz (fun hf => ?_)⟩
              · rw [Sem.run_bind, run_underlying hu]
                simp [hr, run_szH hsz]
              · simp at hf
                omega
            · cases hs
        · cases hs
      · cases hs
  · -- an own one
    rename_i id lo0 len
    split at hs
    · rename_i k t' es hk ho
      obtain ⟨e, hu, _, hsz⟩ := elemSz hk
      obtain ⟨hA, av, capv, rfl, c1, c2, c3, c4, c5⟩ := hx.ow_inv
      obtain ⟨hszt, hc0, hrow⟩ := hh.obj id _ hA ho
      rw [sliceAt_slice hu]
      unfold Instr.slice
      split at hs
      · split at hs
        · cases hs
        · rename_i lb hb
          obtain ⟨l, b⟩ := lb
          have := h3.none_inv
          subst this
          obtain ⟨r1, r2, hr⟩ := boundsH_run (P := X.P) (w := K.w) (isSlice := true) (cap := capv) c1 h1 h2 hb
          split at hs
          · rename_i hbl
            injection hs with hs; subst hs
            simp only at hbl
            refine ⟨.slice (if capv = l then av else av.map (·.add (l * k))) (b - l) (capv - l), ?_, ?_⟩
            · rw [Sem.run_bind, run_underlying hu]
              simp [hr, run_szH hsz]
            · rw [show b - l = 0 from by omega]
              refine .sl0 _ _ _ (fun hn => ?_) (fun hf => by cases hf) (by omega)
              split at hn
              · omega
              · cases av with
                | none => have := c3 rfl; omega
                | some _ => cases hn
          · rename_i hbl
            simp only at hbl
            split at hs
            · rename_i cs hcs'
              split at hs
              · rename_i hck
                injection hs with hs; subst hs
                obtain ⟨hi', ee⟩ := List.getElem?_eq_some_iff.1 hcs'
                have hcne : K.c id ≠ 0 := fun e => by have := hc0 e; subst this; simp at hi'
                obtain ⟨cur, hcur, hcs, hlen, hmax, hkk, hone, hcell⟩ := hrow hcne
                obtain ⟨rfl, rfl, d1, d2⟩ := c4 hcne
                have hKk : K.k id = k := by have := hkk _ hi'; rw [ee] at this; omega
                refine ⟨.slice (some ⟨K.b id, (lo0 + l) * K.k id, none⟩) (b - l) (K.c id - (lo0 + l)), ?_, .ow id (lo0 + l) (b - l) hA hcne (by omega) d2⟩
                rw [Sem.run_bind, run_underlying hu]
                simp only [Result.andThen_ok, Sem.run_bind, hr, run_szH hsz, Sem.run_pure]
                rw [if_neg (by omega)]
                simp only [Option.map_some, Addr.add_lit]
                rw [hKk, Nat.add_mul, show K.c id - lo0 - l = K.c id - (lo0 + l) from by omega]
              · cases hs
            · cases hs
      · split at hs
        · cases hs
        · rename_i km lb hb
          split at hs
          · cases hs
          · rename_i hhi
            injection hs with hs; subst hs
            obtain ⟨l, b⟩ := lb
            have := h3.int_inv
            subst this
            obtain ⟨r1, r2, hr⟩ := boundsH_run3 (P := X.P) (w := K.w) (len := len) (cap := capv) (k := ‹IntKind›) (Nat.zero_le _) h1 h2 hhi hb
            have hb0 : b = 0 := by omega
            have hl0 : l = 0 := by omega
            subst hb0 hl0
            refine ⟨.slice av 0 0, ?_, .sl0 _ _ _ (fun _ => rfl) (fun _ => rfl) (Nat.zero_le _)⟩
            rw [Sem.run_bind, run_underlying hu]
            have hr' : (Instr.sliceBounds true len capv vlo vhi (some (.int ‹IntKind› 0))).run X.P K.w = .ok (0, 0, 0) K.w := by simpa using hr
            simp [hr', run_szH hsz]
      · cases hs
    · cases hs
  · cases hs

end
end Go.HL
