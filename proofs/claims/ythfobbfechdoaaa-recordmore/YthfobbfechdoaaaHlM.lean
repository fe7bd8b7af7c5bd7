/-
  HL, part M: iterators; copy; all operations with an effect in one theorem.
-/
import Derived.Test.YthfobbfechdoaaaHlL
namespace Go.HL

section
variable {X : PG} {K : KS}

def rangeH (P : Program) (h : Hp) (nid : Nat) (t : TypeId) (x : HV) : Option ER :=
  match P.underlying t, x with
  | some .string, .str s => some { x := .it nid, ns := [.sit s 0] }
  | some (.map _ _), .nul (.map none) => some { x := .it nid, ns := [.iter none 0 [] 0] }
  | some (.map _ _), .mp id => match h[id]? with | some (.map _ clock) => some { x := .it nid, ns := [.iter (some id) clock [] clock] } | _ => none
  | _, _ => none

/-- The next step of an iterator that leaves nothing open: over a string, over no map. -/
def nextH (h : Hp) (it : HV) (isString : Bool) : Option ER :=
  match it with
  | .it id =>
    match h[id]?, isString with
    | some (.sit s pos), true =>
      if pos < s.size then some { x := .tup [.bool true, .int .i64 pos, .int .i32 (Utf8.decode s pos).1], ws := [(id, .sit s (pos + (Utf8.decode s pos).2))] }
      else some { x := .tup [.bool false] }
    | some (.iter none _ _ _), false => some { x := .tup [.bool false] }
    | _, _ => none
  | _ => none

/-- What the next step of an iterator over a map may be. -/
def candH (kvs : List (HV × HV × Nat)) (since : Nat) (seen : List Nat) : List (Option (HV × HV × Nat)) :=
  let left := kvs.filter fun x => !seen.contains x.2.2
  let old := left.filter fun x => decide (x.2.2 < since)
  let new := left.filter fun x => decide (since ≤ x.2.2)
  (if old.isEmpty then [none] else []) ++ (old ++ new).map some

/-- The entry at which an iterator stands. -/
def entryH (h : Hp) (it : HV) : Option HV :=
  match it with
  | .it id =>
    match h[id]? with
    | some (.iter (some mid) _ seen last) =>
      match h[mid]?, seen.getLast? with
      | some (.map kvs clock), some stamp =>
        if clock = last then (kvs.find? fun x => x.2.2 == stamp).map fun x => .tup [x.1, x.2.1] else none
      | _, _ => none
    | _ => none
  | _ => none

theorem getObj_run {P : Program} {w : World} {r : Nat} {o : Obj} (hb : w.heap[r]? = some o) (hc : ∀ a b c, o ≠ .cells a b c := by intros; exact Obj.noConfusion) : (getObj r).run P w = .ok o w := by
  simp only [getObj, Sem.run, hb]

theorem mapLike.find {kvs : List (HV × HV × Nat)} {es : Array MapEntry} (hm : mapLike K kvs es) {stamp : Nat} {x : HV × HV × Nat} (hx : kvs.find? (fun x => x.2.2 == stamp) = some x) :
    ∃ m, es.find? (·.born == stamp) = some m ∧ RV K x.1 m.key ∧ RV K x.2.1 m.val := by
  obtain ⟨hs, hm⟩ := hm
  rw [← Array.find?_toList]
  have hs' : es.toList.length = kvs.length := by simpa using hs
  have hm' : ∀ (i : Nat) x, kvs[i]? = some x → ∃ m, es.toList[i]? = some m ∧ RV K x.1 m.key ∧ RV K x.2.1 m.val ∧ m.born = x.2.2 := fun i x hx => by simpa using hm i x hx
  generalize es.toList = l at hs' hm'
  clear hm hs
  induction kvs generalizing l with
  | nil => cases hx
  | cons y rest ih =>
    cases l with
    | nil => simp at hs'
    | cons m ms =>
      obtain ⟨m', e1, g1, g2, g3⟩ := hm' 0 y rfl
      simp only [List.getElem?_cons_zero, Option.some.injEq] at e1
      subst e1
      simp only [List.find?_cons] at hx ⊢
      rw [g3]
      split at hx
      · rename_i hb
        injection hx with hx; subst hx
        exact ⟨m, rfl, g1, g2⟩
      · rename_i hb
        exact ih hx ms (by simpa using hs') (fun i z hz => by obtain ⟨m', e, q⟩ := hm' (i + 1) z (by simpa using hz); exact ⟨m', by simpa using e, q⟩)

theorem entryH_sound {h : Hp} {it y : HV} {v : Value} (hh : RH X K h) (hx : RV K it v) (he : entryH h it = some y) : ∃ u, (Instr.entry v).run X.P K.w = .ok u K.w ∧ RV K y u := by
  unfold entryH at he
  split at he
  · rename_i id
    split at he
    · rename_i mid since seen last ho
      split at he
      · rename_i kvs clock stamp hm hlast
        split at he
        · rename_i hcl
          obtain ⟨x, hx', rfl⟩ := Option.map_eq_some_iff.1 he
          cases hx with
          | it _ hA =>
            obtain ⟨_, hAm, h1⟩ := hh.obj id _ hA ho
            obtain ⟨_, es, h2, h3⟩ := hh.obj mid _ (hAm mid rfl) hm
            obtain ⟨m, q1, q2, q3⟩ := h3.find hx'
            subst hcl
            refine ⟨.tuple #[m.key, m.val], ?_, .tup _ _ rfl (fun i hi => ?_)⟩
            · unfold Instr.entry
              simp [getObj_run h1, getObj_run h2, hlast, q1]
            · match i with
              | 0 => exact q2
              | 1 => exact q3
              | i + 2 => simp at hi; omega
        · cases he
      · cases he
    · cases he
  · cases he

/-- A block that is none of a row. -/
theorem RH.layObj {f : Hp} (hf : RH X K f) {nid : Nat} {ob : HO} {o : Obj} (hn : f[nid]? = some ob) (hA : ¬ K.A nid) (hr : RO X.P (K.lay nid 1 0 o) nid ob) :
    ∃ K', K'.w = K.w.alloc o ∧ Ext K f K' f ∧ RH X K' f ∧ K'.A nid ∧ K'.b nid = K.w.heap.size ∧ ∀ i, K'.A i ↔ K.A i ∨ (nid ≤ i ∧ i < nid + 1) := by
  obtain ⟨q1, q2⟩ := hf.lay hA hn hr
  exact ⟨_, rfl, q1, q2, .inr rfl, by simp [KS.lay], lay_A⟩

theorem rangeH_run {h f : Hp} {nid : Nat} {t : TypeId} {x : HV} {vx : Value} {r : ER} (hh : RH X K h) (hf : RH X K f) (hx : RV K x vx) (hs : rangeH X.P h nid t x = some r)
    (hn : ∀ i (hi : i < r.ns.length), f[nid + i]? = some r.ns[i]) (hA : ∀ i, i < r.ns.length → ¬ K.A (nid + i)) :
    ∃ v K', (Instr.range t vx).run X.P K.w = .ok v K'.w ∧ Ext K f K' (setAll f r.ws) ∧ RH X K' (setAll f r.ws) ∧ RV K' r.x v ∧ ∀ id, K'.A id ↔ K.A id ∨ (nid ≤ id ∧ id < nid + r.ns.length) := by
  unfold rangeH at hs
  split at hs
  · rename_i s hu
    injection hs with hs; subst hs
    have hn0 := hn 0 (by simp)
    have hA0 := hA 0 (by simp)
    simp only [Nat.add_zero] at hn0 hA0
    cases hx
    obtain ⟨K', e1, e2, e3, e4, e5, e6⟩ := RH.layObj (o := .stringIter s 0) hf hn0 hA0 ⟨by simp [KS.lay], by simp only [KS.lay, if_true]; exact alloc_new _ _⟩
    refine ⟨.pointer (some ⟨K'.b nid, 0, none⟩), K', ?_, e2, e3, .it nid e4, e6⟩
    rw [e1, e5]
    simp [Instr.range, run_underlying hu, Result.andThen]
  · rename_i hu
    injection hs with hs; subst hs
    have hn0 := hn 0 (by simp)
    have hA0 := hA 0 (by simp)
    simp only [Nat.add_zero] at hn0 hA0
    cases hx
    obtain ⟨K', e1, e2, e3, e4, e5, e6⟩ := RH.layObj (o := .mapIter none 0 #[] 0) hf hn0 hA0 ⟨by simp [KS.lay], (fun _ h => by cases h), by simp only [KS.lay, if_true]; exact alloc_new _ _⟩
    refine ⟨.pointer (some ⟨K'.b nid, 0, none⟩), K', ?_, e2, e3, .it nid e4, e6⟩
    rw [e1, e5]
    simp [Instr.range, run_underlying hu, Result.andThen]
  · rename_i id hu
    split at hs
    · rename_i kvs clock ho
      injection hs with hs; subst hs
      have hn0 := hn 0 (by simp)
      have hA0 := hA 0 (by simp)
      simp only [Nat.add_zero] at hn0 hA0
      cases hx with
      | mp _ hAi =>
        have hne : id ≠ nid := fun e => hA0 (e ▸ hAi)
        obtain ⟨_, es, h1, _⟩ := hh.obj id _ hAi ho
        obtain ⟨K', e1, e2, e3, e4, e5, e6⟩ := RH.layObj (o := .mapIter (some (K.b id)) clock #[] clock) hf hn0 hA0 ⟨by simp [KS.lay], (fun x h => by injection h with h; subst h; exact .inl hAi), by
          simp only [KS.lay, if_true, Option.map_some, if_neg hne]; exact alloc_new _ _⟩
        refine ⟨.pointer (some ⟨K'.b nid, 0, none⟩), K', ?_, e2, e3, .it nid e4, e6⟩
        rw [e1, e5]
        simp [Instr.range, run_underlying hu, getObj_run h1, Result.andThen]
    · cases hs
  · cases hs

theorem nextH_run {h f : Hp} {it : HV} {vi : Value} {b : Bool} {ty : TypeId} {r : ER} (hh : RH X K h) (hf : RH X K f) (hsub : ∀ id o, K.A id → o.live = true → h[id]? = some o → f[id]? = some o)
    (hx : RV K it vi) (hs : nextH h it b = some r) :
    ∃ v K', (Instr.next vi b ty).run X.P K.w = .ok v K'.w ∧ Ext K f K' (setAll f r.ws) ∧ RH X K' (setAll f r.ws) ∧ RV K' r.x v ∧ r.ns = [] ∧ ∀ id, K'.A id ↔ K.A id := by
  have over : ∀ K : KS, RV K (.tup [.bool false]) (.tuple #[.bool false]) := fun K => .tup _ _ rfl (fun i hi => by
    match i with
    | 0 => exact .bool false
    | i + 1 => simp at hi)
  unfold nextH at hs
  split at hs
  · rename_i id
    cases hx with
    | it _ hA =>
      split at hs
      · rename_i s pos ho
        obtain ⟨hc, h1⟩ := hh.obj id _ hA ho
        split at hs
        · rename_i hlt
          injection hs with hs; subst hs
          have hof := hsub id _ hA rfl ho
          obtain ⟨g1, g2⟩ := Go.MapKept.heap_set (o' := .stringIter s (pos + (Utf8.decode s pos).2)) h1
          obtain ⟨q1, q2⟩ := RH.write (w' := { K.w with heap := K.w.heap.setIfInBounds (K.b id) (.stringIter s (pos + (Utf8.decode s pos).2)) }) (ob' := .sit s (pos + (Utf8.decode s pos).2)) hf hA hof rfl hc (by simp) (fun b hne => g2 b hne) rfl rfl rfl
            (fun hle => ⟨hc, g1⟩)
          refine ⟨.tuple #[.bool true, goInt pos, .int .i32 (Utf8.decode s pos).1], _, ?_, q1, q2, .tup _ _ rfl (fun i hi => ?_), rfl, fun _ => Iff.rfl⟩
          · unfold Instr.next
            simp [getObj_run h1, hlt, setObj, Sem.run, h1]
          · match i with
            | 0 => exact .bool true
            | 1 => exact .int .i64 _
            | 2 => exact .int .i32 _
            | i + 3 => simp at hi; omega
        · rename_i hlt
          injection hs with hs; subst hs
          refine ⟨_, K, ?_, .refl _ _, hf, over K, rfl, fun _ => Iff.rfl⟩
          unfold Instr.next
          simp [getObj_run h1, hlt]
      · rename_i since seen last ho
        obtain ⟨hc, _, h1⟩ := hh.obj id _ hA ho
        injection hs with hs; subst hs
        refine ⟨_, K, ?_, .refl _ _, hf, over K, rfl, fun _ => Iff.rfl⟩
        unfold Instr.next
        simp only [Option.map_none] at h1
        simp [getObj_run h1]
      · cases hs
  · cases hs

/-- An operation with an effect. -/
def opE (X : PG) (own : Bool) (ρ : Operand → HV) (h : Hp) (nid : Nat) (o : Op) : Option ER :=
  match o with
  | .box t x => boxH X.P t nid (ρ x)
  | .alloc t => match zeroH X.P t with | some z => boxH X.P t nid z | none => none
  | .store t a x => storeH X.P h t (ρ a) (ρ x)
  | .buildSlice t len parts => buildSliceH X.P own nid t len (parts.toList.map fun p => (p.1, ρ p.2))
  | .makeSlice t l c => makeSliceH X.P nid t (ρ l) (ρ c)
  | .makeMap _ none => some { x := .mp nid, ns := [.map [] 0] }
  | .lookup t x k ok => (lookupH X.P h t (ρ x) (ρ k) ok).map fun x => { x := x }
  | .mapUpdate t m k x | .insert t m k x => mapUpdateH X.P h t (ρ m) (ρ k) (ρ x)
  | .range t x => rangeH X.P h nid t (ρ x)
  | .next it b => nextH h (ρ it) b
  | .entry it => (entryH h (ρ it)).map fun x => { x := x }
  | .call c =>
    match c.callee, c.argTypes.toList, c.args.toList with
    | .builtin .append, [t, t'], [s, y] => if t' = t then appendH X.P h nid t (ρ s) (ρ y) else none
    | .builtin .delete, [t, _], [m, k] => deleteH X.P h t (ρ m) (ρ k)
    | _, _, _ => (opV X ρ h o).map fun x => { x := x }
  | o => (opV X ρ h o).map fun x => { x := x }

theorem EffRun.opt {h f : Hp} {nid : Nat} {ρ : Operand → HV} {ρv : Operand → Value} {o : Oper} {r : ER} (hh : RH X K h) (hf : RH X K f) (hρ : ∀ y, RV K (ρ y) (ρv y)) (hs : (opV X ρ h o.op).map (fun x => ({ x := x } : ER)) = some r) :
    EffRun X K f nid ρv o r := by
  obtain ⟨x, h1, rfl⟩ := Option.map_eq_some_iff.1 hs
  exact .ofVal hf (opV_sound hh hρ h1)

theorem EffRun.val {f : Hp} {nid : Nat} {ρv : Operand → Value} {o : Oper} {r : ER} {s : Sem Value} (he : execOp ρv o = (do pure (.value (← s)) : Sem Next))
    (h : ∃ v K', s.run X.P K.w = .ok v K'.w ∧ Ext K f K' (setAll f r.ws) ∧ RH X K' (setAll f r.ws) ∧ RV K' r.x v ∧ ∀ id, K'.A id ↔ K.A id ∨ (nid ≤ id ∧ id < nid + r.ns.length)) : EffRun X K f nid ρv o r := by
  obtain ⟨v, K', h1, h2⟩ := h
  exact ⟨v, K', .inl (by rw [he, Sem.run_bind, h1]; rfl), h2⟩

theorem EffRun.unit {f : Hp} {nid : Nat} {ρv : Operand → Value} {o : Oper} {r : ER} {s : Sem Unit} (he : execOp ρv o = (do s; pure .skip : Sem Next))
    (h : ∃ K', s.run X.P K.w = .ok () K'.w ∧ Ext K f K' (setAll f r.ws) ∧ RH X K' (setAll f r.ws) ∧ r.x = .und ∧ r.ns = [] ∧ ∀ id, K'.A id ↔ K.A id) : EffRun X K f nid ρv o r := by
  obtain ⟨K', h1, h2, h3, h4, h5, h6⟩ := h
  exact ⟨undef, K', .inr ⟨by rw [he, Sem.run_bind, h1]; rfl, rfl⟩, h2, h3, by rw [h4]; exact .und _, fun id => by rw [h5, h6]; simp; omega⟩

theorem exec_buildSlice {ρv : Operand → Value} {o : Oper} {t : TypeId} {len : Nat} {parts : Array (Nat × Operand)} (h : o.op = .buildSlice t len parts) :
    execOp ρv o = (do pure (.value (← Instr.buildSlice t len (parts.map fun p => (p.1, ρv p.2)))) : Sem Next) := by
  unfold execOp
  rw [h]

/-- What an operation says of the run: read in the heap 'h', carried out in the heap 'f', in which what is made stands already. -/
theorem opE_sound {h f : Hp} {own : Bool} {nid : Nat} {ρ : Operand → HV} {ρv : Operand → Value} {o : Oper} {r : ER} (hh : RH X K h) (hf : RH X K f) (hsub : ∀ id o, K.A id → o.live = true → h[id]? = some o → f[id]? = some o)
    (hρ : ∀ y, RV K (ρ y) (ρv y)) (hs : opE X own ρ h nid o.op = some r) (hn : ∀ i (hi : i < r.ns.length), f[nid + i]? = some r.ns[i]) (hA : ∀ i, i < r.ns.length → ¬ K.A (nid + i)) : EffRun X K f nid ρv o r := by
  obtain ⟨dst, op, type, pos, after, guard⟩ := o
  simp only at hs
  have nons : ∀ r' : ER, boxH X.P 0 0 .und = some r' → True := fun _ _ => trivial
  clear nons
  have box : ∀ (t : TypeId) (z : HV) (v : Value), RV K z v → boxH X.P t nid z = some r → ∃ K', K'.w = K.w.alloc (.cells v.cells t) ∧ Ext K f K' (setAll f r.ws) ∧ RH X K' (setAll f r.ws) ∧ RV K' r.x (.pointer (some ⟨K.w.heap.size, 0, none⟩)) ∧ ∀ id, K'.A id ↔ K.A id ∨ (nid ≤ id ∧ id < nid + r.ns.length) := fun t z v hz hb => by
    have hr : r = { x := .ep nid 0 0, ns := [.row t [z.cells]] } := by
      have hb' := hb
      unfold boxH at hb'
      split at hb'
      · injection hb' with hb'; exact hb'.symm
      · cases hb'
    have hn0 := hn 0 (by rw [hr]; simp)
    have hA0 := hA 0 (by rw [hr]; simp)
    subst hr
    exact boxH_run hf hz hb (by simpa using hn0) (by simpa using hA0)
  cases op with
  | box t x =>
    obtain ⟨K', e1, e2⟩ := box t _ _ (hρ x) hs
    exact .val (s := Instr.box t (ρv x)) rfl ⟨_, K', by rw [e1]; simp [Instr.box, newVar, newRow], e2⟩
  | alloc t =>
    simp only [opE] at hs
    split at hs
    · rename_i z hz
      obtain ⟨vz, z1, z2⟩ := run_zeroH (w := K.w) hz
      obtain ⟨K', e1, e2⟩ := box t _ _ (z2 K) hs
      exact .val (s := Instr.alloc t true (.tuple #[])) rfl ⟨_, K', by rw [e1]; simp [Instr.alloc, z1, newVar, newRow], e2⟩
    · cases hs
  | store t a x =>
    simp only [opE] at hs
    exact .unit (s := Instr.storeAt t (ρv a) (ρv x)) rfl (storeH_run hh hf hsub (hρ a) (hρ x) hs)
  | buildSlice t len parts =>
    simp only [opE] at hs
    refine .val (exec_buildSlice rfl) ?_
    have key := fun h1 h2 => @buildSliceH_run X K f own nid t len (parts.toList.map fun p => (p.1, ρ p.2)) (parts.map fun p => (p.1, ρv p.2)) r hf h1 h2 hs hn hA
    refine key (by simp) (fun j p q h1 h2 => ?_)
    simp only [List.getElem?_map, Array.toList_map] at h1 h2
    obtain ⟨p0, e1, e2⟩ := Option.map_eq_some_iff.1 h1
    obtain ⟨q0, e3, e4⟩ := Option.map_eq_some_iff.1 h2
    rw [e1] at e3
    injection e3 with e3
    subst e3 e2 e4
    exact ⟨rfl, hρ _⟩
  | makeSlice t l c =>
    simp only [opE] at hs
    exact .val (s := Instr.makeSlice t (ρv l) (ρv c)) rfl (makeSliceH_run hf (hρ l) (hρ c) hs hn hA)
  | makeMap t r' =>
    cases r' with
    | some y => simp [opE, opV] at hs
    | none =>
      simp only [opE, Option.some.injEq] at hs
      subst hs
      have hn0 := hn 0 (by simp)
      have hA0 := hA 0 (by simp)
      simp only [Nat.add_zero] at hn0 hA0
      obtain ⟨K', e1, e2, e3, e4, e5, e6⟩ := RH.layObj (o := .map #[] 0) hf hn0 hA0 ⟨by simp [KS.lay], #[], by simp only [KS.lay, if_true]; exact alloc_new _ _, by simp, fun i x hx => by simp at hx⟩
      refine .val (s := Instr.makeMap t none) rfl ⟨.map (some (K'.b nid)), K', ?_, e2, e3, .mp nid e4, e6⟩
      rw [e1, e5]
      simp [Instr.makeMap]
  | lookup t x k ok =>
    simp only [opE] at hs
    obtain ⟨y, h1, rfl⟩ := Option.map_eq_some_iff.1 hs
    exact .ofVal hf (ValRun.of rfl (lookupH_sound hh (hρ x) (hρ k) h1))
  | mapUpdate t m k x =>
    simp only [opE] at hs
    exact .unit (s := Instr.mapUpdate t (ρv m) (ρv k) (ρv x)) rfl (mapUpdateH_run hh hf hsub (hρ m) (hρ k) (hρ x) hs)
  | insert t m k x =>
    simp only [opE] at hs
    exact .unit (s := Instr.mapUpdate t (ρv m) (ρv k) (ρv x)) rfl (mapUpdateH_run hh hf hsub (hρ m) (hρ k) (hρ x) hs)
  | range t x =>
    simp only [opE] at hs
    exact .val (s := Instr.range t (ρv x)) rfl (rangeH_run hh hf (hρ x) hs hn hA)
  | next it b =>
    simp only [opE] at hs
    obtain ⟨v, K', e1, e2, e3, e4, e5, e6⟩ := nextH_run (ty := type) hh hf hsub (hρ it) hs
    exact .val (s := Instr.next (ρv it) b type) rfl ⟨v, K', e1, e2, e3, e4, fun id => by rw [e5, e6]; simp; omega⟩
  | entry it =>
    simp only [opE] at hs
    obtain ⟨y, h1, rfl⟩ := Option.map_eq_some_iff.1 hs
    exact .ofVal hf (ValRun.of rfl (entryH_sound hh (hρ it) h1))
  | call c =>
    simp only [opE] at hs
    obtain ⟨callee, args, argTypes⟩ := c
    simp only at hs
    split at hs
    · rename_i t t' s y ht hargs
      split at hs
      · rename_i heq
        subst heq
        have ea : args = #[s, y] := by cases args; simp_all
        have et : argTypes = #[t', t'] := by cases argTypes; simp_all
        subst ea et
        refine .val (s := Builtin.append_ #[t', t'] type #[ρv s, ρv y]) ?_ (appendH_run hh hf hsub (hρ s) (hρ y) hs hn hA)
        unfold execOp
        simp [resolve, invoke, builtin]
      · cases hs
    · rename_i t t' m k ht hargs
      have ea : args = #[m, k] := by cases args; simp_all
      have et : argTypes = #[t, t'] := by cases argTypes; simp_all
      subst ea et
      obtain ⟨K', e1, e2, e3, e4, e5, e6⟩ := deleteH_run (ty := type) (t' := t') hh hf hsub (hρ m) (hρ k) hs
      refine .val (s := Builtin.delete_ #[t, t'] type #[ρv m, ρv k]) ?_ ⟨_, K', e1, e2, e3, by rw [e4]; exact .und _, fun id => by rw [e5, e6]; simp; omega⟩
      unfold execOp
      simp [resolve, invoke, builtin]
    · exact .opt hh hf hρ hs
  | _ => exact .opt hh hf hρ hs

end
end Go.HL
