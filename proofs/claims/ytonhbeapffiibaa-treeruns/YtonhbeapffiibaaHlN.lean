/-
  HL, part N: regions whose operations go in the order of the text.
-/
import Derived.Test.YtonhbeapffiibaaHlM2
import Derived.Shelf.Abstract
import Derived.RangeFuncSeq
import Derived.Maps.RangeRun
namespace Go.HL

section
variable {X : PG} {K : KS} {C : Cx}

/-- May the function be entered? -/
def entersH (P : Program) (f : FuncId) : Bool :=
  match P.funcs[f]? with
  | some fn => fn.body.isSome && !(fn.name == "runtime.NumGoroutine")
  | none => false

theorem entersH_enters {P : Program} {f : FuncId} (h : entersH P f = true) : Go.Proofs.Enters P f := by
  unfold entersH at h
  split at h
  · rename_i fn hf
    simp only [Bool.and_eq_true, Bool.not_eq_true'] at h
    cases hb : fn.body with
    | none => rw [hb] at h; simp at h
    | some c => exact Go.Proofs.enters_of hf h.2 hb
  · cases h

/-- What an iterator over a map has still to come to. -/
def leftH (kvs : List (HV × HV × Nat)) (seen : List Nat) : List (HV × HV × Nat) := kvs.filter fun x => !seen.contains x.2.2

/-- Is the operation carried out? -/
def wantH (e : Env) (ops : Array Oper) (o : Oper) : Option Bool :=
  match o.guard with
  | none => some true
  | some (j, want) =>
    match (ops[j]?).bind (·.dst) with
    | some t => match e t with | .bool b => some (b == want) | .tup [] => some false | _ => none
    | none => none

/-- A call of yield in the loop over a function whose record is the block 'l'. -/
def CallsY (X : PG) (l : Nat) (xs : List HV) (h : Hp) (R : HV → Hp → Prop) : Prop :=
  ∀ K (vs : Array Value), RVs K xs vs → RH X K h → YieldAt (F0 none) 0 X.P l vs K.w fun en w' =>
    ∃ v K' r h', en = .returned v ∧ K'.w = w' ∧ ExtA K h K' h' ∧ RH X K' h' ∧ RV K' r v ∧ R r h'

theorem CallsY.mono {X : PG} {l : Nat} {xs : List HV} {h : Hp} {R R' : HV → Hp → Prop} (hc : CallsY X l xs h R) (hr : ∀ r h, R r h → R' r h) : CallsY X l xs h R' :=
  fun K vs ha hh => by
    obtain ⟨fn, tmps, assign, body, h1, h2⟩ := hc K vs ha hh
    exact ⟨fn, tmps, assign, body, h1, h2.mono fun _ _ ⟨v, K', r, h', e1, e2, x, y, z, hR⟩ => ⟨v, K', r, h', e1, e2, x, y, z, hr _ _ hR⟩⟩

/-- One operation: what may be asked behind it, of its value and of the objects. -/
def stepT (X : PG) (own : Bool) (e : Env) (h : Hp) (k : HV → Hp → Prop) (o : Op) : Prop :=
  match o with
  | .call c =>
    match c.callee with
    | .value f =>
      match ev X e f with
      | .fn (.func g) fs cs => entersH X.P g = true ∧ CallsH X g (fs ++ c.args.toList.map (ev X e) ++ cs) h k
      | .fn (.yield l) [] [] => CallsY X l (c.args.toList.map (ev X e)) h k
      | _ => False
    | _ => match opE X own (ev X e) h h.length (.call c) with | some r => k r.x (setAll (h ++ r.ns) r.ws) | none => False
  | .next it false =>
    match ev X e it with
    | .it id =>
      match h[id]? with
      | some (.iter (some mid) since seen last) =>
        match h[mid]? with
        | some (.map kvs clock) =>
          (since ≤ last ∧ ∀ x ∈ kvs, x.2.2 < since) ∧ (leftH kvs seen = [] → k (.tup [.bool false]) h) ∧
          ∀ x ∈ leftH kvs seen, k (.tup [.bool true, x.1, x.2.1]) (h.set id (.iter (some mid) since (seen ++ [x.2.2]) clock))
        | _ => False
      | some (.iter none _ _ _) => k (.tup [.bool false]) h
      | _ => False
    | _ => False
  | o => match opE X own (ev X e) h h.length o with | some r => k r.x (setAll (h ++ r.ns) r.ws) | none => False

/-- The operations of a region, in the order of the text. -/
def opsT (X : PG) (C : Cx) (ops : Array Oper) (Q : Env → Hp → Prop) : List Oper → Env → Hp → Prop
  | [], e, h => Q e h
  | o :: rest, e, h =>
    match wantH e ops o with
    | some true => stepT X (C.own.contains o.pos) e h (fun x h' => opsT X C ops Q rest (putE C.N e o.dst x) h') o.op
    | some false => opsT X C ops Q rest (putE C.N e o.dst (.tup [])) h
    | none => False

theorem RH.pad {h : Hp} (hh : RH X K h) (ns : List HO) : RH X K (h ++ ns) := by
  have back : ∀ i, liveAt K (h ++ ns) i → liveAt K h i := fun i ⟨hA, ⟨o, ho, hl⟩, hc⟩ => ⟨hA, ⟨o, by rwa [List.getElem?_append_left (hh.A i hA)] at ho, hl⟩, hc⟩
  exact ⟨fun i hA => by have := hh.A i hA; simp; omega, fun i o hA ho => hh.obj i o hA (by rwa [List.getElem?_append_left (hh.A i hA)] at ho), fun i hl => hh.live i (back i hl), fun i j hi hj => hh.inj i j (back i hi) (back j hj), hh.Lb, hh.glob⟩

theorem Ext.unpad {h h' : Hp} {K' : KS} {ns : List HO} (hh : RH X K h) (x : Ext K (h ++ ns) K' h') : Ext K h K' h' := by
  have back : ∀ i, liveAt K (h ++ ns) i → liveAt K h i := fun i ⟨hA, ⟨o, ho, hl⟩, hc⟩ => ⟨hA, ⟨o, by rwa [List.getElem?_append_left (hh.A i hA)] at ho, hl⟩, hc⟩
  refine ⟨x.os, x.tape, x.output, x.size, fun b hb hn => x.block b hb (fun i hi => hn i (back i hi)), fun i hi => ?_, x.L, fun b hb hn => x.keep b hb (fun i hi => hn i (back i hi)), x.A⟩
  rcases x.new i hi with ⟨j, hj, e⟩ | h'
  · exact .inl ⟨j, back j hj, e⟩
  · exact .inr h'

theorem eff_step {h : Hp} {own : Bool} {e : Env} {a : Act} {B N : Nat} {o : Oper} {r : ER} {k : HV → Hp → Prop} {ro : Option Nat} {next : Act → World → Prop} {Qx : Exit → Act → World → Prop} (he : RE K B N e a) (hh : RH X K h)
    (hs : opE X own (ev X e) h h.length o.op = some r) (hq : k r.x (setAll (h ++ r.ns) r.ws)) (hdef : ∀ c, o.op ≠ .defer c)
    (hk : ∀ x h' K' v, ExtA K h K' h' → RH X K' h' → RV K' x v → k x h' → next (a.put o.dst v) K'.w) : o.wpIn (F0 ro) 0 X.P a K.w next Qx := by
  refine ⟨fun _ _ => trivial, ?_⟩
  rw [Oper.semAt_eq _ _ _ hdef]
  obtain ⟨v, K', h1, h2, h3, h4, h5⟩ := opE_sound (f := h ++ r.ns) hh (hh.pad r.ns) (fun id ob hA _ ho => by rw [List.getElem?_append_left (hh.A id hA)]; exact ho) (fun _ => rfl) (fun y => he.eval hh y) hs
    (fun i hi => by rw [List.getElem?_append_right (by omega)]; simp [hi]) (fun i _ hA => by have := hh.A _ hA; omega)
  have hx : ExtA K h K' (setAll (h ++ r.ns) r.ws) := ⟨h2.unpad hh, by simp [setAll_length], fun i hi => ((h5 i).1 hi).imp id And.left⟩
  rcases h1 with h1 | ⟨h1, rfl⟩
  · rw [h1]; exact hk _ _ K' v hx h3 h4 hq
  · rw [h1]; exact hk _ _ K' _ hx h3 h4 hq

theorem next_step {h : Hp} {e : Env} {a : Act} {B N : Nat} {o : Oper} {it : Operand} {id mid since last clock : Nat} {seen : List Nat} {kvs : List (HV × HV × Nat)} {k : HV → Hp → Prop} {ro : Option Nat} {next : Act → World → Prop} {Qx : Exit → Act → World → Prop}
    (he : RE K B N e a) (hh : RH X K h) (ho : o.op = .next it false) (hit : ev X e it = .it id) (hi : h[id]? = some (.iter (some mid) since seen last)) (hm : h[mid]? = some (.map kvs clock)) (hs : since ≤ last ∧ ∀ x ∈ kvs, x.2.2 < since)
    (h0 : leftH kvs seen = [] → k (.tup [.bool false]) h) (h1 : ∀ x ∈ leftH kvs seen, k (.tup [.bool true, x.1, x.2.1]) (h.set id (.iter (some mid) since (seen ++ [x.2.2]) clock)))
    (hk : ∀ x h' K' v, ExtA K h K' h' → RH X K' h' → RV K' x v → k x h' → next (a.put o.dst v) K'.w) : o.wpIn (F0 ro) 0 X.P a K.w next Qx := by
  refine ⟨fun _ _ => trivial, ?_⟩
  rw [Oper.semAt_eq _ _ _ (fun c hc => by rw [ho] at hc; cases hc)]
  have hr := he.eval hh it
  rw [hit] at hr
  generalize hv : a.eval it = v at hr
  cases hr with
  | it _ hA =>
    obtain ⟨hc, hAm, g1⟩ := hh.obj id _ hA hi
    obtain ⟨_, es, g2, g3, g4⟩ := hh.obj mid _ (hAm mid rfl) hm
    have hexec : execOp a.eval o = (do pure (.value (← Instr.next (.pointer (some ⟨K.b id, 0, none⟩)) false o.type)) : Sem Next) := by
      unfold execOp
      rw [ho]
      simp only [hv]
    have back : ∀ m ∈ es.toList, ∃ x ∈ kvs, RV K x.1 m.key ∧ RV K x.2.1 m.val ∧ m.born = x.2.2 := fun m hmem => by
      obtain ⟨i, hi', rfl⟩ := List.getElem_of_mem hmem
      have hil : i < kvs.length := by rw [← g3]; simpa using hi'
      obtain ⟨m', q1, q2⟩ := g4 i _ (List.getElem?_eq_getElem hil)
      refine ⟨kvs[i], List.getElem_mem hil, ?_⟩
      have : m' = es.toList[i] := by
        have e1 : es[i]? = some es.toList[i] := by rw [← Array.getElem?_toList, List.getElem?_eq_getElem hi']
        rw [e1] at q1; injection q1 with q1; exact q1.symm
      rw [← this]; exact q2
    have fwd : ∀ x ∈ kvs, ∃ m ∈ es.toList, m.born = x.2.2 := fun x hx => by
      obtain ⟨i, hi', rfl⟩ := List.getElem_of_mem hx
      obtain ⟨m', q1, _, _, q4⟩ := g4 i _ (List.getElem?_eq_getElem hi')
      exact ⟨m', by rw [← Array.getElem?_toList] at q1; exact List.mem_of_getElem? q1, q4⟩
    rcases run_next_at (P := X.P) K.w o.type (K.b id) (K.b mid) since last seen.toArray es clock (by simpa using g1) g2 (fun x hx => by obtain ⟨y, hy, _, _, e⟩ := back x hx; rw [e]; exact hs.2 y hy) hs.1 with ⟨q1, q2⟩ | ⟨m, q1, w1, q2, q3⟩
    · rw [hexec, Sem.run_bind, q2]
      refine hk _ h K _ (.refl _ _) hh (.tup _ _ rfl (fun i hi => ?_)) (h0 ?_)
      · match i with
        | 0 => exact .bool false
        | i + 1 => simp at hi
      · unfold leftH
        rw [List.filter_eq_nil_iff]
        intro x hx hns
        obtain ⟨m, hm', hb⟩ := fwd x hx
        have : m ∈ (leftOf es seen.toArray).toList := by
          unfold leftOf
          simp only [Array.toList_filter, List.mem_filter]
          exact ⟨hm', by rw [hb]; simpa using hns⟩
        have h2 : (leftOf es seen.toArray).toList = [] := List.eq_nil_of_length_eq_zero (by simpa using q1)
        rw [h2] at this
        cases this
    · rw [hexec, Sem.run_bind, q3]
      have hm' : m ∈ es.toList ∧ seen.contains m.born = false := by
        unfold leftOf at q1
        simp only [Array.toList_filter, List.mem_filter] at q1
        exact ⟨q1.1, by simpa using q1.2⟩
      obtain ⟨x, hx, r1, r2, r3⟩ := back m hm'.1
      have hK1 : Ext K h { K with w := w1 } h ∧ RH X { K with w := w1 } h ∧ w1.heap = K.w.heap ∧ w1.os = K.w.os ∧ w1.tape = K.w.tape ∧ w1.output = K.w.output := by
        rcases q2 with rfl | rfl
        · exact ⟨.refl _ _, hh, rfl, rfl, rfl, rfl⟩
        · exact ⟨hh.drew.1, hh.drew.2, rfl, rfl, rfl, rfl⟩
      obtain ⟨x1, hh1, e1, _⟩ := hK1
      have g1' : w1.heap[K.b id]? = some (.mapIter (some (K.b mid)) since seen.toArray last) := by rw [e1]; simpa using g1
      obtain ⟨s1, s2⟩ := Go.MapKept.heap_set (w := w1) (o' := .mapIter (some (K.b mid)) since (seen.toArray.push m.born) clock) g1'
      obtain ⟨y1, y2⟩ := RH.write (K := { K with w := w1 }) (w' := { w1 with heap := w1.heap.setIfInBounds (K.b id) (.mapIter (some (K.b mid)) since (seen.toArray.push m.born) clock) }) (ob' := .iter (some mid) since (seen ++ [x.2.2]) clock) hh1 hA hi rfl hc (by simp) (fun b hne => s2 b hne) rfl rfl rfl
        (fun hle => ⟨hc, hAm, by simpa [← r3] using s1⟩)
      refine hk _ _ { K with w := { w1 with heap := w1.heap.setIfInBounds (K.b id) (.mapIter (some (K.b mid)) since (seen.toArray.push m.born) clock) } } _ ⟨x1.trans y1 hh, by simp, fun _ h => .inl h⟩ y2 (.tup _ _ rfl (fun i hi => ?_)) (h1 x ?_)
      · have hle := (x1.trans y1 hh).le hh
        match i with
        | 0 => exact .bool true
        | 1 => exact r1.mono hle
        | 2 => exact r2.mono hle
        | i + 3 => simp at hi; omega
      · unfold leftH
        rw [List.mem_filter]
        exact ⟨hx, by rw [← r3, hm'.2]; rfl⟩

theorem stepT_wp {h : Hp} {own : Bool} {e : Env} {a : Act} {B N : Nat} {o : Oper} {k : HV → Hp → Prop} {ro : Option Nat} {next : Act → World → Prop} {Qx : Exit → Act → World → Prop} (he : RE K B N e a) (hh : RH X K h)
    (hs : stepT X own e h k o.op) (hk : ∀ x h' K' v, ExtA K h K' h' → RH X K' h' → RV K' x v → k x h' → next (a.put o.dst v) K'.w) : o.wpIn (F0 ro) 0 X.P a K.w next Qx := by
  have eff : ∀ (op : Op), o.op = op → (∀ c, op ≠ .defer c) → (match opE X own (ev X e) h h.length op with | some r => k r.x (setAll (h ++ r.ns) r.ws) | none => False) → o.wpIn (F0 ro) 0 X.P a K.w next Qx := fun op ho hd hm => by
    split at hm
    · rename_i r hr
      exact eff_step he hh (by rw [ho]; exact hr) hm (fun c hc => hd c (by rw [← ho, hc])) hk
    · exact hm.elim
  have call : ∀ (c : Call) (f : Operand) (g : FuncId) (fs cs : List HV), o.op = .call c → c.callee = .value f → ev X e f = .fn (.func g) fs cs → entersH X.P g = true → CallsH X g (fs ++ c.args.toList.map (ev X e) ++ cs) h k → o.wpIn (F0 ro) 0 X.P a K.w next Qx := fun c f g fs cs ho hc hf hen hcall => by
    refine ⟨fun _ _ => trivial, ?_⟩
    rw [Oper.semAt_eq _ _ _ (fun c hc => by rw [ho] at hc; cases hc)]
    have hr := he.eval hh f
    rw [hf] at hr
    generalize hv : a.eval f = v at hr
    cases hr with
    | fn _ _ _ vs us h1 h2 hvs hus =>
      have hexec : (execOp a.eval o).run X.P K.w = .ok (.enter g (vs ++ c.args.map a.eval ++ us)) K.w := by
        unfold execOp
        simp only [ho, resolve, hc, hv, Deferred.ofValue, Sem.run_bind, Sem.run_pure, Result.andThen_ok, invoke]
        exact entersH_enters hen _ _
      rw [hexec, Oper.uponIn_enter]
      refine ⟨F0_depth, F0_calls ?_⟩
      have hargs : RVs K (fs ++ c.args.toList.map (ev X e) ++ cs) (vs ++ c.args.map a.eval ++ us) := by
        refine ⟨by simp [h1, h2], fun i hi hi' => ?_⟩
        simp only [List.getElem_append, Array.getElem_append, List.length_append, Array.size_append, List.length_map, Array.size_map, Array.length_toList, h1]
        split
        · split
          · exact hvs i _
          · simp only [List.getElem_map, Array.getElem_map, Array.getElem_toList]
            exact he.eval hh _
        · exact hus _ _
      refine (hcall K _ hargs hh).mono fun en w' hp => ?_
      obtain ⟨v, K', r, h', rfl, rfl, q1, q2, q3, q4⟩ := hp
      exact hk r h' K' v q1 q2 q3 q4
  have yld : ∀ (c : Call) (f : Operand) (l : Nat), o.op = .call c → c.callee = .value f → ev X e f = .fn (.yield l) [] [] → CallsY X l (c.args.toList.map (ev X e)) h k → o.wpIn (F0 ro) 0 X.P a K.w next Qx := fun c f l ho hc hf hcall => by
    refine ⟨fun _ _ => trivial, ?_⟩
    rw [Oper.semAt_eq _ _ _ (fun c hc => by rw [ho] at hc; cases hc)]
    have hr := he.eval hh f
    rw [hf] at hr
    generalize hv : a.eval f = v at hr
    cases hr with
    | fn _ _ _ vs us h1 h2 hvs hus =>
      obtain rfl : vs = #[] := by apply Array.eq_empty_of_size_eq_zero; simpa using h1.symm
      obtain rfl : us = #[] := by apply Array.eq_empty_of_size_eq_zero; simpa using h2.symm
      have hargs : RVs K (c.args.toList.map (ev X e)) (c.args.map a.eval) := by
        refine ⟨by simp, fun i hi hi' => ?_⟩
        simp only [List.getElem_map, Array.getElem_map, Array.getElem_toList]
        exact he.eval hh _
      obtain ⟨fn, tmps, assign, body, h3, h4⟩ := hcall K _ hargs hh
      have hexec : (execOp a.eval o).run X.P K.w = .ok (.round l fn tmps assign body) K.w := by
        unfold execOp
        simp only [ho, resolve, hc, hv, Deferred.ofValue, Sem.run_bind, Sem.run_pure, Result.andThen_ok]
        simp [invoke, h3]
      rw [hexec, Oper.uponIn_round]
      refine ⟨F0_depth, ?_⟩
      have h5 : RoundIn (F0 ro) (0 - 1) X.P l fn ((fun x => x) tmps) assign body K.w fun en w' => ∃ v K' r h', en = .returned v ∧ K'.w = w' ∧ ExtA K h K' h' ∧ RH X K' h' ∧ RV K' r v ∧ k r h' := h4
      refine RoundIn.mono h5 fun en w' hp => ?_
      obtain ⟨v, K', r, h', rfl, rfl, q1, q2, q3, q4⟩ := hp
      exact hk r h' K' v q1 q2 q3 q4
  cases ho : o.op with
  | call c =>
    rw [ho] at hs
    simp only [stepT] at hs
    cases hc : c.callee with
    | value f =>
      rw [hc] at hs
      simp only at hs
      split at hs
      · rename_i g fs cs hf
        exact call c f g fs cs ho hc hf hs.1 hs.2
      · rename_i l hf
        exact yld c f l ho hc hf hs
      · exact hs.elim
    | builtin b => rw [hc] at hs; exact eff _ ho (fun _ => by simp) hs
    | invoke r n => rw [hc] at hs; exact eff _ ho (fun _ => by simp) hs
  | next it b =>
    rw [ho] at hs
    cases b with
    | true => exact eff _ ho (fun _ => by simp) hs
    | false =>
      simp only [stepT] at hs
      split at hs
      · rename_i id hit
        split at hs
        · rename_i mid since seen last hi
          split at hs
          · rename_i kvs clock hm
            exact next_step he hh ho hit hi hm hs.1 hs.2.1 hs.2.2 hk
          · exact hs.elim
        · rename_i since seen last hi
          refine eff _ ho (fun _ => by simp) ?_
          simp only [opE, nextH, hit, hi]
          simpa [setAll] using hs
        · exact hs.elim
      · exact hs.elim
  | defer c => rw [ho] at hs; simp [stepT, opE, opV] at hs
  | _ => rw [ho] at hs; exact eff _ ho (fun _ => by simp) hs

theorem wantH_sound {e : Env} {a : Act} {B N : Nat} {ops : Array Oper} {o : Oper} {b : Bool} (he : RE K B N e a) (h : wantH e ops o = some b) : Region.wanted o (yielded ops a.tmps) = b := by
  unfold wantH at h
  unfold Region.wanted
  split at h
  · rename_i hg
    injection h with h
    simp [hg, ← h]
  · rename_i j want hg
    simp only [hg]
    split at h
    · rename_i t ht
      have hr := he.tmps t
      unfold yielded
      rw [ht]
      simp only [Option.bind_some]
      split at h
      · rename_i c hc
        injection h with h; subst h
        rw [hc] at hr
        have hv := hr.ofBool
        have : a.tmps[t]? = some (.bool c) := by
          rw [Array.getD_eq_getD_getElem?] at hv
          cases hx : a.tmps[t]? with
          | none => rw [hx] at hv; simp [undef] at hv
          | some u => rw [hx] at hv; simp at hv; rw [hv]
        rw [this]
        cases c <;> cases want <;> rfl
      · rename_i hc
        injection h with h; subst h
        rw [hc] at hr
        have : ∀ c, a.tmps[t]? ≠ some (.bool c) := fun c hx => by
          rw [Array.getD_eq_getD_getElem?, hx] at hr
          cases hr
        split
        · rename_i c hx; exact absurd hx (this c)
        · rfl
      · cases h
    · cases h

theorem opsT_wp {ops : Array Oper} {Q : Env → Hp → Prop} {Qx : Exit → Act → World → Prop} : ∀ (rest : List Oper) (n : Nat) (e : Env) (h : Hp) (K : KS) (B : Nat) (a : Act), ops.toList.drop n = rest → opsT X C ops Q rest e h → RE K B C.N e a → RH X K h →
    (∀ e' h' K' a', ExtA K h K' h' → RE K' B C.N e' a' → RH X K' h' → Q e' h' → Qx .normal a' K'.w) → wpOpsIn (F0 C.ro) 0 X.P ops Qx (List.range' n (ops.size - n)) a K.w := by
  intro rest
  induction rest with
  | nil =>
    intro n e h K B a hd hs he hh hQ
    have : ops.size - n = 0 := by
      have := congrArg List.length hd
      simpa using this
    rw [this]
    exact hQ e h K a (.refl _ _) he hh hs
  | cons o rest ih =>
    intro n e h K B a hd hs he hh hQ
    have hlt : n < ops.size := by
      have := congrArg List.length hd
      simp at this
      omega
    have hget : ops[n]? = some o := by
      have := congrArg (·[0]?) hd
      simpa using this
    have hrest : ops.toList.drop (n + 1) = rest := by
      have := congrArg (List.drop 1) hd
      simpa [List.drop_drop] using this
    have hrange : List.range' n (ops.size - n) = n :: List.range' (n + 1) (ops.size - (n + 1)) := by
      rw [show ops.size - n = (ops.size - (n + 1)) + 1 from by omega]
      rfl
    rw [hrange]
    simp only [wpOpsIn, hget]
    simp only [opsT] at hs
    have cont : ∀ x h' K' v, ExtA K h K' h' → RH X K' h' → RV K' x v → opsT X C ops Q rest (putE C.N e o.dst x) h' → wpOpsIn (F0 C.ro) 0 X.P ops Qx (List.range' (n + 1) (ops.size - (n + 1))) (a.put o.dst v) K'.w := fun x h' K' v x1 hh1 hrv hop => by
      refine ih (n + 1) (putE C.N e o.dst x) h' K' B _ hrest hop ((he.ext x1.toExt hh).put o.dst hrv) hh1 fun e2 h2 K2 a2 x2 r1 r2 q => hQ e2 h2 K2 a2 (x1.trans x2 hh) r1 r2 q
    split at hs
    · rename_i hw
      rw [wantH_sound he hw, if_pos rfl]
      exact stepT_wp he hh hs cont
    · rename_i hw
      rw [wantH_sound he hw, if_neg (by simp)]
      exact ⟨fun _ _ => trivial, cont _ h K _ (.refl _ _) hh (.tup [] #[] rfl (fun i hi => absurd hi (Nat.not_lt_zero _))) hs⟩
    · exact hs.elim

/-- A region whose operations go in the order of the text. -/
theorem WP.region {id : Nat} {ops : Array Oper} {Q : Exit → Env → Hp → Prop} {e : Env} {h : Hp} (hs : opsT X C ops (fun e h => Q .normal e h) ops.toList e h) : WP X C (.region id ops false) Q e h := by
  intro K B a he hh
  refine wpIn_region ?_
  have := opsT_wp (Qx := Post X K h B C.N Q) ops.toList 0 e h K B a rfl hs he hh (fun e' h' K' a' x r1 r2 q => ⟨K', e', h', rfl, x, r1, r2, q⟩)
  rwa [Nat.sub_zero, ← List.range_eq_range'] at this

end
end Go.HL

