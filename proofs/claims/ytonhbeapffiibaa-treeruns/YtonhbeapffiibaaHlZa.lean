/-
  HL, part Za: lists of numbers, of truth values; the library's sort on a row of the call's own.
-/
import Derived.Test.YtonhbeapffiibaaHlZ
import Derived.Sort.OwnSortedInts
import Derived.Calls
namespace Go.HL

theorem in64 {n : Int} (h1 : -9223372036854775808 ≤ n) (h2 : n ≤ 9223372036854775807) : IntKind.i64.wrap n = n := Go.IntWalk.i64_in n ⟨h1, h2⟩
attribute [go_sem] in64

def ints (l : List Int) : List (List HV) := l.map fun n => [.int .i64 n]

theorem ints_length (l : List Int) : (ints l).length = l.length := by simp [ints]
theorem ints_get {l : List Int} {i : Nat} (h : i < l.length) : (ints l)[i]? = some [.int .i64 l[i]] := by simp [ints, h]
theorem ints_append (a b : List Int) : ints a ++ ints b = ints (a ++ b) := by simp [ints]
theorem ints_one (n : Int) : [[HV.int .i64 n]] = ints [n] := rfl
theorem ints_ok (l : List Int) : ∀ cs ∈ ints l, cs.length = 1 ∧ cs.all HV.one = true := by
  intro cs h
  simp only [ints, List.mem_map] at h
  obtain ⟨n, _, rfl⟩ := h
  exact ⟨rfl, rfl⟩
theorem ints_free (l : List Int) : HV.freeLL (ints l) = true := by
  rw [freeLL_all]; simp [ints, HV.free]
theorem ints_set (l : List Int) (i : Nat) (n : Int) : (ints l).set i [.int .i64 n] = ints (l.set i n) := by simp [ints, List.map_set]
theorem ints_replicate (n : Nat) (z : Int) : List.replicate n [HV.int .i64 z] = ints (List.replicate n z) := by simp [ints]
theorem ints_take (l : List Int) (k : Nat) : (ints l).take k = ints (l.take k) := by simp [ints, List.map_take]
theorem ints_drop (l : List Int) (k : Nat) : (ints l).drop k = ints (l.drop k) := by simp [ints, List.map_drop]
theorem ints_inj {a b : List Int} (h : ints a = ints b) : a = b := by
  have := congrArg (List.map fun cs => match cs with | [HV.int _ n] => n | _ => 0) h
  simpa [ints, List.map_map, Function.comp_def] using this
attribute [go_sem] ints_length ints_free ints_set ints_replicate

theorem ints_split {l : List Int} {k : Nat} (h : k < l.length) : ints l = ints (l.take k) ++ [.int .i64 l[k]] :: ints (l.drop (k + 1)) := by
  have : ints (l.take k ++ l[k] :: l.drop (k + 1)) = ints (l.take k) ++ [.int .i64 l[k]] :: ints (l.drop (k + 1)) := by
    simp only [ints, List.map_append, List.map_cons]
  rw [← this]
  simp

theorem ints_mid {l : List Int} {pre rest : List (List HV)} {x : List HV} (h : ints l = pre ++ x :: rest) : (∃ n, x = [.int .i64 n]) ∧ pre.length < l.length ∧ ∀ cs ∈ pre, cs.length = 1 ∧ cs.all HV.one = true := by
  refine ⟨?_, ?_, fun cs hc => ints_ok l cs (by rw [h]; simp [hc])⟩
  · have : x ∈ ints l := by rw [h]; simp
    simp only [ints, List.mem_map] at this
    obtain ⟨n, _, rfl⟩ := this
    exact ⟨n, rfl⟩
  · have := congrArg List.length h
    simp [ints_length] at this
    omega

def boolsH (l : List Bool) : List (List HV) := l.map fun b => [.bool b]
theorem boolsH_length (l : List Bool) : (boolsH l).length = l.length := by simp [boolsH]
theorem boolsH_get {l : List Bool} {i : Nat} (h : i < l.length) : (boolsH l)[i]? = some [.bool l[i]] := by simp [boolsH, h]
theorem boolsH_set (l : List Bool) (i : Nat) (b : Bool) : (boolsH l).set i [.bool b] = boolsH (l.set i b) := by simp [boolsH, List.map_set]
theorem boolsH_replicate (n : Nat) (b : Bool) : List.replicate n [HV.bool b] = boolsH (List.replicate n b) := by simp [boolsH]
theorem boolsH_free (l : List Bool) : HV.freeLL (boolsH l) = true := by
  rw [freeLL_all]; simp [boolsH, HV.free]
attribute [go_sem] boolsH_length boolsH_set boolsH_replicate boolsH_free

section
variable {X : PG} {K : KS}

/-- One of the call's own blocks is written, and new blocks come. -/
theorem RH.writeG {h : Hp} (hh : RH X K h) {id : Nat} {ob ob' : HO} {w' : World} (hA : K.A id) (ho : h[id]? = some ob) (hl : ob.live = true) (hc : K.c id ≠ 0) (hs : K.w.heap.size ≤ w'.heap.size)
    (hb : ∀ b, b < K.w.heap.size → b ≠ K.b id → w'.heap[b]? = K.w.heap[b]?) (e1 : w'.os = K.w.os) (e2 : w'.tape = K.w.tape) (e3 : w'.output = K.w.output) (hr : K.le { K with w := w' } → RO X.P { K with w := w' } id ob') :
    Ext K h { K with w := w' } (h.set id ob') ∧ RH X { K with w := w' } (h.set id ob') := by
  have hlive : liveAt K h id := ⟨hA, ⟨ob, ho, hl⟩, hc⟩
  have hle : K.le { K with w := w' } := ⟨hs, fun b hb' hL => hb b hb' (fun e => hL (e ▸ hh.live id hlive)), fun _ h => .inl h, fun _ h => ⟨h, rfl, rfl, rfl⟩⟩
  have hid := hh.A id hA
  have back : ∀ i, liveAt { K with w := w' } (h.set id ob') i → liveAt K h i := fun i ⟨hA', ⟨o, ho', hlo⟩, hc'⟩ => by
    by_cases hi : i = id
    · subst hi; exact hlive
    · rw [List.getElem?_set_ne (fun e => hi e.symm)] at ho'
      exact ⟨hA', ⟨o, ho', hlo⟩, hc'⟩
  refine ⟨⟨e1, e2, e3, hs, fun b hb' hn => hb b hb' (fun e => hn id hlive e.symm), fun i hi => .inl ⟨i, back i hi, rfl⟩, fun _ h => .inl h, fun _ h _ => h, fun _ h => ⟨h, rfl, rfl, rfl⟩⟩, ?_⟩
  refine ⟨fun i hi => by rw [List.length_set]; exact hh.A i hi, fun i o hAi ho' => ?_, fun i hi => hh.live i (back i hi), fun i j hi hj => hh.inj i j (back i hi) (back j hj), fun b hb => Nat.lt_of_lt_of_le (hh.Lb b hb) hs, hh.glob.mono hle⟩
  by_cases hi : i = id
  · subst hi
    rw [List.getElem?_set_self hid] at ho'
    injection ho' with ho'
    subst ho'
    exact hr hle
  · rw [List.getElem?_set_ne (fun e => hi e.symm)] at ho'
    by_cases hlo : o.live = true ∧ K.c i ≠ 0
    · exact (hh.obj i o hAi ho').mono hle hAi fun hb' hl' hc' => hb _ hb' fun e => hi (hh.inj i id ⟨hAi, ⟨o, ho', hl'⟩, hc'⟩ hlive e)
    · exact (hh.obj i o hAi ho').mono hle hAi fun _ hl' hc' => absurd ⟨hl', hc'⟩ hlo

/-- What the library's sort of numbers is known to do. -/
def SortsInt (P : Program) (f : FuncId) : Prop :=
  ∀ (blk off cap : Nat) (zs : List Int) (w : World), Sort.Holds (Value.int .i64) w blk off zs.toArray → blk < w.heap.size → zs.length < 4611686018427387904 →
    Calls P f #[.slice (some ⟨blk, off, none⟩) zs.length cap] w fun e w' =>
      e = .returned (.tuple #[]) ∧ ∃ n os, w' = Sort.grow (Sort.putRow (Value.int .i64) (Sort.ahead w n) blk off (zs.mergeSort fun x y => decide (x ≤ y)).toArray) os

theorem CallsH.sortInts {f : FuncId} {t : TypeId} {h : Hp} {id : Nat} {l : List Int} (hS : SortsInt X.P f) (hsz : szH X.P t = some 1) (hrow : h[id]? = some (.row t (ints l))) (hpos : 0 < l.length) (hlen : l.length < 4611686018427387904) :
    CallsH X f [.ow id 0 l.length] h fun r h' => r = .tup [] ∧ h' = h.set id (.row t (ints (l.mergeSort fun x y => decide (x ≤ y)))) := by
  intro K vs ha hh
  obtain ⟨v, rfl⟩ : ∃ v, vs = #[v] := by
    have := ha.1
    match vs, this with
    | ⟨[v]⟩, _ => exact ⟨v, rfl⟩
  have hr : RV K (.ow id 0 l.length) v := by have := ha.2 0 (by simp) (by simp); simpa using this
  generalize hn : l.length = n at hr
  cases hr with
  | ow0 => omega
  | ow _ _ _ hA h0 h1 h2 =>
    obtain ⟨k1, _, hrow'⟩ := hh.obj id _ hA hrow
    obtain ⟨cur, c1, c2, c3, c4, c5, c6, c7⟩ := hrow' h0
    have hk : K.k id = 1 := by rw [hsz] at k1; injection k1 with k1; exact k1.symm
    rw [ints_length] at c3
    have hcell : ∀ j, j < l.length → cur[j]? = some (.int .i64 (l.getD j 0)) := fun j hj => by
      obtain ⟨v, q1, q2⟩ := c7 j (by rw [ints_length]; exact hj) 0 (by simp [ints])
      have e1 : (ints l)[j]'(by rw [ints_length]; exact hj) = [.int .i64 l[j]] := by simp [ints]
      simp only [e1, List.getElem_cons_zero] at q2
      rw [hk, Nat.mul_one, Nat.add_zero] at q1
      cases q2
      rw [q1]
      simp [hj]
    have htake : cur.toList.take l.length = l.map (Value.int .i64) := by
      apply List.ext_getElem?
      intro j
      by_cases hj : j < l.length
      · rw [List.getElem?_take_of_lt hj, Array.getElem?_toList, hcell j hj]
        simp [hj]
      · rw [List.getElem?_take_eq_none (by omega), List.getElem?_eq_none (by simp; omega)]
    have hH := holds_of_blockI c1 htake
    have hlt := (Array.getElem?_eq_some_iff.1 c1).1
    have hcall := hS (K.b id) 0 (K.c id - 0) l K.w hH hlt hlen
    rw [hn] at hcall
    rw [Nat.zero_mul]
    refine (show CallsIn (F0 none) 0 X.P f _ K.w _ from callsIn_wide.2 hcall).mono ?_
    rintro en w' ⟨rfl, m, os, rfl⟩
    have hl' : (l.mergeSort fun x y => decide (x ≤ y)).length = l.length := by simp
    generalize l.mergeSort (fun x y => decide (x ≤ y)) = l' at hl' ⊢
    have hgr : K.w.grownBy (Sort.grow (Sort.putRow (Value.int .i64) (Sort.ahead K.w m) (K.b id) 0 l'.toArray) os) (some (K.b id)) := grownBy_sortedI _
    have hnew := heap_sortedI (n := m) (os := os) l'.toArray c1
    generalize Sort.grow (Sort.putRow (Value.int .i64) (Sort.ahead K.w m) (K.b id) 0 l'.toArray) os = w' at hgr hnew ⊢
    obtain ⟨g1, g2, g3, g4, g5⟩ := hgr
    have hcells : ∀ i (hi : i < (ints l').length) j (hj : j < (ints l')[i].length), ∃ v, (Sort.putCells (Value.int .i64) 0 l'.toArray cur)[i * K.k id + j]? = some v ∧ RV { K with w := w' } (ints l')[i][j] v := by
      intro i hi j hj
      rw [ints_length] at hi
      have hj0 : j = 0 := by simp [ints] at hj; exact hj
      subst hj0
      refine ⟨.int .i64 l'[i], ?_, ?_⟩
      · rw [hk, Nat.mul_one, Nat.add_zero]
        have : i < cur.size := by rw [c2, hk]; omega
        simp [Sort.putCells, hi, this]
      · have e1 : (ints l')[i]'(by rw [ints_length]; exact hi) = [.int .i64 l'[i]] := by simp [ints]
        simp only [e1, List.getElem_cons_zero]
        exact .int _ _
    have hro : RO X.P { K with w := w' } id (.row t (ints l')) :=
      ⟨by show szH X.P t = some (K.k id); rw [hk]; exact hsz, fun e => absurd e h0, fun _ => ⟨_, hnew, by simp [Sort.putCells, c2], by rw [ints_length, hl']; exact c3, c4, fun i hi => by show _ = K.k id; rw [hk]; simp [ints], fun i hi j hj => by simp [ints, HV.one], hcells⟩⟩
    obtain ⟨x1, x2⟩ := hh.writeG (ob' := .row t (ints l')) hA hrow rfl h0 g4 (fun b hb hne => g5 b hb (fun e => hne (Option.some.inj e))) (by assumption) (by assumption) (by assumption) (fun _ => hro)
    exact ⟨_, _, _, _, rfl, rfl, ⟨x1, by rw [List.length_set]; exact Nat.le_refl _, fun _ h => .inl h⟩, x2, .tup [] #[] rfl (fun i hi => absurd hi (Nat.not_lt_zero _)), rfl, rfl⟩


def SortsNone (P : Program) (f : FuncId) : Prop := ∀ (p : Option Addr) (cap : Nat) (w : World), Calls P f #[.slice p 0 cap] w fun e w' => e = .returned (.tuple #[]) ∧ w' = w

theorem CallsH.sort0 {f : FuncId} {h : Hp} {x : HV} (hS : SortsNone X.P f) (hx : ∀ K v, RV K x v → ∃ p cap, v = .slice p 0 cap) : CallsH X f [x] h fun r h' => r = .tup [] ∧ h' = h := by
  intro K vs ha hh
  obtain ⟨v, rfl⟩ : ∃ v, vs = #[v] := by
    have := ha.1
    match vs, this with
    | ⟨[v]⟩, _ => exact ⟨v, rfl⟩
  have hr : RV K x v := by have := ha.2 0 (by simp) (by simp); simpa using this
  obtain ⟨p, cap, rfl⟩ := hx K v hr
  refine (show CallsIn (F0 none) 0 X.P f _ K.w _ from callsIn_wide.2 (hS p cap K.w)).mono ?_
  rintro en w' ⟨rfl, rfl⟩
  exact ⟨_, K, _, _, rfl, rfl, .refl _ _, hh, .tup [] #[] rfl (fun i hi => absurd hi (Nat.not_lt_zero _)), rfl, rfl⟩

/-- The library's sort, at a list that append has built. -/
theorem CallsH.sortOwn {f : FuncId} {t : TypeId} {h : Hp} {x : HV} {l : List Int} (hS : SortsInt X.P f) (hS0 : SortsNone X.P f) (hsz : szH X.P t = some 1) (ho : OwnAt h x t (ints l)) (hlen : l.length < 4611686018427387904) :
    CallsH X f [x] h fun r h' => r = .tup [] ∧ OwnAt h' x t (ints (l.mergeSort fun x y => decide (x ≤ y))) ∧ h'.length = h.length ∧ ∀ j, ¬ j ∈ idsOf x → h'[j]? = h[j]? := by
  by_cases hz : l.length = 0
  · obtain rfl : l = [] := List.eq_nil_of_length_eq_zero hz
    refine (CallsH.sort0 hS0 fun K v hr => ?_).mono fun r h' hp => ⟨hp.1, by rw [hp.2]; simpa using ho, by rw [hp.2], fun j _ => by rw [hp.2]⟩
    rcases ho with ⟨rfl, _⟩ | ⟨id, rfl, _⟩
    · cases hr with
      | sl0 full a cap => exact ⟨a, cap, rfl⟩
      | sl full es k b off cap cv h0 => simp at h0
    · rw [ints_length, hz] at hr
      cases hr with
      | ow _ _ _ hA h0 h1 h2 => exact ⟨_, _, rfl⟩
      | ow0 _ a hA h0 => exact ⟨_, _, rfl⟩
  · rcases ho with ⟨_, h0⟩ | ⟨id, rfl, hid⟩
    · have := congrArg List.length h0; rw [ints_length] at this; exact absurd this hz
    · rw [ints_length]
      have hlt := (List.getElem?_eq_some_iff.1 hid).1
      refine (CallsH.sortInts hS hsz hid (by omega) hlen).mono fun r h' hp => ⟨hp.1, .inr ⟨id, ?_, ?_⟩, ?_, fun j hj => ?_⟩
      · rw [ints_length]; simp
      · rw [hp.2, List.getElem?_set_self hlt]
      · rw [hp.2, List.length_set]
      · simp only [idsOf, List.mem_singleton] at hj
        rw [hp.2, List.getElem?_set_ne fun e => hj e.symm]

end

end Go.HL

