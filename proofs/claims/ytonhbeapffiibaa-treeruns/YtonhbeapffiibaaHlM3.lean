/-
  HL, part O: values without references to the call's own objects; pure contracts; reading own objects as immutable data.
-/
import Derived.Test.YtonhbeapffiibaaHlN
namespace Go.HL

def HV.flat1 : HV → Bool
  | .bool _ => true
  | .int _ _ => true
  | .str _ => true
  | .nul _ => true
  | .und => true
  | .sl _ [] => true
  | _ => false

/-- No memory at all: numbers, strings, nils, and structs of those. -/
def HV.flat : HV → Bool
  | .agg cs => cs.all HV.flat1
  | .tup cs => cs.all HV.flat1
  | x => x.flat1

theorem RV.ofFlat1 {K K' : KS} {x : HV} {v : Value} (hr : RV K x v) (hx : x.flat1 = true) : RV K' x v := by
  cases hr with
  | bool b => exact .bool b
  | int k n => exact .int k n
  | str s => exact .str s
  | nul v hv => exact .nul v hv
  | und v => exact .und v
  | sl0 full a cap h1 h2 h3 => exact .sl0 full a cap h1 h2 h3
  | sl full es k b off cap cv h0 => cases es with | nil => simp at h0 | cons e es => simp [HV.flat1] at hx
  | _ => simp [HV.flat1] at hx

theorem RV.ofFlat {K K' : KS} {x : HV} {v : Value} (hr : RV K x v) (hx : x.flat = true) : RV K' x v := by
  cases x with
  | agg cs =>
    cases hr with
    | agg cs vs h1 h2 =>
      simp only [HV.flat, List.all_eq_true] at hx
      exact .agg cs vs h1 (fun i hi => (h2 i hi).ofFlat1 (hx _ (List.getElem_mem hi)))
  | tup cs =>
    cases hr with
    | tup cs vs h1 h2 =>
      simp only [HV.flat, List.all_eq_true] at hx
      exact .tup cs vs h1 (fun i hi => (h2 i hi).ofFlat1 (hx _ (List.getElem_mem hi)))
  | _ => exact hr.ofFlat1 hx

/-- The state in which all own objects have become immutable data. -/
def KS.all (K : KS) (h : Hp) : KS := { K with A := fun _ => False, L := fun b => K.L b ∧ ∀ id, liveAt K h id → K.b id ≠ b }

mutual
/-- An own reference read as immutable data; the number bounds the depth of references. -/
def rdV (h : Hp) : Nat → HV → Option HV
  | 0, x => if x.free then some x else none
  | n + 1, .ow id lo len =>
    match h[id]? with
    | some (.row _ es) => if lo + len ≤ es.length then (rdLL h n ((es.drop lo).take len)).map (.sl false) else none
    | _ => none
  | n + 1, .ep id i off =>
    match h[id]? with
    | some (.row _ es) => match es[i]? with | some cs => if off ≤ cs.length then (rdL h n (cs.drop off)).map .ip else none | none => none
    | _ => none
  | n + 1, .sl full es => (rdLL h n es).map (.sl full)
  | n + 1, .ip cs => (rdL h n cs).map .ip
  | n + 1, .agg cs => (rdL h n cs).map .agg
  | n + 1, .tup cs => (rdL h n cs).map .tup
  | n + 1, .fn f fs cs => match rdL h n fs, rdL h n cs with | some a, some b => some (.fn f a b) | _, _ => none
  | _ + 1, .mp _ => none
  | _ + 1, .it _ => none
  | _ + 1, x => some x
def rdL (h : Hp) : Nat → List HV → Option (List HV)
  | _, [] => some []
  | n, x :: rest => match rdV h n x, rdL h n rest with | some y, some ys => some (y :: ys) | _, _ => none
def rdLL (h : Hp) : Nat → List (List HV) → Option (List (List HV))
  | _, [] => some []
  | n, x :: rest => match rdL h n x, rdLL h n rest with | some y, some ys => some (y :: ys) | _, _ => none
end

theorem rdL_get {h : Hp} {n : Nat} : ∀ {xs ys : List HV}, rdL h n xs = some ys → ys.length = xs.length ∧ ∀ i (hi : i < xs.length) (hi' : i < ys.length), rdV h n xs[i] = some ys[i]
  | [], ys, hr => by
    simp only [rdL, Option.some.injEq] at hr
    subst hr
    exact ⟨rfl, fun i hi => absurd hi (Nat.not_lt_zero _)⟩
  | x :: rest, ys, hr => by
    simp only [rdL] at hr
    split at hr
    · rename_i y ys' h1 h2
      injection hr with hr; subst hr
      obtain ⟨g1, g2⟩ := rdL_get h2
      refine ⟨by simp [g1], fun i hi hi' => ?_⟩
      cases i with
      | zero => exact h1
      | succ i => exact g2 i (by simpa using hi) (by simpa using hi')
    · cases hr

theorem rdLL_get {h : Hp} {n : Nat} : ∀ {xs ys : List (List HV)}, rdLL h n xs = some ys → ys.length = xs.length ∧ ∀ i (hi : i < xs.length) (hi' : i < ys.length), rdL h n xs[i] = some ys[i]
  | [], ys, hr => by
    simp only [rdLL, Option.some.injEq] at hr
    subst hr
    exact ⟨rfl, fun i hi => absurd hi (Nat.not_lt_zero _)⟩
  | x :: rest, ys, hr => by
    simp only [rdLL] at hr
    split at hr
    · rename_i y ys' h1 h2
      injection hr with hr; subst hr
      obtain ⟨g1, g2⟩ := rdLL_get h2
      refine ⟨by simp [g1], fun i hi hi' => ?_⟩
      cases i with
      | zero => exact h1
      | succ i => exact g2 i (by simpa using hi) (by simpa using hi')
    · cases hr

mutual
theorem rdV_free {h : Hp} : ∀ (n : Nat) (x : HV), x.free = true → rdV h n x = some x
  | 0, x, hx => by simp [rdV, hx]
  | n + 1, .sl full es, hx => by simp [rdV, rdLL_free n es (by simpa [HV.free] using hx)]
  | n + 1, .ip cs, hx => by simp [rdV, rdL_free n cs (by simpa [HV.free] using hx)]
  | n + 1, .agg cs, hx => by simp [rdV, rdL_free n cs (by simpa [HV.free] using hx)]
  | n + 1, .tup cs, hx => by simp [rdV, rdL_free n cs (by simpa [HV.free] using hx)]
  | n + 1, .fn f fs cs, hx => by
    simp only [HV.free, Bool.and_eq_true] at hx
    simp [rdV, rdL_free n fs hx.1, rdL_free n cs hx.2]
  | n + 1, .ow _ _ _, hx => by simp [HV.free] at hx
  | n + 1, .ep _ _ _, hx => by simp [HV.free] at hx
  | n + 1, .mp _, hx => by simp [HV.free] at hx
  | n + 1, .it _, hx => by simp [HV.free] at hx
  | n + 1, .bool _, _ => by simp [rdV]
  | n + 1, .int _ _, _ => by simp [rdV]
  | n + 1, .str _, _ => by simp [rdV]
  | n + 1, .nul _, _ => by simp [rdV]
  | n + 1, .und, _ => by simp [rdV]
theorem rdL_free {h : Hp} : ∀ (n : Nat) (xs : List HV), HV.freeL xs = true → rdL h n xs = some xs
  | n, [], _ => by simp [rdL]
  | n, x :: rest, hx => by
    simp only [HV.freeL, Bool.and_eq_true] at hx
    simp [rdL, rdV_free n x hx.1, rdL_free n rest hx.2]
theorem rdLL_free {h : Hp} : ∀ (n : Nat) (xs : List (List HV)), HV.freeLL xs = true → rdLL h n xs = some xs
  | n, [], _ => by simp [rdLL]
  | n, x :: rest, hx => by
    simp only [HV.freeLL, Bool.and_eq_true] at hx
    simp [rdLL, rdL_free n x hx.1, rdLL_free n rest hx.2]
end

section
variable {X : PG} {K : KS}

theorem rdV_sound {h : Hp} {K' : KS} (hh : RH X K h) (hw : K'.w = K.w) (hL : ∀ b, K'.L b → K.L b) (hlv : ∀ id, liveAt K h id → ¬ K'.L (K.b id)) : ∀ (n : Nat) {x y : HV} {v : Value}, RV K x v → rdV h n x = some y → RV K' y v := by
  intro n
  induction n with
  | zero =>
    intro x y v hr hy
    simp only [rdV] at hy
    split at hy
    · rename_i hx
      injection hy with hy; subst hy
      exact hr.free hw hL hx
    · cases hy
  | succ n ih =>
    intro x y v hr hy
    cases hr with
    | bool b => simp only [rdV, Option.some.injEq] at hy; subst hy; exact .bool b
    | int k m => simp only [rdV, Option.some.injEq] at hy; subst hy; exact .int k m
    | str s => simp only [rdV, Option.some.injEq] at hy; subst hy; exact .str s
    | nul v hv => simp only [rdV, Option.some.injEq] at hy; subst hy; exact .nul v hv
    | und v => simp only [rdV, Option.some.injEq] at hy; subst hy; exact .und v
    | sl0 full a cap h1 h2 h3 =>
      simp only [rdV, rdLL, Option.map_some, Option.some.injEq] at hy
      subst hy
      exact .sl0 full a cap h1 h2 h3
    | sl full es k b off cap cv h0 h1 h2 h3 hb hL' hk hc hr =>
      simp only [rdV, Option.map_eq_some_iff] at hy
      obtain ⟨ys, g1, rfl⟩ := hy
      obtain ⟨g2, g3⟩ := rdLL_get g1
      rw [← g2]
      refine .sl full ys k b off cap cv (by omega) (by omega) (by rw [g2]; exact h2) h3 (by rw [hw]; exact hb) (fun h => hL' (hL b h)) (fun i hi => ?_) (fun i hi j hj => ?_) (fun i hi j hj => ?_)
      · obtain ⟨q1, _⟩ := rdL_get (g3 i (by omega) hi)
        rw [q1]; exact hk i (by omega)
      · obtain ⟨q1, _⟩ := rdL_get (g3 i (by omega) hi)
        rw [hw]; exact hc i (by omega) j (by omega)
      · obtain ⟨q1, q2⟩ := rdL_get (g3 i (by omega) hi)
        exact ih (hr i (by omega) j (by omega)) (q2 j (by omega) hj)
    | ip cs b off cv hb hL' hc hr =>
      simp only [rdV, Option.map_eq_some_iff] at hy
      obtain ⟨ys, g1, rfl⟩ := hy
      obtain ⟨g2, g3⟩ := rdL_get g1
      exact .ip ys b off cv (by rw [hw]; exact hb) (fun h => hL' (hL b h)) (fun j hj => by rw [hw]; exact hc j (by omega)) (fun j hj => ih (hr j (by omega)) (g3 j (by omega) hj))
    | agg cs vs h1 hr =>
      simp only [rdV, Option.map_eq_some_iff] at hy
      obtain ⟨ys, g1, rfl⟩ := hy
      obtain ⟨g2, g3⟩ := rdL_get g1
      exact .agg ys vs (by omega) (fun j hj => ih (hr j (by omega)) (g3 j (by omega) hj))
    | tup cs vs h1 hr =>
      simp only [rdV, Option.map_eq_some_iff] at hy
      obtain ⟨ys, g1, rfl⟩ := hy
      obtain ⟨g2, g3⟩ := rdL_get g1
      exact .tup ys vs (by omega) (fun j hj => ih (hr j (by omega)) (g3 j (by omega) hj))
    | fn f fs cs vs us h1 h2 hf hc =>
      simp only [rdV] at hy
      split at hy
      · rename_i a b ha hb
        injection hy with hy; subst hy
        obtain ⟨g1, g2⟩ := rdL_get ha
        obtain ⟨g3, g4⟩ := rdL_get hb
        exact .fn f a b vs us (by omega) (by omega) (fun j hj => ih (hf j (by omega)) (g2 j (by omega) hj)) (fun j hj => ih (hc j (by omega)) (g4 j (by omega) hj))
      · cases hy
    | mp id hA => simp [rdV] at hy
    | it id hA => simp [rdV] at hy
    | ow id lo len hA h0 h1 h2 =>
      simp only [rdV] at hy
      split at hy
      · rename_i t es ho
        split at hy
        · rename_i hle
          obtain ⟨ys, g1, rfl⟩ := Option.map_eq_some_iff.1 hy
          obtain ⟨g2, g3⟩ := rdLL_get g1
          obtain ⟨_, _, hrow⟩ := hh.obj id _ hA ho
          obtain ⟨cur, c1, c2, c3, c4, c5⟩ := (hrow h0).get
          have hlen : ((es.drop lo).take len).length = len := by simp; omega
          rw [hlen] at g2
          by_cases hz : len = 0
          · have : ys = [] := List.eq_nil_of_length_eq_zero (by omega)
            subst this hz
            exact .sl0 false _ _ (fun h => by cases h) (fun h => by cases h) (by omega)
          · have cell : ∀ i (hi : i < ys.length) j (hj : j < ys[i].length), ∃ u, cur[(lo + i) * K.k id + j]? = some u ∧ RV K' ys[i][j] u := fun i hi j hj => by
              obtain ⟨q1, q2⟩ := rdL_get (g3 i (by omega) hi)
              have e1 : ((es.drop lo).take len)[i]'(by omega) = es[lo + i]'(by omega) := by simp
              obtain ⟨f1, f2⟩ := c5 (lo + i) (es[lo + i]'(by omega)) (List.getElem?_eq_getElem (by omega))
              have hj' : j < (es[lo + i]'(by omega)).length := by rw [← e1]; omega
              obtain ⟨_, u, f3, f4⟩ := f2 j _ (List.getElem?_eq_getElem hj')
              refine ⟨u, f3, ih f4 ?_⟩
              have := q2 j (by omega) hj
              simpa only [e1] using this
            have hlk : ∀ i (hi : i < ys.length), ys[i].length = K.k id := fun i hi => by
              obtain ⟨q1, _⟩ := rdL_get (g3 i (by omega) hi)
              have e1 : ((es.drop lo).take len)[i]'(by omega) = es[lo + i]'(by omega) := by simp
              rw [q1, e1]
              exact (c5 (lo + i) _ (List.getElem?_eq_getElem (by omega))).1
            have hbs : K.b id < K'.w.heap.size := by rw [hw]; exact (Array.getElem?_eq_some_iff.1 c1).1
            rw [← g2]
            refine .sl false ys (K.k id) (K.b id) (lo * K.k id) (K.c id - lo) (fun i j => (cur[(lo + i) * K.k id + j]?).getD undef) (by omega) (by omega) (fun h => by cases h) (by omega) hbs
              (hlv id ⟨hA, ⟨_, ho, rfl⟩, h0⟩) hlk (fun i hi j hj => ?_) (fun i hi j hj => ?_)
            · obtain ⟨u, f3, _⟩ := cell i hi j hj
              rw [hw]
              rw [cell_row c1, show lo * K.k id + i * K.k id + j = (lo + i) * K.k id + j from by rw [Nat.add_mul], f3]
              rfl
            · obtain ⟨u, f3, f4⟩ := cell i hi j hj
              simpa only [f3, Option.getD_some] using f4
        · cases hy
      · cases hy
    | ow0 id a hA h0 =>
      simp only [rdV] at hy
      split at hy
      · rename_i t es ho
        split at hy
        · rename_i hle
          simp only [List.take_zero, rdLL, Option.map_some, Option.some.injEq] at hy
          subst hy
          exact .sl0 false a 0 (fun _ => rfl) (fun _ => rfl) (Nat.zero_le _)
        · cases hy
      · cases hy
    | ep id i off hA =>
      simp only [rdV] at hy
      split at hy
      · rename_i t es ho
        split at hy
        · rename_i cs hcs
          split at hy
          · rename_i hle
            obtain ⟨ys, g1, rfl⟩ := Option.map_eq_some_iff.1 hy
            obtain ⟨g2, g3⟩ := rdL_get g1
            obtain ⟨_, hc0, hrow⟩ := hh.obj id _ hA ho
            have h0 : K.c id ≠ 0 := fun e => by have := hc0 e; subst this; simp at hcs
            obtain ⟨cur, c1, c2, c3, c4, c5⟩ := (hrow h0).get
            obtain ⟨f1, f2⟩ := c5 i cs hcs
            have cell : ∀ j (hj : j < ys.length), ∃ u, cur[i * K.k id + off + j]? = some u ∧ RV K' ys[j] u := fun j hj => by
              have hj' : off + j < cs.length := by simp at g2; omega
              obtain ⟨_, u, f3, f4⟩ := f2 (off + j) _ (List.getElem?_eq_getElem hj')
              refine ⟨u, by rw [Nat.add_assoc]; exact f3, ih f4 ?_⟩
              have := g3 j (by omega) hj
              simpa using this
            refine .ip ys (K.b id) (i * K.k id + off) (fun j => (cur[i * K.k id + off + j]?).getD undef) (by rw [hw]; exact (Array.getElem?_eq_some_iff.1 c1).1) (hlv id ⟨hA, ⟨_, ho, rfl⟩, h0⟩) (fun j hj => ?_) (fun j hj => ?_)
            · obtain ⟨u, f3, _⟩ := cell j hj
              rw [hw]
              rw [cell_row c1, f3]
              rfl
            · obtain ⟨u, f3, f4⟩ := cell j hj
              simpa only [f3, Option.getD_some] using f4
          · cases hy
        · cases hy
      · cases hy
/-- A pure contract: at arguments without own references; what comes back bears none. -/
def CallsP (X : PG) (f : FuncId) (args : List HV) (R : HV → Prop) : Prop := CallsH X f args [] (fun r h' => R r ∧ h' = [])

theorem CallsP.mono {f : FuncId} {args : List HV} {R R' : HV → Prop} (hc : CallsP X f args R) (hr : ∀ r, R r → R' r) : CallsP X f args R' := CallsH.mono hc fun r _ h => ⟨hr r h.1, h.2⟩

theorem noLive {K : KS} {id : Nat} : ¬ liveAt K [] id := fun ⟨_, ⟨_, ho, _⟩, _⟩ => by simp at ho

/-- No own objects at all. -/
theorem RH.none [hX : PG.Flat X] {i : Inv} {h : Hp} {K' : KS} (hh : RH (X.withI i) K h) (hw : K'.w = K.w) (hL : ∀ b, K'.L b → K.L b) (hA : ∀ id, ¬ K'.A id) : RH X K' [] :=
  ⟨fun id h => absurd h (hA id), fun id _ h => absurd h (hA id), fun _ h => absurd h noLive, fun _ _ h => absurd h noLive, fun b hb => by rw [hw]; exact hh.Lb b (hL b hb), ⟨fun g => (hh.glob.var g).free hw hL (X.fr g), by rw [hX.low]; exact Nat.zero_le _, hX.inv _⟩⟩

theorem CallsP.of_wp [PG.Flat X] {f : FuncId} {fn : Func} {c : Code} {args : List HV} {R : HV → Prop} (own : List String) (hf : X.P.funcs[f]? = some fn) (hb : fn.body = some c)
    (hc : WP X { N := args.length + (fn.ntmps - args.length), own := own } c (fnPost X.P fn fun r h' => ∃ n y, rdV h' n r = some y ∧ R y) (argEnv (args.length + (fn.ntmps - args.length)) args) []) : CallsP X f args R := by
  intro K vs ha hh
  refine (CallsH.of_wp own hf hb hc K vs ha hh).mono fun en w' hp => ?_
  obtain ⟨v, K', r, h', rfl, rfl, x, hh', hrv, n, y, hy, hR⟩ := hp
  have hA : ∀ i, ¬ K.A i := fun i hi => by have := hh.A i hi; simp at this
  refine ⟨v, K'.all h', y, [], rfl, rfl, ⟨⟨x.os, x.tape, x.output, x.size, fun b hb _ => x.block b hb (fun _ h => absurd h noLive), fun id hl => absurd hl noLive, fun b hb => x.L b hb.1, fun b hb _ => ⟨x.keep b hb (fun _ h => absurd h noLive), fun id hl e => ?_⟩, fun i hi => absurd hi (hA i)⟩, Nat.le_refl _, fun _ h => h.elim⟩, RH.none (i := X.i) hh' rfl (fun b hb => hb.1) (fun _ h => h), rdV_sound (K' := K'.all h') hh' rfl (fun b hb => hb.1) (fun id hl hb => hb.2 id hl rfl) n hrv hy, hR, rfl⟩
  rcases x.new id hl with ⟨i, hi, _⟩ | h'
  · exact noLive hi
  · have := hh.Lb b hb; omega

def keepF (F : List Nat) (h : Hp) : Hp := h.mapIdx fun i o => if F.contains i then o else .gone
def goneF (F : List Nat) (h : Hp) : Hp := h.mapIdx fun i o => if F.contains i then .gone else o

theorem goneF_nil (h : Hp) : goneF [] h = h := by
  apply List.ext_getElem?
  intro i
  simp [goneF]

theorem goneF_get {F : List Nat} {h : Hp} {id : Nat} {o : HO} (ho : (goneF F h)[id]? = some o) (hl : o.live = true) : h[id]? = some o ∧ ¬ id ∈ F := by
  simp only [goneF, List.getElem?_mapIdx, Option.map_eq_some_iff] at ho
  obtain ⟨o', h1, h2⟩ := ho
  split at h2
  · subst h2; cases hl
  · rename_i hn; subst h2; exact ⟨h1, by simpa using hn⟩

theorem keepF_get {F : List Nat} {h : Hp} {id : Nat} {o : HO} (ho : (keepF F h)[id]? = some o) (hl : o.live = true) : h[id]? = some o ∧ id ∈ F := by
  simp only [keepF, List.getElem?_mapIdx, Option.map_eq_some_iff] at ho
  obtain ⟨o', h1, h2⟩ := ho
  split at h2
  · rename_i hn; subst h2; exact ⟨h1, by simpa using hn⟩
  · subst h2; cases hl

/-- Fewer objects. -/
theorem RH.fewer {h h' : Hp} (hh : RH X K h) (hlen : h'.length = h.length) (hs : ∀ (id : Nat) (o : HO), o.live = true → h'[id]? = some o → h[id]? = some o) : RH X K h' := by
  have back : ∀ i, liveAt K h' i → liveAt K h i := fun i ⟨hA, ⟨o, ho, hl⟩, hc⟩ => ⟨hA, ⟨o, hs i o hl ho, hl⟩, hc⟩
  refine ⟨fun id hA => by rw [hlen]; exact hh.A id hA, fun id o hA ho => ?_, fun id hl => hh.live id (back id hl), fun i j hi hj => hh.inj i j (back i hi) (back j hj), hh.Lb, hh.glob⟩
  by_cases hl : o.live = true
  · exact hh.obj id o hA (hs id o hl ho)
  · cases o <;> first | trivial | exact absurd rfl hl

/-- A call by a pure contract: the objects F are given up, and read as immutable data from then on. -/
theorem CallsP.callI [PG.Flat X] {i : Inv} {f : FuncId} {args args' : List HV} {R : HV → Prop} {h : Hp} {k : HV → Hp → Prop} (hP : CallsP X f args' R) (F : List Nat) (n : Nat) (hr : rdL (keepF F h) n args = some args') (hk : ∀ r, R r → k r (goneF F h)) : CallsH (X.withI i) f args h k := by
  intro K vs ha hh
  let K0 : KS := { K with A := fun _ => False, L := fun b => K.L b ∧ ∀ id, liveAt K (keepF F h) id → K.b id ≠ b }
  have hL0 : ∀ b, K0.L b → K.L b := fun b hb => hb.1
  have hkeep : RH (X.withI i) K (keepF F h) := hh.fewer (by simp [keepF]) (fun id o hl ho => (keepF_get ho hl).1)
  obtain ⟨g1, g2⟩ := rdL_get hr
  have ha' : RVs K0 args' vs := ⟨by rw [g1]; exact ha.1, fun i hi hi' => rdV_sound (K' := K0) hkeep rfl hL0 (fun id hl hb => hb.2 id hl rfl) n (ha.2 i (by omega) hi') (g2 i (by omega) hi)⟩
  have hh0 : RH X K0 [] := RH.none hh rfl hL0 (fun _ h => h)
  refine (hP K0 vs ha' hh0).mono fun en w' hp => ?_
  obtain ⟨v, K1, r, h', rfl, rfl, x, hh1, hrv, hR, rfl⟩ := hp
  have hA1 : ∀ i, ¬ K1.A i := fun i hi => by have := hh1.A i hi; simp at this
  let K2 : KS := { K1 with A := K.A, b := K.b, c := K.c, k := K.k }
  have hle12 : K1.le K2 := ⟨Nat.le_refl _, fun _ _ _ => rfl, fun _ h => .inl h, fun i hi => absurd hi (hA1 i)⟩
  have hblock : ∀ b, b < K.w.heap.size → K2.w.heap[b]? = K.w.heap[b]? := fun b hb => x.block b hb (fun _ h => absurd h noLive)
  have hle : K.le K2 := ⟨x.size, fun b hb _ => hblock b hb, fun b hb => (x.L b hb).imp (hL0 b) id, fun _ h => ⟨h, rfl, rfl, rfl⟩⟩
  have back : ∀ i, liveAt K2 (goneF F h) i → liveAt K h i ∧ ¬ i ∈ F := fun i ⟨hA, ⟨o, ho, hl⟩, hc⟩ => ⟨⟨hA, ⟨o, (goneF_get ho hl).1, hl⟩, hc⟩, (goneF_get ho hl).2⟩
  have kept : ∀ i, liveAt K (keepF F h) i → liveAt K h i ∧ i ∈ F := fun i ⟨hA, ⟨o, ho, hl⟩, hc⟩ => ⟨⟨hA, ⟨o, (keepF_get ho hl).1, hl⟩, hc⟩, (keepF_get ho hl).2⟩
  refine ⟨v, K2, r, goneF F h, rfl, rfl, ⟨⟨x.os, x.tape, x.output, x.size, fun b hb _ => hblock b hb, fun id hl => .inl ⟨id, (back id hl).1, rfl⟩, fun b hb => (x.L b hb).imp (hL0 b) id, fun b hb hn => x.keep b ⟨hb, fun id hl => hn id (kept id hl).1⟩ (fun _ h => absurd h noLive), fun _ h => ⟨h, rfl, rfl, rfl⟩⟩, by simp [goneF], fun _ h => .inl h⟩,
    ⟨fun id hA => by simpa [goneF] using hh.A id hA, fun id o hA ho => ?_, fun id hl => x.keep _ ⟨hh.live id (back id hl).1, fun j hj e => ?_⟩ (fun _ h => absurd h noLive), fun i j hi hj e => hh.inj i j (back i hi).1 (back j hj).1 e, hh1.Lb, hh.glob.mono hle⟩, hrv.mono hle12, hk r hR⟩
  · by_cases hl : o.live = true
    · exact (hh.obj id o hA (goneF_get ho hl).1).mono hle hA (fun hb _ _ => hblock _ hb)
    · cases o <;> first | trivial | exact absurd rfl hl
  · have := hh.inj j id (kept j hj).1 (back id hl).1 e
    exact (back id hl).2 (this ▸ (kept j hj).2)

/-- A call by a pure contract that hands back no memory: all own objects are lent to it. -/
theorem CallsP.lendI [PG.Flat X] {i : Inv} {f : FuncId} {args args' : List HV} {R : HV → Prop} {h : Hp} {k : HV → Hp → Prop} (hP : CallsP X f args' R) (n : Nat) (hr : rdL h n args = some args') (hflat : ∀ r, R r → r.flat = true) (hk : ∀ r, R r → k r h) : CallsH (X.withI i) f args h k := by
  intro K vs ha hh
  let K0 := K.all h
  have hL0 : ∀ b, K0.L b → K.L b := fun b hb => hb.1
  obtain ⟨g1, g2⟩ := rdL_get hr
  have ha' : RVs K0 args' vs := ⟨by rw [g1]; exact ha.1, fun i hi hi' => rdV_sound (K' := K0) hh rfl hL0 (fun id hl hb => hb.2 id hl rfl) n (ha.2 i (by omega) hi') (g2 i (by omega) hi)⟩
  have hh0 : RH X K0 [] := RH.none hh rfl hL0 (fun _ h => h)
  refine (hP K0 vs ha' hh0).mono fun en w' hp => ?_
  obtain ⟨v, K1, r, h', rfl, rfl, x, hh1, hrv, hR, rfl⟩ := hp
  let K2 : KS := { K1 with A := K.A, b := K.b, c := K.c, k := K.k, L := fun b => K1.L b ∨ K.L b }
  have hblock : ∀ b, b < K.w.heap.size → K2.w.heap[b]? = K.w.heap[b]? := fun b hb => x.block b hb (fun _ h => absurd h noLive)
  have hL2 : ∀ b, K2.L b → K.L b ∨ K.w.heap.size ≤ b := fun b hb => hb.elim (fun h => (x.L b h).imp (hL0 b) id) .inl
  have hle : K.le K2 := ⟨x.size, fun b hb _ => hblock b hb, hL2, fun _ h => ⟨h, rfl, rfl, rfl⟩⟩
  exact ⟨v, K2, r, h, rfl, rfl, ⟨⟨x.os, x.tape, x.output, x.size, fun b hb _ => hblock b hb, fun id hl => .inl ⟨id, hl, rfl⟩, hL2, fun b hb _ => .inr hb, fun _ h => ⟨h, rfl, rfl, rfl⟩⟩, Nat.le_refl _, fun _ h => .inl h⟩,
    ⟨hh.A, fun id o hA ho => (hh.obj id o hA ho).mono hle hA (fun hb _ _ => hblock _ hb), fun id hl => .inr (hh.live id hl), hh.inj, fun b hb => hb.elim (hh1.Lb b) (fun h => Nat.lt_of_lt_of_le (hh.Lb b h) x.size), hh.glob.mono hle⟩, hrv.ofFlat (hflat r hR), hk r hR⟩

theorem CallsP.call [PG.Flat X] {f : FuncId} {args args' : List HV} {R : HV → Prop} {h : Hp} {k : HV → Hp → Prop} (hP : CallsP X f args' R) (F : List Nat) (n : Nat) (hr : rdL (keepF F h) n args = some args') (hk : ∀ r, R r → k r (goneF F h)) : CallsH X f args h k := hP.callI (i := X.i) F n hr hk

theorem CallsP.lend [PG.Flat X] {f : FuncId} {args args' : List HV} {R : HV → Prop} {h : Hp} {k : HV → Hp → Prop} (hP : CallsP X f args' R) (n : Nat) (hr : rdL h n args = some args') (hflat : ∀ r, R r → r.flat = true) (hk : ∀ r, R r → k r h) : CallsH X f args h k := hP.lendI (i := X.i) n hr hflat hk

end

end Go.HL

/-
  HL, part P: what an operation reads of a heap it reads in every heap that holds more.
-/
namespace Go.HL

/-- 'h'' holds what 'h' holds. -/
def hle (h h' : Hp) : Prop := ∀ (id : Nat) (o : HO), o.live = true → h[id]? = some o → h'[id]? = some o

theorem hle.refl (h : Hp) : hle h h := fun _ _ _ ho => ho

section
variable {X : PG} {P : Program} {h h' : Hp}

theorem loadH_mono (hl : hle h h') {t : TypeId} {x y : HV} (hs : loadH P h t x = some y) : loadH P h' t x = some y := by
  unfold loadH at hs ⊢
  split at hs
  · exact hs
  · exact hs
  · rename_i ag id i off hag
    split at hs
    · rename_i t' es ho
      simpa only [hl _ _ rfl ho] using hs
    · cases hs
  · cases hs

theorem sliceH_mono (hl : hle h h') {t : TypeId} {x y : HV} {lo hi mx : Option HV} (hs : sliceH P h t x lo hi mx = some y) : sliceH P h' t x lo hi mx = some y := by
  unfold sliceH at hs ⊢
  split at hs
  · exact hs
  · exact hs
  · split at hs
    · rename_i k t' es hk ho
      simpa only [hk, hl _ _ rfl ho] using hs
    · cases hs
  · cases hs

theorem indexAddrH_mono (hl : hle h h') {t : TypeId} {x i y : HV} (hs : indexAddrH P h t x i = some y) : indexAddrH P h' t x i = some y := by
  unfold indexAddrH at hs ⊢
  split at hs
  · split at hs
    · rename_i hn
      simp only [hn, if_true]
      split at hs
      · exact hs
      · split at hs
        · rename_i e t' es he ho
          simpa only [he, hl _ _ rfl ho] using hs
        · cases hs
      · exact hs
      · exact hs
      · cases hs
    · cases hs
  · cases hs

theorem lenH_mono (hl : hle h h') {t : TypeId} {x y : HV} (hs : lenH P h t x = some y) : lenH P h' t x = some y := by
  unfold lenH at hs ⊢
  split at hs
  · exact hs
  · exact hs
  · exact hs
  · exact hs
  · split at hs
    · rename_i k e kvs c hu ho
      simpa only [hu, hl _ _ rfl ho] using hs
    · cases hs
  · cases hs

theorem rowLive_mono (hl : hle h h') {id : Nat} (hs : rowLive h id = true) : rowLive h' id = true := by
  unfold rowLive at hs ⊢
  split at hs
  · rename_i ho; rw [hl _ _ rfl ho]
  · cases hs

theorem cmpH_mono (hl : hle h h') {op : BinOp} {t : TypeId} {x yv z : HV} {y : Operand} (hs : cmpH P h op t x y yv = some z) : cmpH P h' op t x y yv = some z := by
  unfold cmpH at hs ⊢
  split at hs
  · split at hs
    · split at hs
      · rename_i hc; rw [if_pos hc]; exact hs
      · rename_i hc
        rw [if_neg hc]
        split at hs
        · rename_i hc2
          rw [if_pos ⟨hc2.1, rowLive_mono hl hc2.2.1, rowLive_mono hl hc2.2.2⟩]; exact hs
        · cases hs
    · cases hs
  · exact hs
  · cases hs

theorem opV_mono (hl : hle h h') {ρ : Operand → HV} {o : Op} {y : HV} (hs : opV X ρ h o = some y) : opV X ρ h' o = some y := by
  unfold opV at hs ⊢
  split at hs <;> first | exact hs | skip
  · exact loadH_mono hl hs
  · unfold orV at hs ⊢
    split at hs
    · exact hs
    · exact cmpH_mono hl hs
  · exact sliceH_mono hl hs
  · exact indexAddrH_mono hl hs
  · split at hs <;> first | exact hs | skip
    · split at hs
      · exact lenH_mono hl hs
      · cases hs

theorem storeH_mono (hl : hle h h') {t : TypeId} {p z : HV} {r : ER} (hs : storeH P h t p z = some r) : storeH P h' t p z = some r := by
  unfold storeH at hs ⊢
  split at hs
  · split at hs
    · rename_i ho
      simpa only [hl _ _ rfl ho] using hs
    · cases hs
  · cases hs

theorem elemsH_mono (hl : hle h h') {x : HV} {y : List (List HV)} (hs : elemsH h x = some y) : elemsH h' x = some y := by
  unfold elemsH at hs ⊢
  split at hs
  · exact hs
  · split at hs
    · rename_i ho
      simpa only [hl _ _ rfl ho] using hs
    · cases hs
  · cases hs

theorem appendH_mono (hl : hle h h') {nid : Nat} {t : TypeId} {s y : HV} {r : ER} (hs : appendH P h nid t s y = some r) : appendH P h' nid t s y = some r := by
  unfold appendH at hs ⊢
  split at hs
  · cases hs
  · split at hs
    · rename_i k z bt ys hk hz hb hy
      simp only [hk, hz, hb, elemsH_mono hl hy]
      split at hs
      · rename_i hc
        rw [if_pos hc]
        split at hs
        · exact hs
        · exact hs
        · split at hs
          · rename_i ho
            simpa only [hl _ _ rfl ho] using hs
          · cases hs
        · cases hs
      · cases hs
    · cases hs

theorem kvsH_mono (hl : hle h h') {x : HV} {kvs : List (HV × HV × Nat)} (hs : kvsH h x = some kvs) : kvsH h' x = some kvs := by
  unfold kvsH at hs ⊢
  split at hs
  · exact hs
  · split at hs
    · rename_i ho
      simpa only [hl _ _ rfl ho] using hs
    · cases hs
  · cases hs

theorem lookupH_mono (hl : hle h h') {t : TypeId} {x k y : HV} {ok : Bool} (hs : lookupH P h t x k ok = some y) : lookupH P h' t x k ok = some y := by
  unfold lookupH at hs ⊢
  split at hs
  · rename_i kt e d kvs hm hkv
    simpa only [hm, kvsH_mono hl hkv] using hs
  · cases hs

theorem mapUpdateH_mono (hl : hle h h') {t : TypeId} {x k v : HV} {r : ER} (hs : mapUpdateH P h t x k v = some r) : mapUpdateH P h' t x k v = some r := by
  unfold mapUpdateH at hs ⊢
  split at hs
  · rename_i kt e d id hm
    split at hs
    · rename_i ho
      simpa only [hm, hl _ _ rfl ho] using hs
    · cases hs
  · cases hs

theorem deleteH_mono (hl : hle h h') {t : TypeId} {x k : HV} {r : ER} (hs : deleteH P h t x k = some r) : deleteH P h' t x k = some r := by
  unfold deleteH at hs ⊢
  split at hs
  · rename_i kt e d id hm
    split at hs
    · rename_i ho
      simpa only [hm, hl _ _ rfl ho] using hs
    · cases hs
  · rename_i kt e d hm
    simpa only [hm] using hs
  · cases hs

theorem rangeH_mono (hl : hle h h') {nid : Nat} {t : TypeId} {x : HV} {r : ER} (hs : rangeH P h nid t x = some r) : rangeH P h' nid t x = some r := by
  unfold rangeH at hs ⊢
  split at hs
  · rename_i hu; simpa only [hu] using hs
  · rename_i hu; simpa only [hu] using hs
  · rename_i hu
    split at hs
    · rename_i ho
      simpa only [hu, hl _ _ rfl ho] using hs
    · cases hs
  · cases hs

theorem nextH_mono (hl : hle h h') {it : HV} {b : Bool} {r : ER} (hs : nextH h it b = some r) : nextH h' it b = some r := by
  unfold nextH at hs ⊢
  split at hs
  · split at hs
    · rename_i ho; simpa only [hl _ _ rfl ho] using hs
    · rename_i ho; simpa only [hl _ _ rfl ho] using hs
    · cases hs
  · cases hs

theorem entryH_mono (hl : hle h h') {it y : HV} (hs : entryH h it = some y) : entryH h' it = some y := by
  unfold entryH at hs ⊢
  split at hs
  · split at hs
    · rename_i ho
      split at hs
      · rename_i hm hlast
        simpa only [hl _ _ rfl ho, hl _ _ rfl hm, hlast] using hs
      · cases hs
    · cases hs
  · cases hs

theorem opE_mono (hl : hle h h') {own : Bool} {ρ : Operand → HV} {nid : Nat} {o : Op} {r : ER} (hs : opE X own ρ h nid o = some r) : opE X own ρ h' nid o = some r := by
  have opt : ∀ (o : Op), (opV X ρ h o).map (fun x => ({ x := x } : ER)) = some r → (opV X ρ h' o).map (fun x => ({ x := x } : ER)) = some r := fun o ho => by
    obtain ⟨x, h1, rfl⟩ := Option.map_eq_some_iff.1 ho
    rw [opV_mono hl h1]; rfl
  cases o with
  | box t x => exact hs
  | alloc t => exact hs
  | store t a x => exact storeH_mono hl hs
  | buildSlice t len parts => exact hs
  | makeSlice t l c => exact hs
  | makeMap t r' => cases r' with
    | none => exact hs
    | some y => simp only [opE] at hs ⊢; exact opt _ hs
  | lookup t x k ok =>
    simp only [opE] at hs ⊢
    obtain ⟨y, h1, rfl⟩ := Option.map_eq_some_iff.1 hs
    rw [lookupH_mono hl h1]; rfl
  | mapUpdate t m k x => exact mapUpdateH_mono hl hs
  | insert t m k x => exact mapUpdateH_mono hl hs
  | range t x => exact rangeH_mono hl hs
  | next it b => exact nextH_mono hl hs
  | entry it =>
    simp only [opE] at hs ⊢
    obtain ⟨y, h1, rfl⟩ := Option.map_eq_some_iff.1 hs
    rw [entryH_mono hl h1]; rfl
  | call c =>
    simp only [opE] at hs ⊢
    split at hs
    · split at hs
      · rename_i heq; rw [if_pos heq]; exact appendH_mono hl hs
      · cases hs
    · exact deleteH_mono hl hs
    · exact opt _ hs
  | _ => simp only [opE] at hs ⊢; exact opt _ hs

end
end Go.HL

