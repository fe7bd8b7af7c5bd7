/-
  HL, part Z: loops over functions: the contract of an iterator; the rule for the loop.
-/
import Derived.Test.YtonhbeapffiibaaHlY
import Derived.RangeFuncIn
namespace Go.HL

/-- It asks of the objects of its list alone. -/
def Loc (J : List Nat → Hp → Prop) : Prop := ∀ fp h h', J fp h → (∀ i ∈ fp, h'[i]? = h[i]?) → J fp h'

/-- Behind a piece of code that turns the objects of fp alone, and makes new ones. -/
def afterY (h : Hp) (fp : List Nat) (J : List Nat → Hp → Prop) (h' : Hp) : Prop :=
  ∃ fp', (∀ i ∈ fp', (i ∈ fp ∨ h.length ≤ i) ∧ i < h'.length) ∧ (∀ i, i < h.length → ¬ i ∈ fp → h'[i]? = h[i]?) ∧ h.length ≤ h'.length ∧ J fp' h'

theorem afterY.refl {h : Hp} {fp : List Nat} {J : List Nat → Hp → Prop} (hf : ∀ i ∈ fp, i < h.length) (hJ : J fp h) : afterY h fp J h :=
  ⟨fp, fun i hi => ⟨.inl hi, hf i hi⟩, fun _ _ _ => rfl, Nat.le_refl _, hJ⟩

theorem afterY.mono {h h' : Hp} {fp : List Nat} {J J' : List Nat → Hp → Prop} (ha : afterY h fp J h') (hJ : ∀ fp, J fp h' → J' fp h') : afterY h fp J' h' := by
  obtain ⟨fp', h1, h2, h3, h4⟩ := ha
  exact ⟨fp', h1, h2, h3, hJ _ h4⟩

theorem afterY.trans {h h1 h2 : Hp} {fp : List Nat} {J J' : List Nat → Hp → Prop} (ha : afterY h fp J h1) (hb : ∀ fp', (∀ i ∈ fp', i < h1.length) → J fp' h1 → afterY h1 fp' J' h2) : afterY h fp J' h2 := by
  obtain ⟨f1, a1, a2, a3, a4⟩ := ha
  obtain ⟨f2, b1, b2, b3, b4⟩ := hb f1 (fun i hi => (a1 i hi).2) a4
  refine ⟨f2, fun i hi => ⟨?_, (b1 i hi).2⟩, fun i hi hn => ?_, Nat.le_trans a3 b3, b4⟩
  · rcases (b1 i hi).1 with h' | h'
    · exact (a1 i h').1
    · exact .inr (Nat.le_trans a3 h')
  · rw [b2 i (Nat.lt_of_lt_of_le hi a3) (fun hm => ?_), a2 i hi hn]
    rcases (a1 i hm).1 with h' | h'
    · exact hn h'
    · omega

theorem afterY.step {h h1 h2 : Hp} {fp f1 : List Nat} {J' : List Nat → Hp → Prop} (a1 : ∀ i ∈ f1, (i ∈ fp ∨ h.length ≤ i) ∧ i < h1.length) (a2 : ∀ i, i < h.length → ¬ i ∈ fp → h1[i]? = h[i]?) (a3 : h.length ≤ h1.length) (hb : afterY h1 f1 J' h2) : afterY h fp J' h2 :=
  afterY.trans (J := fun f _ => f = f1) ⟨f1, a1, a2, a3, rfl⟩ fun _ _ e => e ▸ hb

/-- The iterator 'gf', which has captured 'lb', hands over the tuples 'xs', one after the other. -/
def IterH (X : PG) (gf : FuncId) (lb : List HV) (xs : List (List HV)) : Prop :=
  ∀ (i : Inv) (h0 : Hp) (fp0 : List Nat) (l : Nat) (J Jx : List (List HV) → List Nat → Hp → Prop), (∀ pre, Loc (J pre)) → (∀ pre, Loc (Jx pre)) →
    (∀ i ∈ fp0, i < h0.length) → J [] fp0 h0 →
    (∀ pre x rest fp h, xs = pre ++ x :: rest → (∀ i ∈ fp, i < h.length) → J pre fp h →
      CallsY (X.withI i) l x h fun v h' => (v = .bool true ∧ afterY h fp (J (pre ++ [x])) h') ∨ (v = .bool false ∧ afterY h fp (Jx (pre ++ [x])) h')) →
    CallsH (X.withI i) gf (.fn (.yield l) [] [] :: lb) h0 fun _ h' => afterY h0 fp0 (J xs) h' ∨ ∃ pre x rest, xs = pre ++ x :: rest ∧ afterY h0 fp0 (Jx (pre ++ [x])) h'

def putL (N : Nat) : Env → List Nat → List HV → Env
  | e, p :: ps, x :: xs => putL N (putE N e (some p) x) ps xs
  | e, _, _ => e

theorem RE.putL {K : KS} {B N : Nat} : ∀ (ps : List Nat) (xs : List HV) (vs : List Value) (e : Env) (a : Act), RE K B N e a → xs.length = vs.length → (∀ i (h : i < xs.length) (h' : i < vs.length), RV K xs[i] vs[i]) →
    RE K B N (HL.putL N e ps xs) { a with tmps := (ps.zip vs).foldl (fun t (p, v) => t.setIfInBounds p v) a.tmps }
  | [], xs, vs, e, a, he, _, _ => by cases xs <;> exact he
  | p :: ps, [], [], e, a, he, _, _ => he
  | p :: ps, x :: xs, v :: vs, e, a, he, hl, hv => by
    have h1 := he.put (some p) (hv 0 (by simp) (by simp))
    have h2 := RE.putL ps xs vs _ _ h1 (by simpa using hl) (fun i h h' => by have := hv (i + 1) (by simpa using h) (by simpa using h'); simpa using this)
    exact h2
  | p :: ps, [], v :: vs, e, a, _, hl, _ => by simp at hl
  | p :: ps, x :: xs, [], e, a, _, hl, _ => by simp at hl

theorem RH.weak {X : PG} {K : KS} {h : Hp} {i : Inv} (hh : RH (X.withI i) K h) (hlow : X.low ≤ i.low) (hi : ∀ K, i.inv K → X.inv K) : RH X K h :=
  ⟨hh.A, hh.obj, hh.live, hh.inj, hh.Lb, ⟨hh.glob.var, Nat.le_trans hlow hh.glob.low, hi _ hh.glob.inv⟩⟩

/-- The state has grown out of K2. -/
def behind (X : PG) (K2 : KS) (hlow : X.low ≤ K2.w.heap.size) : Inv where
  low := K2.w.heap.size
  inv K := X.inv K ∧ K2.le K
  mono K K' h h' := ⟨X.mono _ _ h h'.1, h'.2.trans h⟩
  touch K w' hs hb h := ⟨X.touch K w' hs (fun b hl => hb b (by omega)) h.1, ⟨by show _ ≤ w'.heap.size; rw [hs]; exact h.2.size, fun b hl hL => (hb b hl).trans (h.2.block b hl hL), h.2.L, h.2.A⟩⟩

theorem RH.strong {X : PG} {K2 K : KS} {h : Hp} (hlow : X.low ≤ K2.w.heap.size) (hh : RH X K h) (hle : K2.le K) : RH (X.withI (behind X K2 hlow)) K h :=
  ⟨hh.A, hh.obj, hh.live, hh.inj, hh.Lb, ⟨hh.glob.var, hle.size, hh.glob.inv, hle⟩⟩

/-- How the body of a round may be left. -/
def roundQ (I : List Nat → Hp → Prop) (Ix : Code → List Nat → Hp → Prop) (h : Hp) (fp : List Nat) : Exit → Env → Hp → Prop
  | .normal, _, h' => afterY h fp I h'
  | .ret, _, h' => afterY h fp (Ix .ret) h'
  | .exit id, _, h' => afterY h fp (Ix (.exit id)) h'
  | .goto t, _, h' => afterY h fp (Ix (.goto t)) h'
  | .panic _, _, _ => False
  | .outgrown, _, _ => False

section
variable {X : PG} {C : Cx} {e : Env} {h : Hp} {Q : Exit → Env → Hp → Prop}

/-- The record of a loop over a function turns. -/
theorem RH.record {K : KS} {h : Hp} {id l : Nat} {r r' : Loop} (hh : RH X K h) (hA : K.A id) (ho : h[id]? = some (.loop l r)) :
    Ext K h { K with w := K.w.putObj l (.loop r') } (h.set id (.loop l r')) ∧ RH X { K with w := K.w.putObj l (.loop r') } (h.set id (.loop l r')) := by
  obtain ⟨hc, hb, hw⟩ := hh.obj id _ hA ho
  refine hh.write hA ho rfl hc (by simp [World.putObj]) (fun b hne => World.putObj_heap_other (fun e => hne (e.trans hb.symm))) rfl rfl rfl fun _ => ⟨hc, hb, ?_⟩
  show (K.w.putObj l (.loop r')).heap[K.b id]? = _
  rw [hb] at hw ⊢
  exact World.putObj_heap_same (Array.getElem?_eq_some_iff.1 hw).1

/-- The record of the loop, and what the loop's own objects say. -/
def JR (lid l : Nat) (r : Loop) (I : List Nat → Hp → Prop) (fp : List Nat) (h : Hp) : Prop := ∃ fp', fp = lid :: fp' ∧ ¬ lid ∈ fp' ∧ h[lid]? = some (.loop l r) ∧ I fp' h

theorem JR.loc {lid l : Nat} {r : Loop} {I : List Nat → Hp → Prop} (hI : Loc I) : Loc (JR lid l r I) := by
  rintro fp h h' ⟨fp', rfl, h1, h2, h3⟩ he
  exact ⟨fp', rfl, h1, (he lid (by simp)).trans h2, hI _ _ _ h3 fun i hi => he i (by simp [hi])⟩

theorem JR.after {h1 h4 h6 : Hp} {lid l : Nat} {o : HO} {r : Loop} {fp' fp4 : List Nat} {I : List Nat → Hp → Prop} (hI : Loc I) (hlt : lid < h1.length) (hn : ¬ lid ∈ fp')
    (a1 : ∀ i ∈ fp4, (i ∈ fp' ∨ h1.length ≤ i) ∧ i < h4.length) (a2 : ∀ i, i < h1.length → ¬ i ∈ fp' → h4[i]? = h1[i]?) (a3 : h1.length ≤ h4.length)
    (hb : afterY (h4.set lid o) fp4 I h6) : afterY h1 (lid :: fp') (JR lid l r I) (h6.set lid (.loop l r)) ∧ h6[lid]? = some o := by
  obtain ⟨fp6, b1, b2, b3, b4⟩ := hb
  rw [List.length_set] at b2 b3
  have hn4 : ¬ lid ∈ fp4 := fun hm => by
    rcases (a1 lid hm).1 with h | h
    · exact hn h
    · omega
  have hn6 : ¬ lid ∈ fp6 := fun hm => by
    rcases (b1 lid hm).1 with h | h
    · exact hn4 h
    · rw [List.length_set] at h; omega
  have h6l : h6[lid]? = some o := by
    rw [b2 lid (by omega) hn4, List.getElem?_set_self (by omega)]
  refine ⟨⟨lid :: fp6, fun i hi => ?_, fun i hi hni => ?_, by rw [List.length_set]; omega, fp6, rfl, hn6, List.getElem?_set_self (by omega), hI _ _ _ b4 fun i hi => List.getElem?_set_ne fun e => hn6 (by rw [e]; exact hi)⟩, h6l⟩
  · rw [List.length_set]
    rcases List.mem_cons.1 hi with rfl | hi
    · exact ⟨.inl (by simp), by omega⟩
    · refine ⟨?_, (b1 i hi).2⟩
      rcases (b1 i hi).1 with h | h
      · rcases (a1 i h).1 with h' | h'
        · exact .inl (by simp [h'])
        · exact .inr h'
      · rw [List.length_set] at h; exact .inr (by omega)
  · simp only [List.mem_cons, not_or] at hni
    rw [List.getElem?_set_ne (fun e => hni.1 e.symm), b2 i (by omega) (fun hm => ?_), List.getElem?_set_ne (fun e => hni.1 e.symm), a2 i hi hni.2]
    rcases (a1 i hm).1 with h | h
    · exact hni.2 h
    · omega

/-- One round. -/
theorem yield_round {K2 : KS} {B lid l D fn : Nat} {a : Act} {ps : Array Tmp} {assign body : Code} (hlow : X.low ≤ K2.w.heap.size) (he : RE K2 B C.N e a) (hA2 : K2.A lid)
    (I : List (List HV) → List Nat → Hp → Prop) (Ix : Code → List (List HV) → List Nat → Hp → Prop) (A : Env → List (List HV) → List HV → List Nat → Hp → Prop) (hI : ∀ pre, Loc (I pre)) (hIx : ∀ c pre, Loc (Ix c pre)) (hA : ∀ e pre x, Loc (A e pre x))
    (pre : List (List HV)) (x : List HV) (hx : x.length = ps.size)
    (hround : ∀ fp h1, (∀ i ∈ fp, i < h1.length) → ¬ lid ∈ fp → (∃ r, h1[lid]? = some (.loop l r)) → I pre fp h1 → WP X { C with ro := some l } assign (fun ex e2 h2 => ex = .normal ∧ afterY h1 fp (A e2 pre x) h2) (putL C.N e ps.toList x) h1)
    (hbody : ∀ fp e2 h2, (∀ i ∈ fp, i < h2.length) → ¬ lid ∈ fp → (∃ r, h2[lid]? = some (.loop l r)) → A e2 pre x fp h2 → WP X { C with ro := some l } body (roundQ (I (pre ++ [x])) (fun c => Ix c (pre ++ [x])) h2 fp) e2 h2)
    (fp : List Nat) (h1 : Hp) (hfp : ∀ i ∈ fp, i < h1.length) (hJ : JR lid l { state := .ready, pending := none, fn := fn, tmps := a.tmps, params := ps, assign := assign, body := body, defers := D } (I pre) fp h1) :
    CallsY (X.withI (behind X K2 hlow)) l x h1 fun v h' =>
      (v = .bool true ∧ afterY h1 fp (JR lid l { state := .ready, pending := none, fn := fn, tmps := a.tmps, params := ps, assign := assign, body := body, defers := D } (I (pre ++ [x]))) h') ∨
      (v = .bool false ∧ afterY h1 fp (fun fp h => ∃ c, JR lid l { state := .done, pending := some c, fn := fn, tmps := a.tmps, params := ps, assign := assign, body := body, defers := D } (Ix c (pre ++ [x])) fp h) h') := by
  obtain ⟨fp', rfl, hn, hrec, hI1⟩ := hJ
  intro K3 vs ha hh3
  have hle : K2.le K3 := hh3.glob.inv.2
  have rh3 : RH X K3 h1 := hh3.weak hlow (fun _ h => h.1)
  have hlt : lid < h1.length := hfp lid (by simp)
  have hfp' : ∀ i ∈ fp', i < h1.length := fun i hi => hfp i (by simp [hi])
  obtain ⟨hc, hb, hw⟩ := rh3.obj lid _ (hle.A lid hA2).1 hrec
  rw [hb] at hw
  refine ⟨fn, _, assign, body, run_yield (P := X.P) (args := vs) hw (by rw [← ha.1]; exact hx), roundIn_of_wpIn (F := F0 none) trivial ?_⟩
  have he3 : RE K3 K3.w.heap.size C.N e { tmps := a.tmps, defers := [] } := ⟨he.size, fun t => (he.tmps t).mono hle, ⟨[], rfl, List.nodup_nil, fun r hr => by cases hr⟩, Nat.le_refl _⟩
  have he3' := RE.putL ps.toList x vs.toList e _ he3 (by simpa using ha.1) (fun i h h' => by simpa using ha.2 i h (by simpa using h'))
  have hz : (ps.zip vs).foldl (fun t (p, v) => t.setIfInBounds p v) a.tmps = (ps.toList.zip vs.toList).foldl (fun t (p, v) => t.setIfInBounds p v) a.tmps := by
    rw [← Array.foldl_toList, Array.toList_zip]
  have he4 : RE K3 K3.w.heap.size C.N (HL.putL C.N e ps.toList x) { tmps := (ps.zip vs).foldl (fun t (p, v) => t.setIfInBounds p v) a.tmps, defers := [] } := by rw [hz]; exact he3'
  refine wpIn_mono (hround fp' h1 hfp' hn ⟨_, hrec⟩ hI1 K3 _ _ he4 rh3) fun ex a4 w4 hp => ?_
  obtain ⟨K4, e4, h4, rfl, x4, r4, rh4, rfl, fp4, a1, a2, a3, hA4⟩ := hp
  have hle4 : K2.le K4 := hle.trans (x4.le rh3)
  have hn4 : ¬ lid ∈ fp4 := fun hm => by
    rcases (a1 lid hm).1 with h | h
    · exact hn h
    · omega
  have hrec4 := (a2 lid hlt hn).trans hrec
  have hA4' := (hle4.A lid hA2).1
  obtain ⟨_, hb4, hw4⟩ := rh4.obj lid _ hA4' hrec4
  rw [hb4] at hw4
  refine ⟨_, run_beginRound hw4 rfl, ?_⟩
  obtain ⟨x5, rh5⟩ := rh4.record (r' := { state := .busy, pending := none, fn := fn, tmps := a.tmps, params := ps, assign := assign, body := body, defers := D }) hA4' hrec4
  have x5' : ExtA K4 h4 _ _ := ⟨x5, by rw [List.length_set]; exact Nat.le_refl _, fun _ h => .inl h⟩
  have r5 := r4.ext x5 rh4
  have hlt4 : lid < h4.length := by omega
  have hA5 := hA e4 pre x fp4 h4 _ hA4 (fun i hi => List.getElem?_set_ne (l := h4) (a := HO.loop l { state := .busy, pending := none, fn := fn, tmps := a.tmps, params := ps, assign := assign, body := body, defers := D }) (fun (e : lid = i) => hn4 (e ▸ hi)))
  refine wpIn_mono (hbody fp4 e4 _ (fun i hi => by rw [List.length_set]; exact (a1 i hi).2) hn4 ⟨_, List.getElem?_set_self hlt4⟩ hA5 _ _ _ r5 rh5) fun ex a6 w6 hp => ?_
  obtain ⟨K6, e6, h6, rfl, x6, r6, rh6, hq⟩ := hp
  have hle6 : K2.le K6 := hle4.trans ((x5'.le rh4).trans (x6.le rh5))
  have hA6 := (hle6.A lid hA2).1
  have fin : ∀ (jump : Option Code) (J : List Nat → Hp → Prop), Loc J → afterY (h4.set lid (.loop l { state := .busy, pending := none, fn := fn, tmps := a.tmps, params := ps, assign := assign, body := body, defers := D })) fp4 J h6 →
      ∃ v w', (Instr.endRound l jump).run X.P K6.w = .ok v w' ∧ ∃ v' K' r h', Ending.returned v = .returned v' ∧ K'.w = w' ∧ ExtA K3 h1 K' h' ∧ RH (X.withI (behind X K2 hlow)) K' h' ∧ RV K' r v' ∧ r = .bool jump.isNone ∧
        afterY h1 (lid :: fp') (JR lid l { state := if jump.isNone then .ready else .done, pending := jump, fn := fn, tmps := a.tmps, params := ps, assign := assign, body := body, defers := D } J) h' := fun jump J hJ haft => by
    obtain ⟨g1, g2⟩ := JR.after (r := { state := if jump.isNone then .ready else .done, pending := jump, fn := fn, tmps := a.tmps, params := ps, assign := assign, body := body, defers := D }) (l := l) hJ hlt hn a1 a2 a3 haft
    obtain ⟨_, hb6, hw6⟩ := rh6.obj lid _ hA6 g2
    rw [hb6] at hw6
    obtain ⟨x7, rh7⟩ := rh6.record (r' := { state := if jump.isNone then .ready else .done, pending := jump, fn := fn, tmps := a.tmps, params := ps, assign := assign, body := body, defers := D }) hA6 g2
    have x7' : ExtA K6 h6 _ _ := ⟨x7, by rw [List.length_set]; exact Nat.le_refl _, fun _ h => .inl h⟩
    have hrun := run_endRound (P := X.P) jump hw6
    exact ⟨_, _, hrun, _, _, _, _, rfl, rfl, (x4.trans (x5'.trans (x6.trans x7' rh5) rh4) rh3), rh7.strong hlow (hle6.trans (x7'.le rh6)), .bool _, rfl, g1⟩
  cases ex with
  | normal =>
    obtain ⟨v, w', g1, v', K', r, h', g2, g3, g4, g5, g6, g7, g8⟩ := fin none _ (hI _) hq
    exact ⟨v, w', g1, v', K', r, h', g2, g3, g4, g5, g6, .inl ⟨g7, g8⟩⟩
  | ret =>
    obtain ⟨v, w', g1, v', K', r, h', g2, g3, g4, g5, g6, g7, g8⟩ := fin (some .ret) _ (hIx _ _) hq
    exact ⟨v, w', g1, v', K', r, h', g2, g3, g4, g5, g6, .inr ⟨g7, g8.mono fun _ h => ⟨_, h⟩⟩⟩
  | exit id =>
    obtain ⟨v, w', g1, v', K', r, h', g2, g3, g4, g5, g6, g7, g8⟩ := fin (some (.exit id)) _ (hIx _ _) hq
    exact ⟨v, w', g1, v', K', r, h', g2, g3, g4, g5, g6, .inr ⟨g7, g8.mono fun _ h => ⟨_, h⟩⟩⟩
  | goto t =>
    obtain ⟨v, w', g1, v', K', r, h', g2, g3, g4, g5, g6, g7, g8⟩ := fin (some (.goto t)) _ (hIx _ _) hq
    exact ⟨v, w', g1, v', K', r, h', g2, g3, g4, g5, g6, .inr ⟨g7, g8.mono fun _ h => ⟨_, h⟩⟩⟩
  | panic ch => exact hq.elim
  | outgrown => exact hq.elim

theorem afterY.outer {h h' : Hp} {ob o : HO} {fp0 : List Nat} {l : Nat} {r : Loop} {I : List Nat → Hp → Prop} (hI : Loc I) (ha : afterY (h ++ [ob]) (h.length :: fp0) (JR h.length l r I) h') :
    h'[h.length]? = some (.loop l r) ∧ afterY h fp0 I (h'.set h.length o) := by
  obtain ⟨fp, h1, h2, h3, fp', rfl, h4, h5, h6⟩ := ha
  rw [List.length_append, List.length_singleton] at h3
  refine ⟨h5, fp', fun i hi => ?_, fun i hi hn => ?_, by rw [List.length_set]; omega, hI _ _ _ h6 fun i hi => List.getElem?_set_ne fun e => h4 (by rw [e]; exact hi)⟩
  · rw [List.length_set]
    refine ⟨?_, (h1 i (by simp [hi])).2⟩
    rcases (h1 i (by simp [hi])).1 with h | h
    · rcases List.mem_cons.1 h with h | h
      · exact .inr (by omega)
      · exact .inl h
    · rw [List.length_append, List.length_singleton] at h; exact .inr (by omega)
  · rw [List.getElem?_set_ne (by omega), h2 i (by simp; omega) (fun hm => ?_), List.getElem?_append_left hi]
    rcases List.mem_cons.1 hm with h | h
    · omega
    · exact hn h

theorem range_core {K K2 : KS} {B l D fn : Nat} {a : Act} {mark : List Deferred} {ps : Array Tmp} {assign body : Code} {gf : FuncId} {lb : List HV} {us : Array Value} {xs : List (List HV)}
    (hh : RH X K h) (hh2 : RH X K2 (h ++ [.loop l { state := .ready, pending := none, fn := fn, tmps := a.tmps, params := ps, assign := assign, body := body, defers := D }]))
    (xA : ExtA K h K2 (h ++ [.loop l { state := .ready, pending := none, fn := fn, tmps := a.tmps, params := ps, assign := assign, body := body, defers := D }])) (he2 : RE K2 B C.N e { a with defers := mark ++ a.defers }) (hA2 : K2.A h.length)
    (hlb : RVs K2 lb us) (hit : IterH X gf lb xs) (hps : ∀ x ∈ xs, x.length = ps.size)
    (I : List (List HV) → List Nat → Hp → Prop) (Ix : Code → List (List HV) → List Nat → Hp → Prop) (A : Env → List (List HV) → List HV → List Nat → Hp → Prop) (hI : ∀ pre, Loc (I pre)) (hIx : ∀ c pre, Loc (Ix c pre)) (hA : ∀ e pre x, Loc (A e pre x))
    (fp0 : List Nat) (hf0 : ∀ i ∈ fp0, i < h.length) (h0 : I [] fp0 h)
    (hround : ∀ pre x rest fp h1, xs = pre ++ x :: rest → (∀ i ∈ fp, i < h1.length) → (¬ h.length ∈ fp) → (∃ r, h1[h.length]? = some (.loop l r)) → I pre fp h1 → WP X { C with ro := some l } assign (fun ex e2 h2 => ex = .normal ∧ afterY h1 fp (A e2 pre x) h2) (putL C.N e ps.toList x) h1)
    (hbody : ∀ pre x rest fp e2 h2, xs = pre ++ x :: rest → (∀ i ∈ fp, i < h2.length) → (¬ h.length ∈ fp) → (∃ r, h2[h.length]? = some (.loop l r)) → A e2 pre x fp h2 → WP X { C with ro := some l } body (roundQ (I (pre ++ [x])) (fun c => Ix c (pre ++ [x])) h2 fp) e2 h2)
    (hdone : ∀ h', afterY h fp0 (I xs) h' → Q .normal e h')
    (hstop : ∀ c pre x rest h', xs = pre ++ x :: rest → afterY h fp0 (Ix c (pre ++ [x])) h' → WP X C c Q e h') :
    CallsIn (F0 none) 0 X.P gf (#[.func (.yield l) #[] #[]] ++ us) K2.w (rangePost (F0 C.ro) 0 X.P l (Post X K h B C.N Q) { a with defers := mark ++ a.defers }) := by
  have hlow : X.low ≤ K2.w.heap.size := hh2.glob.low
  have hn0 : ¬ h.length ∈ fp0 := fun hm => by have := hf0 _ hm; omega
  have he2' : RE K2 B C.N e { a with defers := mark ++ a.defers } := he2
  have hargs : RVs K2 (.fn (.yield l) [] [] :: lb) (#[.func (.yield l) #[] #[]] ++ us) := by
    refine ⟨by simp [hlb.1]; omega, fun i hi hi' => ?_⟩
    cases i with
    | zero =>
      have : RV K2 (.fn (.yield l) [] []) (.func (.yield l) #[] #[]) := .fn (.yield l) [] [] #[] #[] rfl rfl (fun i hi => absurd hi (Nat.not_lt_zero _)) (fun i hi => absurd hi (Nat.not_lt_zero _))
      simpa [Array.getElem_append] using this
    | succ i =>
      have := hlb.2 i (by simpa using hi) (by simp at hi'; omega)
      simpa [Array.getElem_append] using this
  have hcall := hit (behind X K2 hlow) _ (h.length :: fp0) l (fun pre => JR h.length l { state := .ready, pending := none, fn := fn, tmps := a.tmps, params := ps, assign := assign, body := body, defers := D } (I pre))
    (fun pre fp hx => ∃ c, JR h.length l { state := .done, pending := some c, fn := fn, tmps := a.tmps, params := ps, assign := assign, body := body, defers := D } (Ix c pre) fp hx)
    (fun pre => JR.loc (hI pre)) (fun pre fp h h' hJ he => by obtain ⟨c, hc⟩ := hJ; exact ⟨c, JR.loc (hIx c pre) _ _ _ hc he⟩)
    (fun i hi => by
      rw [List.length_append, List.length_singleton]
      rcases List.mem_cons.1 hi with h | h
      · omega
      · have := hf0 i h; omega)
    ⟨fp0, rfl, hn0, by simp, hI [] _ _ _ h0 fun i hi => List.getElem?_append_left (hf0 i hi)⟩
    (fun pre x rest fp h1 hxs hfp hJ => yield_round (a := { a with defers := mark ++ a.defers }) hlow he2' hA2 I Ix A hI hIx hA pre x (hps x (by rw [hxs]; simp)) (fun fp h1 g1 g2 g3 g4 => hround pre x rest fp h1 hxs g1 g2 g3 g4) (fun fp e2 h2 g1 g2 g3 g4 => hbody pre x rest fp e2 h2 hxs g1 g2 g3 g4) fp h1 hfp hJ)
    K2 _ hargs (hh2.strong hlow (.refl _))
  refine hcall.mono ?_
  rintro en w' ⟨v, K', r, h', rfl, rfl, xK, hhK, _, hR⟩
  have rhK : RH X K' h' := hhK.weak hlow (fun _ h => h.1)
  have xK' : ExtA K2 _ K' h' := xK
  have hAK : K'.A h.length := (hhK.glob.inv.2.A _ hA2).1
  have fin : ∀ (J : List Nat → Hp → Prop) (st : LoopState) (pe : Option Code), st ≠ .busy → Loc J → afterY (h ++ [.loop l { state := .ready, pending := none, fn := fn, tmps := a.tmps, params := ps, assign := assign, body := body, defers := D }]) (h.length :: fp0) (JR h.length l { state := st, pending := pe, fn := fn, tmps := a.tmps, params := ps, assign := assign, body := body, defers := D } J) h' →
      ∃ K4 h4, (Instr.endLoop l).run X.P K'.w = .ok pe K4.w ∧ ExtA K h K4 h4 ∧ RE K4 B C.N e { a with defers := mark ++ a.defers } ∧ RH X K4 h4 ∧ afterY h fp0 J h4 := fun J st pe hst hJ haft => by
    obtain ⟨g1, g2⟩ := afterY.outer (o := .loop l { state := .exhausted, pending := pe, fn := fn, tmps := a.tmps, params := ps, assign := assign, body := body, defers := D }) hJ haft
    obtain ⟨_, hb, hw⟩ := rhK.obj _ _ hAK g1
    rw [hb] at hw
    obtain ⟨x7, rh7⟩ := rhK.record (r' := { state := .exhausted, pending := pe, fn := fn, tmps := a.tmps, params := ps, assign := assign, body := body, defers := D }) hAK g1
    have x7' : ExtA K' h' _ _ := ⟨x7, by rw [List.length_set]; exact Nat.le_refl _, fun _ h => .inl h⟩
    have hrun := run_endLoop (P := X.P) hw hst
    exact ⟨_, _, hrun, xA.trans (xK'.trans x7' hh2) hh, (he2'.ext xK'.toExt hh2).ext x7 rhK, rh7, g2⟩
  rcases hR with hR | ⟨pre, x, rest, hxs, hR⟩
  · obtain ⟨K4, h4, g1, g2, g3, g4, g5⟩ := fin _ .ready none (by simp) (hI xs) hR
    exact ⟨none, K4.w, g1, K4, e, h4, rfl, g2, g3, g4, hdone h4 g5⟩
  · obtain ⟨fp, q1, q2, q3, c, q4⟩ := hR
    obtain ⟨K4, h4, g1, g2, g3, g4, g5⟩ := fin _ .done (some c) (by simp) (hIx c _) ⟨fp, q1, q2, q3, q4⟩
    exact ⟨some c, K4.w, g1, wpIn_mono (hstop c pre x rest h4 hxs g5 K4 B _ g3 g4) fun _ _ _ hp => hp.trans g2 hh⟩

/-- **The loop over a function**, not in a round of another. -/
theorem WP.rangeFunc {g : Operand} {ps : Array Tmp} {assign body : Code} {gf : FuncId} {lb : List HV} {xs : List (List HV)} (hro : C.ro = none) (hg : ev X e g = .fn (.func gf) [] lb) (hen : entersH X.P gf = true) (hit : IterH X gf lb xs) (hps : ∀ x ∈ xs, x.length = ps.size)
    (I : List (List HV) → List Nat → Hp → Prop) (Ix : Code → List (List HV) → List Nat → Hp → Prop) (A : Env → List (List HV) → List HV → List Nat → Hp → Prop) (hI : ∀ pre, Loc (I pre)) (hIx : ∀ c pre, Loc (Ix c pre)) (hA : ∀ e pre x, Loc (A e pre x))
    (fp0 : List Nat) (hf0 : ∀ i ∈ fp0, i < h.length) (h0 : I [] fp0 h)
    (hround : ∀ l lid pre x rest fp h1, xs = pre ++ x :: rest → (∀ i ∈ fp, i < h1.length) → (¬ lid ∈ fp) → (∃ r, h1[lid]? = some (.loop l r)) → I pre fp h1 → WP X { C with ro := some l } assign (fun ex e2 h2 => ex = .normal ∧ afterY h1 fp (A e2 pre x) h2) (putL C.N e ps.toList x) h1)
    (hbody : ∀ l lid pre x rest fp e2 h2, xs = pre ++ x :: rest → (∀ i ∈ fp, i < h2.length) → (¬ lid ∈ fp) → (∃ r, h2[lid]? = some (.loop l r)) → A e2 pre x fp h2 → WP X { C with ro := some l } body (roundQ (I (pre ++ [x])) (fun c => Ix c (pre ++ [x])) h2 fp) e2 h2)
    (hdone : ∀ h', afterY h fp0 (I xs) h' → Q .normal e h')
    (hstop : ∀ c pre x rest h', xs = pre ++ x :: rest → afterY h fp0 (Ix c (pre ++ [x])) h' → WP X C c Q e h') : WP X C (.rangeFunc g ps assign body) Q e h := by
  intro K B a he hh
  have hr := he.eval hh g
  rw [hg] at hr
  generalize hv : a.eval g = v at hr
  cases hr with
  | fn _ _ _ vs us h1 h2 hvs hus =>
    obtain rfl : vs = #[] := by apply Array.eq_empty_of_size_eq_zero; simpa using h1.symm
    refine wpIn_rangeFunc ?_
    intro fn _
    rw [show (F0 C.ro).round = none from hro]
    let rec0 : Loop := { state := .ready, pending := none, fn := fn, tmps := a.tmps, params := ps, assign := assign, body := body, defers := K.w.heap.size }
    obtain ⟨xa, ha⟩ := hh.imm (.deferred (some []))
    have hn : ¬ (K.imm (.deferred (some []))).A h.length := fun h' => by have := hh.A _ h'; omega
    have hsz : (K.imm (.deferred (some []))).w.heap.size = K.w.heap.size + 1 := by simp [KS.imm]
    have hro2 : RO X.P ((K.imm (.deferred (some []))).lay h.length 1 1 (.loop rec0)) h.length (.loop (K.w.heap.size + 1) rec0) := by
      refine ⟨by simp [KS.lay], by simp [KS.lay, hsz], ?_⟩
      have : ((K.imm (.deferred (some []))).lay h.length 1 1 (.loop rec0)).b h.length = (K.imm (.deferred (some []))).w.heap.size := by simp [KS.lay]
      rw [this]
      exact alloc_new _ _
    obtain ⟨xb, hb⟩ := RH.lay (ha.pad [.loop (K.w.heap.size + 1) rec0]) (id := h.length) (cap := 1) (k := 1) (o := .loop rec0) (ob := .loop (K.w.heap.size + 1) rec0) hn (by simp) hro2
    have x2 := xa.trans (xb.unpad ha) hh
    have xA : ExtA K h _ (h ++ [.loop (K.w.heap.size + 1) rec0]) := ⟨x2, by simp, fun i hi => by
      rcases hi with hi | hi
      · exact .inl hi
      · exact .inr (by omega)⟩
    have he1 : RE (K.imm (.deferred (some []))) B C.N e { a with defers := [{ target := .collected K.w.heap.size, args := #[] }] ++ a.defers } := by
      have he0 := he.ext xa hh
      refine ⟨he0.size, he0.tmps, ?_, he0.le⟩
      obtain ⟨rs, d1, d2, d3⟩ := he0.defers
      refine ⟨K.w.heap.size :: rs, by rw [d1]; rfl, List.nodup_cons.2 ⟨fun hm => ?_, d2⟩, fun r hr => ?_⟩
      · obtain ⟨rs', d1', _, d3'⟩ := he.defers
        have hrs : rs = rs' := by
          have := d1.symm.trans d1'
          have := congrArg (List.map fun (d : Deferred) => match d.target with | .collected r => r | _ => 0) this
          simpa [List.map_map, Function.comp_def] using this
        rw [hrs] at hm
        have := (Array.getElem?_eq_some_iff.1 (d3' _ hm).1).1
        omega
      · rcases List.mem_cons.1 hr with rfl | hr
        · exact ⟨alloc_new _ _, he.le⟩
        · exact d3 r hr
    have he2 := he1.ext (xb.unpad ha) ha
    have hlb : RVs ((K.imm (.deferred (some []))).lay h.length 1 1 (.loop rec0)) lb us := ⟨h2, fun i hi hi' => (hus i hi).mono (xA.le hh)⟩
    refine ⟨K.w.heap.size + 1, [{ target := .collected K.w.heap.size, args := #[] }], ((K.w.alloc (.deferred (some []))).alloc (.loop rec0)), { target := .fn (.func gf) us, args := #[.func (.yield (K.w.heap.size + 1)) #[] #[]] }, ((K.w.alloc (.deferred (some []))).alloc (.loop rec0)), gf,
      #[.func (.yield (K.w.heap.size + 1)) #[] #[]] ++ us, ((K.w.alloc (.deferred (some []))).alloc (.loop rec0)), run_enterLoop_outer _ _ _ _ _, ?_, fun _ _ => trivial, ?_, F0_depth, F0_calls ?_⟩
    · simp only [resolve, hv]
      simp [go_sem]
    · have := entersH_enters hen
      simp [invoke, go_sem]
      exact this _ _
    · exact range_core (C := C) (D := K.w.heap.size) (mark := [{ target := .collected K.w.heap.size, args := #[] }]) hh hb xA he2 (.inr rfl) hlb hit hps I Ix A hI hIx hA fp0 hf0 h0 (fun pre x rest fp h1 => hround _ _ pre x rest fp h1) (fun pre x rest fp e2 h2 => hbody _ _ pre x rest fp e2 h2) hdone hstop
end

/-! Rows of the loop's own. -/

/-- The row that a slice lies in. -/
def idsOf : HV → List Nat
  | .ow id _ _ => [id]
  | _ => []

def idsL (L : List (HV × TypeId × List (List HV))) : List Nat := L.flatMap fun p => idsOf p.1

theorem OwnAt.keep {h h' : Hp} {x : HV} {t : TypeId} {es : List (List HV)} (ho : OwnAt h x t es) (he : ∀ i ∈ idsOf x, h'[i]? = h[i]?) : OwnAt h' x t es := by
  rcases ho with ⟨rfl, rfl⟩ | ⟨id, rfl, hid⟩
  · exact .inl ⟨rfl, rfl⟩
  · exact .inr ⟨id, rfl, (he id (by simp [idsOf])).trans hid⟩

theorem OwnsL.keep {h h' : Hp} {L : List (HV × TypeId × List (List HV))} (hL : OwnsL h L) (he : ∀ i ∈ idsL L, h'[i]? = h[i]?) : OwnsL h' L :=
  ⟨fun p hp => (hL.1 p hp).keep fun i hi => he i (List.mem_flatMap.2 ⟨p, hp, hi⟩), hL.2⟩

theorem OwnAt.lt {h : Hp} {x : HV} {t : TypeId} {es : List (List HV)} (ho : OwnAt h x t es) : ∀ i ∈ idsOf x, i < h.length := by
  intro i hi
  rcases ho with ⟨rfl, rfl⟩ | ⟨id, rfl, hid⟩
  · simp [idsOf] at hi
  · simp only [idsOf, List.mem_singleton] at hi
    subst hi
    exact (List.getElem?_eq_some_iff.1 hid).1

theorem OwnsL.lt {h : Hp} {L : List (HV × TypeId × List (List HV))} (hL : OwnsL h L) : ∀ i ∈ idsL L, i < h.length := by
  intro i hi
  obtain ⟨p, hp, hi⟩ := List.mem_flatMap.1 hi
  exact (hL.1 p hp).lt i hi

/-- What append leaves alone, and where the new row lies. -/
theorem OwnAt.append_frame {P : Program} {h : Hp} {T t : TypeId} {x y : HV} {es ys : List (List HV)} {r : ER} (ho : OwnAt h x t es) (he : elemH P T = some t) (hy : elemsH h y = some ys) (hr : appendH P h h.length T x y = some r) :
    (setAll (h ++ r.ns) r.ws).length = h.length + 1 ∧ r.x = .ow h.length 0 (es.length + ys.length) ∧ (∀ j, j < h.length → ¬ j ∈ idsOf x → (setAll (h ++ r.ns) r.ws)[j]? = h[j]?) ∧ r.ws = (idsOf x).map fun i => (i, .gone) := by
  unfold appendH at hr
  simp only [he, hy] at hr
  split at hr
  · rename_i heq
    injection heq with heq
    subst heq
    split at hr
    · rcases ho with ⟨rfl, rfl⟩ | ⟨id, rfl, hid⟩
      · simp only at hr
        split at hr
        · injection hr with hr; subst hr
          exact ⟨by simp [setAll], by simp, fun j hj _ => by simp only [setAll]; rw [List.getElem?_append_left hj], rfl⟩
        · cases hr
      · simp only [hid] at hr
        split at hr
        · injection hr with hr; subst hr
          refine ⟨by simp [setAll], rfl, fun j hj hn => ?_, rfl⟩
          simp only [idsOf, List.mem_singleton] at hn
          simp only [setAll]
          rw [List.getElem?_set_ne (fun e => hn e.symm), List.getElem?_append_left hj]
        · split at hr
          · injection hr with hr; subst hr
            refine ⟨by simp [setAll], rfl, fun j hj hn => ?_, rfl⟩
            simp only [idsOf, List.mem_singleton] at hn
            simp only [setAll]
            rw [List.getElem?_set_ne (fun e => hn e.symm), List.getElem?_append_left hj]
          · cases hr
    · cases hr
  · cases hr

/-- A row is written anew. -/
theorem OwnsL.setRow {h : Hp} {L : List (HV × TypeId × List (List HV))} (hL : OwnsL h L) (i : Nat) {id n : Nat} {t : TypeId} {es es' : List (List HV)} (hi : L[i]? = some (.ow id 0 n, t, es)) (hn : es'.length = n) :
    OwnsL (h.set id (.row t es')) (L.set i (.ow id 0 n, t, es')) := by
  subst hn
  have hlt := (List.getElem?_eq_some_iff.1 (hL.get i hi).row.1).1
  obtain ⟨hi1, hi2⟩ := List.getElem?_eq_some_iff.1 hi
  have hpw := List.pairwise_iff_getElem.1 hL.2
  have e1 : ∀ j (hj : j < (L.set i (.ow id 0 es'.length, t, es')).length), ((L.set i (.ow id 0 es'.length, t, es'))[j]).1 = (L[j]'(by simpa using hj)).1 := fun j hj => by
    rw [List.getElem_set]
    split
    · rename_i e; subst e; rw [hi2]
    · rfl
  refine ⟨fun p hp => ?_, ?_⟩
  · obtain ⟨j, hj, rfl⟩ := List.getElem_of_mem hp
    have hj' : j < L.length := by simpa using hj
    by_cases hij : i = j
    · subst hij
      rw [List.getElem_set_self]
      exact .inr ⟨id, rfl, List.getElem?_set_self hlt⟩
    · rw [List.getElem_set_ne hij]
      refine (hL.1 _ (List.getElem_mem hj')).keep fun k hk => List.getElem?_set_ne fun e => ?_
      subst e
      rcases hL.1 _ (List.getElem_mem hj') with ⟨a, _⟩ | ⟨id', a, _⟩
      · rw [a] at hk; simp [idsOf] at hk
      · rw [a] at hk
        simp only [idsOf, List.mem_singleton] at hk
        subst hk
        rcases Nat.lt_or_gt_of_ne hij with hlt | hlt
        · exact hpw i j hi1 hj' hlt id es'.length _ (by rw [hi2]) a
        · exact hpw j i hj' hi1 hlt id _ es'.length a (by rw [hi2])
  · rw [List.pairwise_iff_getElem]
    intro a b ha hb hab k n m h1 h2
    rw [e1] at h1 h2
    exact hpw a b (by simpa using ha) (by simpa using hb) hab k n m h1 h2

end Go.HL

