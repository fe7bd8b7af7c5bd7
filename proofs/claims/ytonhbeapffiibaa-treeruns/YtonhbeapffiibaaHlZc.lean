/-
  HL, part Zc: from a law's statement to its walk: what is read as data, as abstract values.
-/
import Derived.Test.YtonhbeapffiibaaHlZb
import Derived.ProofKit
import Derived.Carry
namespace Go.HL
open Go.ChangeShapes Go.WideShapes Go.ChangeAt Go.RowKit

/-- Do the fields lie one behind the other? -/
def tiles (P : Program) : Nat → List Field → Nat → Bool
  | off, [], n => off == n
  | off, f :: fs, n => f.offset == off && tiles P (off + P.cellsOf f.type) fs n

/-- Types of plain data: truth values, integers, strings, slices and structs of those. -/
def plainT (P : Program) (ts : List TypeId) : Bool :=
  ts.all fun t => match P.underlying t with
    | some .bool | some (.int _) | some .string => true
    | some (.slice e) => ts.contains e && decide (0 < P.cellsOf e)
    | some (.struct fs) => fs.toList.all (fun f => ts.contains f.type) && tiles P 0 fs.toList (P.cellsOf t)
    | _ => false

/-- Cells that hold data of a type. -/
inductive TC (P : Program) : TypeId → List HV → Prop
  | bool {t : TypeId} (ht : P.underlying t = some .bool) (b : Bool) : TC P t [.bool b]
  | int {t : TypeId} {k : IntKind} (ht : P.underlying t = some (.int k)) (n : Int) (hw : (Lit.int k n).wf = true) : TC P t [.int k n]
  | str {t : TypeId} (ht : P.underlying t = some .string) (s : ByteArray) (hs : s.size ≤ maxLen) : TC P t [.str s]
  | sl {t e : TypeId} (ht : P.underlying t = some (.slice e)) (es : List (List HV)) (hn : es.length ≤ maxLen) (h : ∀ cs ∈ es, TC P e cs) : TC P t [.sl false es]
  | struct {t : TypeId} {fs : Array Field} (ht : P.underlying t = some (.struct fs)) (css : List (List HV)) (hl : css.length = fs.size) (h : ∀ (i : Nat) f cs, fs[i]? = some f → css[i]? = some cs → TC P f.type cs) : TC P t css.flatten

theorem add_plain (b off n : Nat) : (⟨b, off, none⟩ : Addr).add n = ⟨b, off + n, none⟩ := by
  unfold Addr.add
  split
  · rename_i h; subst h; rfl
  · rfl

theorem tiles_flatten {P : Program} {α : Type} (cs : List α) : ∀ (fs : List Field) (off : Nat), tiles P off fs cs.length = true → (fs.map fun f => (cs.drop f.offset).take (P.cellsOf f.type)).flatten = cs.drop off
  | [], off, h => by
    simp only [tiles, beq_iff_eq] at h
    simp [h]
  | f :: fs, off, h => by
    simp only [tiles, Bool.and_eq_true, beq_iff_eq] at h
    obtain ⟨rfl, h2⟩ := h
    rw [List.map_cons, List.flatten_cons, tiles_flatten cs fs _ h2, ← List.drop_drop, List.take_append_drop]

section
variable {H : Type} {enc : TypeId × Value → H} {P : Program} {w : World} {sp : Nat → Bool} {held : Bool}

theorem trod_RV {K : KS} (hw : K.w = w) (hL : ∀ b, ¬ K.L b) {ts : List TypeId} (hts : plainT P ts = true) : ∀ (fuel : Nat) (t : TypeId) (cs : List Value) (x : DataW H × List MemPlace), t ∈ ts → DataW.trod enc P w 0 sp held fuel t cs = some x →
    ∃ xs : List HV, xs.length = cs.length ∧ (∀ i (hi : i < xs.length) (hi' : i < cs.length), RV K xs[i] cs[i]) ∧ TC P t xs := by
  intro fuel
  induction fuel with
  | zero => intro t cs x _ h; simp [DataW.trod] at h
  | succ n ih =>
    intro t cs x ht h
    have hk := List.all_eq_true.1 hts t ht
    split at hk
    · rename_i hu
      obtain ⟨b, rfl, _⟩ := DataW.trod_bool hu h
      exact ⟨[.bool b], rfl, fun i hi hi' => by obtain rfl : i = 0 := by simpa using hi
                                                exact .bool b, .bool hu b⟩
    · rename_i k hu
      obtain ⟨m, rfl, _, hwf⟩ := DataW.trod_int hu h
      exact ⟨[.int k m], rfl, fun i hi hi' => by obtain rfl : i = 0 := by simpa using hi
                                                 exact .int k m, .int hu m hwf⟩
    · rename_i hu
      obtain ⟨s, rfl, _, hs⟩ := DataW.trod_string hu h
      exact ⟨[.str s], rfl, fun i hi hi' => by obtain rfl : i = 0 := by simpa using hi
                                               exact .str s, .str hu s hs⟩
    · rename_i e hu
      simp only [Bool.and_eq_true, decide_eq_true_eq, List.contains_iff_mem] at hk
      obtain ⟨he, hce⟩ := hk
      rcases DataW.trod_slice hu h with ⟨rfl, _⟩ | ⟨a, len, cap, elems, rest, m, hm, rfl, _, _, hl, hc, hlen, hel, _, _⟩
      · exact ⟨[.sl false []], rfl, fun i hi hi' => by obtain rfl : i = 0 := by simpa using hi
                                                       exact .sl0 false none 0 (fun _ => rfl) (fun h => by cases h) (Nat.zero_le _), .sl hu [] (by simp) (fun _ h => by cases h)⟩
      · obtain rfl : m = n := by omega
        by_cases hz : len = 0
        · subst hz
          exact ⟨[.sl false []], rfl, fun i hi hi' => by obtain rfl : i = 0 := by simpa using hi
                                                         exact .sl0 false (some a) cap (fun h => by cases h) (fun h => by cases h) hc, .sl hu [] (by simp) (fun _ h => by cases h)⟩
        · have first : ∃ v, w.cell? a = some v := by
            have h1 := hel 0 (by omega)
            rw [List.getElem?_eq_getElem (by omega)] at h1
            obtain ⟨us, h3, _⟩ := Option.bind_eq_some_iff.1 h1
            unfold World.cells? at h3
            rw [if_pos (Nat.zero_le _)] at h3
            have hul := mapM_some_length h3
            rw [List.length_range] at hul
            have := mapM_some_get h3 0 0 (by simp [hce])
            rw [List.getElem?_eq_getElem (by omega)] at this
            exact ⟨_, by simpa [Addr.add] using this⟩
          obtain ⟨v0, hv0⟩ := first
          have hspot : a.spot = none := by
            unfold World.cell? at hv0
            split at hv0
            · split at hv0
              · cases hv0
              · rename_i hs; simpa using hs
            · cases hv0
          have hbs : a.block < w.heap.size := by
            unfold World.cell? at hv0
            split at hv0
            · rename_i hb; exact (Array.getElem?_eq_some_iff.1 hb).1
            · cases hv0
          obtain ⟨b, off, spot⟩ := a
          simp only at hspot hbs
          subst hspot
          have each : ∀ i, i < len → ∃ us : List Value, us.length = P.cellsOf e ∧ (∀ j (hj : j < us.length), w.cell? ⟨b, off + i * P.cellsOf e + j, none⟩ = some us[j]) ∧ ∃ ys : List HV, ys.length = P.cellsOf e ∧ (∀ j (hj : j < ys.length) (hj' : j < us.length), RV K ys[j] us[j]) ∧ TC P e ys := by
            intro i hi
            have h1 := hel i hi
            rw [List.getElem?_eq_getElem (by omega)] at h1
            obtain ⟨us, h3, h4⟩ := Option.bind_eq_some_iff.1 h1
            unfold World.cells? at h3
            rw [if_pos (Nat.zero_le _)] at h3
            have hul := mapM_some_length h3
            rw [List.length_range] at hul
            obtain ⟨ys, y1, y2, y3⟩ := ih e us _ he h4
            refine ⟨us, hul, fun j hj => ?_, ys, by omega, y2, y3⟩
            have := mapM_some_get h3 j j (by rw [List.getElem?_range (by omega)])
            rw [List.getElem?_eq_getElem hj, add_plain, add_plain] at this
            exact this
          let us (i : Nat) : List Value := if hi : i < len then (each i hi).choose else []
          have hus : ∀ i (hi : i < len), (us i).length = P.cellsOf e ∧ (∀ j (hj : j < (us i).length), w.cell? ⟨b, off + i * P.cellsOf e + j, none⟩ = some (us i)[j]) ∧ ∃ ys : List HV, ys.length = P.cellsOf e ∧ (∀ j (hj : j < ys.length) (hj' : j < (us i).length), RV K ys[j] (us i)[j]) ∧ TC P e ys := fun i hi => by
            have := (each i hi).choose_spec
            simp only [us, dif_pos hi]
            exact this
          let ys (i : Nat) : List HV := if hi : i < len then (hus i hi).2.2.choose else []
          have hys : ∀ i (hi : i < len), (ys i).length = P.cellsOf e ∧ (∀ j (hj : j < (ys i).length) (hj' : j < (us i).length), RV K (ys i)[j] (us i)[j]) ∧ TC P e (ys i) := fun i hi => by
            have := (hus i hi).2.2.choose_spec
            simp only [ys, dif_pos hi]
            exact this
          have hget : ∀ i (hi : i < ((List.range len).map ys).length), ((List.range len).map ys)[i] = ys i := fun i hi => by simp
          refine ⟨[.sl false ((List.range len).map ys)], rfl, fun i hi hi' => ?_, .sl hu _ (by simp; omega) (fun cs hcs => ?_)⟩
          · obtain rfl : i = 0 := by simpa using hi
            have := RV.sl (K := K) false ((List.range len).map ys) (P.cellsOf e) b off cap (fun i j => (us i).getD j undef) (by simp; omega) (by simp; exact hl) (fun h => by cases h) hc (by rw [hw]; exact hbs) (hL b)
              (fun i hi => by rw [hget i hi]; exact (hys i (by simpa using hi)).1)
              (fun i hi j hj => by
                have hi' : i < len := by simpa using hi
                rw [hget i hi] at hj
                have e1 := (hys i hi').1
                have e2 := (hus i hi').1
                have := (hus i hi').2.1 j (by omega)
                rw [hw, List.getD_eq_getElem?_getD, List.getElem?_eq_getElem (by omega), Option.getD_some]
                exact this)
              (fun i hi j hj => by
                have hi' : i < len := by simpa using hi
                have hj' : j < (ys i).length := by rw [hget i hi] at hj; exact hj
                have e1 := (hys i hi').1
                have e2 := (hus i hi').1
                have := (hys i hi').2.1 j hj' (by omega)
                rw [List.getD_eq_getElem?_getD, List.getElem?_eq_getElem (by omega), Option.getD_some]
                simp only [hget i hi]
                exact this)
            simpa using this
          · obtain ⟨i, hi, rfl⟩ := List.mem_map.1 hcs
            exact (hys i (by simpa using hi)).2.2
    · rename_i fs hu
      simp only [Bool.and_eq_true] at hk
      obtain ⟨hk1, hk2⟩ := hk
      obtain ⟨xs, m, hm, _, hlen, hxl, hf⟩ := DataW.trod_struct hu h
      obtain rfl : m = n := by omega
      rw [← hlen] at hk2
      have hflat := tiles_flatten cs fs.toList 0 hk2
      rw [List.drop_zero] at hflat
      have each : ∀ i (hi : i < fs.size), ∃ ys : List HV, ys.length = ((cs.drop fs[i].offset).take (P.cellsOf fs[i].type)).length ∧ (∀ j (hj : j < ys.length) (hj' : j < ((cs.drop fs[i].offset).take (P.cellsOf fs[i].type)).length), RV K ys[j] ((cs.drop fs[i].offset).take (P.cellsOf fs[i].type))[j]) ∧ TC P fs[i].type ys := by
        intro i hi
        have h1 := hf i fs[i] (Array.getElem?_eq_getElem hi)
        rw [List.getElem?_eq_getElem (by omega)] at h1
        have hmem := List.all_eq_true.1 hk1 fs[i] (by simp)
        exact ih _ _ _ (by simpa using hmem) h1
      let ys (i : Nat) : List HV := if hi : i < fs.size then (each i hi).choose else []
      have hys : ∀ i (hi : i < fs.size), (ys i).length = ((cs.drop fs[i].offset).take (P.cellsOf fs[i].type)).length ∧ (∀ j (hj : j < (ys i).length) (hj' : j < ((cs.drop fs[i].offset).take (P.cellsOf fs[i].type)).length), RV K (ys i)[j] ((cs.drop fs[i].offset).take (P.cellsOf fs[i].type))[j]) ∧ TC P fs[i].type (ys i) := fun i hi => by
        have := (each i hi).choose_spec
        simp only [ys, dif_pos hi]
        exact this
      -- cells in a row
      have key : ∀ (ls : List (List HV)) (bs : List (List Value)), ls.length = bs.length → (∀ i (h1 : i < ls.length) (h2 : i < bs.length), ls[i].length = bs[i].length ∧ ∀ j (hj : j < ls[i].length) (hj' : j < bs[i].length), RV K ls[i][j] bs[i][j]) →
          ls.flatten.length = bs.flatten.length ∧ ∀ j (hj : j < ls.flatten.length) (hj' : j < bs.flatten.length), RV K ls.flatten[j] bs.flatten[j] := by
        intro ls
        induction ls with
        | nil => intro bs hl _; cases bs with
          | nil => exact ⟨rfl, fun j hj => absurd hj (Nat.not_lt_zero _)⟩
          | cons => simp at hl
        | cons a ls iha =>
          intro bs hl hall
          cases bs with
          | nil => simp at hl
          | cons b bs =>
            obtain ⟨g1, g2⟩ := iha bs (by simpa using hl) (fun i h1 h2 => by have := hall (i + 1) (by simp; omega) (by simp; omega); simpa using this)
            have h0 := hall 0 (by simp) (by simp)
            simp only [List.getElem_cons_zero] at h0
            refine ⟨by simp only [List.flatten_cons, List.length_append]; omega, fun j hj hj' => ?_⟩
            simp only [List.flatten_cons, List.getElem_append]
            by_cases hja : j < a.length
            · rw [dif_pos hja, dif_pos (by omega)]
              exact h0.2 j hja (by omega)
            · rw [dif_neg hja, dif_neg (by omega)]
              have e : j - a.length = j - b.length := by omega
              simp only [e]
              exact g2 _ _ _
      have hk' := key ((List.range fs.size).map ys) (fs.toList.map fun f => (cs.drop f.offset).take (P.cellsOf f.type)) (by simp) (fun i h1 h2 => by
        have hi : i < fs.size := by simpa using h1
        obtain ⟨q1, q2, _⟩ := hys i hi
        simp only [List.getElem_map, List.getElem_range, Array.getElem_toList]
        exact ⟨q1, q2⟩)
      rw [hflat] at hk'
      have hk2' := hk'.2
      refine ⟨((List.range fs.size).map ys).flatten, hk'.1, fun i hi hi' => ?_, .struct hu _ (by simp) (fun i f c hfi hci => ?_)⟩
      · exact hk2' i hi hi'
      · have hi : i < fs.size := (Array.getElem?_eq_some_iff.1 hfi).1
        have : f = fs[i] := by rw [Array.getElem?_eq_getElem hi] at hfi; exact (Option.some.inj hfi).symm
        subst this
        rw [List.getElem?_map, List.getElem?_range hi] at hci
        simp only [Option.map_some, Option.some.injEq] at hci
        subst hci
        exact (hys i hi).2.2
    · cases hk

end

/-- A value of a type, as data. -/
def TA (P : Program) (t : TypeId) (x : HV) : Prop :=
  match P.underlying t with
  | some (.struct _) => ∃ cs, x = .agg cs ∧ TC P t cs
  | _ => TC P t [x]

theorem arg_RV {H : Type} {enc : TypeId × Value → H} {P : Program} {w : World} {sp : Nat → Bool} {held : Bool} {K : KS} (hw : K.w = w) (hL : ∀ b, ¬ K.L b) {ts : List TypeId} (hts : plainT P ts = true) {base : Nat} {t : TypeId} {v : Value} {d : DataW H} {ps : List MemPlace} (ht : t ∈ ts)
    (hok : Value.okWide P w .any base t v) (h : DataW.Trod enc P w 0 sp held t v d ps) : ∃ x, RV K x v ∧ TA P t x := by
  obtain ⟨fuel, hf⟩ := h
  obtain ⟨xs, h1, h2, h3⟩ := trod_RV hw hL hts fuel t _ _ ht hf
  have hk := List.all_eq_true.1 hts t ht
  unfold Value.okWide at hok
  unfold TA
  cases hu : P.underlying t with
  | none => rw [hu] at hk; cases hk
  | some u =>
    rw [hu] at hk hok
    have single : (∀ cs, v ≠ .agg cs) → ∃ x, RV K x v ∧ TC P t [x] := fun hne => by
      have hc : v.cells = #[v] := by cases v <;> first | rfl | exact absurd rfl (hne _)
      rw [hc] at h1 h2
      match xs, h1 with
      | [x], _ => exact ⟨x, h2 0 (by simp) (by simp), h3⟩
    cases u with
    | struct fs =>
      obtain ⟨cs, rfl, _⟩ := hok
      exact ⟨.agg xs, .agg _ _ (by simpa [Value.cells] using h1) (fun i hi => by have := h2 i hi (by rw [← h1]; exact hi); simpa [Value.cells] using this), xs, rfl, h3⟩
    | bool => exact single fun cs e => by subst e; simp [Cell.okWide, Cell.ok, hu] at hok
    | int k => exact single fun cs e => by subst e; simp [Cell.okWide, Cell.ok, hu] at hok
    | string => exact single fun cs e => by subst e; simp [Cell.okWide, Cell.ok, hu] at hok
    | slice e' => exact single fun cs e => by subst e; simp [Cell.okWide, Cell.ok, hu] at hok
    | _ => simp at hk

theorem args_RV {H : Type} {enc : TypeId × Value → H} {P : Program} {w : World} {sp : Nat → Bool} {held : Bool} {K : KS} (hw : K.w = w) (hL : ∀ b, ¬ K.L b) {ts : List TypeId} (hts : plainT P ts = true) {base : Nat} : ∀ {us : List TypeId} {vs : List Value} {ds : List (DataW H)} {ps : List MemPlace}, (∀ t ∈ us, t ∈ ts) →
    (∀ (j : Nat) t v, us[j]? = some t → vs[j]? = some v → Value.okWide P w .any base t v) → DataW.TrodAll enc P w 0 sp held us vs ds ps →
    vs.length = us.length ∧ ds.length = us.length ∧ ∃ xs : List HV, xs.length = vs.length ∧ (∀ i (hi : i < xs.length) (hi' : i < vs.length), RV K xs[i] vs[i]) ∧ ∀ (i : Nat) t x, us[i]? = some t → xs[i]? = some x → TA P t x
  | [], [], [], _, _, _, _ => ⟨rfl, rfl, [], rfl, fun i hi => absurd hi (Nat.not_lt_zero _), fun i t x h => by simp at h⟩
  | t :: us, v :: vs, d :: ds, _, hus, hok, h => by
    obtain ⟨p, q, h1, h2, rfl⟩ := h
    obtain ⟨x, g1, g2⟩ := arg_RV hw hL hts (hus t (by simp)) (hok 0 t v rfl rfl) h1
    obtain ⟨e1, e2, xs, g3, g4, g5⟩ := args_RV hw hL hts (fun t ht => hus t (by simp [ht])) (fun j t v hj hv => hok (j + 1) t v (by simpa using hj) (by simpa using hv)) h2
    refine ⟨by simp [e1], by simp [e2], x :: xs, by simp [g3], fun i hi hi' => ?_, fun i t' x' hi hx => ?_⟩
    · cases i with
      | zero => exact g1
      | succ i => exact g4 i (by simpa using hi) (by simpa using hi')
    · cases i with
      | zero => simp at hi hx; subst hi; subst hx; exact g2
      | succ i => exact g5 i t' x' (by simpa using hi) (by simpa using hx)
  | [], [], _ :: _, _, _, _, h => h.elim
  | [], _ :: _, _, _, _, _, h => h.elim
  | _ :: _, [], _, _, _, _, h => h.elim
  | _ :: _, _ :: _, [], _, _, _, h => h.elim

/-- The start of a call: nothing is the call's own. -/
def KS.start (w : World) : KS := { w := w, L := fun _ => False, A := fun _ => False, b := fun _ => 0, c := fun _ => 0, k := fun _ => 0 }

theorem RH.start {X : PG} [hX : PG.Flat X] (hG : ∀ g, X.G g = .und) (w : World) : RH X (KS.start w) [] :=
  ⟨fun _ h => h.elim, fun _ _ h => h.elim, fun _ h => absurd h noLive, fun _ _ h => absurd h noLive, fun _ h => h.elim, ⟨fun g => by rw [hG]; exact .und _, by rw [hX.low]; exact Nat.zero_le _, hX.inv _⟩⟩

/-- A law that is walked holds at whatever reads as data. -/
theorem law_calls {X : PG} [PG.Flat X] (hG : ∀ g, X.G g = .und) {H : Type} {enc : TypeId × Value → H} {W : World} {sp : Nat → Bool} {held : Bool} {ts : List TypeId} (hts : plainT X.P ts = true) {f : FuncId} {us : List TypeId} {args : Array Value} {ds : List (DataW H)} {ps : List MemPlace} {base : Nat} (hus : us.all (ts.contains ·) = true)
    (hok : ∀ (j : Nat) t v, us[j]? = some t → args[j]? = some v → Value.okWide X.P W .any base t v) (hA : DataW.TrodAll enc X.P W 0 sp held us args.toList ds ps)
    (hlaw : ∀ xs : List HV, xs.length = us.length → (∀ (i : Nat) t x, us[i]? = some t → xs[i]? = some x → TA X.P t x) → CallsP X f xs fun r => r = .bool true) :
    ds.length = us.length ∧ Calls X.P f args W fun e W' => e = .returned (.bool true) ∧ RowKit.Below W.heap.size W W' := by
  obtain ⟨e1, e2, xs, g1, g2, g3⟩ := args_RV (K := KS.start W) rfl (fun _ h => h) hts (fun t ht => by have := List.all_eq_true.1 hus t ht; simpa using this) (fun j t v hj hv => hok j t v hj (by simpa using hv)) hA
  refine ⟨e2, ?_⟩
  have hc := hlaw xs (by omega) g3 (KS.start W) args ⟨by simpa using g1, fun i hi hi' => by have := g2 i hi (by simpa using hi'); simpa using this⟩ (RH.start hG W)
  refine callsIn_wide.1 (hc.mono ?_)
  rintro e W' ⟨v, K', r, h', rfl, rfl, x, _, hrv, rfl, _⟩
  exact ⟨by rw [hrv.ofBool], x.os, x.tape, x.output, x.size, fun k hk => x.block k hk (fun _ h => absurd h noLive)⟩

theorem trodAll_stays {H : Type} {enc : TypeId × Value → H} {P : Program} (hl : laidOutB P = true) {W W' : World} (hb : RowKit.Below W.heap.size W W') : ∀ {us : List TypeId} {vs : List Value} {ds : List (DataW H)} {ps : List MemPlace}, (∀ t ∈ us, P.readableRec t = true ∧ t < P.types.size) →
    DataW.TrodAll enc P W 0 (fun _ => true) true us vs ds ps → (∀ p ∈ ps, p.block < W.heap.size) → DataW.TrodAll enc P W' 0 (fun b => decide (b < W.heap.size)) true us vs ds ps
  | [], [], [], _, _, h, _ => h
  | t :: us, v :: vs, d :: ds, _, hr, h, hlt => by
    obtain ⟨p, q, h1, h2, rfl⟩ := h
    exact ⟨p, q, RowKit.Below.trod hl (hr t (by simp)).1 (hr t (by simp)).2 h1 hb (fun x hx => hlt x (by simp [hx])), trodAll_stays hl hb (fun t ht => hr t (by simp [ht])) h2 (fun x hx => hlt x (by simp [hx])), rfl⟩
  | [], [], _ :: _, _, _, h, _ => h.elim
  | [], _ :: _, _, _, _, h, _ => h.elim
  | _ :: _, [], _, _, _, h, _ => h.elim
  | _ :: _, _ :: _, [], _, _, h, _ => h.elim

theorem law_post {H : Type} {enc : TypeId × Value → H} {P : Program} {fn : Func} {s : ChangeSpec} {W W' : World} {args : Array Value} {ds gs : List (DataW H)} {before : List MemPlace} {tb : TypeId}
    (hW : DataW.Whole enc P fn.params.toList s.vars false W args.toList ds gs before) (hsv : s.vars = []) (hsp : ds.length = fn.params.toList.length → s.fn H ds = { results := [.lit (.bool true)], args := ds }) (hlen : ds.length = fn.params.toList.length)
    (hrt : fn.resultTypes = #[tb]) (hub : P.underlying tb = some .bool) (hl : laidOutB P = true) (hread : fn.params.toList.all (fun t => P.readableRec t && decide (t < P.types.size)) = true) (hb : RowKit.Below W.heap.size W W') :
    s.post enc P fn false true false false W args (.bool true) W' := by
  have hlt := hW.lt
  have hW' := hW
  obtain ⟨p, q, hA, hV, rfl, _, _⟩ := hW
  rw [hsv] at hV
  obtain ⟨rfl, rfl⟩ := trodVars_none hV
  refine ⟨ds, [], p ++ [], [], p, [], hW', ?_, ?_, ?_, hb.frame _, fun h => by cases h⟩
  · rw [List.append_nil, hsp hlen, hrt]
    exact trodAll_mk1 (shut_bool hub true)
  · rw [List.append_nil, hsp hlen]
    refine trodAll_stays hl hb (fun t ht => ?_) hA (fun x hx => hlt x (by simp [hx]))
    have := List.all_eq_true.1 hread t ht
    simpa using this
  · rw [List.append_nil, hsp hlen, hsv]
    rfl

section
variable {P : Program} {t : TypeId} {xs : List HV}

theorem TC.ofBool (hu : P.underlying t = some .bool) (h : TC P t xs) : ∃ b, xs = [.bool b] := by
  cases h with
  | bool ht b => exact ⟨b, rfl⟩
  | int ht n hw => rw [hu] at ht; cases ht
  | str ht s hs => rw [hu] at ht; cases ht
  | sl ht es hn h => rw [hu] at ht; cases ht
  | struct ht css hl h => rw [hu] at ht; cases ht

theorem TC.ofInt {k : IntKind} (hu : P.underlying t = some (.int k)) (h : TC P t xs) : ∃ n, xs = [.int k n] ∧ (Lit.int k n).wf = true := by
  cases h with
  | bool ht b => rw [hu] at ht; cases ht
  | int ht n hw => rw [hu] at ht; cases ht; exact ⟨n, rfl, hw⟩
  | str ht s hs => rw [hu] at ht; cases ht
  | sl ht es hn h => rw [hu] at ht; cases ht
  | struct ht css hl h => rw [hu] at ht; cases ht

theorem TC.ofStr (hu : P.underlying t = some .string) (h : TC P t xs) : ∃ s, xs = [.str s] ∧ s.size ≤ maxLen := by
  cases h with
  | bool ht b => rw [hu] at ht; cases ht
  | int ht n hw => rw [hu] at ht; cases ht
  | str ht s hs => exact ⟨s, rfl, hs⟩
  | sl ht es hn h => rw [hu] at ht; cases ht
  | struct ht css hl h => rw [hu] at ht; cases ht

theorem TC.ofSl {e : TypeId} (hu : P.underlying t = some (.slice e)) (h : TC P t xs) : ∃ es, xs = [.sl false es] ∧ es.length ≤ maxLen ∧ ∀ cs ∈ es, TC P e cs := by
  cases h with
  | bool ht b => rw [hu] at ht; cases ht
  | int ht n hw => rw [hu] at ht; cases ht
  | str ht s hs => rw [hu] at ht; cases ht
  | sl ht es hn h => rw [hu] at ht; cases ht; exact ⟨es, rfl, hn, h⟩
  | struct ht css hl h => rw [hu] at ht; cases ht

theorem TC.ofStruct {fs : Array Field} (hu : P.underlying t = some (.struct fs)) (h : TC P t xs) : ∃ css, xs = List.flatten css ∧ css.length = fs.size ∧ ∀ (i : Nat) f cs, fs[i]? = some f → css[i]? = some cs → TC P f.type cs := by
  cases h with
  | bool ht b => rw [hu] at ht; cases ht
  | int ht n hw => rw [hu] at ht; cases ht
  | str ht s hs => rw [hu] at ht; cases ht
  | sl ht es hn h => rw [hu] at ht; cases ht
  | struct ht css hl h => rw [hu] at ht; cases ht; exact ⟨css, rfl, hl, h⟩

theorem map_of {α : Type} {f : α → List HV} {p : List HV → Prop} (hp : ∀ cs, p cs → ∃ a, cs = f a) : ∀ (es : List (List HV)), (∀ cs ∈ es, p cs) → ∃ l : List α, es = l.map f
  | [], _ => ⟨[], rfl⟩
  | x :: es, h => by
    obtain ⟨a, rfl⟩ := hp x (h x (by simp))
    obtain ⟨l, rfl⟩ := map_of hp es (fun cs hc => h cs (by simp [hc]))
    exact ⟨a :: l, rfl⟩

theorem TC.ofInts {e : TypeId} (hu : P.underlying t = some (.slice e)) (he : P.underlying e = some (.int .i64)) (h : TC P t xs) : ∃ l, xs = [.sl false (ints l)] := by
  obtain ⟨es, rfl, _, h2⟩ := h.ofSl hu
  obtain ⟨l, rfl⟩ := map_of (f := fun n : Int => [HV.int .i64 n]) (p := TC P e) (fun cs hc => by obtain ⟨n, rfl, _⟩ := hc.ofInt he; exact ⟨n, rfl⟩) es h2
  exact ⟨l, rfl⟩

end

end Go.HL

