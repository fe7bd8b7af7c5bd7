/-
  HL, part Zg: values without the word on their capacities: a contract told for those holds for all.
-/
import Derived.Test.YtonhbeapffiibaaHlZf
namespace Go.HL

mutual
/-- The same value; of its slices' capacities nothing is said. -/
def HV.dim : HV → HV
  | .bool b => .bool b
  | .int k n => .int k n
  | .str s => .str s
  | .nul v => .nul v
  | .sl _ es => .sl false (HV.dimLL es)
  | .ow id lo len => .ow id lo len
  | .ip cs => .ip (HV.dimL cs)
  | .ep id i off => .ep id i off
  | .mp id => .mp id
  | .it id => .it id
  | .fn f fs cs => .fn f (HV.dimL fs) (HV.dimL cs)
  | .agg cs => .agg (HV.dimL cs)
  | .tup cs => .tup (HV.dimL cs)
  | .und => .und
def HV.dimL : List HV → List HV
  | [] => []
  | x :: rest => x.dim :: HV.dimL rest
def HV.dimLL : List (List HV) → List (List HV)
  | [] => []
  | x :: rest => HV.dimL x :: HV.dimLL rest
end

theorem dimL_map : ∀ l : List HV, HV.dimL l = l.map HV.dim
  | [] => by simp [HV.dimL]
  | x :: rest => by simp [HV.dimL, dimL_map rest]

theorem dimLL_map : ∀ l : List (List HV), HV.dimLL l = l.map (·.map HV.dim)
  | [] => by simp [HV.dimLL]
  | x :: rest => by simp [HV.dimLL, dimL_map x, dimLL_map rest]

theorem RV.dim {K : KS} {x : HV} {v : Value} (hr : RV K x v) : RV K x.dim v := by
  induction hr with
  | bool b => simpa only [HV.dim] using RV.bool b
  | int k n => simpa only [HV.dim] using RV.int k n
  | str s => simpa only [HV.dim] using RV.str s
  | nul v hv => simpa only [HV.dim] using RV.nul v hv
  | sl0 full a cap h1 h2 h3 =>
    simp only [HV.dim, HV.dimLL]
    exact .sl0 false a cap h1 (fun h => by cases h) h3
  | sl full es k b off cap cv h0 h1 h2 h3 hb hL hk hc _ ih =>
    simp only [HV.dim, dimLL_map]
    have hl : (es.map (·.map HV.dim)).length = es.length := by simp
    have := RV.sl (K := K) false (es.map (·.map HV.dim)) k b off cap cv (by rw [hl]; exact h0) (by rw [hl]; exact h1) (fun h => by cases h) h3 hb hL (fun i hi => by simp at hi ⊢; exact hk i hi)
      (fun i hi j hj => by simp at hi hj; exact hc i hi j hj) (fun i hi j hj => by
        simp only [List.length_map, List.getElem_map] at hi hj ⊢
        exact ih i hi j hj)
    rw [hl] at this
    exact this
  | ow id lo len hA h0 h1 h2 => simpa only [HV.dim] using RV.ow id lo len hA h0 h1 h2
  | ow0 id a hA h0 => simpa only [HV.dim] using RV.ow0 id a hA h0
  | ip cs b off cv hb hL hc _ ih =>
    simp only [HV.dim, dimL_map]
    exact .ip _ b off cv hb hL (fun j hj => hc j (by simpa using hj)) (fun j hj => by
      simp only [List.length_map, List.getElem_map] at hj ⊢
      exact ih j hj)
  | ep id i off hA => simpa only [HV.dim] using RV.ep id i off hA
  | mp id hA => simpa only [HV.dim] using RV.mp id hA
  | it id hA => simpa only [HV.dim] using RV.it id hA
  | fn f fs cs vs us h1 h2 _ _ ih1 ih2 =>
    simp only [HV.dim, dimL_map]
    exact .fn f _ _ vs us (by simpa using h1) (by simpa using h2) (fun i hi => by
      simp only [List.length_map, List.getElem_map] at hi ⊢
      exact ih1 i hi) (fun i hi => by
      simp only [List.length_map, List.getElem_map] at hi ⊢
      exact ih2 i hi)
  | agg cs vs h1 _ ih =>
    simp only [HV.dim, dimL_map]
    exact .agg _ vs (by simpa using h1) (fun i hi => by
      simp only [List.length_map, List.getElem_map] at hi ⊢
      exact ih i hi)
  | tup cs vs h1 _ ih =>
    simp only [HV.dim, dimL_map]
    exact .tup _ vs (by simpa using h1) (fun i hi => by
      simp only [List.length_map, List.getElem_map] at hi ⊢
      exact ih i hi)
  | und v => simpa only [HV.dim] using RV.und v

theorem RVs.dim {K : KS} {xs : List HV} {vs : Array Value} (h : RVs K xs vs) : RVs K (xs.map HV.dim) vs := by
  refine ⟨by simpa using h.1, fun i hi hi' => ?_⟩
  simp only [List.length_map, List.getElem_map] at hi ⊢
  exact (h.2 i hi hi').dim

section
variable {X : PG}

/-- A contract told for arguments of whose capacities nothing is said. -/
theorem CallsH.dimA {f : FuncId} {args args' : List HV} {h : Hp} {R : HV → Hp → Prop} (hc : CallsH X f args' h R) (ha : args.map HV.dim = args') : CallsH X f args h R := by
  subst ha
  exact fun K vs hv hh => hc K vs hv.dim hh

theorem CallsP.dimA {f : FuncId} {args args' : List HV} {R : HV → Prop} (hc : CallsP X f args' R) (ha : args.map HV.dim = args') : CallsP X f args R := CallsH.dimA hc ha

/-- A result of whose capacities nothing is said. -/
theorem CallsP.dimR {f : FuncId} {args : List HV} {R : HV → Prop} (hc : CallsP X f args fun r => R r.dim) : CallsP X f args R := fun K vs hv hh =>
  (hc K vs hv hh).mono fun _ _ ⟨v, K', r, h', e1, e2, x, y, z, hR, e3⟩ => ⟨v, K', r.dim, h', e1, e2, x, y, z.dim, hR, e3⟩

end

end Go.HL

