/-
  HL, part Zd: drawn regions that write at their end alone.
-/
import Derived.Test.YtonhbeapffiibaaHlZc
namespace Go.HL

section
variable {X : PG} {C : Cx} {ops : Array Oper} {e : Env} {h : Hp}

theorem dmask_nil' {U : List Nat} {i : Nat} {W nw : List (List Nat)} (hn : ∀ x ∈ nw, x = []) (hW : ∀ j ∈ U, i ≤ j → W.getD j [] = []) : dmask U i W nw = [] := by
  unfold dmask
  rw [List.flatMap_eq_nil_iff]
  intro j hj
  split
  · cases hj' : nw[j]? with
    | none => simp [List.getD, hj']
    | some x => simp [List.getD, hj', hn x (List.mem_of_getElem? hj')]
  · exact hW j hj (by omega)

theorem opsV_D' {A W : List (List Nat)} {Q : Env → Hp → Prop} (l2 : List Oper) (n : Nat) (hU : ∀ i, i < n → ∀ j ∈ unordAt A ops.size i, j < n) (hW : ∀ j, j < n → W.getD j [] = []) :
    ∀ (l : List Oper) (e : Env) (i : Nat) (nw : List (List Nat)), i + l.length = n → nw.length = i → (∀ x ∈ nw, x = []) → opsV X C ops (fun e' h' => h' = h ∧ ∀ nw', nw'.length = n → (∀ x ∈ nw', x = []) → opsD X C ops A W Q l2 n nw' e' h) l e h → opsD X C ops A W Q (l ++ l2) i nw e h
  | [], e, i, nw, hi, hl, hn, hq => by
    obtain rfl : i = n := by simpa using hi
    exact hq.2 nw hl hn
  | o :: rest, e, i, nw, hi, hl, hn, hq => by
    simp only [opsV] at hq
    simp only [List.cons_append, opsD]
    simp only [List.length_cons] at hi
    rw [dmask_nil' hn (fun j hj _ => hW j (hU i (by omega) j hj)), mask_nil]
    have hn' : ∀ x ∈ nw ++ [[]], x = [] := fun x hx => by
      rcases List.mem_append.1 hx with hx | hx
      · exact hn x hx
      · simpa using hx
    split at hq
    · rename_i hw
      rw [hw]
      refine stepD_mono hq fun r hr => ?_
      obtain ⟨h1, h2, h3⟩ := hr
      rw [h1, h2]
      refine ⟨rfl, ?_⟩
      have : newIds h.length r = [] := by simp [newIds, h1, h2]
      rw [this]
      simpa [setAll] using opsV_D' l2 n hU hW rest _ (i + 1) _ (by omega) (by simp [hl]) hn' h3
    · rename_i hw
      rw [hw]
      exact opsV_D' l2 n hU hW rest _ (i + 1) _ (by omega) (by simp [hl]) hn' hq
    · exact hq.elim

/-- Behind the first n operations every one stands in order with all others. -/
def lastOrd (A : List (List Nat)) (m n : Nat) : Bool := (List.range m).all fun i => if i < n then (unordAt A m i).all (fun j => decide (j < n)) else (unordAt A m i).isEmpty

/-- A drawn region: its first n operations write nothing; then an operation that writes; then operations that write nothing. -/
theorem WP.regionVW {id : Nat} {Q : Exit → Env → Hp → Prop} (n : Nat) (I : List Nat) (hm : X.P.follows .mixedOrders = true) (hok : okD ops (ancT [] ops.toList) = true) (hord : lastOrd (ancT [] ops.toList) ops.size n = true) {l1 l3 : List Oper} {o : Oper} (hsp : ops.toList = l1 ++ o :: l3) (hn : l1.length = n)
    (hg : o.guard = none) (hpl : (l3.all fun o => Op.plain (C.own.contains o.pos) o.op) = true)
    (hs : opsV X C ops (fun e1 h1 => h1 = h ∧ ∃ r e' h', opE X (C.own.contains o.pos) (ev X e1) h h.length o.op = some r ∧ (r.ws.all fun w => I.contains w.1 && liveB h w.1) = true ∧ evalS X C ops l3 (some (putE C.N e1 o.dst r.x, setAll (h ++ r.ns) r.ws)) = some (e', h') ∧ Q .normal e' h') l1 e h) : WP X C (.region id ops true) Q e h := by
  have hlen : ops.size = n + 1 + l3.length := by
    have := congrArg List.length hsp
    simp at this; omega
  have hall := List.all_eq_true.1 hord
  have hU : ∀ i, i < n → ∀ j ∈ unordAt (ancT [] ops.toList) ops.size i, j < n := fun i hi j hj => by
    have := hall i (by simp; omega)
    rw [if_pos hi] at this
    simpa using List.all_eq_true.1 this j hj
  have hE : ∀ i, n ≤ i → i < ops.size → unordAt (ancT [] ops.toList) ops.size i = [] := fun i hi hlt => by
    have := hall i (by simpa using hlt)
    rw [if_neg (by omega)] at this
    simpa using this
  refine WP.regionD hm (ancT [] ops.toList) (List.replicate n [] ++ [I]) hok ?_
  clear hord hall hok
  generalize ancT [] ops.toList = A at *
  rw [hsp]
  refine opsV_D' (h := h) (W := List.replicate n [] ++ [I]) (o :: l3) n hU (fun j hj => by rw [List.getD_eq_getElem?_getD, List.getElem?_append_left (by simpa using hj)]; simp [hj]) l1 e 0 [] (by omega) rfl (fun x hx => by cases hx) ?_
  refine (show ∀ (l : List Oper) (e : Env) (Q1 Q2 : Env → Hp → Prop), (∀ e h, Q1 e h → Q2 e h) → opsV X C ops Q1 l e h → opsV X C ops Q2 l e h from ?_) l1 e _ _ ?_ hs
  · intro l
    induction l with
    | nil => intro e Q1 Q2 hq h1; exact hq _ _ h1
    | cons x rest ih =>
      intro e Q1 Q2 hq h1
      simp only [opsV] at h1 ⊢
      split at h1
      · rename_i hw
        exact stepD_mono h1 fun r hr => ⟨hr.1, hr.2.1, ih _ _ _ hq hr.2.2⟩
      · rename_i hw
        exact ih _ _ _ hq h1
      · exact h1.elim
  · rintro e1 h1 ⟨rfl, r, e', h', hr, hws, hev, hQ⟩
    refine ⟨rfl, fun nw hnl hnn => ?_⟩
    simp only [opsD]
    have hw : wantH e1 ops o = some true := by unfold wantH; rw [hg]
    rw [hw, hE n (Nat.le_refl _) (by omega)]
    simp only [dmask, List.flatMap_nil, mask]
    refine stepD_of hr ⟨?_, ?_⟩
    · rw [List.getD_eq_getElem?_getD, List.getElem?_append_right (by simp)]
      simpa using hws
    · -- the rest writes nothing
      have tail : ∀ (l : List Oper) (i : Nat) (nw : List (List Nat)) (e : Env) (h : Hp) (e' : Env) (h' : Hp), n ≤ i → i + l.length = ops.size → (l.all fun o => Op.plain (C.own.contains o.pos) o.op) = true → evalS X C ops l (some (e, h)) = some (e', h') → Q .normal e' h' → opsD X C ops A (List.replicate n [] ++ [I]) (fun e h => Q .normal e h) l i nw e h := by
        intro l
        induction l with
        | nil =>
          intro i nw e h e' h' _ _ _ hev hQ
          simp only [evalS, Option.some.injEq, Prod.mk.injEq] at hev
          obtain ⟨rfl, rfl⟩ := hev
          exact hQ
        | cons x l ih =>
          intro i nw e h e' h' hi hl hp hev hQ
          simp only [List.all_cons, Bool.and_eq_true] at hp
          simp only [List.length_cons] at hl
          rw [evalS] at hev
          simp only [opsD]
          rw [hE i hi (by omega)]
          simp only [dmask, List.flatMap_nil, mask]
          unfold step1 at hev
          simp only at hev
          split at hev
          · rename_i hw
            rw [hw]
            simp only
            cases hr : opE X (C.own.contains x.pos) (ev X e) h h.length x.op with
            | none => rw [hr, Option.map_none, evalS_none] at hev; cases hev
            | some r =>
              rw [hr, Option.map_some] at hev
              obtain ⟨w1, w2⟩ := opE_plain hp.1 hr
              exact stepD_of hr ⟨by rw [w1]; rfl, ih (i + 1) _ _ _ e' h' (by omega) (by omega) hp.2 hev hQ⟩
          · rename_i hw
            rw [hw]
            exact ih (i + 1) _ _ _ e' h' (by omega) (by omega) hp.2 hev hQ
          · rw [evalS_none] at hev; cases hev
      exact tail l3 (n + 1) _ _ _ e' h' (by omega) (by omega) hpl hev hQ

def cutN (n : Nat) (l : List Oper) : Option (List Oper × Oper × List Oper) :=
  match l.drop n with
  | o :: l3 => some (l.take n, o, l3)
  | [] => none

theorem cutN_eq {n : Nat} {l l1 l3 : List Oper} {o : Oper} (h : cutN n l = some (l1, o, l3)) : l = l1 ++ o :: l3 ∧ l1.length = n := by
  unfold cutN at h
  split at h
  · rename_i x xs hd
    simp only [Option.some.injEq, Prod.mk.injEq] at h
    obtain ⟨rfl, rfl, rfl⟩ := h
    have hlt : n < l.length := by
      have := congrArg List.length hd
      simp at this; omega
    exact ⟨by rw [← hd, List.take_append_drop], by simp; omega⟩
  · cases h

/-- The same, cut by program. -/
theorem WP.regionVX2 {id : Nat} {Q : Exit → Env → Hp → Prop} (n : Nat) (I : List Nat) (hm : X.P.follows .mixedOrders = true) {l1 l3 : List Oper} {o : Oper} (hcut : cutN n ops.toList = some (l1, o, l3)) (hok : okD ops (ancT [] ops.toList) = true) (hord : lastOrd (ancT [] ops.toList) ops.size n = true)
    (hg : o.guard = none) (hpl : (l3.all fun o => Op.plain (C.own.contains o.pos) o.op) = true)
    (hs : opsV X C ops (fun e1 h1 => h1 = h ∧ ∃ r e' h', opE X (C.own.contains o.pos) (ev X e1) h h.length o.op = some r ∧ (r.ws.all fun w => I.contains w.1 && liveB h w.1) = true ∧ evalS X C ops l3 (some (putE C.N e1 o.dst r.x, setAll (h ++ r.ns) r.ws)) = some (e', h') ∧ Q .normal e' h') l1 e h) : WP X C (.region id ops true) Q e h :=
  WP.regionVW n I hm hok hord (cutN_eq hcut).1 (cutN_eq hcut).2 hg hpl hs

theorem opE_append {own : Bool} {ρ : Operand → HV} {nid : Nat} {t : TypeId} {s y : Operand} : opE X own ρ h nid (.call ⟨.builtin .append, #[s, y], #[t, t]⟩) = appendH X.P h nid t (ρ s) (ρ y) := by
  simp [opE]

theorem liveB_own {h : Hp} {x : HV} {t : TypeId} {es : List (List HV)} (ho : OwnAt h x t es) {ws : List (Nat × HO)} (hw : ws = (idsOf x).map fun i => (i, .gone)) : (ws.all fun w => (idsOf x).contains w.1 && liveB h w.1) = true := by
  subst hw
  rcases ho with ⟨rfl, _⟩ | ⟨id, rfl, hid⟩
  · rfl
  · simp [idsOf, liveB, hid, HO.live]

end

end Go.HL

