/-
  HL, part Zi: walks by program: guards and tests are parted on where they are not known.
-/
import Derived.Test.YtonhbeapffiibaaHlZh
namespace Go.HL

/-- Where the guard changes for the i-th time to one that is asked for: the operations ahead of it, and the slot. -/
def gpos (ops : Array Oper) : List Oper → Nat → Option (Nat × Bool) → Nat → Option (Nat × Nat)
  | [], _, _, _ => none
  | o :: rest, k, prev, i =>
    match o.guard with
    | none => gpos ops rest (k + 1) none i
    | some g =>
      if prev = some g then gpos ops rest (k + 1) prev i
      else match i with
        | 0 => match (ops[g.1]?).bind (·.dst) with | some t => some (k, t) | none => none
        | i + 1 => gpos ops rest (k + 1) (some g) i

section
variable {X : PG} {C : Cx} {ops : Array Oper} {e : Env} {h : Hp}

theorem WP.guardB (i : Nat) {id : Nat} {d : Bool} {Q : Exit → Env → Hp → Prop} {k t : Nat} {e' : Env} {h' : Hp} {b : Bool} (_ : gpos ops ops.toList 0 none i = some (k, t)) (_ : evalS X C ops (ops.toList.take k) (some (e, h)) = some (e', h')) (_ : e' t = .bool b)
    (h1 : b = true → WP X C (.region id ops d) Q e h) (h2 : b = false → WP X C (.region id ops d) Q e h) : WP X C (.region id ops d) Q e h := by
  cases b with
  | true => exact h1 rfl
  | false => exact h2 rfl

theorem opsT.guardB (i : Nat) {Q : Env → Hp → Prop} {l : List Oper} {k t : Nat} {e' : Env} {h' : Hp} {b : Bool} (_ : gpos ops l 0 none i = some (k, t)) (_ : evalS X C ops (l.take k) (some (e, h)) = some (e', h')) (_ : e' t = .bool b)
    (h1 : b = true → opsT X C ops Q l e h) (h2 : b = false → opsT X C ops Q l e h) : opsT X C ops Q l e h := by
  cases b with
  | true => exact h1 rfl
  | false => exact h2 rfl

theorem opsV.guardB (i : Nat) {Q : Env → Hp → Prop} {l : List Oper} {k t : Nat} {e' : Env} {h' : Hp} {b : Bool} (_ : gpos ops l 0 none i = some (k, t)) (_ : evalS X C ops (l.take k) (some (e, h)) = some (e', h')) (_ : e' t = .bool b)
    (h1 : b = true → opsV X C ops Q l e h) (h2 : b = false → opsV X C ops Q l e h) : opsV X C ops Q l e h := by
  cases b with
  | true => exact h1 rfl
  | false => exact h2 rfl

theorem WP.condT {c : Operand} {x y : Code} {Q : Exit → Env → Hp → Prop} (hc : ev X e c = .bool true) (h1 : WP X C x Q e h) : WP X C (.cond c x y) Q e h := WP.condB hc (fun _ => h1) (fun hb => by cases hb)
theorem WP.condF {c : Operand} {x y : Code} {Q : Exit → Env → Hp → Prop} (hc : ev X e c = .bool false) (h1 : WP X C y Q e h) : WP X C (.cond c x y) Q e h := WP.condB hc (fun hb => by cases hb) (fun _ => h1)
end

/-- A call by a contract that tells the result, which is flat; the arguments may refer to own objects, which are only lent. -/
theorem CallsP.lendE {X : PG} [PG.Flat X] {f : FuncId} {args args' : List HV} {v : HV} {h : Hp} {k : HV → Hp → Prop} (hP : CallsP X f args' (fun r => r = v)) (n : Nat) (hr : rdL h n args = some args') (hflat : v.flat = true) (hk : k v h) : CallsH X f args h k :=
  hP.lend n hr (fun r hr => by rw [hr]; exact hflat) (fun r hr => by rw [hr]; exact hk)

theorem rdV_fn {h : Hp} {n : Nat} {f : Fn} {fs cs a b : List HV} (h1 : rdL h n fs = some a) (h2 : rdL h n cs = some b) : rdV h (n + 1) (.fn f fs cs) = some (.fn f a b) := by
  simp only [rdV, h1, h2]
theorem rdV_ep0 {h : Hp} {n id : Nat} {t : TypeId} {cs ys : List HV} {es : List (List HV)} (h1 : h[id]? = some (.row t (cs :: es))) (h2 : rdL h n cs = some ys) : rdV h (n + 1) (.ep id 0 0) = some (.ip ys) := by
  simp [rdV, h1, h2]
theorem rdL_nil {h : Hp} {n : Nat} : rdL h n [] = some [] := by unfold rdL; rfl
theorem rdL_cons {h : Hp} {n : Nat} {x y : HV} {r s : List HV} (h1 : rdV h n x = some y) (h2 : rdL h n r = some s) : rdL h n (x :: r) = some (y :: s) := by
  simp only [rdL, h1, h2]
theorem rdV_ip {h : Hp} {n : Nat} {cs ys : List HV} (h2 : rdL h n cs = some ys) : rdV h (n + 1) (.ip cs) = some (.ip ys) := by
  simp [rdV, h2]

theorem dlt_t {a b : Int} : (decide (a < b) = true) = (a < b) := by simp
theorem dlt_f {a b : Int} : (decide (a < b) = false) = ¬ a < b := by simp
theorem dle_t {a b : Int} : (decide (a ≤ b) = true) = (a ≤ b) := by simp
theorem dle_f {a b : Int} : (decide (a ≤ b) = false) = ¬ a ≤ b := by simp
theorem dgt_t {a b : Int} : (decide (a > b) = true) = (b < a) := by simp
theorem dgt_f {a b : Int} : (decide (a > b) = false) = ¬ b < a := by simp
theorem dge_t {a b : Int} : (decide (a ≥ b) = true) = (b ≤ a) := by simp
theorem dge_f {a b : Int} : (decide (a ≥ b) = false) = ¬ b ≤ a := by simp

/-- The k-th of a list. -/
def nth {α : Type} [Inhabited α] (l : List α) (k : Nat) : α := l.getD k default

theorem nth_eq {α : Type} [Inhabited α] {l : List α} {k : Nat} (h : k < l.length) : nth l k = l[k] := by simp [nth, h]
theorem nth_get? {α : Type} [Inhabited α] {l : List α} {k : Nat} (h : k < l.length) : l[k]? = some (nth l k) := by simp [nth, h]
theorem nth_map {α β : Type} [Inhabited α] (f : α → β) {l : List α} {k : Nat} (h : k < l.length) : (l.map f)[k]? = some (f (nth l k)) := by simp [nth, h]
theorem take_nth {α : Type} [Inhabited α] {l : List α} {k : Nat} (h : k < l.length) : l.take (k + 1) = l.take k ++ [nth l k] := by
  rw [List.take_succ_eq_append_getElem h, nth_eq h]
theorem drop_nth {α : Type} [Inhabited α] {l : List α} {k : Nat} (h : k < l.length) : l.drop k = nth l k :: l.drop (k + 1) := by
  rw [List.drop_eq_getElem_cons h, nth_eq h]
theorem nth_mem {α : Type} [Inhabited α] {l : List α} {k : Nat} (h : k < l.length) : nth l k ∈ l := by
  rw [nth_eq h]; exact List.getElem_mem h

theorem ints_nth {l : List Int} {k : Nat} (h : k < l.length) : (ints l)[k]? = some [.int .i64 (nth l k)] := nth_map _ h
theorem boolsH_nth {l : List Bool} {k : Nat} (h : k < l.length) : (boolsH l)[k]? = some [.bool (nth l k)] := nth_map _ h

theorem toNat_pred (i : Nat) : ((i : Int) - 1).toNat = i - 1 := by omega
theorem toNat_succ (i : Nat) : ((i : Int) + 1).toNat = i + 1 := by omega
theorem cast_pred {i : Nat} (h : 0 < i) : ((i : Int) - 1) = ((i - 1 : Nat) : Int) := by omega

attribute [go_sem] ints_nth boolsH_nth toNat_pred toNat_succ List.set_cons_zero List.set_cons_succ

/-- All numbers below n. -/
def upto (n : Nat) (p : Nat → Bool) : Bool := (List.range n).all p

theorem upto_zero (p : Nat → Bool) : upto 0 p = true := rfl
theorem upto_succ {n : Nat} {p : Nat → Bool} (h : upto n p = true) (hp : p n = true) : upto (n + 1) p = true := by
  simp only [upto, List.range_succ, List.all_append, List.all_cons, List.all_nil, Bool.and_true, Bool.and_eq_true] at h ⊢
  exact ⟨h, hp⟩
theorem upto_no {n : Nat} {p : Nat → Bool} (i : Nat) (hi : i < n) (hp : p i = false) : upto n p = false := by
  rw [upto, List.all_eq_false]
  exact ⟨i, List.mem_range.2 hi, by simp [hp]⟩
theorem upto_iff {n : Nat} {p : Nat → Bool} : upto n p = true ↔ ∀ i, i < n → p i = true := by
  simp [upto, List.all_eq_true]
theorem upto_le {n i : Nat} {p : Nat → Bool} (h : upto i p = true) (hn : n ≤ i) : upto n p = true := upto_iff.2 fun j hj => upto_iff.1 h j (by omega)
theorem upto_congr {n : Nat} {p q : Nat → Bool} (h : ∀ i, i < n → p i = q i) : upto n p = upto n q := by
  rw [Bool.eq_iff_iff, upto_iff, upto_iff]
  exact ⟨fun g i hi => by rw [← h i hi]; exact g i hi, fun g i hi => by rw [h i hi]; exact g i hi⟩
theorem upto_all {α : Type} [Inhabited α] {l : List α} {p : α → Bool} : upto l.length (fun i => p (nth l i)) = l.all p := by
  rw [Bool.eq_iff_iff, upto_iff, List.all_eq_true]
  refine ⟨fun h x hx => ?_, fun h i hi => h _ (nth_mem hi)⟩
  obtain ⟨i, hi, rfl⟩ := List.getElem_of_mem hx
  have := h i hi
  rwa [nth_eq hi] at this
theorem no_of {b : Bool} {p : Prop} (h : b = true ↔ p) (hp : ¬ p) : b = false := Bool.eq_false_iff.2 fun e => hp (h.1 e)


mutual
/-- No slice in it is longer than memory. -/
def HV.bnd : HV → Prop
  | .sl _ es => es.length ≤ maxLen ∧ HV.bndLL es
  | .ip cs => HV.bndL cs
  | .fn _ fs cs => HV.bndL fs ∧ HV.bndL cs
  | .agg cs => HV.bndL cs
  | .tup vs => HV.bndL vs
  | _ => True
def HV.bndL : List HV → Prop
  | [] => True
  | x :: rest => HV.bnd x ∧ HV.bndL rest
def HV.bndLL : List (List HV) → Prop
  | [] => True
  | x :: rest => HV.bndL x ∧ HV.bndLL rest
end

theorem bndL_of : ∀ {l : List HV}, (∀ i (hi : i < l.length), l[i].bnd) → HV.bndL l
  | [], _ => by simp [HV.bndL]
  | x :: rest, h => by
    simp only [HV.bndL]
    exact ⟨h 0 (by simp), bndL_of fun i hi => by have := h (i + 1) (by simpa using hi); simpa using this⟩

theorem bndLL_of : ∀ {l : List (List HV)}, (∀ i (hi : i < l.length) j (hj : j < l[i].length), l[i][j].bnd) → HV.bndLL l
  | [], _ => by simp [HV.bndLL]
  | x :: rest, h => by
    simp only [HV.bndLL]
    exact ⟨bndL_of fun j hj => h 0 (by simp) j hj, bndLL_of fun i hi j hj => by have := h (i + 1) (by simpa using hi) j (by simpa using hj); simpa using this⟩

theorem bndLL_get : ∀ {l : List (List HV)} {i : Nat} {cs : List HV}, HV.bndLL l → l[i]? = some cs → HV.bndL cs
  | x :: rest, 0, cs, h, hi => by
    simp only [HV.bndLL] at h
    simp at hi; subst hi; exact h.1
  | x :: rest, i + 1, cs, h, hi => by
    simp only [HV.bndLL] at h
    exact bndLL_get h.2 (by simpa using hi)

theorem RV.bnd {K : KS} {x : HV} {v : Value} (hr : RV K x v) : x.bnd := by
  induction hr with
  | sl0 full a cap h1 h2 h3 => simp [HV.bnd, HV.bndLL]
  | sl full es k b off cap cv h0 h1 h2 h3 hb hL hk hc _ ih =>
    simp only [HV.bnd]
    exact ⟨by omega, bndLL_of ih⟩
  | ip cs b off cv hb hL hc _ ih => simp only [HV.bnd]; exact bndL_of ih
  | fn f fs cs vs us h1 h2 _ _ ih1 ih2 => simp only [HV.bnd]; exact ⟨bndL_of ih1, bndL_of ih2⟩
  | agg cs vs h1 _ ih => simp only [HV.bnd]; exact bndL_of ih
  | tup cs vs h1 _ ih => simp only [HV.bnd]; exact bndL_of ih
  | _ => simp [HV.bnd]

theorem WP.bnd {X : PG} {C : Cx} {Q : Exit → Env → Hp → Prop} {e : Env} {h : Hp} {c : Code} {x : HV} (t : Nat) (ht : e t = x) (hc : x.bnd → WP X C c Q e h) : WP X C c Q e h := by
  intro K B a he hh
  refine hc ?_ K B a he hh
  have hr := he.tmps t
  rw [ht] at hr
  exact hr.bnd

theorem bnd_ints (l : List Int) : HV.bndLL (ints l) := by
  refine bndLL_of fun i hi j hj => ?_
  simp only [ints, List.getElem_map, List.length_cons, List.length_nil] at hj ⊢
  obtain rfl : j = 0 := by omega
  simp [HV.bnd]

end Go.HL

