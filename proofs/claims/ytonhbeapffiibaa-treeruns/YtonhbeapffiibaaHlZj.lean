/-
  HL, part Zj: sets of numbers (maps to true), ranged over.
-/
import Derived.Test.YtonhbeapffiibaaHlZi
namespace Go.HL

/-- The map of a set. -/
def setP (p : Int → Bool) : HV → Option HV
  | .int .i64 n => if p n then some (.bool true) else none
  | _ => none

theorem setP_int {p : Int → Bool} {t : Int} : setP p (.int .i64 t) = some (.bool true) ↔ p t = true := by
  simp only [setP]; split <;> simp_all

theorem setP_val {p : Int → Bool} {t : Int} {v : HV} (h : setP p (.int .i64 t) = some v) : p t = true ∧ v = .bool true := by
  simp only [setP] at h
  split at h
  · rename_i hp; exact ⟨hp, (Option.some.inj h).symm⟩
  · cases h

theorem RngD.entry {h : Hp} {it mid : Nat} {d : TypeDesc} {m0 m : HV → Option HV} {pre : List KV} {x : KV} (hR : RngD h it mid d m0 m (pre ++ [x])) (hm : m x.1 = some x.2.1) : entryH h (.it it) = some (.tup [x.1, x.2.1]) := by
  obtain ⟨kvs0, kvs, clock, h1, h2, h3, h4, h5, h6, h7, h8⟩ := hR
  have hx0 := h5 x (by simp)
  obtain ⟨s, hs⟩ := (h4.mem (h3.keys x hx0)).1 hm
  have hxe : x = (x.1, x.2.1, s) := h3.unique hx0 (h7 _ hs) (by rw [(sameK_iff (h3.keys x hx0) (h3.keys x hx0)).2 rfl])
  have hx : x ∈ kvs := by rw [hxe]; exact hs
  have hf : kvs.find? (fun y => y.2.2 == x.2.2) = some x := by
    have hp := h4.stamps
    clear h1 h2 h4 h8 h7 hs
    induction kvs with
    | nil => cases hx
    | cons y l ih =>
      obtain ⟨p1, p2⟩ := List.pairwise_cons.1 hp
      rw [List.find?_cons]
      rcases List.mem_cons.1 hx with rfl | hx
      · simp
      · have := p1 x hx
        have e : (y.2.2 == x.2.2) = false := by simpa using this
        rw [e]
        exact ih hx p2
  simp only [entryH, h1, h2, List.map_append, List.map_cons, List.map_nil, List.getLast?_append, List.getLast?_singleton, Option.some_or, if_true]
  rw [hf]
  rfl

/-- A range over a set under way: 'seen' have come. -/
def RngS (h : Hp) (it mid : Nat) (p seen : Int → Bool) : Prop := ∃ pre, Rng h it mid (.int .i64) (setP p) pre ∧ ∀ t, seen t = true ↔ ∃ y ∈ pre, y.1 = .int .i64 t

/-- The same, while elements are taken out: at first p0, now p. -/
def RngSD (h : Hp) (it mid : Nat) (p0 p seen : Int → Bool) : Prop := ∃ pre, RngD h it mid (.int .i64) (setP p0) (setP p) pre ∧ ∀ t, seen t = true ↔ ∃ y ∈ pre, y.1 = .int .i64 t

theorem RngS.map {h : Hp} {it mid : Nat} {p seen : Int → Bool} (hR : RngS h it mid p seen) : MapAt h mid (.int .i64) (setP p) := by
  obtain ⟨pre, h1, _⟩ := hR; exact h1.map
theorem RngSD.map {h : Hp} {it mid : Nat} {p0 p seen : Int → Bool} (hR : RngSD h it mid p0 p seen) : MapAt h mid (.int .i64) (setP p) := by
  obtain ⟨pre, h1, _⟩ := hR; exact h1.map

theorem RngS.keep {h h' : Hp} {it mid : Nat} {p seen : Int → Bool} (hR : RngS h it mid p seen) (h1 : h'[it]? = h[it]?) (h2 : h'[mid]? = h[mid]?) : RngS h' it mid p seen ∧ leftN h' it = leftN h it := by
  obtain ⟨pre, g1, g2⟩ := hR
  obtain ⟨k1, k2⟩ := g1.keep h1 h2
  exact ⟨⟨pre, k1, g2⟩, k2⟩
theorem RngSD.keep {h h' : Hp} {it mid : Nat} {p0 p seen : Int → Bool} (hR : RngSD h it mid p0 p seen) (h1 : h'[it]? = h[it]?) (h2 : h'[mid]? = h[mid]?) : RngSD h' it mid p0 p seen ∧ leftD h' it = leftD h it := by
  obtain ⟨pre, g1, g2⟩ := hR
  obtain ⟨k1, k2⟩ := g1.keep h1 h2
  exact ⟨⟨pre, k1, g2⟩, k2⟩

theorem RngS.start {h : Hp} {it mid clock : Nat} {kvs : List KV} {p : Int → Bool} (h1 : h[it]? = some (.iter (some mid) clock [] clock)) (h2 : h[mid]? = some (.map kvs clock)) (hm : MapAt h mid (.int .i64) (setP p)) : RngS h it mid p fun _ => false := by
  obtain ⟨kvs', clock', g1, g2⟩ := hm
  rw [h2] at g1
  injection g1 with g1; injection g1 with e1 e2
  subst e1; subst e2
  exact ⟨[], Rng.start h1 h2 g2, fun t => by simp⟩
theorem RngSD.start {h : Hp} {it mid clock : Nat} {kvs : List KV} {p : Int → Bool} (h1 : h[it]? = some (.iter (some mid) clock [] clock)) (h2 : h[mid]? = some (.map kvs clock)) (hm : MapAt h mid (.int .i64) (setP p)) : RngSD h it mid p p fun _ => false := by
  obtain ⟨kvs', clock', g1, g2⟩ := hm
  rw [h2] at g1
  injection g1 with g1; injection g1 with e1 e2
  subst e1; subst e2
  exact ⟨[], RngD.start h1 h2 g2, fun t => by simp⟩

/-- An element that has come is taken out. -/
theorem RngSD.del {P : Program} {h : Hp} {it mid : Nat} {p0 p seen : Int → Bool} {t kt e : TypeId} {x : Int} (hR : RngSD h it mid p0 p seen) (hx : seen x = true) (ht : mapH P t = some (kt, e, .int .i64)) :
    ∃ o, deleteH P h t (.mp mid) (.int .i64 x) = some { x := .und, ws := [(mid, o)] } ∧ ∀ h' : Hp, h'[mid]? = some o → h'[it]? = h[it]? → RngSD h' it mid p0 (fun u => p u && !decide (u = x)) seen ∧ leftD h' it ≤ leftD h it := by
  obtain ⟨pre, g1, g2⟩ := hR
  obtain ⟨y, hy, hyx⟩ := (g2 x).1 hx
  obtain ⟨o, h1, h2⟩ := g1.del hy ht
  rw [hyx] at h1 h2
  refine ⟨o, h1, fun h' a b => ?_⟩
  obtain ⟨k1, k2⟩ := h2 h' a b
  refine ⟨⟨pre, ?_, g2⟩, k2⟩
  have : (fun k' => if sameH (.int .i64 x) k' = true then none else setP p k') = setP (fun u => p u && !decide (u = x)) := by
    funext k'
    cases k' with
    | int k n =>
      cases k <;> simp only [sameH, setP]
      all_goals first
        | (by_cases e : x = n
           · subst e; simp
           · have e' : ¬ n = x := fun h => e h.symm
             simp [e, e'])
        | simp
    | _ => simp [sameH, setP]
  rw [this] at k1
  exact k1

theorem RngS.fresh {h : Hp} {it mid : Nat} {d : TypeDesc} {m : HV → Option HV} {pre : List KV} {x : KV} (hR : Rng h it mid d m (pre ++ [x])) {y : KV} (hy : y ∈ pre) (he : y.1 = x.1) : False := by
  obtain ⟨kvs, clock, h1, h2, h3, h4, h5⟩ := hR
  have e := h3.unique (h4 y (by simp [hy])) (h4 x (by simp)) (by rw [he]; exact (sameK_iff (h3.keys x (h4 x (by simp))) (h3.keys x (h4 x (by simp)))).2 rfl)
  subst e
  rw [List.nodup_append] at h5
  exact h5.2.2 y hy y (by simp) rfl

section
variable {X : PG} {C : Cx} {ops : Array Oper} {e : Env} {h : Hp}

theorem opsT.nextS {Q : Env → Hp → Prop} {rest : List Oper} {dst : Option Tmp} {ty : TypeId} {pos : String} {after : Array Edge} {o : Operand} {it mid : Nat} {p seen : Int → Bool} (hit : ev X e o = .it it) (hR : RngS h it mid p seen) (hne : mid ≠ it)
    (h0 : (∀ t, p t = true → seen t = true) → opsT X C ops Q rest (putE C.N e dst (.tup [.bool false])) h)
    (h1 : ∀ (t : Int) (h' : Hp), p t = true → seen t = false → RngS h' it mid p (fun u => seen u || decide (u = t)) → entryH h' (.it it) = some (.tup [.int .i64 t, .bool true]) → leftN h' it < leftN h it → h'.length = h.length → (∀ j, j ≠ it → h'[j]? = h[j]?) → opsT X C ops Q rest (putE C.N e dst (.tup [.bool true, .int .i64 t, .bool true])) h') :
    opsT X C ops Q (⟨dst, .next o false, ty, pos, after, none⟩ :: rest) e h := by
  obtain ⟨pre, g1, g2⟩ := hR
  refine opsT.nextM hit g1 hne (fun hall => h0 fun t ht => ?_) (fun x h' hk hm hR' hlt hlen hfr => ?_)
  · obtain ⟨s, hs⟩ := hall (.int .i64 t) (.bool true) rfl (setP_int.2 ht)
    exact (g2 t).2 ⟨_, hs, rfl⟩
  · obtain ⟨k, v, s⟩ := x
    obtain ⟨t, rfl⟩ := keyInt hk
    obtain ⟨hp, rfl⟩ := setP_val hm
    refine h1 t h' hp (Bool.eq_false_iff.2 fun hst => ?_) ⟨_, hR', fun u => ?_⟩ hR'.entry hlt hlen hfr
    · obtain ⟨y, hy, hyt⟩ := (g2 t).1 hst
      exact RngS.fresh hR' hy hyt
    simp only [Bool.or_eq_true, g2 u, decide_eq_true_eq, List.mem_append, List.mem_singleton]
    constructor
    · rintro (⟨y, hy, e⟩ | e)
      · exact ⟨y, .inl hy, e⟩
      · exact ⟨_, .inr rfl, by rw [e]⟩
    · rintro ⟨y, hy | hy, e⟩
      · exact .inl ⟨y, hy, e⟩
      · subst hy; right; simpa using e.symm

theorem opsT.nextSD {Q : Env → Hp → Prop} {rest : List Oper} {dst : Option Tmp} {ty : TypeId} {pos : String} {after : Array Edge} {o : Operand} {it mid : Nat} {p0 p seen : Int → Bool} (hit : ev X e o = .it it) (hR : RngSD h it mid p0 p seen) (hne : mid ≠ it)
    (h0 : (∀ t, p0 t = true → seen t = true) → opsT X C ops Q rest (putE C.N e dst (.tup [.bool false])) h)
    (h1 : ∀ (t : Int) (h' : Hp), p0 t = true → p t = true → RngSD h' it mid p0 p (fun u => seen u || decide (u = t)) → entryH h' (.it it) = some (.tup [.int .i64 t, .bool true]) → leftD h' it < leftD h it → h'.length = h.length → (∀ j, j ≠ it → h'[j]? = h[j]?) → opsT X C ops Q rest (putE C.N e dst (.tup [.bool true, .int .i64 t, .bool true])) h') :
    opsT X C ops Q (⟨dst, .next o false, ty, pos, after, none⟩ :: rest) e h := by
  obtain ⟨pre, g1, g2⟩ := hR
  refine opsT.nextD hit g1 hne (fun hall => h0 fun t ht => ?_) (fun x h' hk hm0 hm hR' hlt hlen hfr => ?_)
  · obtain ⟨s, hs⟩ := hall (.int .i64 t) (.bool true) rfl (setP_int.2 ht)
    exact (g2 t).2 ⟨_, hs, rfl⟩
  · obtain ⟨k, v, s⟩ := x
    obtain ⟨t, rfl⟩ := keyInt hk
    obtain ⟨hp, rfl⟩ := setP_val hm
    obtain ⟨hp0, _⟩ := setP_val hm0
    refine h1 t h' hp0 hp ⟨_, hR', fun u => ?_⟩ (hR'.entry hm) hlt hlen hfr
    simp only [Bool.or_eq_true, g2 u, decide_eq_true_eq, List.mem_append, List.mem_singleton]
    constructor
    · rintro (⟨y, hy, e⟩ | e)
      · exact ⟨y, .inl hy, e⟩
      · exact ⟨_, .inr rfl, by rw [e]⟩
    · rintro ⟨y, hy | hy, e⟩
      · exact .inl ⟨y, hy, e⟩
      · subst hy; right; simpa using e.symm
end

end Go.HL

