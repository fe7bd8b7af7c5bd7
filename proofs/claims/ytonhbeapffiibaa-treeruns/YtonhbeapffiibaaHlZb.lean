/-
  HL, part Zb: maps with plain keys, as functions.
-/
import Derived.Test.YtonhbeapffiibaaHlZa
namespace Go.HL

/-- What is not needed of the state may be forgotten. -/
theorem WP.absH {X : PG} {C : Cx} {Q : Exit → Env → Hp → Prop} {e : Env} {h : Hp} {c : Code} (J : Env → Hp → Prop) (hJ : J e h) (hc : ∀ e h, J e h → WP X C c Q e h) : WP X C c Q e h := hc e h hJ

theorem set_concat {α : Type} (h : List α) (a b : α) : (h ++ [a]).set h.length b = h ++ [b] := by
  rw [List.set_append_right _ _ (Nat.le_refl _), Nat.sub_self]; rfl
theorem get_concat {α : Type} (h : List α) (a : α) : (h ++ [a])[h.length]? = some a := by simp
attribute [go_sem] set_concat get_concat List.set_cons_zero beq_self_eq_true eq_self

abbrev KV := HV × HV × Nat

/-- The entries of a map: its keys are of the kind d, all different; so are the stamps, all below the clock. -/
structure MapOf (d : TypeDesc) (kvs : List KV) (clock : Nat) (m : HV → Option HV) : Prop where
  keys : ∀ y ∈ kvs, isKeyH d y.1 = true
  diff : kvs.Pairwise fun a b => sameH a.1 b.1 = false
  stamp : ∀ y ∈ kvs, y.2.2 < clock
  stamps : kvs.Pairwise fun a b => a.2.2 ≠ b.2.2
  get : ∀ k, isKeyH d k = true → (findH k kvs 0).map (·.2) = m k

def MapAt (h : Hp) (id : Nat) (d : TypeDesc) (m : HV → Option HV) : Prop := ∃ kvs clock, h[id]? = some (.map kvs clock) ∧ MapOf d kvs clock m

theorem sameK_iff {d : TypeDesc} {a b : HV} (ha : isKeyH d a = true) (hb : isKeyH d b = true) : sameH a b = true ↔ a = b := by
  cases d <;> cases a <;> simp [isKeyH] at ha <;> cases b <;> simp [isKeyH] at hb <;> simp [sameH]
  subst ha; subst hb; simp

theorem findH_shift (k : HV) : ∀ (kvs : List KV) (i : Nat), findH k kvs (i + 1) = (findH k kvs i).map fun p => (p.1 + 1, p.2)
  | [], i => rfl
  | x :: rest, i => by
    simp only [findH]
    split
    · rfl
    · rw [findH_shift k rest (i + 1)]

theorem findH_some {k : HV} {v : HV} : ∀ {kvs : List KV} {i : Nat}, findH k kvs 0 = some (i, v) → ∃ x, kvs[i]? = some x ∧ x.2.1 = v ∧ sameH k x.1 = true
  | [], i, h => by simp [findH] at h
  | x :: rest, i, h => by
    simp only [findH] at h
    split at h
    · rename_i hs
      simp only [Option.some.injEq, Prod.mk.injEq] at h
      obtain ⟨rfl, rfl⟩ := h
      exact ⟨x, rfl, rfl, hs⟩
    · rw [findH_shift] at h
      obtain ⟨⟨j, u⟩, h1, h2⟩ := Option.map_eq_some_iff.1 h
      simp only [Prod.mk.injEq] at h2
      obtain ⟨rfl, rfl⟩ := h2
      obtain ⟨y, g1, g2, g3⟩ := findH_some h1
      exact ⟨y, by simpa using g1, g2, g3⟩

theorem findH_none {k : HV} : ∀ {kvs : List KV}, findH k kvs 0 = none → ∀ x ∈ kvs, sameH k x.1 = false
  | [], _, x, hx => by cases hx
  | y :: rest, h, x, hx => by
    simp only [findH] at h
    split at h
    · cases h
    · rename_i hs
      rw [findH_shift, Option.map_eq_none_iff] at h
      rcases List.mem_cons.1 hx with rfl | hx
      · simpa using hs
      · exact findH_none h x hx

theorem findH_mem {d : TypeDesc} {kvs : List KV} (hk : ∀ y ∈ kvs, isKeyH d y.1 = true) (hd : kvs.Pairwise fun a b => sameH a.1 b.1 = false) {k v : HV} (hkk : isKeyH d k = true) : (findH k kvs 0).map (·.2) = some v ↔ ∃ s, (k, v, s) ∈ kvs := by
  induction kvs with
  | nil => simp [findH]
  | cons x rest ih =>
    obtain ⟨hd1, hd2⟩ := List.pairwise_cons.1 hd
    simp only [findH]
    have hx := hk x (by simp)
    by_cases hs : sameH k x.1 = true
    · have := (sameK_iff hkk hx).1 hs
      rw [if_pos hs]
      constructor
      · intro h
        simp only [Option.map_some, Option.some.injEq] at h
        obtain ⟨a, b, c⟩ := x
        simp only at this h
        subst this; subst h
        exact ⟨c, by simp⟩
      · rintro ⟨s, hm⟩
        rcases List.mem_cons.1 hm with e | hm
        · rw [← e]; rfl
        · have h1 := hd1 _ hm
          rw [← this] at h1
          have := (sameK_iff hkk hkk).2 rfl
          simp only at h1
          rw [this] at h1; cases h1
    · rw [if_neg hs, findH_shift, Option.map_map]
      have := ih (fun y hy => hk y (by simp [hy])) hd2
      constructor
      · intro h
        obtain ⟨s, hm⟩ := this.1 (by rw [← h]; rfl)
        exact ⟨s, by simp [hm]⟩
      · rintro ⟨s, hm⟩
        rcases List.mem_cons.1 hm with e | hm
        · rw [← e] at hs
          exact absurd ((sameK_iff hkk hkk).2 rfl) hs
        · have := this.2 ⟨s, hm⟩
          rw [← this]; rfl

theorem MapOf.mem {d : TypeDesc} {kvs : List KV} {clock : Nat} {m : HV → Option HV} (hm : MapOf d kvs clock m) {k v : HV} (hk : isKeyH d k = true) : m k = some v ↔ ∃ s, (k, v, s) ∈ kvs := by
  rw [← hm.get k hk]
  exact findH_mem hm.keys hm.diff hk

theorem MapOf.nil (d : TypeDesc) (clock : Nat) : MapOf d [] clock fun _ => none :=
  ⟨fun _ h => by simp at h, .nil, fun _ h => by simp at h, .nil, fun _ _ => rfl⟩

/-- What a look-up answers. -/
def lookR (ok : Bool) (z : HV) : Option HV → HV
  | some v => if ok then .tup [v, .bool true] else v
  | none => if ok then .tup [z, .bool false] else z

theorem MapAt.look {P : Program} {h : Hp} {id : Nat} {d : TypeDesc} {m : HV → Option HV} {t kt e : TypeId} {k z : HV} {ok : Bool} (hm : MapAt h id d m) (ht : mapH P t = some (kt, e, d)) (hz : zeroH P e = some z) (hk : isKeyH d k = true) :
    lookupH P h t (.mp id) k ok = some (lookR ok z (m k)) := by
  obtain ⟨kvs, clock, h1, h2⟩ := hm
  unfold lookupH
  simp only [ht, kvsH, h1]
  rw [if_pos ⟨hk, h2.keys⟩]
  have := h2.get k hk
  cases hf : findH k kvs 0 with
  | none => rw [hf] at this; simp only [Option.map_none] at this; rw [← this, hz]; rfl
  | some p => rw [hf] at this; simp only [Option.map_some] at this; rw [← this]; rfl

/-- A map that is written. -/
theorem MapAt.put {P : Program} {h : Hp} {id : Nat} {d : TypeDesc} {m : HV → Option HV} {t kt e : TypeId} {k v : HV} (hm : MapAt h id d m) (ht : mapH P t = some (kt, e, d)) (hk : isKeyH d k = true) :
    ∃ o, mapUpdateH P h t (.mp id) k v = some { x := .und, ws := [(id, o)] } ∧ ∀ h' : Hp, h'[id]? = some o → MapAt h' id d fun k' => if sameH k k' then some v else m k' := by
  obtain ⟨kvs, clock, h1, h2⟩ := hm
  unfold mapUpdateH
  simp only [ht, h1]
  rw [if_pos ⟨hk, h2.keys⟩]
  cases hf : findH k kvs 0 with
  | none =>
    refine ⟨_, rfl, fun h' hh' => ⟨_, _, hh', ?_⟩⟩
    have hn := findH_none hf
    refine ⟨fun y hy => ?_, ?_, fun y hy => ?_, ?_, fun k' hk' => ?_⟩
    · rcases List.mem_append.1 hy with hy | hy
      · exact h2.keys y hy
      · simp only [List.mem_singleton] at hy; subst hy; exact hk
    · refine List.pairwise_append.2 ⟨h2.diff, List.pairwise_singleton _ _, fun a ha b hb => ?_⟩
      simp only [List.mem_singleton] at hb; subst hb
      rw [Bool.eq_false_iff]
      intro hs
      have := (sameK_iff (h2.keys a ha) hk).1 hs
      have := hn a ha
      rw [← Bool.not_eq_true] at this
      exact this ((sameK_iff hk (h2.keys a ha)).2 (by simp_all))
    · rcases List.mem_append.1 hy with hy | hy
      · have := h2.stamp y hy; omega
      · simp only [List.mem_singleton] at hy; subst hy; exact Nat.lt_succ_self _
    · refine List.pairwise_append.2 ⟨h2.stamps, List.pairwise_singleton _ _, fun a ha b hb => ?_⟩
      simp only [List.mem_singleton] at hb; subst hb
      have := h2.stamp a ha
      show a.2.2 ≠ clock
      omega
    · have happ : ∀ (l : List KV) (x : KV), (findH k' (l ++ [x]) 0).map (·.2) = match (findH k' l 0).map (·.2) with | some u => some u | none => if sameH k' x.1 then some x.2.1 else none := by
        intro l x
        induction l with
        | nil => simp only [List.nil_append, findH]; split <;> rfl
        | cons y l ih =>
          simp only [List.cons_append, findH]
          split
          · rfl
          · rw [findH_shift, findH_shift, Option.map_map, Option.map_map]
            exact ih
      rw [happ, h2.get k' hk']
      by_cases hs : sameH k k' = true
      · have := (sameK_iff hk hk').1 hs
        subst this
        rw [← h2.get k hk, hf]
        simp [hs]
      · have hs' : ¬ sameH k' k = true := fun h => hs (by rw [(sameK_iff hk' hk).1 h]; exact (sameK_iff hk hk).2 rfl)
        rw [if_neg hs]
        simp only [if_neg hs']
        cases m k' <;> rfl
  | some p =>
    obtain ⟨i, u⟩ := p
    obtain ⟨x, g1, g2, g3⟩ := findH_some hf
    refine ⟨_, rfl, fun h' hh' => ⟨_, _, hh', ?_⟩⟩
    have hx : x ∈ kvs := List.mem_of_getElem? g1
    have hkx : k = x.1 := (sameK_iff hk (h2.keys x hx)).1 g3
    obtain ⟨hi, hxi⟩ := List.getElem?_eq_some_iff.1 g1
    have e0 : kvs.modify i (fun y => (k, v, y.2.2)) = kvs.set i (k, v, x.2.2) := by
      apply List.ext_getElem?
      intro j
      rw [List.getElem?_modify, List.getElem?_set]
      split
      · rename_i hij; subst hij; simp [hi, hxi]
      · cases kvs[j]? <;> rfl
    rw [e0]
    have e1 : ∀ j (hj : j < (kvs.set i (k, v, x.2.2)).length), ((kvs.set i (k, v, x.2.2))[j]).1 = (kvs[j]'(by simpa using hj)).1 ∧ ((kvs.set i (k, v, x.2.2))[j]).2.2 = (kvs[j]'(by simpa using hj)).2.2 := fun j hj => by
      rw [List.getElem_set]
      split
      · rename_i hij; subst hij; rw [hxi]; exact ⟨hkx, rfl⟩
      · exact ⟨rfl, rfl⟩
    refine ⟨fun y hy => ?_, ?_, fun y hy => ?_, ?_, fun k' hk' => ?_⟩
    · obtain ⟨j, hj, rfl⟩ := List.getElem_of_mem hy
      rw [(e1 j hj).1]; exact h2.keys _ (List.getElem_mem _)
    · rw [List.pairwise_iff_getElem]
      intro a b ha hb hab
      rw [(e1 a ha).1, (e1 b hb).1]
      exact List.pairwise_iff_getElem.1 h2.diff a b _ _ hab
    · obtain ⟨j, hj, rfl⟩ := List.getElem_of_mem hy
      rw [(e1 j hj).2]; exact h2.stamp _ (List.getElem_mem _)
    · rw [List.pairwise_iff_getElem]
      intro a b ha hb hab
      rw [(e1 a ha).2, (e1 b hb).2]
      exact List.pairwise_iff_getElem.1 h2.stamps a b _ _ hab
    · have hset : ∀ (l : List KV) (i : Nat) (s : Nat), l[i]?.map (·.1) = some k → l.Pairwise (fun a b => sameH a.1 b.1 = false) → (∀ y ∈ l, isKeyH d y.1 = true) → (findH k' (l.set i (k, v, s)) 0).map (·.2) = if sameH k k' then some v else (findH k' l 0).map (·.2) := by
        intro l
        induction l with
        | nil => intro i s h; simp at h
        | cons y l ih =>
          intro i s h hp hks
          obtain ⟨hp1, hp2⟩ := List.pairwise_cons.1 hp
          cases i with
          | zero =>
            simp only [List.getElem?_cons_zero, Option.map_some, Option.some.injEq] at h
            simp only [List.set_cons_zero, findH]
            rw [h]
            by_cases hs : sameH k k' = true
            · have := (sameK_iff hk hk').1 hs
              subst this
              simp [hs]
            · have hs' : ¬ sameH k' k = true := fun h => hs (by rw [(sameK_iff hk' hk).1 h]; exact (sameK_iff hk hk).2 rfl)
              simp [hs, hs']
          | succ i =>
            simp only [List.getElem?_cons_succ] at h
            simp only [List.set_cons_succ, findH]
            have hmem : ∃ z ∈ l, z.1 = k := by
              cases hz : l[i]? with
              | none => rw [hz] at h; simp at h
              | some z => rw [hz] at h; exact ⟨z, List.mem_of_getElem? hz, by simpa using h⟩
            obtain ⟨z, hz, hzk⟩ := hmem
            by_cases hs : sameH k' y.1 = true
            · rw [if_pos hs, if_pos hs]
              have hy := (sameK_iff hk' (hks y (by simp))).1 hs
              have : ¬ sameH k k' = true := fun h => by
                have := hp1 z hz
                rw [hzk, ← hy] at this
                have h' := (sameK_iff hk hk').1 h
                rw [h'] at this
                rw [(sameK_iff hk' hk').2 rfl] at this; cases this
              rw [if_neg this]
            · rw [if_neg hs, if_neg hs, findH_shift, findH_shift, Option.map_map, Option.map_map]
              exact ih i s h hp2 (fun y hy => hks y (by simp [hy]))
      rw [hset kvs i x.2.2 (by rw [g1, Option.map_some, hkx]) h2.diff h2.keys, h2.get k' hk']

theorem MapAt.keep {h h' : Hp} {id : Nat} {d : TypeDesc} {m : HV → Option HV} (hm : MapAt h id d m) (he : h'[id]? = h[id]?) : MapAt h' id d m := by
  obtain ⟨kvs, clock, h1, h2⟩ := hm
  exact ⟨kvs, clock, he.trans h1, h2⟩

theorem MapAt.congr {h : Hp} {id : Nat} {d : TypeDesc} {m m' : HV → Option HV} (hm : MapAt h id d m) (he : ∀ k, isKeyH d k = true → m k = m' k) : MapAt h id d m' := by
  obtain ⟨kvs, clock, h1, h2⟩ := hm
  exact ⟨kvs, clock, h1, ⟨h2.keys, h2.diff, h2.stamp, h2.stamps, fun k hk => (h2.get k hk).trans (he k hk)⟩⟩

theorem keyInt {k : HV} (h : isKeyH (.int .i64) k = true) : ∃ n, k = .int .i64 n := by
  cases k <;> simp [isKeyH] at h
  subst h
  exact ⟨_, rfl⟩

theorem MapAt.notRow {h : Hp} {id : Nat} {d : TypeDesc} {m : HV → Option HV} {x : HV} {t : TypeId} {es : List (List HV)} (hm : MapAt h id d m) (ho : OwnAt h x t es) : ¬ id ∈ idsOf x := by
  obtain ⟨kvs, clock, h1, _⟩ := hm
  intro hi
  rcases ho with ⟨rfl, _⟩ | ⟨j, rfl, hj⟩
  · simp [idsOf] at hi
  · simp only [idsOf, List.mem_singleton] at hi
    subst hi
    rw [h1] at hj; cases hj

theorem MapAt.lt {h : Hp} {id : Nat} {d : TypeDesc} {m : HV → Option HV} (hm : MapAt h id d m) : id < h.length := by
  obtain ⟨kvs, clock, h1, _⟩ := hm
  exact (List.getElem?_eq_some_iff.1 h1).1

/-- A range over a map under way: the entries that have come. -/
def Rng (h : Hp) (it mid : Nat) (d : TypeDesc) (m : HV → Option HV) (pre : List KV) : Prop :=
  ∃ kvs clock, h[it]? = some (.iter (some mid) clock (pre.map (·.2.2)) clock) ∧ h[mid]? = some (.map kvs clock) ∧ MapOf d kvs clock m ∧ (∀ y ∈ pre, y ∈ kvs) ∧ pre.Nodup

/-- How many are still to come. -/
def leftN (h : Hp) (it : Nat) : Nat :=
  match h[it]? with
  | some (.iter (some mid) _ seen _) => match h[mid]? with | some (.map kvs _) => kvs.length - seen.length | _ => 0
  | _ => 0

theorem Rng.map {h : Hp} {it mid : Nat} {d : TypeDesc} {m : HV → Option HV} {pre : List KV} (hR : Rng h it mid d m pre) : MapAt h mid d m := by
  obtain ⟨kvs, clock, _, h2, h3, _⟩ := hR
  exact ⟨kvs, clock, h2, h3⟩

theorem Rng.keep {h h' : Hp} {it mid : Nat} {d : TypeDesc} {m : HV → Option HV} {pre : List KV} (hR : Rng h it mid d m pre) (h1 : h'[it]? = h[it]?) (h2 : h'[mid]? = h[mid]?) : Rng h' it mid d m pre ∧ leftN h' it = leftN h it := by
  obtain ⟨kvs, clock, g1, g2, g3⟩ := hR
  exact ⟨⟨kvs, clock, h1.trans g1, h2.trans g2, g3⟩, by simp only [leftN, h1, g1, h2]⟩

theorem Rng.start {h : Hp} {it mid clock : Nat} {kvs : List KV} {d : TypeDesc} {m : HV → Option HV} (h1 : h[it]? = some (.iter (some mid) clock [] clock)) (h2 : h[mid]? = some (.map kvs clock)) (hm : MapOf d kvs clock m) : Rng h it mid d m [] :=
  ⟨kvs, clock, h1, h2, hm, fun _ h => by simp at h, .nil⟩

theorem Rng.entry {h : Hp} {it mid : Nat} {d : TypeDesc} {m : HV → Option HV} {pre : List KV} {x : KV} (hR : Rng h it mid d m (pre ++ [x])) : entryH h (.it it) = some (.tup [x.1, x.2.1]) := by
  obtain ⟨kvs, clock, h1, h2, h3, h4, _⟩ := hR
  have hx := h4 x (by simp)
  have hf : kvs.find? (fun y => y.2.2 == x.2.2) = some x := by
    clear h1 h2 h4
    have hp := h3.stamps
    clear h3
    induction kvs with
    | nil => cases hx
    | cons y l ih =>
      obtain ⟨p1, p2⟩ := List.pairwise_cons.1 hp
      rw [List.find?_cons]
      rcases List.mem_cons.1 hx with rfl | hx
      · simp
      · have := p1 x hx
        have e : (y.2.2 == x.2.2) = false := by simpa using this
        rw [e]
        exact ih hx p2
  simp only [entryH, h1, h2, List.map_append, List.map_cons, List.map_nil, List.getLast?_append, List.getLast?_singleton, Option.some_or, if_true]
  rw [hf]
  rfl

theorem Rng.mem {h : Hp} {it mid : Nat} {d : TypeDesc} {m : HV → Option HV} {pre : List KV} (hR : Rng h it mid d m pre) {y : KV} (hy : y ∈ pre) : isKeyH d y.1 = true ∧ m y.1 = some y.2.1 := by
  obtain ⟨kvs, clock, h1, h2, h3, h4, _⟩ := hR
  have hk := h3.keys y (h4 y hy)
  exact ⟨hk, (h3.mem hk).2 ⟨y.2.2, h4 y hy⟩⟩

theorem nodup_le {α : Type} : ∀ {l m : List α}, l.Nodup → (∀ x ∈ l, x ∈ m) → l.length ≤ m.length
  | [], m, _, _ => Nat.zero_le _
  | a :: l, m, hn, hs => by
    obtain ⟨n1, n2⟩ := List.nodup_cons.1 hn
    obtain ⟨s, t, rfl⟩ := List.append_of_mem (hs a (by simp))
    have := nodup_le (m := s ++ t) n2 (fun x hx => by
      have := hs x (by simp [hx])
      simp only [List.mem_append, List.mem_cons] at this ⊢
      rcases this with h | rfl | h
      · exact .inl h
      · exact absurd hx n1
      · exact .inr h)
    simp only [List.length_cons, List.length_append] at this ⊢
    omega

section
variable {X : PG} {C : Cx} {ops : Array Oper} {e : Env} {h : Hp}

theorem opsT.nextM {Q : Env → Hp → Prop} {rest : List Oper} {dst : Option Tmp} {ty : TypeId} {pos : String} {after : Array Edge} {o : Operand} {it mid : Nat} {d : TypeDesc} {m : HV → Option HV} {pre : List KV} (hit : ev X e o = .it it) (hR : Rng h it mid d m pre) (hne : mid ≠ it)
    (h0 : (∀ k v, isKeyH d k = true → m k = some v → ∃ s, (k, v, s) ∈ pre) → opsT X C ops Q rest (putE C.N e dst (.tup [.bool false])) h)
    (h1 : ∀ (x : KV) (h' : Hp), isKeyH d x.1 = true → m x.1 = some x.2.1 → Rng h' it mid d m (pre ++ [x]) → leftN h' it < leftN h it → h'.length = h.length → (∀ j, j ≠ it → h'[j]? = h[j]?) → opsT X C ops Q rest (putE C.N e dst (.tup [.bool true, x.1, x.2.1])) h') :
    opsT X C ops Q (⟨dst, .next o false, ty, pos, after, none⟩ :: rest) e h := by
  obtain ⟨kvs, clock, g1, g2, g3, g4, g5⟩ := hR
  have hlt := (List.getElem?_eq_some_iff.1 g1).1
  simp only [opsT, wantH, stepT, hit, g1, g2]
  refine ⟨⟨Nat.le_refl _, g3.stamp⟩, fun hl => h0 fun k v hk hv => ?_, fun x hx => ?_⟩
  · obtain ⟨s, hs⟩ := (g3.mem hk).1 hv
    unfold leftH at hl
    rw [List.filter_eq_nil_iff] at hl
    have := hl _ hs
    simp only [Bool.not_eq_true, Bool.not_eq_false', List.contains_iff_mem, List.mem_map] at this
    obtain ⟨y, hy, hys⟩ := this
    have hye : y = (k, v, s) := by
      have hp := g3.stamps
      have hyk := g4 y hy
      obtain ⟨a, ha, rfl⟩ := List.getElem_of_mem hyk
      obtain ⟨b, hb, hbe⟩ := List.getElem_of_mem hs
      by_cases hab : a = b
      · subst hab; exact hbe
      · exfalso
        rcases Nat.lt_or_gt_of_ne hab with hlt | hlt
        · exact List.pairwise_iff_getElem.1 hp a b ha hb hlt (by rw [hbe]; exact hys)
        · exact List.pairwise_iff_getElem.1 hp b a hb ha hlt (by rw [hbe]; exact hys.symm)
    exact ⟨s, hye ▸ hy⟩
  · unfold leftH at hx
    rw [List.mem_filter] at hx
    obtain ⟨hx1, hx2⟩ := hx
    simp only [Bool.not_eq_true', ← Bool.not_eq_true, List.contains_iff_mem] at hx2
    have hxn : ¬ x ∈ pre := fun hm => hx2 (List.mem_map.2 ⟨x, hm, rfl⟩)
    have hnd : (pre ++ [x]).Nodup := by
      rw [List.nodup_append]
      exact ⟨g5, by simp, fun a ha b hb e => by simp only [List.mem_singleton] at hb; subst hb; subst e; exact hxn ha⟩
    have hsub : ∀ y ∈ pre ++ [x], y ∈ kvs := fun y hy => by
      rcases List.mem_append.1 hy with hy | hy
      · exact g4 y hy
      · simp only [List.mem_singleton] at hy; subst hy; exact hx1
    have hlen := nodup_le hnd hsub
    rw [List.length_append, List.length_singleton] at hlen
    have hr : Rng (h.set it (.iter (some mid) clock (pre.map (·.2.2) ++ [x.2.2]) clock)) it mid d m (pre ++ [x]) :=
      ⟨kvs, clock, by rw [List.getElem?_set_self hlt]; simp, by rw [List.getElem?_set_ne hne.symm]; exact g2, g3, hsub, hnd⟩
    refine h1 x _ (g3.keys x hx1) ((g3.mem (g3.keys x hx1)).2 ⟨x.2.2, hx1⟩) hr ?_ (by rw [List.length_set]) (fun j hj => List.getElem?_set_ne fun e => hj e.symm)
    simp only [leftN, List.getElem?_set_self hlt, List.getElem?_set_ne hne.symm, g1, g2, List.length_append, List.length_map, List.length_singleton]
    omega
end

end Go.HL

