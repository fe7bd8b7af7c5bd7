/-
  HL, part Zf: maps from which keys are taken out, also while they are ranged over.
-/
import Derived.Test.YtonhbeapffiibaaHlZe
namespace Go.HL

theorem MapOf.erase {d : TypeDesc} {kvs : List KV} {clock : Nat} {m : HV → Option HV} (hm : MapOf d kvs clock m) {k v : HV} {i : Nat} (hk : isKeyH d k = true) (hf : findH k kvs 0 = some (i, v)) :
    MapOf d (kvs.eraseIdx i) clock (fun k' => if sameH k k' then none else m k') ∧ (∀ y ∈ kvs, sameH k y.1 = false → y ∈ kvs.eraseIdx i) ∧ (∀ y ∈ kvs.eraseIdx i, y ∈ kvs ∧ sameH k y.1 = false) := by
  obtain ⟨x, hx, _, hs⟩ := findH_some hf
  obtain ⟨hi, hxe⟩ := List.getElem?_eq_some_iff.1 hx
  have hsub := List.eraseIdx_sublist kvs i
  have hmem : ∀ y ∈ kvs.eraseIdx i, y ∈ kvs := fun y hy => hsub.subset hy
  have hno : ∀ y ∈ kvs.eraseIdx i, sameH k y.1 = false := fun y hy => by
    rw [List.mem_eraseIdx_iff_getElem] at hy
    obtain ⟨j, hj, hji, rfl⟩ := hy
    rw [Bool.eq_false_iff]
    intro h1
    have e1 := (sameK_iff hk (hm.keys x (hxe ▸ List.getElem_mem hi))).1 hs
    have e2 := (sameK_iff hk (hm.keys _ (List.getElem_mem hj))).1 h1
    have hp := List.pairwise_iff_getElem.1 hm.diff
    rcases Nat.lt_or_gt_of_ne hji with h | h
    · have := hp j i hj hi h
      rw [hxe, ← e1, ← e2, (sameK_iff hk hk).2 rfl] at this
      cases this
    · have := hp i j hi hj h
      rw [hxe, ← e1, ← e2, (sameK_iff hk hk).2 rfl] at this
      cases this
  have hyes : ∀ y ∈ kvs, sameH k y.1 = false → y ∈ kvs.eraseIdx i := fun y hy h1 => by
    rw [List.mem_eraseIdx_iff_getElem]
    obtain ⟨j, hj, rfl⟩ := List.getElem_of_mem hy
    refine ⟨j, hj, fun e => ?_, rfl⟩
    subst e
    rw [hxe, hs] at h1; cases h1
  refine ⟨⟨fun y hy => hm.keys y (hmem y hy), hm.diff.sublist hsub, fun y hy => hm.stamp y (hmem y hy), hm.stamps.sublist hsub, fun k' hk' => ?_⟩, hyes, fun y hy => ⟨hmem y hy, hno y hy⟩⟩
  apply Option.ext
  intro u
  rw [findH_mem (fun y hy => hm.keys y (hmem y hy)) (hm.diff.sublist hsub) hk']
  by_cases hkk : sameH k k' = true
  · rw [if_pos hkk]
    refine ⟨fun ⟨s, hs'⟩ => ?_, fun h => by cases h⟩
    have := hno _ hs'
    rw [hkk] at this; cases this
  · rw [if_neg hkk]
    have hkf : sameH k k' = false := by simpa using hkk
    rw [hm.mem hk']
    exact ⟨fun ⟨s, hs'⟩ => ⟨s, hmem _ hs'⟩, fun ⟨s, hs'⟩ => ⟨s, hyes _ hs' hkf⟩⟩

/-- A key is taken out. -/
theorem MapAt.del {P : Program} {h : Hp} {id : Nat} {d : TypeDesc} {m : HV → Option HV} {t kt e : TypeId} {k : HV} (hm : MapAt h id d m) (ht : mapH P t = some (kt, e, d)) (hk : isKeyH d k = true) :
    ∃ o, deleteH P h t (.mp id) k = some { x := .und, ws := [(id, o)] } ∧ ∀ h' : Hp, h'[id]? = some o → MapAt h' id d fun k' => if sameH k k' then none else m k' := by
  obtain ⟨kvs, clock, h1, h2⟩ := hm
  unfold deleteH
  simp only [ht, h1]
  rw [if_pos ⟨hk, h2.keys⟩]
  cases hf : findH k kvs 0 with
  | some p =>
    obtain ⟨i, v⟩ := p
    exact ⟨_, rfl, fun h' hh' => ⟨_, _, hh', (h2.erase hk hf).1⟩⟩
  | none =>
    refine ⟨_, rfl, fun h' hh' => ⟨kvs, clock, hh', h2.keys, h2.diff, h2.stamp, h2.stamps, fun k' hk' => ?_⟩⟩
    rw [h2.get k' hk']
    split
    · rename_i hs
      have e := (sameK_iff hk hk').1 hs
      subst e
      rw [← h2.get k hk, hf]; rfl
    · rfl

/-- A range over a map under way out of which keys that have come are taken: at the beginning the map was m0, now it is m. -/
def RngD (h : Hp) (it mid : Nat) (d : TypeDesc) (m0 m : HV → Option HV) (pre : List KV) : Prop :=
  ∃ kvs0 kvs clock, h[it]? = some (.iter (some mid) clock (pre.map (·.2.2)) clock) ∧ h[mid]? = some (.map kvs clock) ∧ MapOf d kvs0 clock m0 ∧ MapOf d kvs clock m ∧ (∀ y ∈ pre, y ∈ kvs0) ∧ pre.Nodup ∧ (∀ y ∈ kvs, y ∈ kvs0) ∧ ∀ y ∈ kvs0, ¬ y ∈ pre → y ∈ kvs

/-- How many are still to come. -/
def leftD (h : Hp) (it : Nat) : Nat :=
  match h[it]? with
  | some (.iter (some mid) _ seen _) => match h[mid]? with | some (.map kvs _) => (kvs.filter fun y => !seen.contains y.2.2).length | _ => 0
  | _ => 0

theorem RngD.start {h : Hp} {it mid clock : Nat} {kvs : List KV} {d : TypeDesc} {m : HV → Option HV} (h1 : h[it]? = some (.iter (some mid) clock [] clock)) (h2 : h[mid]? = some (.map kvs clock)) (hm : MapOf d kvs clock m) : RngD h it mid d m m [] :=
  ⟨kvs, kvs, clock, h1, h2, hm, hm, fun _ h => by simp at h, .nil, fun _ h => h, fun _ h _ => h⟩

theorem RngD.map {h : Hp} {it mid : Nat} {d : TypeDesc} {m0 m : HV → Option HV} {pre : List KV} (hR : RngD h it mid d m0 m pre) : MapAt h mid d m := by
  obtain ⟨_, kvs, clock, _, h2, _, h3, _⟩ := hR
  exact ⟨kvs, clock, h2, h3⟩

theorem RngD.keep {h h' : Hp} {it mid : Nat} {d : TypeDesc} {m0 m : HV → Option HV} {pre : List KV} (hR : RngD h it mid d m0 m pre) (h1 : h'[it]? = h[it]?) (h2 : h'[mid]? = h[mid]?) : RngD h' it mid d m0 m pre ∧ leftD h' it = leftD h it := by
  obtain ⟨kvs0, kvs, clock, g1, g2, g3⟩ := hR
  exact ⟨⟨kvs0, kvs, clock, h1.trans g1, h2.trans g2, g3⟩, by simp only [leftD, h1, g1, h2]⟩

theorem MapOf.unique {d : TypeDesc} {kvs : List KV} {clock : Nat} {m : HV → Option HV} (hm : MapOf d kvs clock m) {x y : KV} (hx : x ∈ kvs) (hy : y ∈ kvs) (hs : sameH x.1 y.1 = true) : x = y := by
  obtain ⟨i, hi, rfl⟩ := List.getElem_of_mem hx
  obtain ⟨j, hj, rfl⟩ := List.getElem_of_mem hy
  have hp := List.pairwise_iff_getElem.1 hm.diff
  rcases Nat.lt_trichotomy i j with h | h | h
  · rw [hp i j hi hj h] at hs; cases hs
  · subst h; rfl
  · have e := (sameK_iff (hm.keys _ hx) (hm.keys _ hy)).1 hs
    have := hp j i hj hi h
    rw [e, (sameK_iff (hm.keys _ hy) (hm.keys _ hy)).2 rfl] at this
    cases this

/-- The key that came last, or an earlier one, is taken out. -/
theorem RngD.del {P : Program} {h : Hp} {it mid : Nat} {d : TypeDesc} {m0 m : HV → Option HV} {pre : List KV} {t kt e : TypeId} {x : KV} (hR : RngD h it mid d m0 m pre) (hx : x ∈ pre) (ht : mapH P t = some (kt, e, d)) :
    ∃ o, deleteH P h t (.mp mid) x.1 = some { x := .und, ws := [(mid, o)] } ∧ ∀ h' : Hp, h'[mid]? = some o → h'[it]? = h[it]? → RngD h' it mid d m0 (fun k' => if sameH x.1 k' then none else m k') pre ∧ leftD h' it ≤ leftD h it := by
  obtain ⟨kvs0, kvs, clock, g1, g2, g3, g4, g5, g6, g7, g8⟩ := hR
  have hk : isKeyH d x.1 = true := g3.keys x (g5 x hx)
  unfold deleteH
  simp only [ht, g2]
  rw [if_pos ⟨hk, g4.keys⟩]
  cases hf : findH x.1 kvs 0 with
  | some p =>
    obtain ⟨i, v⟩ := p
    obtain ⟨q1, q2, q3⟩ := g4.erase hk hf
    refine ⟨_, rfl, fun h' hh' hit => ⟨⟨kvs0, _, clock, hit.trans g1, hh', g3, q1, g5, g6, fun y hy => g7 y (q3 y hy).1, fun y hy hyp => q2 y (g8 y hy hyp) ?_⟩, ?_⟩⟩
    · rw [Bool.eq_false_iff]
      intro hs
      have := g3.unique (g5 x hx) hy hs
      exact hyp (this ▸ hx)
    · simp only [leftD, hit, g1, hh', g2]
      exact ((List.eraseIdx_sublist kvs i).filter _).length_le
  | none =>
    refine ⟨_, rfl, fun h' hh' hit => ⟨⟨kvs0, kvs, clock, hit.trans g1, hh', g3, ⟨g4.keys, g4.diff, g4.stamp, g4.stamps, fun k' hk' => ?_⟩, g5, g6, g7, g8⟩, ?_⟩⟩
    · rw [g4.get k' hk']
      split
      · rename_i hs
        have e := (sameK_iff hk hk').1 hs
        rw [← e, ← g4.get x.1 hk, hf]; rfl
      · rfl
    · simp only [leftD, hit, g1, hh', g2]
      exact Nat.le_refl _

section
variable {X : PG} {C : Cx} {ops : Array Oper} {e : Env} {h : Hp}

theorem opsT.nextD {Q : Env → Hp → Prop} {rest : List Oper} {dst : Option Tmp} {ty : TypeId} {pos : String} {after : Array Edge} {o : Operand} {it mid : Nat} {d : TypeDesc} {m0 m : HV → Option HV} {pre : List KV} (hit : ev X e o = .it it) (hR : RngD h it mid d m0 m pre) (hne : mid ≠ it)
    (h0 : (∀ k v, isKeyH d k = true → m0 k = some v → ∃ s, (k, v, s) ∈ pre) → opsT X C ops Q rest (putE C.N e dst (.tup [.bool false])) h)
    (h1 : ∀ (x : KV) (h' : Hp), isKeyH d x.1 = true → m0 x.1 = some x.2.1 → m x.1 = some x.2.1 → RngD h' it mid d m0 m (pre ++ [x]) → leftD h' it < leftD h it → h'.length = h.length → (∀ j, j ≠ it → h'[j]? = h[j]?) → opsT X C ops Q rest (putE C.N e dst (.tup [.bool true, x.1, x.2.1])) h') :
    opsT X C ops Q (⟨dst, .next o false, ty, pos, after, none⟩ :: rest) e h := by
  obtain ⟨kvs0, kvs, clock, g1, g2, g3, g4, g5, g6, g7, g8⟩ := hR
  have hlt := (List.getElem?_eq_some_iff.1 g1).1
  simp only [opsT, wantH, stepT, hit, g1, g2]
  refine ⟨⟨Nat.le_refl _, g4.stamp⟩, fun hl => h0 fun k v hk hv => ?_, fun x hx => ?_⟩
  · obtain ⟨s, hs⟩ := (g3.mem hk).1 hv
    refine ⟨s, Classical.byContradiction fun hn => ?_⟩
    have hin := g8 _ hs hn
    unfold leftH at hl
    rw [List.filter_eq_nil_iff] at hl
    have := hl _ hin
    simp only [Bool.not_eq_true, Bool.not_eq_false', List.contains_iff_mem, List.mem_map] at this
    obtain ⟨y, hy, hys⟩ := this
    have hye : y = (k, v, s) := by
      have hp := g3.stamps
      have hyk := g5 y hy
      obtain ⟨a, ha, rfl⟩ := List.getElem_of_mem hyk
      obtain ⟨b, hb, hbe⟩ := List.getElem_of_mem hs
      by_cases hab : a = b
      · subst hab; exact hbe
      · exfalso
        rcases Nat.lt_or_gt_of_ne hab with hlt | hlt
        · exact List.pairwise_iff_getElem.1 hp a b ha hb hlt (by rw [hbe]; exact hys)
        · exact List.pairwise_iff_getElem.1 hp b a hb ha hlt (by rw [hbe]; exact hys.symm)
    exact hn (hye ▸ hy)
  · unfold leftH at hx
    rw [List.mem_filter] at hx
    obtain ⟨hx1, hx2⟩ := hx
    have hx2' := hx2
    simp only [Bool.not_eq_true', ← Bool.not_eq_true, List.contains_iff_mem] at hx2
    have hxn : ¬ x ∈ pre := fun hm => hx2 (List.mem_map.2 ⟨x, hm, rfl⟩)
    have hnd : (pre ++ [x]).Nodup := by
      rw [List.nodup_append]
      exact ⟨g6, by simp, fun a ha b hb e => by simp only [List.mem_singleton] at hb; subst hb; subst e; exact hxn ha⟩
    have hsub : ∀ y ∈ pre ++ [x], y ∈ kvs0 := fun y hy => by
      rcases List.mem_append.1 hy with hy | hy
      · exact g5 y hy
      · simp only [List.mem_singleton] at hy; subst hy; exact g7 _ hx1
    have hk := g4.keys x hx1
    have hr : RngD (h.set it (.iter (some mid) clock (pre.map (·.2.2) ++ [x.2.2]) clock)) it mid d m0 m (pre ++ [x]) :=
      ⟨kvs0, kvs, clock, by rw [List.getElem?_set_self hlt]; simp, by rw [List.getElem?_set_ne hne.symm]; exact g2, g3, g4, hsub, hnd, g7, fun y hy hyp => g8 y hy fun hm => hyp (by simp [hm])⟩
    refine h1 x _ hk ((g3.mem hk).2 ⟨x.2.2, g7 _ hx1⟩) ((g4.mem hk).2 ⟨x.2.2, hx1⟩) hr ?_ (by rw [List.length_set]) (fun j hj => List.getElem?_set_ne fun e => hj e.symm)
    simp only [leftD, List.getElem?_set_self hlt, List.getElem?_set_ne hne.symm, g1, g2]
    have key : ∀ l : List KV, x ∈ l → (l.filter fun y => !(pre.map (·.2.2) ++ [x.2.2]).contains y.2.2).length < (l.filter fun y => !(pre.map (·.2.2)).contains y.2.2).length := by
      intro l hl
      obtain ⟨s, t, rfl⟩ := List.append_of_mem hl
      have hle : ∀ l : List KV, (l.filter fun y => !(pre.map (·.2.2) ++ [x.2.2]).contains y.2.2).length ≤ (l.filter fun y => !(pre.map (·.2.2)).contains y.2.2).length := by
        intro l
        induction l with
        | nil => simp
        | cons y l ih =>
          simp only [List.filter_cons]
          by_cases hy : (pre.map (·.2.2)).contains y.2.2 = true
          · have : (pre.map (·.2.2) ++ [x.2.2]).contains y.2.2 = true := by
              simp only [List.contains_iff_mem, List.mem_append] at hy ⊢
              exact .inl hy
            simp only [hy, this, Bool.not_true, Bool.false_eq_true, if_false]
            exact ih
          · have hy' : (pre.map (·.2.2)).contains y.2.2 = false := by simpa using hy
            simp only [hy', Bool.not_false, if_true, List.length_cons]
            split
            · simp only [List.length_cons]; omega
            · omega
      have e1 : (pre.map (·.2.2) ++ [x.2.2]).contains x.2.2 = true := by simp
      simp only [List.filter_append, List.length_append, List.filter_cons, e1, hx2', Bool.not_true, Bool.false_eq_true, if_false, if_true, List.length_cons]
      have := hle s; have := hle t
      omega
    exact key kvs hx1
end

end Go.HL

