/-
  HL, part L: maps: looking up, putting in, taking out.
-/
import Derived.Test.YthfobbfechdoaaaHlK
import Derived.MapKept
namespace Go.HL
open Go.MapKept (IsKey)

section
variable {X : PG} {K : KS}

/-- The kind of a map's keys: truth values, integers, strings. -/
def keyD (P : Program) (t : TypeId) : Option TypeDesc :=
  match P.underlying t with
  | some .bool => some .bool
  | some (.int k) => some (.int k)
  | some .string => some .string
  | _ => none

def mapH (P : Program) (t : TypeId) : Option (TypeId × TypeId × TypeDesc) :=
  match P.underlying t with
  | some (.map k e) => (keyD P k).map fun d => (k, e, d)
  | _ => none

def isKeyH : TypeDesc → HV → Bool
  | .bool, .bool _ => true
  | .int k, .int k' _ => decide (k' = k)
  | .string, .str _ => true
  | _, _ => false

def sameH : HV → HV → Bool
  | .bool a, .bool b => decide (a = b)
  | .int _ a, .int _ b => decide (a = b)
  | .str a, .str b => decide (a = b)
  | _, _ => false

def findH (k : HV) : List (HV × HV × Nat) → Nat → Option (Nat × HV)
  | [], _ => none
  | x :: rest, i => if sameH k x.1 then some (i, x.2.1) else findH k rest (i + 1)

def kvsH (h : Hp) : HV → Option (List (HV × HV × Nat))
  | .nul (.map none) => some []
  | .mp id => match h[id]? with | some (.map kvs _) => some kvs | _ => none
  | _ => none

def lookupH (P : Program) (h : Hp) (t : TypeId) (x k : HV) (ok : Bool) : Option HV :=
  match mapH P t, kvsH h x with
  | some (_, e, d), some kvs =>
    if isKeyH d k = true ∧ (∀ y ∈ kvs, isKeyH d y.1 = true) then
      match findH k kvs 0 with
      | some (_, v) => some (if ok then .tup [v, .bool true] else v)
      | none => match zeroH P e with | some z => some (if ok then .tup [z, .bool false] else z) | none => none
    else none
  | _, _ => none

def mapUpdateH (P : Program) (h : Hp) (t : TypeId) (x k v : HV) : Option ER :=
  match mapH P t, x with
  | some (_, _, d), .mp id =>
    match h[id]? with
    | some (.map kvs clock) =>
      if isKeyH d k = true ∧ (∀ y ∈ kvs, isKeyH d y.1 = true) then
        match findH k kvs 0 with
        | some (i, _) => some { x := .und, ws := [(id, .map (kvs.modify i fun y => (k, v, y.2.2)) clock)] }
        | none => some { x := .und, ws := [(id, .map (kvs ++ [(k, v, clock)]) (clock + 1))] }
      else none
    | _ => none
  | _, _ => none

def deleteH (P : Program) (h : Hp) (t : TypeId) (x k : HV) : Option ER :=
  match mapH P t, x with
  | some (_, _, d), .mp id =>
    match h[id]? with
    | some (.map kvs clock) =>
      if isKeyH d k = true ∧ (∀ y ∈ kvs, isKeyH d y.1 = true) then
        match findH k kvs 0 with
        | some (i, _) => some { x := .und, ws := [(id, .map (kvs.eraseIdx i) clock)] }
        | none => some { x := .und, ws := [(id, .map kvs clock)] }
      else none
    | _ => none
  | some (_, _, d), .nul (.map none) => if isKeyH d k = true then some { x := .und } else none
  | _, _ => none

theorem mapH_eq {P : Program} {t k e : TypeId} {d : TypeDesc} (h : mapH P t = some (k, e, d)) : P.underlying t = some (.map k e) ∧ P.underlying k = some d := by
  unfold mapH at h
  split at h
  · rename_i k' e' hu
    obtain ⟨d', h1, h2⟩ := Option.map_eq_some_iff.1 h
    injection h2 with h2 h3
    injection h3 with h3 h4
    subst h2 h3 h4
    refine ⟨hu, ?_⟩
    unfold keyD at h1
    split at h1 <;> first | (cases h1; done) | (injection h1 with h1; subst h1; assumption)
  · cases h

theorem isKeyH_key {d : TypeDesc} {x : HV} {v : Value} (hr : RV K x v) (hk : isKeyH d x = true) : IsKey d v := by
  cases d <;> cases x <;> simp [isKeyH] at hk <;> cases hr <;> simp [IsKey, hk]

theorem sameH_iff {d : TypeDesc} {x y : HV} {v u : Value} (hx : RV K x v) (hy : RV K y u) (h1 : isKeyH d x = true) (h2 : isKeyH d y = true) : sameH x y = true ↔ u = v := by
  cases d <;> cases x <;> simp [isKeyH] at h1 <;> cases y <;> simp [isKeyH] at h2 <;> cases hx <;> cases hy <;> simp [sameH] <;> (try subst h1) <;> (try subst h2) <;> simp [eq_comm]

theorem findH_sound {d : TypeDesc} {k : HV} {vk : Value} (hk : RV K k vk) (h1 : isKeyH d k = true) : ∀ (kvs : List (HV × HV × Nat)) (es : List MapEntry) (n : Nat), es.length = kvs.length →
    (∀ (i : Nat) x, kvs[i]? = some x → ∃ m, es[i]? = some m ∧ RV K x.1 m.key ∧ RV K x.2.1 m.val ∧ m.born = x.2.2) → (∀ y ∈ kvs, isKeyH d y.1 = true) →
    match findH k kvs n with
    | none => Instr.findNow d vk es n = some none
    | some (i, x) => ∃ u m, Instr.findNow d vk es n = some (some (i, u)) ∧ RV K x u ∧ n ≤ i ∧ es[i - n]? = some m ∧ m.key = vk := by
  intro kvs
  induction kvs with
  | nil =>
    intro es n hl _ _
    have : es = [] := List.eq_nil_of_length_eq_zero hl
    subst this
    rfl
  | cons x rest ih =>
    intro es n hl hm hks
    cases es with
    | nil => simp at hl
    | cons m ms =>
      obtain ⟨m', e1, g1, g2, g3⟩ := hm 0 x rfl
      simp only [List.getElem?_cons_zero, Option.some.injEq] at e1
      subst e1
      have hx := hks x (by simp)
      obtain ⟨r, hr, hiff⟩ := Go.MapKept.sameNow_of_keys (isKeyH_key hk h1) (isKeyH_key g1 hx)
      have hs := sameH_iff hk g1 h1 hx
      unfold findH
      cases hsb : sameH k x.1 with
      | true =>
        have hkey : m.key = vk := hs.1 hsb
        have hrt : r = true := hiff.2 hkey.symm
        subst hrt
        exact ⟨m.val, m, by simp [Instr.findNow, hr], g2, Nat.le_refl _, by simp, hkey⟩
      | false =>
        have hrf : r = false := by
          cases r with
          | false => rfl
          | true => have := hs.2 (hiff.1 rfl).symm; rw [hsb] at this; cases this
        subst hrf
        have := ih ms (n + 1) (by simpa using hl) (fun i y hy => by obtain ⟨m', e, h⟩ := hm (i + 1) y (by simpa using hy); exact ⟨m', by simpa using e, h⟩) (fun y hy => hks y (by simp [hy]))
        simp only [Bool.false_eq_true, if_false]
        cases hf : findH k rest (n + 1) with
        | none => rw [hf] at this; simp only at this ⊢; simp [Instr.findNow, hr, this]
        | some p =>
          obtain ⟨i, y⟩ := p
          rw [hf] at this
          simp only at this ⊢
          obtain ⟨u, m', q1, q2, q3, q4, q5⟩ := this
          refine ⟨u, m', by simp [Instr.findNow, hr, q1], q2, by omega, ?_, q5⟩
          rw [show i - n = (i - (n + 1)) + 1 from by omega]
          simpa using q4

theorem kvsH_sound {h : Hp} {x : HV} {v : Value} {kvs : List (HV × HV × Nat)} (hh : RH X K h) (hx : RV K x v) (hk : kvsH h x = some kvs) :
    (v = .map none ∧ kvs = []) ∨ ∃ r es clock, v = .map (some r) ∧ K.w.heap[r]? = some (.map es clock) ∧ mapLike K kvs es := by
  unfold kvsH at hk
  split at hk
  · injection hk with hk; subst hk
    cases hx with
    | nul v hv => exact .inl ⟨rfl, rfl⟩
  · rename_i id
    split at hk
    · rename_i kvs' clock ho
      injection hk with hk; subst hk
      cases hx with
      | mp _ hA =>
        obtain ⟨_, es, h1, h2⟩ := hh.obj id _ hA ho
        exact .inr ⟨_, es, clock, rfl, h1, h2⟩
    · cases hk
  · cases hk

theorem lookupH_sound {h : Hp} {t : TypeId} {x k y : HV} {vx vk : Value} {ok : Bool} (hh : RH X K h) (hx : RV K x vx) (hk : RV K k vk) (hl : lookupH X.P h t x k ok = some y) :
    ∃ u, (Instr.lookup t vx vk ok).run X.P K.w = .ok u K.w ∧ RV K y u := by
  unfold lookupH at hl
  split at hl
  · rename_i kt e d kvs hm hkv
    obtain ⟨hu, hd⟩ := mapH_eq hm
    split at hl
    · rename_i hc
      obtain ⟨h1, h2⟩ := hc
      have hkey := isKeyH_key hk h1
      have tup : ∀ (z : HV) (vz : Value) (b : Bool), RV K z vz → RV K (if ok = true then HV.tup [z, .bool b] else z) (if ok = true then .tuple #[vz, .bool b] else vz) := fun z vz b hz => by
        cases ok with
        | false => exact hz
        | true =>
          refine .tup _ _ rfl (fun i hi => ?_)
          match i with
          | 0 => exact hz
          | 1 => exact .bool b
          | i + 2 => simp at hi; omega
      rcases kvsH_sound hh hx hkv with ⟨rfl, rfl⟩ | ⟨r, es, clock, rfl, g1, g2, g3⟩
      · simp only [findH] at hl
        split at hl
        · rename_i z hz
          injection hl with hl; subst hl
          obtain ⟨vz, z1, z2⟩ := run_zeroH (w := K.w) hz
          refine ⟨_, ?_, tup z vz false (z2 K)⟩
          simp [Instr.lookup, run_underlying hu, Go.MapKept.run_checkKey hd hkey, Go.MapKept.run_findKey hd (show Instr.findNow d vk [] 0 = some none from rfl), z1, Result.andThen]
        · cases hl
      · have hf := findH_sound hk h1 kvs es.toList 0 (by simpa using g2) (fun i x hx => by simpa using g3 i x hx) h2
        split at hl
        · rename_i i v he
          injection hl with hl; subst hl
          rw [he] at hf
          obtain ⟨u, m, q1, q2, _⟩ := hf
          refine ⟨_, ?_, tup v u true q2⟩
          simp [Instr.lookup, run_underlying hu, Go.MapKept.run_getObj_map g1, Go.MapKept.run_checkKey hd hkey, Go.MapKept.run_findKey hd q1, Result.andThen]
        · rename_i he
          rw [he] at hf
          split at hl
          · rename_i z hz
            injection hl with hl; subst hl
            obtain ⟨vz, z1, z2⟩ := run_zeroH (w := K.w) hz
            refine ⟨_, ?_, tup z vz false (z2 K)⟩
            simp [Instr.lookup, run_underlying hu, Go.MapKept.run_getObj_map g1, Go.MapKept.run_checkKey hd hkey, Go.MapKept.run_findKey hd hf, z1, Result.andThen]
          · cases hl
    · cases hl
  · cases hl

/-- A map of the call's own is written. -/
theorem RH.writeMap {f : Hp} (hf : RH X K f) {id : Nat} {kvs kvs' : List (HV × HV × Nat)} {clock clock' : Nat} {es es' : Array MapEntry} (hA : K.A id) (ho : f[id]? = some (.map kvs clock))
    (hb : K.w.heap[K.b id]? = some (.map es clock)) (hl : mapLike K kvs' es') :
    ∃ K', K'.w = { K.w with heap := K.w.heap.setIfInBounds (K.b id) (.map es' clock') } ∧ Ext K f K' (f.set id (.map kvs' clock')) ∧ RH X K' (f.set id (.map kvs' clock')) ∧ ∀ i, K'.A i ↔ K.A i := by
  obtain ⟨hc, _⟩ := hf.obj id _ hA ho
  obtain ⟨g1, g2⟩ := Go.MapKept.heap_set (o' := .map es' clock') hb
  obtain ⟨q1, q2⟩ := RH.write (w' := { K.w with heap := K.w.heap.setIfInBounds (K.b id) (.map es' clock') }) (ob' := .map kvs' clock') hf hA ho rfl hc (by simp) (fun b hne => g2 b hne) rfl rfl rfl
    (fun hle => ⟨hc, es', g1, hl.1, fun i x hx => by obtain ⟨m, p1, p2, p3, p4⟩ := hl.2 i x hx; exact ⟨m, p1, p2.mono hle, p3.mono hle, p4⟩⟩)
  exact ⟨_, rfl, q1, q2, fun _ => Iff.rfl⟩

theorem mapUpdateH_run {h f : Hp} {t : TypeId} {x k v : HV} {vx vk vv : Value} {r : ER} (hh : RH X K h) (hf : RH X K f) (hsub : ∀ id o, K.A id → o.live = true → h[id]? = some o → f[id]? = some o)
    (hx : RV K x vx) (hk : RV K k vk) (hv : RV K v vv) (hs : mapUpdateH X.P h t x k v = some r) :
    ∃ K', (Instr.mapUpdate t vx vk vv).run X.P K.w = .ok () K'.w ∧ Ext K f K' (setAll f r.ws) ∧ RH X K' (setAll f r.ws) ∧ r.x = .und ∧ r.ns = [] ∧ ∀ id, K'.A id ↔ K.A id := by
  unfold mapUpdateH at hs
  split at hs
  · rename_i kt e d id hm
    obtain ⟨hu, hd⟩ := mapH_eq hm
    split at hs
    · rename_i kvs clock ho
      split at hs
      · rename_i hc
        obtain ⟨h1, h2⟩ := hc
        have hkey := isKeyH_key hk h1
        cases hx with
        | mp _ hA =>
          have hof := hsub id _ hA rfl ho
          obtain ⟨_, es, g1, g2, g3⟩ := hh.obj id _ hA ho
          have hfd := findH_sound hk h1 kvs es.toList 0 (by simpa using g2) (fun i x hx => by simpa using g3 i x hx) h2
          split at hs
          · rename_i i y he
            injection hs with hs; subst hs
            rw [he] at hfd
            obtain ⟨u, m, q1, q2, _, q4, q5⟩ := hfd
            have hj : es[i]? = some m := by simpa using q4
            obtain ⟨K', e1, e2, e3, e4⟩ := RH.writeMap (kvs' := kvs.modify i fun y => (k, v, y.2.2)) (clock' := clock) (es' := es.modify i fun e => { e with key := vk, val := vv }) hf hA hof g1 ⟨by simpa using g2, fun j x hx => by
              rw [List.getElem?_modify] at hx
              rw [Array.getElem?_modify]
              by_cases hij : i = j
              · subst hij
                simp only [if_true] at hx ⊢
                obtain ⟨x0, hx0, rfl⟩ := Option.map_eq_some_iff.1 hx
                obtain ⟨m0, p1, p2, p3, p4⟩ := g3 i x0 hx0
                exact ⟨{ m0 with key := vk, val := vv }, by simp [p1], hk, hv, p4⟩
              · simp only [hij, if_false] at hx ⊢
                simp only [Option.map_eq_map, Option.map_id_fun', id_eq] at hx
                exact g3 j x (by simpa using hx)⟩
            refine ⟨K', ?_, e2, e3, rfl, rfl, e4⟩
            rw [e1]
            simp [Instr.mapUpdate, run_underlying hu, Go.MapKept.run_getObj_map g1, Go.MapKept.run_checkKey hd hkey, Go.MapKept.run_findKey hd q1, hj, q5, Go.MapKept.run_keyThatStays hkey, Go.MapKept.run_setObj_map _ g1, Result.andThen]
          · rename_i he
            injection hs with hs; subst hs
            rw [he] at hfd
            obtain ⟨K', e1, e2, e3, e4⟩ := RH.writeMap (kvs' := kvs ++ [(k, v, clock)]) (clock' := clock + 1) (es' := es.push { key := vk, val := vv, born := clock }) hf hA hof g1 ⟨by simp [g2], fun j x hx => by
              by_cases hj : j < kvs.length
              · rw [List.getElem?_append_left hj] at hx
                obtain ⟨m, p1, p2⟩ := g3 j x hx
                exact ⟨m, by rw [Array.getElem?_push, if_neg (by omega)]; exact p1, p2⟩
              · rw [List.getElem?_append_right (by omega)] at hx
                have h0 : j = kvs.length := by
                  have := (List.getElem?_eq_some_iff.1 hx).1
                  simp at this
                  omega
                subst h0
                simp at hx
                subst hx
                exact ⟨_, by rw [Array.getElem?_push, if_pos g2.symm], hk, hv, rfl⟩⟩
            refine ⟨K', ?_, e2, e3, rfl, rfl, e4⟩
            rw [e1]
            simp [Instr.mapUpdate, run_underlying hu, Go.MapKept.run_getObj_map g1, Go.MapKept.run_checkKey hd hkey, Go.MapKept.run_findKey hd hfd, Go.MapKept.run_setObj_map _ g1, Result.andThen]
      · cases hs
    · cases hs
  · cases hs

theorem deleteH_run {h f : Hp} {t t' ty : TypeId} {x k : HV} {vx vk : Value} {r : ER} (hh : RH X K h) (hf : RH X K f) (hsub : ∀ id o, K.A id → o.live = true → h[id]? = some o → f[id]? = some o)
    (hx : RV K x vx) (hk : RV K k vk) (hs : deleteH X.P h t x k = some r) :
    ∃ K', (Builtin.delete_ #[t, t'] ty #[vx, vk]).run X.P K.w = .ok (.tuple #[]) K'.w ∧ Ext K f K' (setAll f r.ws) ∧ RH X K' (setAll f r.ws) ∧ r.x = .und ∧ r.ns = [] ∧ ∀ id, K'.A id ↔ K.A id := by
  unfold deleteH at hs
  split at hs
  · rename_i kt e d id hm
    obtain ⟨hu, hd⟩ := mapH_eq hm
    split at hs
    · rename_i kvs clock ho
      split at hs
      · rename_i hc
        obtain ⟨h1, h2⟩ := hc
        have hkey := isKeyH_key hk h1
        cases hx with
        | mp _ hA =>
          have hof := hsub id _ hA rfl ho
          obtain ⟨_, es, g1, g2, g3⟩ := hh.obj id _ hA ho
          have hfd := findH_sound hk h1 kvs es.toList 0 (by simpa using g2) (fun i x hx => by simpa using g3 i x hx) h2
          split at hs
          · rename_i i y he
            injection hs with hs; subst hs
            rw [he] at hfd
            obtain ⟨u, m, q1, q2, _, q4, q5⟩ := hfd
            have hj : es[i]? = some m := by simpa using q4
            have hil : i < es.size := (Array.getElem?_eq_some_iff.1 hj).1
            obtain ⟨K', e1, e2, e3, e4⟩ := RH.writeMap (kvs' := kvs.eraseIdx i) (clock' := clock) (es' := es.eraseIdxIfInBounds i) hf hA hof g1 ⟨by simp [Array.eraseIdxIfInBounds, hil, List.length_eraseIdx, ← g2], fun j x hx => by
              rw [List.getElem?_eraseIdx] at hx
              simp only [Array.eraseIdxIfInBounds, hil, dif_pos, Array.getElem?_eraseIdx]
              split at hx
              · rename_i hji; rw [if_pos hji]; exact g3 j x hx
              · rename_i hji; rw [if_neg hji]; exact g3 (j + 1) x hx⟩
            refine ⟨K', ?_, e2, e3, rfl, rfl, e4⟩
            rw [e1]
            simp [Builtin.delete_, run_underlying hu, Go.MapKept.run_getObj_map g1, Go.MapKept.run_checkKey hd hkey, Go.MapKept.run_findKey hd q1, Go.MapKept.run_setObj_map _ g1, Result.andThen]
          · rename_i he
            injection hs with hs; subst hs
            rw [he] at hfd
            obtain ⟨K', e1, e2, e3, e4⟩ := RH.writeMap (kvs' := kvs) (clock' := clock) (es' := es) hf hA hof g1 ⟨g2, g3⟩
            refine ⟨K', ?_, e2, e3, rfl, rfl, e4⟩
            rw [e1]
            simp [Builtin.delete_, run_underlying hu, Go.MapKept.run_getObj_map g1, Go.MapKept.run_checkKey hd hkey, Go.MapKept.run_findKey hd hfd, Go.MapKept.run_setObj_map _ g1, Result.andThen]
      · cases hs
    · cases hs
  · rename_i kt e d hm
    obtain ⟨hu, hd⟩ := mapH_eq hm
    split at hs
    · rename_i h1
      injection hs with hs; subst hs
      have hkey := isKeyH_key hk h1
      cases hx with
      | nul v hv =>
        refine ⟨K, ?_, .refl _ _, hf, rfl, rfl, fun _ => Iff.rfl⟩
        simp [Builtin.delete_, run_underlying hu, Go.MapKept.run_checkKey hd hkey, Result.andThen]
    · cases hs
  · cases hs

end
end Go.HL
