/-
  HL, part H: the operations with an effect, proved.
-/
import Derived.Test.YthfobbfechdoaaaHlG
namespace Go.HL

section
variable {X : PG} {K : KS}

/-- One of the call's own blocks is written. -/
theorem RH.write {h : Hp} (hh : RH X K h) {id : Nat} {ob ob' : HO} {w' : World} (hA : K.A id) (ho : h[id]? = some ob) (hl : ob.live = true) (hc : K.c id ≠ 0) (hs : w'.heap.size = K.w.heap.size)
    (hb : ∀ b, b ≠ K.b id → w'.heap[b]? = K.w.heap[b]?) (e1 : w'.os = K.w.os) (e2 : w'.tape = K.w.tape) (e3 : w'.output = K.w.output) (hr : K.le { K with w := w' } → RO X.P { K with w := w' } id ob') :
    Ext K h { K with w := w' } (h.set id ob') ∧ RH X { K with w := w' } (h.set id ob') := by
  have hlive : liveAt K h id := ⟨hA, ⟨ob, ho, hl⟩, hc⟩
  have hle : K.le { K with w := w' } := ⟨by show K.w.heap.size ≤ w'.heap.size; omega, fun b _ hL => hb b (fun e => hL (e ▸ hh.live id hlive)), fun _ h => .inl h, fun _ h => ⟨h, rfl, rfl, rfl⟩⟩
  have hid := hh.A id hA
  have back : ∀ i, liveAt { K with w := w' } (h.set id ob') i → liveAt K h i := fun i ⟨hA', ⟨o, ho', hlo⟩, hc'⟩ => by
    by_cases hi : i = id
    · subst hi; exact hlive
    · rw [List.getElem?_set_ne (fun e => hi e.symm)] at ho'
      exact ⟨hA', ⟨o, ho', hlo⟩, hc'⟩
  refine ⟨⟨e1, e2, e3, hle.size, fun b hb' hn => hb b (fun e => hn id hlive e.symm), fun i hi => .inl ⟨i, back i hi, rfl⟩, fun _ h => .inl h, fun _ h _ => h, fun _ h => ⟨h, rfl, rfl, rfl⟩⟩, ?_⟩
  refine ⟨fun i hi => by rw [List.length_set]; exact hh.A i hi, fun i o hAi ho' => ?_, fun i hi => hh.live i (back i hi), fun i j hi hj => hh.inj i j (back i hi) (back j hj), fun b hb => by show b < w'.heap.size; rw [hs]; exact hh.Lb b hb, hh.glob.mono hle⟩
  by_cases hi : i = id
  · subst hi
    rw [List.getElem?_set_self hid] at ho'
    injection ho' with ho'; subst ho'
    exact hr hle
  · rw [List.getElem?_set_ne (fun e => hi e.symm)] at ho'
    refine (hh.obj i o hAi ho').mono hle hAi (fun _ hlo hco => hb _ (fun e => hi ?_))
    exact hh.inj i id ⟨hAi, ⟨o, ho', hlo⟩, hco⟩ hlive e

theorem putCells_length {cs zs : List HV} {off : Nat} (hle : off + zs.length ≤ cs.length) : (putCells cs off zs).length = cs.length := by simp [putCells]; omega

theorem putCells_get {cs zs : List HV} {off : Nat} (hle : off + zs.length ≤ cs.length) (j : Nat) : (putCells cs off zs)[j]? = if off ≤ j ∧ j < off + zs.length then zs[j - off]? else cs[j]? := by
  unfold putCells
  by_cases h1 : j < off
  · rw [if_neg (by omega), List.append_assoc, List.getElem?_append_left (by simp; omega), List.getElem?_take, if_pos h1]
  · by_cases h2 : j < off + zs.length
    · rw [if_pos (by omega), List.append_assoc, List.getElem?_append_right (by simp; omega), List.getElem?_append_left (by simp; omega)]
      simp only [List.length_take]
      rw [Nat.min_eq_left (by omega)]
    · rw [if_neg (by omega), List.getElem?_append_right (by simp; omega), List.getElem?_drop]
      simp only [List.length_append, List.length_take]
      rw [Nat.min_eq_left (by omega), show off + zs.length + (j - (off + zs.length)) = j from by omega]

/-- A row in memory, told by lookups. -/
theorem RowAt.of {id : Nat} {t : TypeId} {es : List (List HV)} {cur : Array Value} (h1 : K.w.heap[K.b id]? = some (.cells cur t (0, 0))) (h2 : cur.size = K.c id * K.k id) (h3 : es.length ≤ K.c id) (h4 : K.c id ≤ maxLen)
    (h5 : ∀ (i : Nat) cs, es[i]? = some cs → cs.length = K.k id ∧ ∀ (j : Nat) x, cs[j]? = some x → x.one = true ∧ ∃ v, cur[i * K.k id + j]? = some v ∧ RV K x v) : RowAt K id t es :=
  ⟨cur, h1, h2, h3, h4, fun i hi => (h5 i _ (List.getElem?_eq_getElem hi)).1, fun i hi j hj => ((h5 i _ (List.getElem?_eq_getElem hi)).2 j _ (List.getElem?_eq_getElem hj)).1,
    fun i hi j hj => ((h5 i _ (List.getElem?_eq_getElem hi)).2 j _ (List.getElem?_eq_getElem hj)).2⟩

theorem RowAt.get {id : Nat} {t : TypeId} {es : List (List HV)} (h : RowAt K id t es) : ∃ cur, K.w.heap[K.b id]? = some (.cells cur t (0, 0)) ∧ cur.size = K.c id * K.k id ∧ es.length ≤ K.c id ∧ K.c id ≤ maxLen ∧
    ∀ (i : Nat) cs, es[i]? = some cs → cs.length = K.k id ∧ ∀ (j : Nat) x, cs[j]? = some x → x.one = true ∧ ∃ v, cur[i * K.k id + j]? = some v ∧ RV K x v := by
  obtain ⟨cur, h1, h2, h3, h4, h5, h6, h7⟩ := h
  refine ⟨cur, h1, h2, h3, h4, fun i cs hcs => ?_⟩
  obtain ⟨hi, e⟩ := List.getElem?_eq_some_iff.1 hcs
  subst e
  refine ⟨h5 i hi, fun j x hx => ?_⟩
  obtain ⟨hj, e⟩ := List.getElem?_eq_some_iff.1 hx
  subst e
  exact ⟨h6 i hi j hj, h7 i hi j hj⟩

/-- Cells written over a row. -/
theorem row_put {cur : Array Value} {o : Nat} {us : List Value} (hle : o + us.length ≤ cur.size) (j : Nat) :
    (cur.toList.take o ++ us ++ cur.toList.drop (o + us.length)).toArray[j]? = if o ≤ j ∧ j < o + us.length then us[j - o]? else cur[j]? := by
  simp only [List.getElem?_toArray]
  by_cases h1 : j < o
  · rw [if_neg (by omega), List.append_assoc, List.getElem?_append_left (by simp; omega), List.getElem?_take, if_pos h1]
    simp
  · by_cases h2 : j < o + us.length
    · rw [if_pos (by omega), List.append_assoc, List.getElem?_append_right (by simp; omega), List.getElem?_append_left (by simp; omega)]
      simp only [List.length_take, Array.length_toList]
      rw [Nat.min_eq_left (by omega)]
    · rw [if_neg (by omega), List.getElem?_append_right (by simp; omega), List.getElem?_drop]
      simp only [Array.getElem?_toList, List.length_append, List.length_take, Array.length_toList]
      rw [Nat.min_eq_left (by omega), show o + us.length + (j - (o + us.length)) = j from by omega]

theorem row_put_size {cur : Array Value} {o : Nat} {us : List Value} (hle : o + us.length ≤ cur.size) : (cur.toList.take o ++ us ++ cur.toList.drop (o + us.length)).toArray.size = cur.size := by
  simp; omega

theorem storeH_run {h f : Hp} {t : TypeId} {p z : HV} {vp vz : Value} {r : ER} (hh : RH X K h) (hf : RH X K f) (hsub : ∀ id o, K.A id → o.live = true → h[id]? = some o → f[id]? = some o) (hp : RV K p vp) (hz : RV K z vz) (hs : storeH X.P h t p z = some r) :
    ∃ K', (Instr.storeAt t vp vz).run X.P K.w = .ok () K'.w ∧ Ext K f K' (setAll f r.ws) ∧ RH X K' (setAll f r.ws) ∧ r.x = .und ∧ r.ns = [] ∧ ∀ id, K'.A id ↔ K.A id := by
  unfold storeH at hs
  split at hs
  · rename_i id i off
    split at hs
    · rename_i t' es ho
      split at hs
      · rename_i cs hcs
        split at hs
        · rename_i hcond
          obtain ⟨hone, hsz, hle⟩ := hcond
          injection hs with hs; subst hs
          cases hp with
          | ep _ _ _ hA =>
            obtain ⟨hi, _⟩ := List.getElem?_eq_some_iff.1 hcs
            have hof := hsub id _ hA rfl ho
            obtain ⟨hst, hc0, hrow⟩ := hh.obj id _ hA ho
            have hcne : K.c id ≠ 0 := fun e => by have := hc0 e; subst this; simp at hi
            obtain ⟨cur, hcur, hcsz, hlen, hmax, hget⟩ := (hrow hcne).get
            have hl := hz.rl hone
            have hck : cs.length = K.k id := (hget i cs hcs).1
            have hus : vz.cells.toList.length = z.cells.length := by rw [Array.length_toList]; exact hl.1.symm
            have hbound : i * K.k id + off + vz.cells.toList.length ≤ cur.size := by
              rw [hcsz, hus]
              have : (i + 1) * K.k id ≤ K.c id * K.k id := Nat.mul_le_mul_right _ (by omega)
              rw [Nat.add_mul] at this
              omega
            have hrun := run_storeCells_at X.P (K.b id) (i * K.k id + off) t' vz.cells.toList 0 cur K.w hcur (by omega) (fun v hv => by
              obtain ⟨j, hj, ej⟩ := List.getElem_of_mem hv
              have hj' : j < z.cells.length := by omega
              have h1 := hl.get j hj'
              have h2 := List.all_eq_true.1 hone _ (List.getElem_mem hj')
              have := h1.oneCell h2
              rw [← ej]
              simpa using this)
            simp only [Nat.add_zero] at hrun
            have hat := row_put hbound
            have hasz := row_put_size hbound
            generalize (cur.toList.take (i * K.k id + off) ++ vz.cells.toList ++ cur.toList.drop (i * K.k id + off + vz.cells.toList.length)).toArray = cur' at hrun hat hasz
            rw [hus] at hat
            have hset := setRow_heap K.w (K.b id) cur cur' t' (0, 0) hcur
            have hw := hf.write (w' := K.w.setRow (K.b id) cur') (ob' := .row t' (es.set i (putCells cs off z.cells))) hA hof rfl hcne (by simp) (fun b hb => setRow_other K.w (K.b id) b cur' hb) rfl rfl rfl (fun hle' => by
              refine ⟨hst, fun h0 => absurd h0 hcne, fun _ => RowAt.of hset (by show cur'.size = K.c id * K.k id; omega) (by simpa using hlen) hmax (fun i' cs' hcs' => ?_)⟩
              show cs'.length = K.k id ∧ ∀ (j : Nat) x, cs'[j]? = some x → x.one = true ∧ ∃ v, cur'[i' * K.k id + j]? = some v ∧ _
              by_cases heq : i = i'
              · subst heq
                rw [List.getElem?_set_self hi] at hcs'
                injection hcs' with hcs'; subst hcs'
                refine ⟨by rw [putCells_length hle]; exact hck, fun j x hx => ?_⟩
                rw [putCells_get hle] at hx
                rw [hat]
                have hjl : j < cs.length := by
                  split at hx
                  · omega
                  · exact (List.getElem?_eq_some_iff.1 hx).1
                by_cases h2 : off ≤ j ∧ j < off + z.cells.length
                · rw [if_pos h2] at hx
                  rw [if_pos (by omega)]
                  obtain ⟨v, g1, g2⟩ := hl.2 (j - off) x hx
                  obtain ⟨_, e⟩ := List.getElem?_eq_some_iff.1 hx
                  refine ⟨by rw [← e]; exact List.all_eq_true.1 hone _ (List.getElem_mem _), v, ?_, g2.mono hle'⟩
                  rw [Array.getElem?_toList, ← g1]
                  congr 1
                  omega
                · rw [if_neg h2] at hx
                  rw [if_neg (by omega)]
                  obtain ⟨g0, v, g1, g2⟩ := (hget i cs hcs).2 j x hx
                  exact ⟨g0, v, g1, g2.mono hle'⟩
              · rw [List.getElem?_set_ne heq] at hcs'
                obtain ⟨f1, f2⟩ := hget i' cs' hcs'
                refine ⟨f1, fun j x hx => ?_⟩
                obtain ⟨g0, v, g1, g2⟩ := f2 j x hx
                refine ⟨g0, v, ?_, g2.mono hle'⟩
                rw [hat, if_neg]
                · exact g1
                · rintro ⟨h1, h2⟩
                  have hjk : j < K.k id := by have := (List.getElem?_eq_some_iff.1 hx).1; omega
                  rcases Nat.lt_or_gt_of_ne heq with hlt | hgt
                  · have : (i + 1) * K.k id ≤ i' * K.k id := Nat.mul_le_mul_right _ (by omega)
                    rw [Nat.add_mul] at this
                    omega
                  · have : (i' + 1) * K.k id ≤ i * K.k id := Nat.mul_le_mul_right _ (by omega)
                    rw [Nat.add_mul] at this
                    omega)
            refine ⟨_, ?_, hw.1, hw.2, rfl, rfl, fun _ => Iff.rfl⟩
            unfold Instr.storeAt storeVar
            simp only [Sem.run_bind, Instr.sureAddr, Sem.run_pure, Result.andThen_ok, run_szH hsz]
            rw [if_neg (by rw [hl.1]; simp)]
            exact hrun
        · cases hs
      · cases hs
    · cases hs
  · cases hs

theorem rep_get {k : Nat} {z : List HV} (hz : z.length = k) : ∀ (n j : Nat), j < n * k → (List.replicate n z).flatten[j]? = z[j % k]? := by
  intro n
  induction n with
  | zero => intro j hj; omega
  | succ n ih =>
    intro j hj
    simp only [List.replicate_succ, List.flatten_cons]
    by_cases h : j < k
    · rw [List.getElem?_append_left (by omega), Nat.mod_eq_of_lt h]
    · rw [List.getElem?_append_right (by omega), hz, ih (j - k) (by rw [Nat.add_mul] at hj; omega)]
      rw [← Nat.mod_eq_sub_mod (by omega)]

theorem rep_length {k : Nat} {z : List HV} (hz : z.length = k) (n : Nat) : (List.replicate n z).flatten.length = n * k := by simp [hz]

/-- The cells of n zero values. -/
theorem RL.rep {k n : Nat} {z : List HV} {zv : Array Value} (hz : RL K z zv) (hk : z.length = k) : RL K (List.replicate n z).flatten ((Array.range (n * k)).map (zv[· % zv.size]!)) := by
  refine ⟨by rw [rep_length hk]; simp, fun j x hx => ?_⟩
  have hj : j < n * k := by rw [← rep_length hk n]; exact (List.getElem?_eq_some_iff.1 hx).1
  rw [rep_get hk n j hj] at hx
  obtain ⟨v, g1, g2⟩ := hz.2 _ x hx
  refine ⟨v, ?_, g2⟩
  have hsz : zv.size = k := by rw [← hz.1]; exact hk
  simp only [Array.getElem?_map, Array.getElem?_range, hj, if_true, Option.map_some, hsz]
  rw [getElem!_def, g1]

end
end Go.HL
