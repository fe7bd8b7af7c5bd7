/-
  HL, part I: slices that are written out or made; append; all operations with an effect in one theorem.
-/
import Derived.Test.YthfobbfechdoaaaHlH
namespace Go.HL

section
variable {X : PG} {K : KS}

theorem fillH_one {place : Nat → Option (Nat × Nat)} : ∀ (parts : List (Nat × HV)) (cells res : List HV), (∀ x ∈ cells, x.one = true) → fillH place cells parts = some res → ∀ x ∈ res, x.one = true := by
  intro parts
  induction parts with
  | nil => intro cells res h hf; simp [fillH] at hf; subst hf; exact h
  | cons p parts ih =>
    intro cells res h hf
    obtain ⟨i, x⟩ := p
    simp only [fillH] at hf
    cases hpl : place i with
    | none => simp [hpl] at hf
    | some os =>
      obtain ⟨off, size⟩ := os
      simp only [hpl] at hf
      split at hf
      · rename_i hc
        refine ih _ _ (fun y hy => ?_) hf
        unfold putCells at hy
        rcases List.mem_append.1 hy with hy | hy
        · rcases List.mem_append.1 hy with hy | hy
          · exact h y (List.mem_of_mem_take hy)
          · exact List.all_eq_true.1 hc.2.2 y hy
        · exact h y (List.mem_of_mem_drop hy)
      · cases hf

theorem chunk_elem {k n : Nat} {cs : List HV} (hl : cs.length = n * k) {i : Nat} {es : List HV} (he : (chunk k n cs)[i]? = some es) : i < n ∧ es.length = k ∧ ∀ (j : Nat) x, es[j]? = some x → cs[i * k + j]? = some x ∧ j < k := by
  have hi : i < n := by rw [← chunk_length k n cs]; exact (List.getElem?_eq_some_iff.1 he).1
  rw [chunk_get k n cs i hi] at he
  injection he with he
  subst he
  have hik : (i + 1) * k ≤ n * k := Nat.mul_le_mul_right _ (by omega)
  rw [Nat.add_mul] at hik
  refine ⟨hi, by simp; omega, fun j x hx => ?_⟩
  rw [List.getElem?_take] at hx
  split at hx
  · rename_i hj
    rw [List.getElem?_drop] at hx
    exact ⟨hx, hj⟩
  · cases hx

/-- An immutable slice over a new block. -/
theorem RV.fresh {es : List (List HV)} {cur : Array Value} {t : TypeId} {k cap : Nat} (full : Bool) (hcap : es.length ≤ cap) (hm : cap ≤ maxLen) (hf : full = true → cap = es.length) (hL : ¬ K.L K.w.heap.size)
    (hg : ∀ (i : Nat) cs, es[i]? = some cs → cs.length = k ∧ ∀ (j : Nat) x, cs[j]? = some x → ∃ v, cur[i * k + j]? = some v ∧ RV K x v) :
    RV (K.imm (.cells cur t)) (.sl full es) (.slice (some ⟨K.w.heap.size, 0, none⟩) es.length cap) := by
  by_cases h0 : es.length = 0
  · have : es = [] := List.eq_nil_of_length_eq_zero h0
    subst this
    exact .sl0 _ _ _ (fun h => by cases h) hf hm
  · have hle := K.imm_le (.cells cur t)
    have hx : ∀ i (hi : i < es.length) j (hj : j < es[i].length), ∃ v, cur[i * k + j]? = some v ∧ RV K es[i][j] v := fun i hi j hj => (hg i _ (List.getElem?_eq_getElem hi)).2 j _ (List.getElem?_eq_getElem hj)
    let cv : Nat → Nat → Value := fun i j => (cur[i * k + j]?).getD undef
    refine .sl full es k K.w.heap.size 0 cap cv (by omega) hcap hf hm (by simp [KS.imm]) hL (fun i hi => (hg i _ (List.getElem?_eq_getElem hi)).1) (fun i hi j hj => ?_) (fun i hi j hj => ?_)
    · obtain ⟨v, g1, g2⟩ := hx i hi j hj
      simp only [Nat.zero_add]
      show (K.w.alloc (.cells cur t)).cell? _ = _
      rw [cell_row (alloc_new K.w _)]
      simp [cv, g1]
    · obtain ⟨v, g1, g2⟩ := hx i hi j hj
      have : cv i j = v := by simp [cv, g1]
      rw [this]
      exact g2.mono hle

theorem buildSliceH_run {f : Hp} {own : Bool} {nid : Nat} {t : TypeId} {len : Nat} {parts : List (Nat × HV)} {vparts : Array (Nat × Value)} {r : ER} (hf : RH X K f) (hl : parts.length = vparts.size)
    (hp : ∀ (j : Nat) p q, parts[j]? = some p → vparts.toList[j]? = some q → p.1 = q.1 ∧ RV K p.2 q.2) (hb : buildSliceH X.P own nid t len parts = some r)
    (hn : ∀ i (hi : i < r.ns.length), f[nid + i]? = some r.ns[i]) (hA : ∀ i, i < r.ns.length → ¬ K.A (nid + i)) :
    ∃ v K', (Instr.buildSlice t len vparts).run X.P K.w = .ok v K'.w ∧ Ext K f K' (setAll f r.ws) ∧ RH X K' (setAll f r.ws) ∧ RV K' r.x v ∧ ∀ id, K'.A id ↔ K.A id ∨ (nid ≤ id ∧ id < nid + r.ns.length) := by
  unfold buildSliceH at hb
  split at hb
  · cases hb
  · rename_i e he
    split at hb
    · rename_i k z hk hz
      split at hb
      · rename_i hc
        obtain ⟨hzk, hzo, hsmall, hsmall2⟩ := hc
        split at hb
        · cases hb
        · rename_i cs hcs
          obtain ⟨zv, hz1, hz2⟩ := run_zeroH (w := K.w) hz
          have hzr := (hz2 K).rl hzo
          have hrep := RL.rep (n := len) hzr hzk
          obtain ⟨us, f1, f2⟩ := fillH_sound parts vparts.toList _ cs _ (by simpa using hl) hp hrep hcs
          have hcl : cs.length = len * k := by
            have := f2.1
            have h2 : us.size = len * k := by
              have : ∀ (l : List (Nat × Value)) (a b : Array Value), Instr.fill (fun i => some (i * k, k)) a l = some b → b.size = a.size := by
                intro l
                induction l with
                | nil => intro a b hab; simp [Instr.fill] at hab; rw [hab]
                | cons p l ih =>
                  intro a b hab
                  simp only [Instr.fill] at hab
                  split at hab
                  · cases hab
                  · have := ih _ _ hab
                    rw [this]
                    rw [show (fun (cs : Array Value) (x : Value × Nat) => match x with | (c, j) => cs.setIfInBounds (p.1 * k + j) c) = fun cs x => cs.setIfInBounds (p.1 * k + x.2) x.1 from rfl]
                    have e0 : p.2.cells.zipIdx.foldl (fun cs (q : Value × Nat) => cs.setIfInBounds (p.1 * k + q.2) q.1) a = (p.2.cells.toList.zipIdx 0).foldl (fun cs (q : Value × Nat) => cs.setIfInBounds (p.1 * k + q.2) q.1) a := by
                      rw [← Array.foldl_toList]; simp
                    rw [e0, size_foldl_set]
              rw [this _ _ _ f1]; simp
            omega
          have hrun : (Instr.buildSlice t len vparts).run X.P K.w = .ok (.slice (some ⟨K.w.heap.size, 0, none⟩) len len) (K.w.alloc (.cells us e)) := by
            unfold Instr.buildSlice
            rw [Sem.run_bind, run_underlying (elemH_eq he)]
            simp only [Result.andThen_ok, Sem.run_bind, run_szH hk]
            rw [if_neg (by omega)]
            by_cases h0 : len * k = 0
            · rw [if_pos h0]
              simp only [Sem.run_bind, Sem.run_pure, Result.andThen_ok]
              have e1 : (Array.range (len * k)).map (fun x => (#[] : Array Value)[x % (#[] : Array Value).size]!) = (Array.range (len * k)).map (fun x => zv.cells[x % zv.cells.size]!) := by rw [h0]; simp
              rw [e1, f1]
              rfl
            · rw [if_neg h0]
              simp only [Sem.run_bind, hz1, Sem.run_pure, Result.andThen_ok]
              rw [f1]
              rfl
          have hget : ∀ (i : Nat) ces, (chunk k len cs)[i]? = some ces → ces.length = k ∧ ∀ (j : Nat) x, ces[j]? = some x → ∃ v, us[i * k + j]? = some v ∧ RV K x v := fun i ces hi => by
            obtain ⟨g1, g2, g3⟩ := chunk_elem hcl hi
            exact ⟨g2, fun j x hx => f2.2 _ x (g3 j x hx).1⟩
          have hlen := chunk_length k len cs
          have hmax : len ≤ maxLen := by unfold maxLen; omega
          split at hb
          · injection hb with hb; subst hb
            have hA0 := hA 0 (by simp)
            have hn0 := hn 0 (by simp)
            simp only [Nat.add_zero, List.getElem_cons_zero] at hA0 hn0
            have hone : ∀ x ∈ cs, x.one = true := fillH_one parts _ cs (fun x hx => by
              obtain ⟨l, hl1, hl2⟩ := List.mem_flatten.1 hx
              rw [List.eq_of_mem_replicate hl1] at hl2
              exact List.all_eq_true.1 hzo x hl2) hcs
            have hro : RO X.P (K.lay nid len k (.cells us e)) nid (.row e (chunk k len cs)) := by
              refine RO.layRow hA0 hk (by rw [← f2.1]; exact hcl) (by rw [hlen]; exact Nat.le_refl _) hmax (fun i hi => (hget i _ (List.getElem?_eq_getElem hi)).1) (fun i hi j hj => ?_) (fun i hi j hj => (hget i _ (List.getElem?_eq_getElem hi)).2 j _ (List.getElem?_eq_getElem hj))
              have := ((chunk_elem hcl (List.getElem?_eq_getElem hi)).2.2 j _ (List.getElem?_eq_getElem hj)).1
              exact hone _ (List.mem_of_getElem? this)
            obtain ⟨g1, g2⟩ := hf.lay hA0 hn0 hro
            refine ⟨_, _, hrun, g1, g2, ?_, lay_A⟩
            by_cases h0 : len = 0
            · subst h0
              exact .ow0 nid _ (.inr rfl) (by simp [KS.lay])
            · have := RV.ow (K := K.lay nid len k (.cells us e)) nid 0 len (.inr rfl) (by simpa [KS.lay] using h0) (by simp [KS.lay]) (by simpa [KS.lay] using hmax)
              simpa [KS.lay] using this
          · injection hb with hb; subst hb
            obtain ⟨g1, g2⟩ := hf.imm (.cells us e)
            refine ⟨_, _, hrun, g1, g2, ?_, fun id => ⟨.inl, fun h => h.elim (fun h => h) (fun h => by simp at h; omega)⟩⟩
            have := RV.fresh (K := K) (cur := us) (t := e) (k := k) (cap := len) true (by rw [hlen]; exact Nat.le_refl _) hmax (fun _ => hlen.symm) (fun hL => by have := hf.Lb _ hL; omega) hget
            rw [hlen] at this
            exact this
      · cases hb
    · cases hb

theorem infoH {P : Program} {e : TypeId} {k by_ : Nat} {z : HV} (hk : szH P e = some k) (hz : zeroH P e = some z) (hb : bytesH P e = some by_) :
    ∃ i zv, P.info? e = some i ∧ i.zero = some zv ∧ i.size = k ∧ i.bytes = by_ ∧ ∀ K, RV K z zv := by
  unfold szH at hk
  unfold zeroH at hz
  unfold bytesH at hb
  obtain ⟨i, h1, h2⟩ := Option.map_eq_some_iff.1 hk
  obtain ⟨zv, h3, rfl⟩ := Option.map_eq_some_iff.1 hz
  obtain ⟨i', h4, h5⟩ := Option.map_eq_some_iff.1 hb
  obtain ⟨i'', h6, h7⟩ := Option.bind_eq_some_iff.1 h3
  rw [h1] at h4 h6
  injection h4 with h4
  injection h6 with h6
  subst h4 h6
  exact ⟨i, zv, h1, h7, h2, h5, fun K => lit_ok K zv⟩

theorem makeSliceH_run {f : Hp} {nid : Nat} {t : TypeId} {l c : HV} {vl vc : Value} {r : ER} (hf : RH X K f) (h1 : RV K l vl) (h2 : RV K c vc) (hb : makeSliceH X.P nid t l c = some r)
    (hn : ∀ i (hi : i < r.ns.length), f[nid + i]? = some r.ns[i]) (hA : ∀ i, i < r.ns.length → ¬ K.A (nid + i)) :
    ∃ v K', (Instr.makeSlice t vl vc).run X.P K.w = .ok v K'.w ∧ Ext K f K' (setAll f r.ws) ∧ RH X K' (setAll f r.ws) ∧ RV K' r.x v ∧ ∀ id, K'.A id ↔ K.A id ∨ (nid ≤ id ∧ id < nid + r.ns.length) := by
  unfold makeSliceH at hb
  split at hb
  · rename_i kl n kc m
    have := h1.ofInt; subst this
    have := h2.ofInt; subst this
    split at hb
    · cases hb
    · rename_i e he
      split at hb
      · rename_i k z by_ hk hz hby
        split at hb
        · rename_i hc
          obtain ⟨c1, c2, c3, c4, hzk, hzo⟩ := hc
          injection hb with hb; subst hb
          have hA0 := hA 0 (by simp)
          have hn0 := hn 0 (by simp)
          simp only [Nat.add_zero, List.getElem_cons_zero] at hA0 hn0
          obtain ⟨i, zv, i1, i2, i3, i4, i5⟩ := infoH hk hz hby
          have hzr := (i5 K).rl hzo
          have hrep := RL.rep (n := m.toNat) hzr hzk
          have hrun := run_make (P := X.P) K.w t e i zv (elemH_eq he) i1 i2 kl kc n m c1 c2 (by rw [i4]; exact c4) (by omega)
          rw [i3] at hrun
          have hro : RO X.P (K.lay nid m.toNat k (.cells (madeCells zv.cells (m.toNat * k)) e)) nid (.row e (List.replicate n.toNat z.cells)) := by
            refine RO.layRow hA0 hk (size_madeCells _ _) (by simp; omega) (by unfold maxLen; omega) (fun i hi => by simp [hzk]) (fun i hi j hj => ?_) (fun i hi j hj => ?_)
            · simp at hj ⊢
              exact List.all_eq_true.1 hzo _ (List.getElem_mem _)
            · simp at hi hj
              have hik : i * k + j < m.toNat * k := by
                have : (i + 1) * k ≤ m.toNat * k := Nat.mul_le_mul_right _ (by omega)
                rw [Nat.add_mul] at this
                omega
              have hx : (List.replicate m.toNat z.cells).flatten[i * k + j]? = some z.cells[j] := by
                rw [rep_get hzk _ _ hik, Nat.mul_comm, Nat.mul_add_mod, Nat.mod_eq_of_lt (by omega)]
                exact List.getElem?_eq_getElem hj
              obtain ⟨v, g1, g2⟩ := hrep.2 _ _ hx
              exact ⟨v, g1, by simpa using g2⟩
          obtain ⟨g1, g2⟩ := hf.lay hA0 hn0 hro
          refine ⟨_, _, hrun, g1, g2, ?_, lay_A⟩
          by_cases h0 : m.toNat = 0
          · have : n.toNat = 0 := by omega
            rw [this, h0]
            exact .ow0 nid _ (.inr rfl) (by simp [KS.lay])
          · have := RV.ow (K := K.lay nid m.toNat k (.cells (madeCells zv.cells (m.toNat * k)) e)) nid 0 n.toNat (.inr rfl) (by simpa [KS.lay] using h0) (by simp [KS.lay]; omega) (by simp [KS.lay, maxLen]; omega)
            simpa [KS.lay] using this
        · cases hb
      · cases hb
  · cases hb

/-- The elements of what is appended. -/
def elemsH (h : Hp) (y : HV) : Option (List (List HV)) :=
  match y with
  | .sl _ es => some es
  | .ow id lo len =>
    match h[id]? with
    | some (.row _ es) => if lo + len ≤ es.length then some ((es.drop lo).take len) else none
    | _ => none
  | _ => none

theorem cells_list {w : World} {b off n k : Nat} {ys : List (List HV)} (hn : ys.length = n) (hk : ∀ cs ∈ ys, cs.length = k) (hc : ∀ (i : Nat) cs (j : Nat) x, ys[i]? = some cs → cs[j]? = some x → ∃ v, w.cell? ⟨b, off + i * k + j, none⟩ = some v ∧ RV K x v) :
    ∃ news : List Value, news.length = n * k ∧ (∀ j u, news[j]? = some u → w.cell? ((⟨b, off, none⟩ : Addr).add j) = some u) ∧
      ∀ (i : Nat) cs (j : Nat) x, ys[i]? = some cs → cs[j]? = some x → ∃ u, news[i * k + j]? = some u ∧ RV K x u := by
  refine ⟨(List.range (n * k)).map fun p => (w.cell? ⟨b, off + p, none⟩).getD undef, by simp, fun j u hu => ?_, fun i cs j x hi hj => ?_⟩
  · have hj : j < n * k := by simpa using (List.getElem?_eq_some_iff.1 hu).1
    have hk0 : 0 < k := Nat.pos_of_ne_zero (fun h => by subst h; simp at hj)
    simp [hj] at hu
    have hi : j / k < n := Nat.div_lt_of_lt_mul (by rw [Nat.mul_comm]; exact hj)
    obtain ⟨cs, hcs⟩ : ∃ cs, ys[j / k]? = some cs := ⟨_, List.getElem?_eq_getElem (by omega)⟩
    have hcl := hk cs (List.mem_of_getElem? hcs)
    have hm : j % k < cs.length := by rw [hcl]; exact Nat.mod_lt _ hk0
    obtain ⟨v, g1, _⟩ := hc (j / k) cs (j % k) _ hcs (List.getElem?_eq_getElem hm)
    have e : off + j / k * k + j % k = off + j := by rw [Nat.add_assoc, Nat.mul_comm, Nat.div_add_mod]
    rw [e] at g1
    rw [Addr.add_lit, g1]
    rw [g1] at hu
    simpa using hu
  · obtain ⟨v, g1, g2⟩ := hc i cs j x hi hj
    have hil : i < n := by have := (List.getElem?_eq_some_iff.1 hi).1; omega
    have hjl : j < k := by have := (List.getElem?_eq_some_iff.1 hj).1; rw [hk cs (List.mem_of_getElem? hi)] at this; exact this
    have hlt : i * k + j < n * k := by
      have : (i + 1) * k ≤ n * k := Nat.mul_le_mul_right _ (by omega)
      rw [Nat.add_mul] at this
      omega
    refine ⟨v, ?_, g2⟩
    rw [Nat.add_assoc] at g1
    simp [hlt, g1]

/-- What is appended, as cells. -/
theorem elemsH_cells {h : Hp} {y : HV} {v : Value} {ys : List (List HV)} {k : Nat} (hh : RH X K h) (hy : RV K y v) (he : elemsH h y = some ys) (hk : ∀ cs ∈ ys, cs.length = k) :
    ∃ a c, v = .slice a ys.length c ∧ (0 < ys.length → ∃ ad, a = some ad ∧ ∃ news : List Value, news.length = ys.length * k ∧ (∀ j u, news[j]? = some u → K.w.cell? (ad.add j) = some u) ∧
      ∀ (i : Nat) cs (j : Nat) x, ys[i]? = some cs → cs[j]? = some x → ∃ u, news[i * k + j]? = some u ∧ RV K x u) := by
  unfold elemsH at he
  split at he
  · rename_i full es
    injection he with he; subst he
    obtain ⟨a, cap, rfl, g1, g2, g3, g4, g5⟩ := hy.slice_some
    refine ⟨a, cap, rfl, fun h0 => ?_⟩
    obtain ⟨k', b, off, cv, rfl, f1, f2, f3, f4, f5⟩ := g5 h0
    have hkk : k' = k := by have := f3 0 h0; rw [hk _ (List.getElem_mem h0)] at this; exact this.symm
    subst hkk
    refine ⟨_, rfl, cells_list (K := K) rfl hk (fun i cs j x hi hj => ?_)⟩
    obtain ⟨hi', e1⟩ := List.getElem?_eq_some_iff.1 hi
    subst e1
    obtain ⟨hj', e2⟩ := List.getElem?_eq_some_iff.1 hj
    subst e2
    exact ⟨_, f4 i hi' j hj', f5 i hi' j hj'⟩
  · rename_i id lo len
    split at he
    · rename_i t es ho
      split at he
      · rename_i hle
        injection he with he; subst he
        obtain ⟨hA, a, cap, rfl, c1, c2, c3, c4, c5⟩ := hy.ow_inv
        have hlen : ((es.drop lo).take len).length = len := by simp; omega
        refine ⟨a, cap, by rw [hlen], fun h0 => ?_⟩
        rw [hlen] at h0
        obtain ⟨_, hc0, hrow⟩ := hh.obj id _ hA ho
        have hcne : K.c id ≠ 0 := fun e => by have := hc0 e; subst this; simp at hle; omega
        obtain ⟨rfl, rfl, d1, d2⟩ := c4 hcne
        obtain ⟨cur, hcur, hcsz, hl, hmax, hget⟩ := (hrow hcne).get
        have hkk : K.k id = k := by
          have h1 : ((es.drop lo).take len)[0]? = es[lo]? := by rw [List.getElem?_take, if_pos h0, List.getElem?_drop]; rfl
          have h2 : es[lo]? = some es[lo] := List.getElem?_eq_getElem (by omega)
          rw [h2] at h1
          have := hk _ (List.mem_of_getElem? h1)
          rw [(hget lo _ h2).1] at this
          exact this
        rw [← hkk]
        refine ⟨_, rfl, cells_list (K := K) rfl (fun cs hcs => by rw [hkk]; exact hk cs hcs) (fun i cs j x hi hj => ?_)⟩
        rw [List.getElem?_take] at hi
        split at hi
        · rw [List.getElem?_drop] at hi
          obtain ⟨_, v, g1, g2⟩ := (hget (lo + i) cs hi).2 j x hj
          refine ⟨v, ?_, g2⟩
          rw [cell_row hcur, show lo * K.k id + i * K.k id + j = (lo + i) * K.k id + j from by rw [Nat.add_mul]]
          exact g1
        · cases hi
      · cases he
    · cases he
  · cases he

/-- append. -/
def appendH (P : Program) (h : Hp) (nid : Nat) (t : TypeId) (s y : HV) : Option ER :=
  match elemH P t with
  | none => none
  | some e =>
    match szH P e, zeroH P e, bytesH P e, elemsH h y with
    | some k, some z, some bt, some ys =>
      if 0 < bt ∧ z.cells.length = k ∧ z.cells.all HV.one = true ∧ (∀ cs ∈ ys, cs.length = k ∧ cs.all HV.one = true) then
        match s with
        | .sl true [] => if ys.length * bt ≤ 140737488355328 then some { x := .ow nid 0 ys.length, ns := [.row e ys] } else none
        | .sl true (c :: cs) =>
          match ys with
          | [] => some { x := .sl true (c :: cs) }
          | d :: ds =>
            if ((c :: cs).length + (d :: ds).length) * bt ≤ 140737488355328 ∧ (∀ cs' ∈ c :: cs, cs'.length = k ∧ cs'.all HV.one = true) then
              some { x := .ow nid 0 ((c :: cs).length + (d :: ds).length), ns := [.row e (c :: cs ++ d :: ds)] }
            else none
        | .ow id 0 len =>
          match h[id]? with
          | some (.row e' es) =>
            if e' = e ∧ len = es.length ∧ (es.length + ys.length) * bt ≤ 140737488355328 then some { x := .ow nid 0 (es.length + ys.length), ws := [(id, .gone)], ns := [.row e (es ++ ys)] }
            else if e' = e ∧ len + ys.length ≤ es.length then some { x := .ow nid 0 (len + ys.length), ws := [(id, .gone)], ns := [.row e (es.take len ++ ys ++ es.drop (len + ys.length))] }
            else none
          | _ => none
        | _ => none
      else none
    | _, _, _, _ => none

/-- An object is given up. -/
theorem RH.gone {h : Hp} {K' : KS} (id : Nat) (x : Ext K h K' h) (hh : RH X K' h) : Ext K h K' (h.set id .gone) ∧ RH X K' (h.set id .gone) := by
  have back : ∀ i, liveAt K' (h.set id .gone) i → liveAt K' h i ∧ i ≠ id := fun i ⟨hA, ⟨o, ho, hlo⟩, hc⟩ => by
    by_cases hi : i = id
    · subst hi
      have hlt := hh.A i hA
      rw [List.getElem?_set_self hlt] at ho
      injection ho with ho; subst ho; cases hlo
    · rw [List.getElem?_set_ne (fun e => hi e.symm)] at ho
      exact ⟨⟨hA, ⟨o, ho, hlo⟩, hc⟩, hi⟩
  refine ⟨⟨x.os, x.tape, x.output, x.size, x.block, fun i hi => x.new i (back i hi).1, x.L, x.keep, x.A⟩, ⟨fun i hi => by rw [List.length_set]; exact hh.A i hi, fun i o hA ho => ?_, fun i hi => hh.live i (back i hi).1, fun i j hi hj => hh.inj i j (back i hi).1 (back j hj).1, hh.Lb, hh.glob⟩⟩
  by_cases hi : i = id
  · subst hi
    rw [List.getElem?_set_self (hh.A i hA)] at ho
    injection ho with ho; subst ho; trivial
  · rw [List.getElem?_set_ne (fun e => hi e.symm)] at ho
    exact hh.obj i o hA ho

/-- A draw. -/
theorem RH.drew {h : Hp} (hh : RH X K h) : Ext K h { K with w := K.w.drew } h ∧ RH X { K with w := K.w.drew } h := by
  have hle : K.le { K with w := K.w.drew } := ⟨Nat.le_refl _, fun _ _ _ => rfl, fun _ h => .inl h, fun _ h => ⟨h, rfl, rfl, rfl⟩⟩
  exact ⟨⟨rfl, rfl, rfl, Nat.le_refl _, fun _ _ _ => rfl, fun i hi => .inl ⟨i, hi, rfl⟩, fun _ h => .inl h, fun _ h _ => h, fun _ h => ⟨h, rfl, rfl, rfl⟩⟩,
    ⟨hh.A, fun i o hA ho => (hh.obj i o hA ho).mono hle hA (fun _ _ _ => rfl), hh.live, hh.inj, hh.Lb, hh.glob.mono hle⟩⟩

end
end Go.HL
