/-
  HL, part J: append, proved.
-/
import Derived.Test.YthfobbfechdoaaaHlI
namespace Go.HL

section
variable {X : PG} {K : KS}

theorem run_append_zero {P : Program} {w : World} {t ty e : TypeId} {i : TypeInfo} (ht : P.underlying t = some (.slice e)) (hi : P.info? e = some i) {b a : Option Addr} {n cap c : Nat} (hn : n ≤ cap) :
    (Builtin.append_ #[t, t] ty #[.slice b n cap, .slice a 0 c]).run P w = .ok (.slice b n cap) w := by
  have h1 : (Builtin.firstCells i.size 0 (.slice a 0 c)).run P w = .ok #[] w := by
    cases a <;> simp [Builtin.firstCells, loadCells, loadCellsFrom]
  cases b <;> simp [Builtin.append_, run_underlying ht, sizeOf, typeInfo, hi, Builtin.lenOf, hn, h1, storeCells]

/-- A row of no capacity, made of nothing. -/
def KS.virt (K : KS) (id k : Nat) : KS :=
  { w := K.w, L := K.L, A := fun i => K.A i ∨ i = id, b := K.b, c := fun i => if i = id then 0 else K.c i, k := fun i => if i = id then k else K.k i }

theorem KS.virt_le (K : KS) (id k : Nat) (hn : ¬ K.A id) : K.le (K.virt id k) :=
  ⟨Nat.le_refl _, fun _ _ _ => rfl, fun _ h => .inl h, fun i h => by
    have hi : i ≠ id := fun e => hn (e ▸ h)
    exact ⟨.inl h, rfl, by simp [KS.virt, hi], by simp [KS.virt, hi]⟩⟩

theorem RH.virt {h : Hp} (hh : RH X K h) {id k : Nat} {e : TypeId} (hn : ¬ K.A id) (ho : h[id]? = some (.row e [])) (hk : szH X.P e = some k) : Ext K h (K.virt id k) h ∧ RH X (K.virt id k) h := by
  have hle := K.virt_le id k hn
  have old : ∀ i, liveAt (K.virt id k) h i → liveAt K h i := fun i ⟨hA, hx, hc⟩ => by
    by_cases hi : i = id
    · subst hi; simp [KS.virt] at hc
    · rcases hA with hA | hA
      · exact ⟨hA, hx, by simpa [KS.virt, hi] using hc⟩
      · exact absurd hA hi
  refine ⟨⟨rfl, rfl, rfl, Nat.le_refl _, fun _ _ _ => rfl, fun i hi => .inl ⟨i, old i hi, rfl⟩, fun _ h => .inl h, fun _ h _ => h, hle.A⟩,
    ⟨fun i hA => ?_, fun i o hA ho' => ?_, fun i hi => hh.live i (old i hi), fun i j hi hj => hh.inj i j (old i hi) (old j hj), hh.Lb, hh.glob.mono hle⟩⟩
  · rcases hA with hA | hA
    · exact hh.A i hA
    · subst hA; exact (List.getElem?_eq_some_iff.1 ho).1
  · by_cases hi : i = id
    · subst hi
      rw [ho] at ho'
      injection ho' with ho'; subst ho'
      exact ⟨by simp [KS.virt, hk], fun _ => rfl, fun hc => by simp [KS.virt] at hc⟩
    · rcases hA with hA | hA
      · exact (hh.obj i o hA ho').mono hle hA (fun _ _ _ => rfl)
      · exact absurd hA hi

/-- Elements and their cells in a row. -/
def CL (K : KS) (k : Nat) (es : List (List HV)) (l : List Value) : Prop :=
  l.length = es.length * k ∧ ∀ (i : Nat) cs (j : Nat) x, es[i]? = some cs → cs[j]? = some x → ∃ u, l[i * k + j]? = some u ∧ RV K x u

theorem CL.append {k : Nat} {es ys : List (List HV)} {l m : List Value} (h1 : CL K k es l) (h2 : CL K k ys m) : CL K k (es ++ ys) (l ++ m) := by
  refine ⟨by simp [h1.1, h2.1, Nat.add_mul], fun i cs j x hi hj => ?_⟩
  by_cases h : i < es.length
  · rw [List.getElem?_append_left h] at hi
    obtain ⟨u, g1, g2⟩ := h1.2 i cs j x hi hj
    have hlt := (List.getElem?_eq_some_iff.1 g1).1
    exact ⟨u, by rw [List.getElem?_append_left hlt]; exact g1, g2⟩
  · rw [List.getElem?_append_right (by omega)] at hi
    obtain ⟨u, g1, g2⟩ := h2.2 _ cs j x hi hj
    refine ⟨u, ?_, g2⟩
    have hle : es.length * k ≤ i * k := Nat.mul_le_mul_right _ (by omega)
    rw [List.getElem?_append_right (by rw [h1.1]; omega), h1.1, ← g1]
    congr 1
    rw [Nat.sub_mul]
    omega

/-- A row that an append lays anew. -/
theorem grow_RH {f : Hp} (hf : RH X K f) {nid k cap : Nat} {e : TypeId} {es : List (List HV)} {l rest : List Value} {cur : Array Value} (hA : ¬ K.A nid) (hn : f[nid]? = some (.row e es)) (hk : szH X.P e = some k) (hcur : cur.toList = l ++ rest)
    (hcl : CL K k es l) (hone : ∀ cs ∈ es, cs.length = k ∧ cs.all HV.one = true) (hs : cur.size = cap * k) (hle : es.length ≤ cap) (hm : cap ≤ maxLen) (h0 : 0 < es.length) :
    let K' := ({ K with w := K.w.drew } : KS).lay nid cap k (.cells cur e)
    K'.w = K.w.drew.alloc (.cells cur e) ∧ Ext K f K' f ∧ RH X K' f ∧ RV K' (.ow nid 0 es.length) (.slice (some ⟨K.w.heap.size, 0, none⟩) es.length cap) ∧ ∀ id, K'.A id ↔ K.A id ∨ (nid ≤ id ∧ id < nid + 1) := by
  intro K'
  obtain ⟨d1, d2⟩ := hf.drew
  have hle1 : K.le { K with w := K.w.drew } := d1.le hf
  have hro : RO X.P K' nid (.row e es) := by
    refine RO.layRow (K := { K with w := K.w.drew }) hA hk hs hle hm (fun i hi => (hone _ (List.getElem_mem hi)).1) (fun i hi j hj => List.all_eq_true.1 (hone _ (List.getElem_mem hi)).2 _ (List.getElem_mem hj)) (fun i hi j hj => ?_)
    obtain ⟨u, g1, g2⟩ := hcl.2 i _ j _ (List.getElem?_eq_getElem hi) (List.getElem?_eq_getElem hj)
    refine ⟨u, ?_, g2.mono hle1⟩
    rw [← Array.getElem?_toList, hcur, List.getElem?_append_left (List.getElem?_eq_some_iff.1 g1).1]
    exact g1
  obtain ⟨g1, g2⟩ := d2.lay (id := nid) (cap := cap) (k := k) (o := .cells cur e) hA hn hro
  refine ⟨rfl, d1.trans g1 hf, g2, ?_, fun id => lay_A (K := { K with w := K.w.drew }) id⟩
  have := RV.ow (K := K') nid 0 es.length (.inr rfl) (by simp [K', KS.lay]; omega) (by simp [K', KS.lay]; exact hle) (by simpa [K', KS.lay] using hm)
  simpa [K', KS.lay] using this

/-- An append within the capacity: the block goes over to the new object. -/
theorem inplace_RH {f : Hp} (hf : RH X K f) {id nid k len : Nat} {e : TypeId} {es ys es' : List (List HV)} {cur : Array Value} {news : List Value} (hA : ¬ K.A nid) (hAi : K.A id) (hoi : f[id]? = some (.row e es)) (hn : f[nid]? = some (.row e es'))
    (hk : szH X.P e = some k) (hkid : K.k id = k) (hc : K.c id ≠ 0) (hcur : K.w.heap[K.b id]? = some (.cells cur e (0, 0))) (hs : cur.size = K.c id * k) (hm : K.c id ≤ maxLen)
    (hget : ∀ (i : Nat) cs, es[i]? = some cs → cs.length = k ∧ ∀ (j : Nat) x, cs[j]? = some x → x.one = true ∧ ∃ v, cur[i * k + j]? = some v ∧ RV K x v) (hlen : len ≤ es.length) (hroom : len + ys.length ≤ K.c id) (hesl : es.length ≤ K.c id)
    (hnews : CL K k ys news) (hone : ∀ cs ∈ ys, cs.length = k ∧ cs.all HV.one = true) (hes' : es' = es.take len ++ ys ++ es.drop (len + ys.length)) :
    let w' := K.w.setRow (K.b id) (cur.toList.take (len * k) ++ news ++ cur.toList.drop (len * k + news.length)).toArray
    let K' : KS := { w := w', L := K.L, A := fun i => K.A i ∨ i = nid, b := fun i => if i = nid then K.b id else K.b i, c := fun i => if i = nid then K.c id else K.c i, k := fun i => if i = nid then k else K.k i }
    Ext K f K' (f.set id .gone) ∧ RH X K' (f.set id .gone) ∧ RV K' (.ow nid 0 (len + ys.length)) (.slice (some ⟨K.b id, 0, none⟩) (len + ys.length) (K.c id)) ∧ ∀ i, K'.A i ↔ K.A i ∨ (nid ≤ i ∧ i < nid + 1) := by
  intro w' K'
  have hne : id ≠ nid := fun e => hA (e ▸ hAi)
  have hlive : liveAt K f id := ⟨hAi, ⟨_, hoi, rfl⟩, hc⟩
  have hidlt := hf.A id hAi
  have hnl : news.length = ys.length * k := hnews.1
  have hfit : len * k + news.length ≤ cur.size := by rw [hnl, hs, ← Nat.add_mul]; exact Nat.mul_le_mul_right _ hroom
  have hat := row_put hfit
  have hasz := row_put_size hfit
  have hset : w'.heap[K.b id]? = some (.cells _ e (0, 0)) := setRow_heap K.w (K.b id) cur _ e (0, 0) hcur
  have hoth : ∀ b, b ≠ K.b id → w'.heap[b]? = K.w.heap[b]? := fun b hb => setRow_other K.w (K.b id) b _ hb
  have hsz : w'.heap.size = K.w.heap.size := by simp [w']
  generalize (cur.toList.take (len * k) ++ news ++ cur.toList.drop (len * k + news.length)).toArray = cur' at hat hasz hset
  have hle : K.le K' := ⟨by show _ ≤ w'.heap.size; omega, fun b _ hL => hoth b (fun e => hL (e ▸ hf.live id hlive)), fun _ h => .inl h, fun i h => by
    have hi : i ≠ nid := fun e => hA (e ▸ h)
    exact ⟨.inl h, by simp [K', hi], by simp [K', hi], by simp [K', hi]⟩⟩
  have back : ∀ i, liveAt K' (f.set id .gone) i → (i = nid) ∨ (liveAt K f i ∧ i ≠ id ∧ i ≠ nid) := fun i ⟨hA', ⟨o, ho, hlo⟩, hc'⟩ => by
    by_cases h1 : i = nid
    · exact .inl h1
    · by_cases h2 : i = id
      · subst h2
        rw [List.getElem?_set_self hidlt] at ho
        injection ho with ho; subst ho; cases hlo
      · rw [List.getElem?_set_ne (fun e => h2 e.symm)] at ho
        rcases hA' with hA' | hA'
        · exact .inr ⟨⟨hA', ⟨o, ho, hlo⟩, by simpa [K', h1] using hc'⟩, h2, h1⟩
        · exact absurd hA' h1
  have bn : K'.b nid = K.b id := by simp [K']
  have bo : ∀ i, i ≠ nid → K'.b i = K.b i := fun i hi => by simp [K', hi]
  refine ⟨⟨rfl, rfl, rfl, hle.size, fun b _ hn => hoth b (fun e => hn id hlive e.symm), fun i hi => ?_, fun _ h => .inl h, fun _ h _ => h, hle.A⟩, ⟨fun i hi => ?_, fun i o hAi' ho => ?_, fun i hi => ?_, fun i j hi hj e => ?_, fun b hb => by show b < w'.heap.size; rw [hsz]; exact hf.Lb b hb, hf.glob.mono hle⟩, ?_, fun i => ?_⟩
  · rcases back i hi with rfl | ⟨h1, h2, h3⟩
    · exact .inl ⟨id, hlive, bn.symm⟩
    · exact .inl ⟨i, h1, (bo i h3).symm⟩
  · rw [List.length_set]
    rcases hi with hi | hi
    · exact hf.A i hi
    · subst hi; exact (List.getElem?_eq_some_iff.1 hn).1
  · by_cases h1 : i = nid
    · subst h1
      rw [List.getElem?_set_ne hne, hn] at ho
      injection ho with ho; subst ho
      have ek : K'.k i = k := by simp [K']
      have ec : K'.c i = K.c id := by simp [K']
      refine ⟨by rw [ek]; exact hk, fun h0 => absurd (ec ▸ h0) hc, fun _ => RowAt.of (cur := cur') (by rw [bn]; exact hset) (by rw [hasz, ec, ek]; exact hs) (by rw [ec, hes']; simp; omega) (by rw [ec]; exact hm) (fun p cs hp => ?_)⟩
      rw [ek]
      have hys : ys.length * k = news.length := hnl.symm
      by_cases c1 : p < len
      · have hp' : es[p]? = some cs := by
          rw [hes', List.append_assoc, List.getElem?_append_left (by simp; omega), List.getElem?_take, if_pos c1] at hp
          exact hp
        obtain ⟨g1, g2⟩ := hget p cs hp'
        refine ⟨g1, fun j x hx => ?_⟩
        obtain ⟨q1, v, q2, q3⟩ := g2 j x hx
        refine ⟨q1, v, ?_, q3.mono hle⟩
        have hj : j < k := by rw [← g1]; exact (List.getElem?_eq_some_iff.1 hx).1
        have : (p + 1) * k ≤ len * k := Nat.mul_le_mul_right _ (by omega)
        rw [Nat.add_mul] at this
        rw [hat, if_neg (by omega)]
        exact q2
      · by_cases c2 : p < len + ys.length
        · have hp' : ys[p - len]? = some cs := by
            rw [hes', List.append_assoc, List.getElem?_append_right (by simp; omega), List.getElem?_append_left (by simp; omega)] at hp
            simp only [List.length_take] at hp
            rw [Nat.min_eq_left hlen] at hp
            exact hp
          obtain ⟨g1, g2⟩ := hone cs (List.mem_of_getElem? hp')
          refine ⟨g1, fun j x hx => ?_⟩
          obtain ⟨u, q1, q2⟩ := hnews.2 _ cs j x hp' hx
          have hj : j < k := by rw [← g1]; exact (List.getElem?_eq_some_iff.1 hx).1
          refine ⟨List.all_eq_true.1 g2 _ (List.mem_of_getElem? hx), u, ?_, q2.mono hle⟩
          have h3 : len * k ≤ p * k := Nat.mul_le_mul_right _ (by omega)
          have h4 : (p + 1) * k ≤ (len + ys.length) * k := Nat.mul_le_mul_right _ (by omega)
          rw [Nat.add_mul, Nat.add_mul] at h4
          rw [hat, if_pos (by omega), ← q1]
          congr 1
          rw [Nat.sub_mul]
          omega
        · have hp' : es[p]? = some cs := by
            rw [hes', List.getElem?_append_right (by simp; omega), List.getElem?_drop] at hp
            simp only [List.length_append, List.length_take] at hp
            rw [Nat.min_eq_left hlen, show len + ys.length + (p - (len + ys.length)) = p from by omega] at hp
            exact hp
          obtain ⟨g1, g2⟩ := hget p cs hp'
          refine ⟨g1, fun j x hx => ?_⟩
          obtain ⟨q1, v, q2, q3⟩ := g2 j x hx
          refine ⟨q1, v, ?_, q3.mono hle⟩
          have : (len + ys.length) * k ≤ p * k := Nat.mul_le_mul_right _ (by omega)
          rw [Nat.add_mul] at this
          rw [hat, if_neg (by omega)]
          exact q2
    · by_cases h2 : i = id
      · subst h2
        rw [List.getElem?_set_self hidlt] at ho
        injection ho with ho; subst ho; trivial
      · rw [List.getElem?_set_ne (fun e => h2 e.symm)] at ho
        rcases hAi' with hAi' | hAi'
        · exact (hf.obj i o hAi' ho).mono hle hAi' (fun _ hlo hco => hoth _ (fun e => h2 (hf.inj i id ⟨hAi', ⟨o, ho, hlo⟩, hco⟩ hlive e)))
        · exact absurd hAi' h1
  · rcases back i hi with rfl | ⟨h1, h2, h3⟩
    · rw [bn]; exact hf.live id hlive
    · rw [bo i h3]; exact hf.live i h1
  · rcases back i hi with rfl | ⟨h1, h2, h3⟩
    · rcases back j hj with rfl | ⟨f1, f2, f3⟩
      · rfl
      · rw [bn, bo j f3] at e; exact absurd (hf.inj id j hlive f1 e).symm f2
    · rcases back j hj with rfl | ⟨f1, f2, f3⟩
      · rw [bn, bo i h3] at e; exact absurd (hf.inj i id h1 hlive e) h2
      · rw [bo i h3, bo j f3] at e; exact hf.inj i j h1 f1 e
  · have := RV.ow (K := K') nid 0 (len + ys.length) (.inr rfl) (by simpa [K'] using hc) (by simp [K']; exact hroom) (by simpa [K'] using hm)
    simpa [K'] using this
  · constructor
    · rintro (h | h)
      · exact .inl h
      · exact .inr (by omega)
    · rintro (h | h)
      · exact .inl h
      · exact .inr (by omega)

end
end Go.HL
