/-
  HL, part K: append's rule; all operations with an effect in one theorem.
-/
import Derived.Test.YthfobbfechdoaaaHlJ
namespace Go.HL

section
variable {X : PG} {K : KS}

theorem zeroCells_size' (z : Array Value) (n : Nat) : (Builtin.zeroCells z n).size = n * z.size := by simp [Builtin.zeroCells]

theorem appendH_run {h f : Hp} {nid : Nat} {t ty : TypeId} {s y : HV} {vs vy : Value} {r : ER} (hh : RH X K h) (hf : RH X K f) (hsub : ∀ id o, K.A id → o.live = true → h[id]? = some o → f[id]? = some o) (h1 : RV K s vs) (h2 : RV K y vy) (hb : appendH X.P h nid t s y = some r)
    (hn : ∀ i (hi : i < r.ns.length), f[nid + i]? = some r.ns[i]) (hA : ∀ i, i < r.ns.length → ¬ K.A (nid + i)) :
    ∃ v K', (Builtin.append_ #[t, t] ty #[vs, vy]).run X.P K.w = .ok v K'.w ∧ Ext K f K' (setAll f r.ws) ∧ RH X K' (setAll f r.ws) ∧ RV K' r.x v ∧ ∀ id, K'.A id ↔ K.A id ∨ (nid ≤ id ∧ id < nid + r.ns.length) := by
  unfold appendH at hb
  split at hb
  · cases hb
  · rename_i e he
    have hu := elemH_eq he
    split at hb
    · rename_i k z bt ys hk hz hbt hys
      split at hb
      · rename_i hc
        obtain ⟨hbt0, hzk, hzo, hyk⟩ := hc
        obtain ⟨info, zv, i1, i2, i3, i4, i5⟩ := infoH hk hz hbt
        have hzs : zv.cells.size = k := by rw [← ((i5 K).rl hzo).1]; exact hzk
        obtain ⟨ya, yc, rfl, hyn⟩ := elemsH_cells hh h2 hys (fun cs hcs => (hyk cs hcs).1)
        have hnl : ∀ news : List Value, news.length = ys.length * k → (∀ (i : Nat) cs (j : Nat) x, ys[i]? = some cs → cs[j]? = some x → ∃ u, news[i * k + j]? = some u ∧ RV K x u) → CL K k ys news := fun news g1 g2 => ⟨g1, g2⟩
        have hone' : ∀ (l : List (List HV)) (m : List Value), CL K k l m → (∀ cs ∈ l, cs.length = k ∧ cs.all HV.one = true) → ∀ u ∈ m, u.oneCell' = true := fun l m hcl hl u hu => by
          obtain ⟨p, hp, rfl⟩ := List.getElem_of_mem hu
          rw [hcl.1] at hp
          have hk0 : 0 < k := Nat.pos_of_ne_zero (fun h => by subst h; simp at hp)
          have hi : p / k < l.length := Nat.div_lt_of_lt_mul (by rw [Nat.mul_comm]; exact hp)
          obtain ⟨cs, hcs⟩ : ∃ cs, l[p / k]? = some cs := ⟨_, List.getElem?_eq_getElem hi⟩
          obtain ⟨g1, g2⟩ := hl cs (List.mem_of_getElem? hcs)
          have hm : p % k < cs.length := by rw [g1]; exact Nat.mod_lt _ hk0
          obtain ⟨u', q1, q2⟩ := hcl.2 (p / k) cs (p % k) _ hcs (List.getElem?_eq_getElem hm)
          have e : p / k * k + p % k = p := by rw [Nat.mul_comm, Nat.div_add_mod]
          rw [e] at q1
          obtain ⟨_, e'⟩ := List.getElem?_eq_some_iff.1 q1
          rw [e']
          exact q2.oneCell (List.all_eq_true.1 g2 _ (List.getElem_mem hm))
        -- a row laid anew
        have grow : ∀ (es : List (List HV)) (l : List Value) (n cap0 : Nat), CL K k es l → (∀ cs ∈ es, cs.length = k ∧ cs.all HV.one = true) → es.length = n → 0 < n + ys.length → (n + ys.length) * bt ≤ 140737488355328 → 0 < ys.length →
            r.ns = [.row e (es ++ ys)] → r.x = .ow nid 0 (n + ys.length) → ∀ (base : Option Addr), (∀ j u, l[j]? = some u → ∃ ad, base = some ad ∧ K.w.cell? (ad.add j) = some u) → cap0 < n + ys.length →
            (base = none → n = 0 ∧ cap0 = 0) →
            ∃ v K', (Builtin.append_ #[t, t] ty #[.slice base n cap0, .slice ya ys.length yc]).run X.P K.w = .ok v K'.w ∧ Ext K f K' f ∧ RH X K' f ∧ RV K' r.x v ∧ ∀ id, K'.A id ↔ K.A id ∨ (nid ≤ id ∧ id < nid + r.ns.length) := by
          intro es l n cap0 hcl hes hn0 hpos hbytes hys0 hns hx base hbase hcap hbn
          have hA0 := hA 0 (by rw [hns]; simp)
          have hn0' := hn 0 (by rw [hns]; simp)
          simp only [Nat.add_zero, hns, List.getElem_cons_zero] at hA0 hn0'
          obtain ⟨ad, rfl, news, w1, w2, w3⟩ := hyn hys0
          have hncl := hnl news w1 w3
          have hlm : n + ys.length ≤ maxLen := by
            have := Nat.le_mul_of_pos_right (n + ys.length) hbt0
            unfold maxLen; omega
          have hge := grownCap_ge K.w (n + ys.length) cap0 e
          have hcm := grownCap_le_maxLen K.w (n + ys.length) cap0 e hlm
          have hrun : (Builtin.append_ #[t, t] ty #[.slice base n cap0, .slice (some ad) ys.length yc]).run X.P K.w =
              .ok (.slice (some ⟨K.w.heap.size, 0, none⟩) (n + ys.length) (grownCap K.w (n + ys.length) cap0 e)) (K.w.drew.alloc (.cells (l.toArray ++ news.toArray ++ Builtin.zeroCells zv.cells (grownCap K.w (n + ys.length) cap0 e - (n + ys.length))) e)) := by
            cases base with
            | none =>
              obtain ⟨rfl, rfl⟩ := hbn rfl
              have hl0 : l = [] := List.eq_nil_of_length_eq_zero (by rw [hcl.1, hn0]; simp)
              subst hl0
              have := run_append_nil (P := X.P) K.w t ty e info zv hu i1 i2 ad ys.length yc news (by rw [i3]; exact w1) w2 hys0 (by unfold maxLen at hlm; omega) (by rw [i4]; simp only [Nat.zero_add] at hbytes; omega)
              simp only [Nat.zero_add] at this ⊢
              rw [this]
              simp
            | some ad0 =>
              exact run_append_grow (P := X.P) K.w t ty e info zv hu i1 i2 ad0 n cap0 l (by rw [i3, hcl.1, hn0]) (fun j u hu' => by obtain ⟨ad', q1, q2⟩ := hbase j u hu'; injection q1 with q1; subst q1; exact q2) ad ys.length yc news (by rw [i3]; exact w1) w2 hcap (by unfold maxLen at hlm; omega)
                (by rw [i4]; exact growslice_fits hcap hbytes)
          have hlast := grow_RH (K := K) hf (nid := nid) (k := k) (cap := grownCap K.w (n + ys.length) cap0 e) (e := e) (es := es ++ ys) (l := l ++ news) (rest := (Builtin.zeroCells zv.cells (grownCap K.w (n + ys.length) cap0 e - (n + ys.length))).toList)
            (cur := l.toArray ++ news.toArray ++ Builtin.zeroCells zv.cells (grownCap K.w (n + ys.length) cap0 e - (n + ys.length))) hA0 hn0' hk (by simp) (hcl.append hncl) (fun cs hcs => by
              rcases List.mem_append.1 hcs with hcs | hcs
              · exact hes cs hcs
              · exact hyk cs hcs) (by simp only [Array.size_append, List.size_toArray, zeroCells_size', hzs, hcl.1, w1, hn0, ← Nat.add_mul]; congr 1; omega) (by simp [hn0]; exact hge) hcm (by simp [hn0]; omega)
          obtain ⟨q1, q2, q3, q4, q5⟩ := hlast
          refine ⟨_, _, by rw [hrun, ← q1], q2, q3, ?_, fun id => by rw [hns]; exact q5 id⟩
          rw [hx]
          simpa [hn0] using q4
        split at hb
        · -- nil, or no element and no capacity
          split at hb
          · rename_i hbytes
            injection hb with hb; subst hb
            obtain ⟨a, cap, rfl, g1, g2, g3, g4, _⟩ := h1.slice_some
            have hcap0 : cap = 0 := g3 rfl
            subst hcap0
            by_cases hy0 : ys.length = 0
            · have hys' : ys = [] := List.eq_nil_of_length_eq_zero hy0
              subst hys'
              have hA0 := hA 0 (by simp)
              have hn0 := hn 0 (by simp)
              simp only [Nat.add_zero, List.getElem_cons_zero] at hA0 hn0
              obtain ⟨q1, q2⟩ := hf.virt (id := nid) (k := k) hA0 hn0 hk
              refine ⟨_, K.virt nid k, run_append_zero hu i1 (Nat.le_refl _), q1, q2, .ow0 nid a (.inr rfl) (by simp [KS.virt]), fun id => ?_⟩
              constructor
              · rintro (h | h)
                · exact .inl h
                · exact .inr (by simp; omega)
              · rintro (h | h)
                · exact .inl h
                · exact .inr (by simp at h; omega)
            · obtain ⟨v, K', q1, q2, q3, q4, q5⟩ := grow [] [] 0 0 ⟨by simp, fun i cs j x hi => by simp at hi⟩ (fun cs hcs => by cases hcs) rfl (by omega) (by simpa using hbytes) (by omega) (by simp) (by simp) a (fun j u hu' => by simp at hu') (by omega) (fun _ => ⟨rfl, rfl⟩)
              exact ⟨v, K', q1, q2, q3, q4, q5⟩
          · cases hb
        · -- an immutable slice without spare capacity
          rename_i c cs
          split at hb
          · injection hb with hb; subst hb
            obtain ⟨a, cap, rfl, g1, g2, g3, g4, _⟩ := h1.slice_some
            exact ⟨_, K, run_append_zero hu i1 g1, .refl _ _, hf, h1, fun id => ⟨.inl, fun h => h.elim (fun h => h) (fun h => by simp at h; omega)⟩⟩
          · rename_i d ds
            split at hb
            · rename_i hc2
              obtain ⟨hbytes, hck⟩ := hc2
              injection hb with hb; subst hb
              obtain ⟨a, cap, rfl, g1, g2, g3, g4, g5⟩ := h1.slice_some
              have hcap : cap = (c :: cs).length := g3 rfl
              obtain ⟨k', b, off, cv, rfl, f1, f2, f3, f4, f5⟩ := g5 (by simp)
              have hkk : k' = k := by
                have e1 := f3 0 (by simp)
                have e2 := (hck c (by simp)).1
                simp only [List.getElem_cons_zero] at e1
                omega
              subst hkk
              obtain ⟨l, l1, l2, l3⟩ := cells_list (K := K) (b := b) (off := off) (n := (c :: cs).length) (k := k') (ys := c :: cs) rfl (fun cs' hcs' => (hck cs' hcs').1) (fun i cs' j x hi hj => by
                obtain ⟨hi', e1⟩ := List.getElem?_eq_some_iff.1 hi
                subst e1
                obtain ⟨hj', e2⟩ := List.getElem?_eq_some_iff.1 hj
                subst e2
                exact ⟨_, f4 i hi' j hj', f5 i hi' j hj'⟩)
              obtain ⟨v, K', q1, q2, q3, q4, q5⟩ := grow (c :: cs) l (c :: cs).length cap ⟨l1, l3⟩ hck rfl (by simp only [List.length_cons]; omega) hbytes (by simp) rfl rfl (some ⟨b, off, none⟩) (fun j u hu' => ⟨_, rfl, l2 j u hu'⟩) (by rw [hcap]; simp) (fun h => by cases h)
              exact ⟨v, K', q1, q2, q3, q4, q5⟩
            · cases hb
        · -- a row of the call's own
          rename_i id len
          split at hb
          · rename_i e' es ho
            obtain ⟨hAi, a, cap, rfl, c1, c2, c3, c4, c5⟩ := h1.ow_inv
            have hoi := hsub id _ hAi rfl ho
            obtain ⟨hst, hc0, hrow⟩ := hh.obj id _ hAi ho
            have hne : id ≠ nid ∨ r.ns = [] := by
              by_cases h0 : r.ns = []
              · exact .inr h0
              · exact .inl (fun e => hA 0 (List.length_pos_iff.2 h0) (by simpa using e ▸ hAi))
            split at hb
            · rename_i hcond
              obtain ⟨rfl, hlen, hbytes⟩ := hcond
              injection hb with hb; subst hb
              have hkid : K.k id = k := by rw [hst] at hk; injection hk
              have hA0 := hA 0 (by simp)
              have hn0 := hn 0 (by simp)
              simp only [Nat.add_zero, List.getElem_cons_zero] at hA0 hn0
              by_cases hcz : K.c id = 0
              · have := hc0 hcz
                subst this
                simp only [List.length_nil] at hlen
                subst hlen
                obtain ⟨rfl, _⟩ := c5 hcz
                by_cases hy0 : ys.length = 0
                · have hys' : ys = [] := List.eq_nil_of_length_eq_zero hy0
                  subst hys'
                  obtain ⟨q1, q2⟩ := hf.virt (id := nid) (k := k) hA0 (by simpa using hn0) hk
                  obtain ⟨p1, p2⟩ := RH.gone id q1 q2
                  refine ⟨_, K.virt nid k, run_append_zero hu i1 (Nat.le_refl _), p1, p2, .ow0 nid a (.inr rfl) (by simp [KS.virt]), fun id => ?_⟩
                  constructor
                  · rintro (h | h)
                    · exact .inl h
                    · exact .inr (by simp; omega)
                  · rintro (h | h)
                    · exact .inl h
                    · exact .inr (by simp at h; omega)
                · obtain ⟨v, K', q1, q2, q3, q4, q5⟩ := grow [] [] 0 0 ⟨by simp, fun i cs j x hi => by simp at hi⟩ (fun cs hcs => by cases hcs) rfl (by omega) (by simpa using hbytes) (by omega) (by simp) (by simp) a (fun j u hu' => by simp at hu') (by omega) (fun _ => ⟨rfl, rfl⟩)
                  obtain ⟨p1, p2⟩ := RH.gone id q2 q3
                  exact ⟨v, K', q1, p1, p2, q4, q5⟩
              · obtain ⟨rfl, rfl, d1, d2⟩ := c4 hcz
                obtain ⟨cur, hcur, hcs, hl1, hl2, hget⟩ := (hrow hcz).get
                rw [hkid] at hcs hget
                subst hlen
                simp only [Nat.zero_mul, Nat.sub_zero] at hcs ⊢
                by_cases hy0 : ys.length = 0
                · have hys' : ys = [] := List.eq_nil_of_length_eq_zero hy0
                  subst hys'
                  have hip := inplace_RH (K := K) hf (id := id) (nid := nid) (k := k) (len := es.length) (e := e') (es := es) (ys := []) (es' := es ++ []) (cur := cur) (news := []) hA0 hAi hoi hn0 hk hkid hcz hcur hcs hl2 hget (Nat.le_refl _) (by simpa using hl1) hl1 ⟨by simp, fun i cs j x hi => by simp at hi⟩ (fun cs hcs => by cases hcs) (by simp)
                  obtain ⟨q2, q3, q4, q5⟩ := hip
                  refine ⟨_, _, ?_, q2, q3, q4, q5⟩
                  refine (run_append_zero hu i1 (by simpa using hl1)).trans ?_
                  have : (cur.toList.take (es.length * k) ++ ([] : List Value) ++ cur.toList.drop (es.length * k + ([] : List Value).length)).toArray = cur := by simp
                  rw [this, setRow_self K.w (K.b id) cur e' (0, 0) hcur]
                  simp
                · obtain ⟨ad, rfl, news, w1, w2, w3⟩ := hyn (by omega)
                  have hncl := hnl news w1 w3
                  by_cases hroom : es.length + ys.length ≤ K.c id
                  · have hip := inplace_RH (K := K) hf (id := id) (nid := nid) (k := k) (len := es.length) (e := e') (es := es) (ys := ys) (es' := es ++ ys) (cur := cur) (news := news) hA0 hAi hoi hn0 hk hkid hcz hcur hcs hl2 hget (Nat.le_refl _) hroom hl1 hncl hyk (by simp)
                    obtain ⟨q2, q3, q4, q5⟩ := hip
                    have hrun := run_append_room (P := X.P) K.w t ty e' info hu i1 (K.b id) es.length (K.c id) cur hcur ad ys.length yc news (by rw [i3]; exact w1) w2 (hone' ys news hncl hyk) hroom (by rw [i3, w1, hcs, ← Nat.add_mul]; exact Nat.mul_le_mul_right _ hroom)
                    rw [i3] at hrun
                    exact ⟨_, _, hrun, q2, q3, q4, q5⟩
                  · obtain ⟨l, l1, l2, l3⟩ := cells_list (K := K) (b := K.b id) (off := 0) (n := es.length) (k := k) (ys := es) rfl (fun cs' hcs' => by
                      obtain ⟨i, hi, rfl⟩ := List.getElem_of_mem hcs'
                      exact (hget i _ (List.getElem?_eq_getElem hi)).1) (fun i cs' j x hi hj => by
                        obtain ⟨_, v, q1, q2⟩ := (hget i cs' hi).2 j x hj
                        exact ⟨v, by rw [cell_row hcur, Nat.zero_add]; exact q1, q2⟩)
                    obtain ⟨v, K', q1, q2, q3, q4, q5⟩ := grow es l es.length (K.c id) ⟨l1, l3⟩ (fun cs' hcs' => by
                      obtain ⟨i, hi, rfl⟩ := List.getElem_of_mem hcs'
                      obtain ⟨g1, g2⟩ := hget i _ (List.getElem?_eq_getElem hi)
                      refine ⟨g1, List.all_eq_true.2 fun x hx => ?_⟩
                      obtain ⟨j, hj, rfl⟩ := List.getElem_of_mem hx
                      exact (g2 j _ (List.getElem?_eq_getElem hj)).1) rfl (by omega) hbytes (by omega) rfl rfl (some ⟨K.b id, 0, none⟩) (fun j u hu' => ⟨_, rfl, l2 j u hu'⟩) (by omega) (fun h => by cases h)
                    obtain ⟨p1, p2⟩ := RH.gone id q2 q3
                    exact ⟨v, K', q1, p1, p2, q4, q5⟩
            · rename_i hnot
              split at hb
              · rename_i hcond
                obtain ⟨rfl, hlen⟩ := hcond
                injection hb with hb; subst hb
                have hkid : K.k id = k := by rw [hst] at hk; injection hk
                have hA0 := hA 0 (by simp)
                have hn0 := hn 0 (by simp)
                simp only [Nat.add_zero, List.getElem_cons_zero] at hA0 hn0
                have hcz : K.c id ≠ 0 := fun h0 => by
                  have := hc0 h0
                  subst this
                  simp only [List.length_nil] at hlen hnot
                  have hy00 : ys.length = 0 := by omega
                  exact hnot ⟨trivial, by omega, by rw [hy00]; simp⟩
                obtain ⟨rfl, rfl, d1, d2⟩ := c4 hcz
                obtain ⟨cur, hcur, hcs, hl1, hl2, hget⟩ := (hrow hcz).get
                rw [hkid] at hcs hget
                simp only [Nat.zero_mul, Nat.sub_zero] at hcs ⊢
                by_cases hy0 : ys.length = 0
                · have hys' : ys = [] := List.eq_nil_of_length_eq_zero hy0
                  subst hys'
                  have hip := inplace_RH (K := K) hf (id := id) (nid := nid) (k := k) (len := len) (e := e') (es := es) (ys := []) (cur := cur) (news := []) hA0 hAi hoi hn0 hk hkid hcz hcur hcs hl2 hget (by omega) (by simp; omega) hl1 ⟨by simp, fun i cs j x hi => by simp at hi⟩ (fun cs hcs => by cases hcs) rfl
                  obtain ⟨q2, q3, q4, q5⟩ := hip
                  refine ⟨_, _, ?_, q2, q3, q4, q5⟩
                  refine (run_append_zero hu i1 (by omega)).trans ?_
                  have : (cur.toList.take (len * k) ++ ([] : List Value) ++ cur.toList.drop (len * k + ([] : List Value).length)).toArray = cur := by simp
                  rw [this, setRow_self K.w (K.b id) cur e' (0, 0) hcur]
                  simp
                · obtain ⟨ad, rfl, news, w1, w2, w3⟩ := hyn (by omega)
                  have hncl := hnl news w1 w3
                  have hroom : len + ys.length ≤ K.c id := by omega
                  have hip := inplace_RH (K := K) hf (id := id) (nid := nid) (k := k) (len := len) (e := e') (es := es) (ys := ys) (cur := cur) (news := news) hA0 hAi hoi hn0 hk hkid hcz hcur hcs hl2 hget (by omega) hroom hl1 hncl hyk rfl
                  obtain ⟨q2, q3, q4, q5⟩ := hip
                  have hrun := run_append_room (P := X.P) K.w t ty e' info hu i1 (K.b id) len (K.c id) cur hcur ad ys.length yc news (by rw [i3]; exact w1) w2 (hone' ys news hncl hyk) hroom (by rw [i3, w1, hcs, ← Nat.add_mul]; exact Nat.mul_le_mul_right _ hroom)
                  rw [i3] at hrun
                  exact ⟨_, _, hrun, q2, q3, q4, q5⟩
              · cases hb
          · cases hb
        · cases hb
      · cases hb
    · cases hb

end
end Go.HL
