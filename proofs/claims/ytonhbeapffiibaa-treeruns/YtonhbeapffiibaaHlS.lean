/-
  HL, part S: regions that draw their order, last part: every order comes to what the order of the text says.
-/
import Derived.Test.YtonhbeapffiibaaHlR
namespace Go.HL

theorem mask_get {M : List Nat} {h : Hp} {id : Nat} {o : HO} (ho : (mask M h)[id]? = some o) (hl : o.live = true) : h[id]? = some o ∧ ¬ id ∈ M := by
  unfold mask at ho
  split at ho
  · exact ⟨ho, by simp⟩
  · simp only [List.getElem?_mapIdx, Option.map_eq_some_iff] at ho
    obtain ⟨o', h1, h2⟩ := ho
    split at h2
    · subst h2; cases hl
    · rename_i hn; subst h2; exact ⟨h1, by simpa using hn⟩

theorem liveB_get {h : Hp} {id : Nat} (hl : liveB h id = true) : ∃ o, h[id]? = some o ∧ o.live = true := by
  unfold liveB at hl
  split at hl
  · rename_i o ho; exact ⟨o, ho, hl⟩
  · cases hl

section
variable {X : PG} {C : Cx} {ops : Array Oper} {A W : List (List Nat)} {e0 : Env} {h0 : Hp} {r : Nat → ER}

theorem okD_at (hok : okD ops A = true) {i : Nat} (hi : i < ops.size) : (∀ p ∈ predsA ops i, p < i) ∧ (∀ j ∈ A.getD i [], ∃ p ∈ predsA ops i, p = j ∨ j ∈ A.getD p []) ∧
    ∀ j ∈ unordAt A ops.size i, ∀ a b d, ops[i]? = some a → ops[j]? = some b → b.dst = some d → ¬ d ∈ a.looksAt ops ∧ a.dst ≠ some d := by
  unfold okD at hok
  have := List.all_eq_true.1 hok i (by simpa using hi)
  simp only [Bool.and_eq_true, List.all_eq_true, decide_eq_true_eq, List.any_eq_true, Bool.or_eq_true, beq_iff_eq, List.contains_iff_mem] at this
  obtain ⟨⟨h1, h2⟩, h3⟩ := this
  refine ⟨h1, h2, fun j hj a b d ha hb hd => ?_⟩
  have := h3 j hj
  simp only [ha, hb, hd, Bool.and_eq_true, Bool.not_eq_true', List.contains_eq_mem, decide_eq_false_iff_not] at this
  exact ⟨this.1, by simpa using this.2⟩

theorem anc_lt (hok : okD ops A = true) : ∀ i, i < ops.size → ∀ j ∈ A.getD i [], j < i := by
  intro i
  induction i using Nat.strongRecOn with
  | _ i ih =>
    intro hi j hj
    obtain ⟨h1, h2, _⟩ := okD_at hok hi
    obtain ⟨p, hp, hc⟩ := h2 j hj
    have hpi := h1 p hp
    rcases hc with rfl | hc
    · exact hpi
    · have := ih p hpi (by omega) j hc; omega

/-- Whoever has been carried out, those that bind it have. -/
def closed (ops : Array Oper) (S : Nat → Bool) : Prop := ∀ i, i < ops.size → S i = true → ∀ p ∈ predsA ops i, S p = true

theorem anc_closed (hok : okD ops A = true) {S : Nat → Bool} (hc : closed ops S) : ∀ i, i < ops.size → (∀ p ∈ predsA ops i, S p = true) → ∀ j ∈ A.getD i [], S j = true := by
  intro i
  induction i using Nat.strongRecOn with
  | _ i ih =>
    intro hi hp j hj
    obtain ⟨h1, h2, _⟩ := okD_at hok hi
    obtain ⟨p, hpm, hq⟩ := h2 j hj
    have hpi := h1 p hpm
    rcases hq with rfl | hq
    · exact hp _ hpm
    · exact ih p hpi (by omega) (hc p (by omega) (hp p hpm)) j hq

theorem comp (hok : okD ops A = true) {S : Nat → Bool} (hc : closed ops S) {i : Nat} (hi : i < ops.size) (hS : S i = false) (hp : ∀ p ∈ predsA ops i, S p = true) {j : Nat} (hj : j < ops.size) (hne : j ≠ i) (hu : ¬ j ∈ unordAt A ops.size i) : S j = decide (j < i) := by
  unfold unordAt at hu
  simp only [List.mem_filter, List.mem_range, hj, true_and, Bool.and_eq_true, Bool.not_eq_true', beq_eq_false_iff_ne, ne_eq, hne, not_false_eq_true, List.contains_eq_mem, decide_eq_false_iff_not] at hu
  by_cases h1 : j ∈ A.getD i []
  · rw [anc_closed hok hc i hi hp j h1]
    simp [anc_lt hok i hi j h1]
  · by_cases h2 : i ∈ A.getD j []
    · have hlt := anc_lt hok j hj i h2
      cases hSj : S j with
      | false => simp; omega
      | true =>
        have := anc_closed hok hc j hj (hc j hj hSj) i h2
        rw [hS] at this
        cases this
    · exact absurd ⟨h1, h2⟩ hu

theorem unord_symm {n i j : Nat} (hi : i < n) (h : j ∈ unordAt A n i) : i ∈ unordAt A n j := by
  unfold unordAt at h ⊢
  simp only [List.mem_filter, List.mem_range, Bool.and_eq_true, Bool.not_eq_true', beq_eq_false_iff_ne, ne_eq] at h ⊢
  exact ⟨hi, ⟨fun e => h.2.1.1 e.symm, h.2.2⟩, h.2.1.2⟩

theorem unord_lt {n i j : Nat} (h : j ∈ unordAt A n i) : j < n ∧ j ≠ i := by
  unfold unordAt at h
  simp only [List.mem_filter, List.mem_range, Bool.and_eq_true, Bool.not_eq_true', beq_eq_false_iff_ne, ne_eq] at h
  exact ⟨h.1, h.2.1.1⟩

/-- An id among those that j writes or makes. -/
def touches (h0 : Hp) (r : Nat → ER) (j id : Nat) : Prop := wrote r j id ∨ ((allT h0 r j).length ≤ id ∧ id < (allT h0 r j).length + (r j).ns.length)

theorem masked {i j id : Nat} (hj : j ∈ unordAt A ops.size i) (hlt : j < i) (ht : touches h0 r j id) : id ∈ maskAt ops A W h0 r i := by
  unfold maskAt dmask
  rw [List.mem_flatMap]
  refine ⟨j, hj, ?_⟩
  rw [if_pos hlt]
  have e : (nwT h0 r i).getD j [] = newIds (hpT h0 r j).length (r j) := by
    unfold nwT
    rw [List.getD_eq_getElem?_getD, List.getElem?_map, List.getElem?_range hlt]
    rfl
  rw [e]
  unfold newIds
  rcases ht with h | ⟨h1, h2⟩
  · exact List.mem_append_left _ h
  · refine List.mem_append_right _ ?_
    rw [List.mem_range', hpT_length]
    exact ⟨id - (allT h0 r j).length, by omega, by omega⟩

variable (hv : ∀ i, i < ops.size → Valid X C ops A W e0 h0 r i)
include hv

theorem live_at {i id : Nat} (hi : i < ops.size) (hw : wrote r i id) : (W.getD i []).contains id = true ∧ id < (allT h0 r i).length ∧ ¬ id ∈ maskAt ops A W h0 r i := by
  obtain ⟨o, _, h | ⟨_, _, h⟩⟩ := hv i hi
  · unfold wrote at hw; rw [h.2] at hw; simp at hw
  · unfold wrote at hw
    obtain ⟨w, hwm, rfl⟩ := List.mem_map.1 hw
    obtain ⟨h1, h2⟩ := h w hwm
    obtain ⟨o', h3, h4⟩ := liveB_get h2
    obtain ⟨h5, h6⟩ := mask_get h3 h4
    exact ⟨h1, by rw [← hpT_length]; exact (List.getElem?_eq_some_iff.1 h5).1, h6⟩

theorem disj {i j id : Nat} (hi : i < ops.size) (hj : j ∈ unordAt A ops.size i) (hw : wrote r i id) : ¬ touches h0 r j id := by
  intro ht
  obtain ⟨hjn, hne⟩ := unord_lt hj
  obtain ⟨_, h2, h3⟩ := live_at hv hi hw
  rcases Nat.lt_or_gt_of_ne hne with hlt | hgt
  · exact h3 (masked hj hlt ht)
  · rcases ht with hwj | ⟨h4, _⟩
    · exact (live_at hv hjn hwj).2.2 (masked (unord_symm hi hj) hgt (.inl hw))
    · have := (allT_mono (h0 := h0) (r := r) j (by omega : i ≤ j)).1
      omega

/-- What stands after the operations S. -/
def JS (X : PG) (C : Cx) (ops : Array Oper) (e0 : Env) (h0 : Hp) (r : Nat → ER) (K0 : KS) (B : Nat) (S : Nat → Bool) (a : Act) (w : World) : Prop :=
  ∃ K, K.w = w ∧ Ext K0 h0 K (hpF r (allT h0 r ops.size) S ops.size) ∧ RE K B C.N (envF C.N ops e0 r S ops.size) a ∧ RH X K (hpF r (allT h0 r ops.size) S ops.size) ∧
    ∀ id, K.A id ↔ K0.A id ∨ ∃ j, j < ops.size ∧ S j = true ∧ (allT h0 r j).length ≤ id ∧ id < (allT h0 r j).length + (r j).ns.length

omit hv in
theorem looks_guard {o : Oper} {j : Nat} {want : Bool} {t : Tmp} (hg : o.guard = some (j, want)) (ht : (ops[j]?).bind (·.dst) = some t) : t ∈ o.looksAt ops := by
  unfold Oper.looksAt
  rw [hg]
  simp [ht]

omit hv in
theorem looks_oper {o : Oper} {t : Tmp} (h : Operand.tmp t ∈ o.op.operands) : t ∈ o.looksAt ops := by
  unfold Oper.looksAt
  exact List.mem_append_left _ (List.mem_filterMap.2 ⟨.tmp t, by simpa using h, rfl⟩)

theorem js_step (hok : okD ops A = true) {K0 : KS} {B : Nat} {S : Nat → Bool} {a : Act} {w : World} {i : Nat} {ro : Option Nat} {Qx : Exit → Act → World → Prop} (hh0 : RH X K0 h0) (hJ : JS X C ops e0 h0 r K0 B S a w) (hc : closed ops S) (hi : i < ops.size) (hS : S i = false) (hp : ∀ p ∈ predsA ops i, S p = true) :
    wpOpIn (F0 ro) 0 X.P ops Qx i (fun a' w' => JS X C ops e0 h0 r K0 B (fun j => S j || j == i) a' w') a w := by
  obtain ⟨K, rfl, x, he, hh, hA⟩ := hJ
  obtain ⟨o, ho, hval⟩ := hv i hi
  have hcomp := fun {j} hj hne hu => comp (j := j) hok hc hi hS hp hj hne hu
  obtain ⟨_, _, hun⟩ := okD_at hok hi
  have wr : ∀ j, j < ops.size → ∀ id, wrote r j id → id < (allT h0 r j).length := fun j hj id hw => (live_at hv hj hw).2.1
  -- the temporaries that are looked at
  have henv : ∀ t ∈ o.looksAt ops, envF C.N ops e0 r S ops.size t = envT C.N ops e0 r i t := fun t ht => by
    rw [← envF_lt (Nat.le_of_lt hi)]
    refine envF_congr _ fun j hj hd => ?_
    by_cases hji : j = i
    · subst hji; simp [hS]
    · by_cases hu : j ∈ unordAt A ops.size i
      · unfold dstAt at hd
        cases hoj : ops[j]? with
        | none => rw [hoj] at hd; cases hd
        | some b =>
          rw [hoj] at hd
          exact absurd ht (hun j hu o b t ho hoj hd).1
      · exact hcomp hj hji hu
  have hwant : wantH (envF C.N ops e0 r S ops.size) ops o = wantH (envT C.N ops e0 r i) ops o := by
    unfold wantH
    cases hg : o.guard with
    | none => rfl
    | some g =>
      obtain ⟨j, want⟩ := g
      simp only
      cases ht : (ops[j]?).bind (·.dst) with
      | none => rfl
      | some t => simp only; rw [henv t (looks_guard hg ht)]
  have hev : ∀ y ∈ o.op.operands, ev X (envT C.N ops e0 r i) y = ev X (envF C.N ops e0 r S ops.size) y := fun y hy => by
    cases y with
    | tmp t => exact (henv t (looks_oper hy)).symm
    | _ => rfl
  -- the environment behind
  have henv' : envF C.N ops e0 r (fun j => S j || j == i) ops.size = putE C.N (envF C.N ops e0 r S ops.size) o.dst (r i).x := by
    funext t
    by_cases hd : o.dst = some t
    · have e1 : envF C.N ops e0 r (fun j => S j || j == i) ops.size t = envF C.N ops e0 r (fun j => S j || j == i) (i + 1) t := by
        refine envF_later _ (by omega) fun j h1 h2 hdj => ?_
        have hji : j ≠ i := by omega
        have : S j = false := by
          by_cases hu : j ∈ unordAt A ops.size i
          · unfold dstAt at hdj
            cases hoj : ops[j]? with
            | none => rw [hoj] at hdj; cases hdj
            | some b =>
              rw [hoj] at hdj
              exact absurd hd (hun j hu o b t ho hoj hdj).2
          · rw [hcomp h2 hji hu]; simp; omega
        simp [this, hji]
      rw [e1]
      simp [envF, ho, hd, putE, upd]
    · have e1 : putE C.N (envF C.N ops e0 r S ops.size) o.dst (r i).x t = envF C.N ops e0 r S ops.size t := by
        cases hdd : o.dst with
        | none => rfl
        | some d => simp only [putE]; exact upd_ne _ _ _ _ (fun q => hd (by rw [hdd, q]))
      rw [e1]
      refine envF_congr _ fun j hj hdj => ?_
      have hji : j ≠ i := fun e => by subst e; simp [dstAt, ho, hd] at hdj
      simp [hji]
  -- the heap behind
  have hheap' : setAll (hpF r (allT h0 r ops.size) S ops.size) (r i).ws = hpF r (allT h0 r ops.size) (fun j => S j || j == i) ops.size := by
    apply List.ext_getElem?
    intro id
    by_cases hw : wrote r i id
    · have later : ∀ j, i + 1 ≤ j → j < ops.size → wrote r j id → S j = false := fun j h1 h2 hwj => by
        by_cases hu : j ∈ unordAt A ops.size i
        · exact absurd (.inl hwj) (disj hv hi hu hw)
        · rw [hcomp h2 (by omega) hu]; simp; omega
      rw [hpF_later ops.size (by omega : i + 1 ≤ ops.size) (fun j h1 h2 hwj => by simp [later j h1 h2 hwj]; omega)]
      simp only [hpF, beq_self_eq_true, Bool.or_true, if_true]
      refine setAll_congr _ _ _ _ ?_
      rw [hpF_later ops.size (by omega : i ≤ ops.size) (fun j h1 h2 hwj => by
        by_cases hji : j = i
        · subst hji; exact hS
        · exact later j (by omega) h2 hwj)]
      exact hpF_congr i (fun j hj _ => by have : j ≠ i := by omega
                                          simp [this])
    · rw [setAll_ne _ _ _ hw]
      refine hpF_congr _ fun j hj hwj => ?_
      have hji : j ≠ i := fun e => hw (e ▸ hwj)
      simp [hji]
  have hAn : ∀ id, (K.A id ∨ ((allT h0 r i).length ≤ id ∧ id < (allT h0 r i).length + (r i).ns.length)) ↔ (K0.A id ∨ ∃ j, j < ops.size ∧ (S j || j == i) = true ∧ (allT h0 r j).length ≤ id ∧ id < (allT h0 r j).length + (r j).ns.length) := fun id => by
    rw [hA]
    constructor
    · rintro ((h | ⟨j, h1, h2, h3⟩) | h)
      · exact .inl h
      · exact .inr ⟨j, h1, by simp [h2], h3⟩
      · exact .inr ⟨i, hi, by simp, h⟩
    · rintro (h | ⟨j, h1, h2, h3⟩)
      · exact .inl (.inl h)
      · by_cases hji : j = i
        · subst hji; exact .inr h3
        · exact .inl (.inr ⟨j, h1, by simpa [hji] using h2, h3⟩)
  have finish : ∀ (K' : KS) v, Ext K (hpF r (allT h0 r ops.size) S ops.size) K' (setAll (hpF r (allT h0 r ops.size) S ops.size) (r i).ws) → RH X K' (setAll (hpF r (allT h0 r ops.size) S ops.size) (r i).ws) → RV K' (r i).x v →
      (∀ id, K'.A id ↔ K.A id ∨ ((allT h0 r i).length ≤ id ∧ id < (allT h0 r i).length + (r i).ns.length)) → JS X C ops e0 h0 r K0 B (fun j => S j || j == i) (a.put o.dst v) K'.w := fun K' v x1 hh1 hrv hA1 => by
    refine ⟨K', rfl, ?_, ?_, ?_, fun id => (hA1 id).trans (hAn id)⟩
    · rw [← hheap']; exact x.trans x1 hh0
    · rw [henv']; exact (he.ext x1 hh).put o.dst hrv
    · rw [← hheap']; exact hh1
  unfold wpOpIn
  simp only [ho]
  rcases hval with ⟨hw, hr⟩ | ⟨hw, heff, hlive⟩
  · rw [wantH_sound he (hwant.trans hw), if_neg (by simp)]
    refine ⟨fun _ _ => trivial, ?_⟩
    refine finish K undef ?_ ?_ ?_ (fun id => ?_)
    · rw [hr]; exact .refl _ _
    · rw [hr]; exact hh
    · rw [hr]; exact .tup [] #[] rfl (fun i hi => absurd hi (Nat.not_lt_zero _))
    · rw [hr]; simp; omega
  · rw [wantH_sound he (hwant.trans hw), if_pos rfl]
    have hR : hle (mask (maskAt ops A W h0 r i) (hpT h0 r i)) (hpF r (allT h0 r ops.size) S ops.size) := fun id ob hl hob => by
      obtain ⟨h1, h2⟩ := mask_get hob hl
      have hid : id < (allT h0 r i).length := by rw [← hpT_length]; exact (List.getElem?_eq_some_iff.1 h1).1
      rw [hpT_get wr i (Nat.le_of_lt hi) id hid, ← hpF_lt (Nat.le_of_lt hi)] at h1
      rw [← h1]
      refine hpF_congr _ fun j hj hwj => ?_
      by_cases hji : j = i
      · subst hji; simp [hS]
      · by_cases hu : j ∈ unordAt A ops.size i
        · exfalso
          rcases Nat.lt_or_gt_of_ne hji with hlt | hgt
          · exact h2 (masked hu hlt (.inl hwj))
          · refine h2 ?_
            unfold maskAt dmask
            rw [List.mem_flatMap]
            refine ⟨j, hu, ?_⟩
            rw [if_neg (by omega)]
            simpa using (live_at hv hj hwj).1
        · exact hcomp hj hji hu
    rcases heff with heff | ⟨c, f, g, fs, cs, hop, hcal, hf, hen, hns, hcall⟩
    · rw [opE_congr hev] at heff
      have hd : ∀ c, o.op ≠ .defer c := fun c hc' => by rw [hc'] at heff; simp [opE, opV] at heff
      have hrun := opE_sound (f := hpF r (allT h0 r ops.size) S ops.size) hh hh (fun _ _ _ _ h => h) (fun _ => rfl) (fun y => he.eval hh y) (opE_mono hR heff) (fun k hk => by
        rw [hpT_length, hpF_later ops.size (Nat.zero_le _) (fun j _ hj hwj => ?_)]
        · exact allT_new hi k hk
        · by_cases hji : j = i
          · subst hji; exact hS
          · have hlj := wr j hj _ hwj
            have hij : i < j := by
              rcases Nat.lt_or_gt_of_ne hji with hlt | hgt
              · have := (allT_mono (h0 := h0) (r := r) i (by omega : j ≤ i)).1
                omega
              · exact hgt
            by_cases hu : j ∈ unordAt A ops.size i
            · exact absurd (.inr ⟨by omega, by omega⟩) (disj hv hj (unord_symm hi hu) hwj)
            · rw [hcomp hj hji hu]; simp; omega) (fun k hk hAk => by
        rw [hpT_length, hA] at hAk
        rcases hAk with hAk | ⟨j, h1, h2, h3, h4⟩
        · have e1 := hh0.A _ hAk
          have e2 := (allT_mono (h0 := h0) (r := r) i (Nat.zero_le i)).1
          simp only [allT] at e2
          omega
        · have hji : j ≠ i := fun e => by subst e; rw [hS] at h2; cases h2
          rcases Nat.lt_or_gt_of_ne hji with hlt | hgt
          · have := (allT_mono (h0 := h0) (r := r) i (by omega : j + 1 ≤ i)).1
            simp only [allT, List.length_append] at this
            omega
          · have := (allT_mono (h0 := h0) (r := r) j (by omega : i + 1 ≤ j)).1
            simp only [allT, List.length_append] at this
            omega)
      obtain ⟨v, K', h1, h2, h3, h4, h5⟩ := hrun
      refine ⟨fun _ _ => trivial, ?_⟩
      rw [Oper.semAt_eq _ _ _ hd]
      rw [hpT_length] at h5
      rcases h1 with h1 | ⟨h1, rfl⟩
      · rw [h1]; exact finish K' v h2 h3 h4 h5
      · rw [h1]; exact finish K' _ h2 h3 h4 h5
    · have hcall' := hcall _ hR
      have hf' : ev X (envF C.N ops e0 r S ops.size) f = .fn (.func g) fs cs := by rw [← hev f (by rw [hop]; simp [Op.operands, Call.operands, hcal])]; exact hf
      have hargs : c.args.toList.map (ev X (envT C.N ops e0 r i)) = c.args.toList.map (ev X (envF C.N ops e0 r S ops.size)) := List.map_congr_left fun y hy => hev y (by rw [hop]; simp [Op.operands, Call.operands]; exact .inr (by simpa using hy))
      rw [hargs] at hcall'
      have hst : stepT X true (envF C.N ops e0 r S ops.size) (hpF r (allT h0 r ops.size) S ops.size) (fun r' h'' => r' = (r i).x ∧ h'' = setAll (hpF r (allT h0 r ops.size) S ops.size) (r i).ws) o.op := by
        rw [hop]
        simp only [stepT, hcal, hf']
        exact ⟨hen, hcall'⟩
      refine stepT_wp he hh hst fun y h'' K' v x1 hh1 hrv hk => ?_
      obtain ⟨rfl, rfl⟩ := hk
      refine finish K' v x1.toExt hh1 hrv fun id => ?_
      rw [hns]
      refine ⟨fun hid => (x1.An id hid).imp_right fun hl => ?_, fun hid => hid.elim (fun h => (x1.A id h).1) (fun h => by simp at h; omega)⟩
      have := hh1.A id hid
      rw [setAll_length] at this
      omega

end
end Go.HL

