/-
  Chapter 16: which lists of nodes are trees, told one node after the other: the plain laws.
-/
import Derived.Test.YtonhbeapffiibaaTreC
namespace Go.Proofs.Ytonhbeapffiibaa
open Go.HL

def sumTo (f : Nat → Nat) : Nat → Nat
  | 0 => 0
  | n + 1 => sumTo f n + f n

theorem sumTo_congr {f g : Nat → Nat} : ∀ n, (∀ j, j < n → f j = g j) → sumTo f n = sumTo g n
  | 0, _ => rfl
  | n + 1, h => by rw [sumTo, sumTo, sumTo_congr n fun j hj => h j (by omega), h n (by omega)]

theorem sumTo_at {f : Nat → Nat} {p c : Nat} : ∀ n, sumTo (fun j => f j + if j = p then c else 0) n = sumTo f n + if p < n then c else 0
  | 0 => by simp [sumTo]
  | n + 1 => by
    rw [sumTo, sumTo, sumTo_at n]
    by_cases h1 : p < n
    · rw [if_pos h1, if_neg (by omega), if_pos (by omega)]; omega
    · by_cases h2 : n = p
      · rw [if_neg h1, if_pos h2, if_pos (by omega)]; omega
      · rw [if_neg h1, if_neg h2, if_neg (by omega)]; omega

theorem sumTo_lt {f g : Nat → Nat} : ∀ n, (∀ j, j < n → f j < g j) → sumTo f n + n ≤ sumTo g n
  | 0, _ => by simp [sumTo]
  | n + 1, h => by
    have h1 := sumTo_lt n fun j hj => h j (by omega)
    have h2 := h n (by omega)
    simp only [sumTo]; omega

theorem mem_kids {t : List Nd} {i : Nat} {p q : Int} (hi : i ≤ t.length) : q ∈ kids (t.take i) p ↔ ∃ k, k < i ∧ (nth t k).par = p ∧ q ∈ (nth t k).set := by
  simp only [kids, List.mem_flatMap, List.mem_filter, decide_eq_true_eq]
  constructor
  · rintro ⟨x, ⟨hx, hp⟩, hq⟩
    obtain ⟨k, hk, rfl⟩ := List.getElem_of_mem hx
    simp only [List.length_take] at hk
    rw [List.getElem_take] at hp hq
    exact ⟨k, by omega, by rwa [nth_eq (by omega)], by rwa [nth_eq (by omega)]⟩
  · rintro ⟨k, hk, hp, hq⟩
    rw [nth_eq (by omega)] at hp hq
    exact ⟨t[k], ⟨List.mem_take_iff_getElem.2 ⟨k, by omega, rfl⟩, hp⟩, hq⟩

theorem kids_succ {t : List Nd} {i : Nat} {p : Int} (hi : i < t.length) : kids (t.take (i + 1)) p = kids (t.take i) p ++ if (nth t i).par = p then (nth t i).set else [] := by
  rw [take_nth hi]
  by_cases h : (nth t i).par = p
  · rw [kids_yes h, if_pos h]
  · rw [kids_no h, if_neg h]; simp

theorem strict_pw {l : List Int} (h : ∀ i, 0 < i → i < l.length → nth l (i - 1) < nth l i) : l.Pairwise (· < ·) := by
  rw [List.pairwise_iff_getElem]
  have : ∀ i j, i < j → j < l.length → nth l i < nth l j := by
    intro i j hij
    induction j with
    | zero => omega
    | succ j ih =>
      intro hj
      have h1 := h (j + 1) (by omega) hj
      simp only [Nat.add_sub_cancel] at h1
      by_cases e : i = j
      · subst e; exact h1
      · have := ih (by omega) (by omega); omega
  intro i j hi hj hij
  have := this i j hij hj
  rwa [nth_eq hi, nth_eq hj] at this
theorem pw_nth {l : List Int} (h : l.Pairwise (· < ·)) {i j : Nat} (hij : i < j) (hj : j < l.length) : nth l i < nth l j := by
  rw [nth_eq (by omega), nth_eq hj]
  exact List.pairwise_iff_getElem.1 h i j (by omega) hj hij
theorem pw_nodup {l : List Int} (h : l.Pairwise (· < ·)) : l.Nodup := h.imp fun h => by omega

theorem dedup_ex : ∀ l : List Int, ∃ m : List Int, m.Nodup ∧ (∀ x, x ∈ m ↔ x ∈ l) ∧ m.length ≤ l.length ∧ (l.length ≤ m.length → l.Nodup) ∧ (l.Nodup → m.length = l.length)
  | [] => ⟨[], by simp, by simp, by simp, by simp, by simp⟩
  | x :: l => by
    obtain ⟨m, h1, h2, h3, h4, h5⟩ := dedup_ex l
    by_cases hx : x ∈ l
    · refine ⟨m, h1, fun y => ?_, by simp; omega, fun h => ?_, fun h => ?_⟩
      · rw [h2, List.mem_cons]
        exact ⟨.inr, fun h => h.elim (fun e => e ▸ hx) id⟩
      · simp at h; omega
      · exact absurd hx (List.nodup_cons.1 h).1
    · refine ⟨x :: m, List.nodup_cons.2 ⟨fun h => hx ((h2 x).1 h), h1⟩, fun y => by rw [List.mem_cons, List.mem_cons, h2], by simpa using h3, fun h => ?_, fun h => ?_⟩
      · exact List.nodup_cons.2 ⟨hx, h4 (by simpa using h)⟩
      · simpa using h5 (List.nodup_cons.1 h).2

theorem rises_strict {l : List Int} (h : risesL l = true) (hd : l.Nodup) : l.Pairwise (· < ·) := by
  refine strict_pw fun i h0 hi => ?_
  have h1 := upto_iff.1 h i hi
  simp only [decide_eq_true_eq] at h1
  have h1 := h1 h0
  have hne : nth l (i - 1) ≠ nth l i := by
    rw [nth_eq (by omega), nth_eq hi]
    intro e
    exact List.pairwise_iff_getElem.1 hd (i - 1) i (by omega) hi (by omega) e
  omega
theorem strict_rises {l : List Int} (h : l.Pairwise (· < ·)) : risesL l = true := upto_iff.2 fun i hi => by
  simp only [decide_eq_true_eq]
  intro h0
  have := pw_nth h (show i - 1 < i by omega) hi
  omega

/-- What the check of a node has shown when its turn is over. -/
def okJ (n : Nat) (t : List Nd) (j : Nat) : Prop := okH n t j ∧ (∀ k, k < (nth t j).set.length → okE n t j k = true) ∧ (∀ k, k < j → okP t j k = true) ∧ (0 < j → (kids (t.take (j + 1)) (nth t j).par).length < (nth t (nth t j).par.toNat).set.length)

theorem okE_pw {n : Nat} {t : List Nd} {j : Nat} (h : ∀ k, k < (nth t j).set.length → okE n t j k = true) : (nth t j).set.Pairwise (· < ·) :=
  strict_pw fun i h0 hi => (okE_iff.1 (h i hi)).2.1 h0
theorem okE_mem {n : Nat} {t : List Nd} {j : Nat} (h : ∀ k, k < (nth t j).set.length → okE n t j k = true) {q : Int} (hq : q ∈ (nth t j).set) : (0 ≤ q ∧ q < n) ∧ (0 < j → q ∈ (nth t (nth t j).par.toNat).set) := by
  obtain ⟨k, hk, rfl⟩ := List.getElem_of_mem hq
  have := okE_iff.1 (h k hk)
  rw [nth_eq hk] at this
  exact ⟨this.1, this.2.2⟩

theorem kids_nodup {n : Nat} {t : List Nd} : ∀ i, i ≤ t.length → (∀ j, j < i → (∀ k, k < (nth t j).set.length → okE n t j k = true) ∧ (∀ k, k < j → okP t j k = true)) → ∀ p, (kids (t.take i) p).Nodup
  | 0, _, _, p => by simp [kids]
  | i + 1, hi, h, p => by
    rw [kids_succ (by omega)]
    have ih := kids_nodup i (by omega) (fun j hj => h j (by omega)) p
    split
    · rename_i hp
      rw [List.nodup_append]
      refine ⟨ih, pw_nodup (okE_pw (h i (by omega)).1), fun a ha c hc e => ?_⟩
      subst e
      obtain ⟨k, hk, hkp, hkq⟩ := (mem_kids (by omega)).1 ha
      exact (okP_iff.1 ((h i (by omega)).2 k hk)).2 (by omega) a hc hkq
    · simpa using ih

/-- What the check of a node has shown, but for names. -/
def okW (n : Nat) (t : List Nd) (j : Nat) : Prop := (nth t j).set.length ≠ 0 ∧ ((j : Int) = 0 ↔ (nth t j).par = -1) ∧ (nth t j).par < j ∧ -1 ≤ (nth t j).par ∧ (∀ k, k < (nth t j).set.length → okE n t j k = true) ∧ (0 < j → (kids (t.take (j + 1)) (nth t j).par).length < (nth t (nth t j).par.toNat).set.length)

theorem okW_of {n : Nat} {t : List Nd} {j : Nat} (h : okJ n t j) : okW n t j := by
  have h1 := h.1
  unfold okH at h1
  exact ⟨h1.2.2.1, h1.2.2.2.1, h1.2.2.2.2.1, h1.2.2.2.2.2, h.2.1, h.2.2.2⟩

theorem kids_lt {n : Nat} {t : List Nd} (h : ∀ j, j < t.length → okW n t j) : ∀ p : Nat, p < t.length → (kids t p).length < (nth t p).set.length := by
  have hlt : ∀ p : Nat, p < t.length → ∀ m, m ≤ t.length → (kids (t.take m) p).length < (nth t p).set.length := by
    intro p hp m
    induction m with
    | zero => intro _; have := (h p hp).1; simp [kids]; omega
    | succ m ih =>
      intro hm
      rw [kids_succ (by omega)]
      split
      · rename_i e
        have h0 : 0 < m := by
          have := (h m (by omega)).2; omega
        have := (h m (by omega)).2.2.2.2.2 h0
        rw [kids_succ (by omega), if_pos rfl, e] at this
        simpa using this
      · simpa using ih (by omega)
  intro p hp
  have := hlt p hp t.length (Nat.le_refl _)
  rwa [List.take_length] at this

/-- A tree has at most as many nodes as there are states. -/
theorem len_le {n : Nat} {t : List Nd} (h : ∀ j, j < t.length → okW n t j) : t.length ≤ n := by
  have hlt' := kids_lt h
  by_cases h0 : t.length = 0
  · omega
  have hsum : ∀ m, 1 ≤ m → m ≤ t.length → sumTo (fun j => (kids (t.take m) (j : Int)).length) t.length + (nth t 0).set.length = sumTo (fun k => (nth t k).set.length) m := by
    intro m
    induction m with
    | zero => omega
    | succ m ih =>
      intro _ hm
      obtain ⟨_, hp1, hp2, hp3, _⟩ := h m (by omega)
      have e1 : sumTo (fun j => (kids (t.take (m + 1)) (j : Int)).length) t.length = sumTo (fun j => (kids (t.take m) (j : Int)).length) t.length + if 0 < m then (nth t m).set.length else 0 := by
        by_cases hm0 : 0 < m
        · rw [if_pos hm0]
          rw [sumTo_congr (g := fun j => (kids (t.take m) (j : Int)).length + if j = (nth t m).par.toNat then (nth t m).set.length else 0) t.length fun j hj => ?_, sumTo_at, if_pos (by omega)]
          rw [kids_succ (by omega), List.length_append]
          congr 1
          by_cases e : (nth t m).par = j
          · rw [if_pos e, if_pos (by omega)]
          · rw [if_neg e, if_neg (by omega)]; rfl
        · rw [if_neg hm0]
          rw [Nat.add_zero]
          refine sumTo_congr _ fun j hj => ?_
          rw [kids_succ (by omega), if_neg (by omega)]; simp
      rw [sumTo, e1]
      by_cases hm0 : 0 < m
      · rw [if_pos hm0]
        have := ih (by omega) (by omega)
        omega
      · have : m = 0 := by omega
        subst this
        have e2 : sumTo (fun j => (kids (t.take 0) (j : Int)).length) t.length = sumTo (fun _ => 0) t.length := sumTo_congr _ fun j _ => by simp [kids]
        have e3 : ∀ n, sumTo (fun _ => 0) n = 0 := fun n => by induction n with | zero => rfl | succ n ih => rw [sumTo, ih]
        rw [e2, e3]
        simp [sumTo]
  have h1 := hsum t.length (by omega) (Nat.le_refl _)
  rw [List.take_length] at h1
  have h2 := sumTo_lt (f := fun j => (kids t (j : Int)).length) (g := fun k => (nth t k).set.length) t.length hlt'
  have h3 := nodup_le (l := (nth t 0).set) (m := (List.range n).map fun i : Nat => (i : Int)) (pw_nodup (okE_pw (h 0 (by omega)).2.2.2.2.1)) fun x hx => by
    have := (okE_mem (h 0 (by omega)).2.2.2.2.1 hx).1
    exact List.mem_map.2 ⟨x.toNat, by simp; omega, by omega⟩
  simp only [List.length_map, List.length_range] at h3
  omega

/-- If all nodes are as they should be then the list is a tree. -/
theorem valid_of {b : Bu} {t : List Nd} (hv : validB b = true) (h : ∀ j, j < t.length → okJ b.next.length t j) : validT b t = true :=
  validT_iff.2 ⟨hv, len_le fun j hj => okW_of (h j hj), fun i hi => okN_nth.2 ⟨(h i hi).1, (h i hi).2.1, (h i hi).2.2.1, kids_lt (fun j hj => okW_of (h j hj)) i hi⟩⟩

/-- The other way round. -/
theorem of_valid {b : Bu} {t : List Nd} (hv : validT b t = true) {j : Nat} (hj : j < t.length) : okJ b.next.length t j := by
  obtain ⟨_, _, h⟩ := validT_iff.1 hv
  have hN := okN_nth.1 (h j hj)
  refine ⟨hN.1, hN.2.1, hN.2.2.1, fun h0 => ?_⟩
  have hp := hN.1
  unfold okH at hp
  have h1 := (okN_nth.1 (h (nth t j).par.toNat (by omega))).2.2.2
  have h2 := kids_take_le t (nth t j).par (j + 1)
  have e : ((nth t j).par.toNat : Int) = (nth t j).par := by omega
  rw [e] at h1
  omega

theorem not_valid {b : Bu} {t : List Nd} (j : Nat) (hj : j < t.length) (h : ¬ okJ b.next.length t j) : validT b t = false := Bool.eq_false_iff.2 fun hv => h (of_valid hv hj)

def mapsR (ids : List Nat) (n : Nat) : List (List HV) := ids.map (fun k => [HV.mp k]) ++ List.replicate (n - ids.length) [.nul (.map none)]

theorem mapsR_zero (n : Nat) : mapsR [] n = List.replicate n [.nul (.map none)] := by simp [mapsR]
theorem mapsR_length {ids : List Nat} {n : Nat} (h : ids.length ≤ n) : (mapsR ids n).length = n := by simp [mapsR]; omega
theorem mapsR_get {ids : List Nat} {n j : Nat} (h : j < ids.length) : (mapsR ids n)[j]? = some [.mp (nth ids j)] := by
  rw [mapsR, List.getElem?_append_left (by simpa using h), List.getElem?_map, nth_eq h]; simp [h]
theorem mapsR_cell {ids : List Nat} {n : Nat} (h : ids.length < n) : (mapsR ids n)[ids.length]? = some [.nul (.map none)] := by
  rw [mapsR, List.getElem?_append_right (by simp)]
  have : 0 < n - ids.length := by omega
  simp [this]
theorem mapsR_set {ids : List Nat} {n : Nat} (h : ids.length < n) (k : Nat) : (mapsR ids n).set ids.length [.mp k] = mapsR (ids ++ [k]) n := by
  rw [mapsR, List.set_append_right _ _ (by simp), mapsR]
  obtain ⟨m, hm⟩ : ∃ m, n - ids.length = m + 1 := ⟨n - ids.length - 1, by omega⟩
  have : n - (ids ++ [k]).length = m := by simp; omega
  rw [this, hm]
  simp [List.replicate_succ]

end Go.Proofs.Ytonhbeapffiibaa

