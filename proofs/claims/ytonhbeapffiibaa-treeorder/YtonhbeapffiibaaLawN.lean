/-
  Chapter 16: the names after a step: the plain laws.
-/
import Derived.Test.YtonhbeapffiibaaLawP
import Derived.Test.YtonhbeapffiibaaValP
namespace Go.Proofs.Ytonhbeapffiibaa
open Go.HL

theorem place_some {l : List Nd} {i : Nat} {n : Int} (hi : i < l.length) (hn : (nth l i).name = n) (hd : ∀ j, j < i → (nth l j).name ≠ n) : place l n = i := by
  have : l.findIdx? (fun x => decide (x.name = n)) = some i := by
    rw [List.findIdx?_eq_some_iff_getElem]
    refine ⟨hi, by rw [nth_eq hi] at hn; simpa using hn, fun j hj => ?_⟩
    have := hd j hj
    rw [nth_eq (by omega)] at this
    simp [this]
  simp [place, this]
theorem place_none {l : List Nd} {n : Int} (hd : ∀ j, j < l.length → (nth l j).name ≠ n) : place l n = -1 := by
  have : l.findIdx? (fun x => decide (x.name = n)) = none := by
    rw [List.findIdx?_eq_none_iff]
    intro x hx
    obtain ⟨j, hj, rfl⟩ := List.getElem_of_mem hx
    have := hd j hj
    rw [nth_eq hj] at this
    simp [this]
  simp [place, this]
theorem place_ge {l : List Nd} {n : Int} : 0 ≤ place l n ↔ ∃ j, j < l.length ∧ (nth l j).name = n := by
  unfold place
  cases h : l.findIdx? (fun x => decide (x.name = n)) with
  | none =>
    rw [List.findIdx?_eq_none_iff] at h
    constructor
    · intro h; simp at h
    · rintro ⟨j, hj, e⟩
      have := h _ (nth_mem hj)
      simp [e] at this
  | some i =>
    rw [List.findIdx?_eq_some_iff_getElem] at h
    obtain ⟨hi, hp, _⟩ := h
    refine ⟨fun _ => ⟨i, hi, by rw [nth_eq hi]; simpa using hp⟩, fun _ => by simp⟩

theorem keptI_prefix (F : List An) (i : Nat) : ∀ m, i ≤ m → ∃ r, keptI F m = keptI F i ++ r ∧ ∀ x ∈ r, i ≤ x
  | 0, h => by
    obtain rfl : i = 0 := by omega
    exact ⟨[], by simp, by simp⟩
  | m + 1, h => by
    by_cases e : i = m + 1
    · subst e; exact ⟨[], by simp, by simp⟩
    · obtain ⟨r, h1, h2⟩ := keptI_prefix F i m (by omega)
      rw [keptI_succ, h1]
      refine ⟨r ++ _, by rw [List.append_assoc], fun x hx => ?_⟩
      rcases List.mem_append.1 hx with hx | hx
      · exact h2 x hx
      · split at hx
        · cases hx
        · simp at hx; omega

/-- Where a node that is kept stands: behind all that are kept before it. -/
theorem keptI_at {F : List An} {i m : Nat} (hi : i < m) (hg : (nth F i).gone = false) : (keptI F i).length < (keptI F m).length ∧ nth (keptI F m) (keptI F i).length = i := by
  obtain ⟨r, h1, _⟩ := keptI_prefix F (i + 1) m (by omega)
  have h2 : keptI F (i + 1) = keptI F i ++ [i] := by rw [keptI_succ, hg]; rfl
  rw [h1, h2]
  refine ⟨by simp, ?_⟩
  rw [nth_left (by simp), nth_last rfl]

theorem keptI_lt {F : List An} {i m k : Nat} (hi : i ≤ m) (hk : k < (keptI F m).length) : nth (keptI F m) k < i ↔ k < (keptI F i).length := by
  obtain ⟨r, h1, h2⟩ := keptI_prefix F i m hi
  rw [h1] at hk ⊢
  by_cases h : k < (keptI F i).length
  · rw [nth_left h]
    exact ⟨fun _ => h, fun _ => (mem_keptI.1 (nth_mem h)).1⟩
  · refine ⟨fun hl => ?_, fun hl => absurd hl h⟩
    exfalso
    rw [nth_eq hk, List.getElem_append_right (by omega)] at hl
    have := h2 _ (List.getElem_mem (by simp at hk; omega : k - (keptI F i).length < r.length))
    omega

theorem out_len {b : Bu} {t : List Nd} {a : Int} : (outS b t a).length = (keptS b t a).length := by rw [outS, List.length_map]
theorem out_nth {b : Bu} {t : List Nd} {a : Int} {k : Nat} (hk : k < (keptS b t a).length) : nth (outS b t a) k = ⟨(nth (namedS b t a) (nth (keptS b t a) k)).name, parS (keptS b t a) (namedS b t a) (nth (keptS b t a) k), elems b (nth (namedS b t a) (nth (keptS b t a) k)).st⟩ := by
  rw [nth_eq (by rw [out_len]; exact hk)]
  simp only [outS, List.getElem_map]
  rw [nth_eq hk]

theorem flashed_length {b : Bu} {t : List Nd} {a : Int} : (flashed b t a).length = 2 * t.length := by unfold flashed; rw [flashTo_length, trimTo_length, grown_length]

theorem flashed_new {b : Bu} {t : List Nd} {a : Int} {j : Nat} (hj : t.length ≤ j) (hj2 : j < 2 * t.length) : (nth (flashed b t a) j).name = 0 := by
  unfold flashed
  rw [(flashTo_same b _ _ j (by rw [trimTo_length, grown_length]; omega)).2.1, (trimTo_up _ _ j (by rw [grown_length]; omega)).2.1]
  obtain ⟨k, rfl⟩ : ∃ k, j = t.length + k := ⟨j - t.length, by omega⟩
  rw [grown_new (by omega)]

/-- A node with a name keeps it. -/
theorem nameTo_old {used : Int → Bool} {M : Nat} {A : List An} {I : List Nat} {j : Nat} (hj : j < A.length) (hn : 0 < (nth A j).name) : ∀ k, k ≤ I.length → (nth (nameTo used M A I k).1 j).name = (nth A j).name
  | 0, _ => by simp [nameTo]
  | k + 1, h => by
    have ih := nameTo_old (used := used) (M := M) (I := I) hj hn k (by omega)
    rw [nameTo_succ used M A I (by omega)]
    unfold nameStep
    split
    · exact ih
    · rename_i h0
      simp only
      rw [nth_set (by rw [nameTo_length used M A I k (by omega)]; exact hj)]
      split
      · rename_i e; rw [e, ih] at h0; exact absurd hn h0
      · exact ih

/-- A node whose turn has not come keeps what it has. -/
theorem nameTo_wait {used : Int → Bool} {M : Nat} {A : List An} {I : List Nat} {j : Nat} (hj : j < A.length) : ∀ k, k ≤ I.length → (∀ p, p < k → nth I p ≠ j) → (nth (nameTo used M A I k).1 j).name = (nth A j).name
  | 0, _, _ => by simp [nameTo]
  | k + 1, h, hp => by
    have ih := nameTo_wait (used := used) (M := M) (I := I) hj k (by omega) (fun p hpk => hp p (by omega))
    rw [nameTo_succ used M A I (by omega)]
    unfold nameStep
    split
    · exact ih
    · simp only
      rw [nth_set (by rw [nameTo_length used M A I k (by omega)]; exact hj), if_neg (hp k (by omega))]
      exact ih

theorem free_below {used : Int → Bool} : ∀ (k : Nat) (n u : Int), n ≤ u → u < free used k n → used u = true
  | 0, n, u, h1, h2 => by simp [free] at h2; omega
  | k + 1, n, u, h1, h2 => by
    rw [free] at h2
    split at h2
    · rename_i hu
      by_cases e : u = n
      · rw [e]; exact hu
      · exact free_below k (n + 1) u (by omega) h2
    · omega

/-- The new names: free, rising, and none is left out. -/
theorem nameTo_new {used : Int → Bool} {M : Nat} (hM : ∀ x, used x = true → x ≤ M) {A : List An} {I : List Nat} (hI : I.Pairwise (· < ·)) (hA : ∀ i ∈ I, i < A.length) : ∀ k, k ≤ I.length →
    (∀ p, p < k → (nth A (nth I p)).name ≤ 0 → used (nth (nameTo used M A I k).1 (nth I p)).name = false ∧ 1 ≤ (nth (nameTo used M A I k).1 (nth I p)).name ∧ (nth (nameTo used M A I k).1 (nth I p)).name < (nameTo used M A I k).2 ∧
      ∀ p', p' < p → (nth A (nth I p')).name ≤ 0 → (nth (nameTo used M A I k).1 (nth I p')).name < (nth (nameTo used M A I k).1 (nth I p)).name) ∧
    ∀ u, 1 ≤ u → u < (nameTo used M A I k).2 → used u = true ∨ ∃ p, p < k ∧ (nth A (nth I p)).name ≤ 0 ∧ (nth (nameTo used M A I k).1 (nth I p)).name = u
  | 0, _ => ⟨fun p hp => by omega, fun u h1 h2 => by simp [nameTo] at h2; omega⟩
  | k + 1, hk => by
    obtain ⟨ih1, ih2⟩ := nameTo_new hM hI hA k (by omega)
    have hIk := hA _ (nth_mem (l := I) (k := k) (by omega))
    have hne : ∀ p, p < k → nth I p ≠ nth I k := fun p hp => by
      rw [nth_eq (by omega), nth_eq (by omega)]
      have := List.pairwise_iff_getElem.1 hI p k (by omega) (by omega) hp
      omega
    have hw := nameTo_wait (used := used) (M := M) hIk k (by omega) hne
    have hnx := (nameTo_next hM A I k (by omega)).1
    rw [nameTo_succ used M A I (by omega)]
    unfold nameStep
    rw [hw]
    split
    · rename_i h0
      refine ⟨fun p hp hn => ?_, fun u h1 h2 => ?_⟩
      · have hpk : p < k := by
          by_cases e : p = k
          · subst e; omega
          · omega
        exact ih1 p hpk hn
      · rcases ih2 u h1 h2 with h | ⟨p, hp, h⟩
        · exact .inl h
        · exact .inr ⟨p, by omega, h⟩
    · rename_i h0
      have hlen := nameTo_length used M A I k (by omega)
      have hge := free_ge used (M + 1) (nameTo used M A I k).2
      have hst := free_stop hM (M + 1) (nameTo used M A I k).2 (by omega)
      have hself : (nth ((nameTo used M A I k).1.set (nth I k) { nth (nameTo used M A I k).1 (nth I k) with name := free used (M + 1) (nameTo used M A I k).2 }) (nth I k)).name = free used (M + 1) (nameTo used M A I k).2 := by
        rw [nth_set (by rw [hlen]; exact hIk), if_pos rfl]
      have hoth : ∀ p, p < k → (nth ((nameTo used M A I k).1.set (nth I k) { nth (nameTo used M A I k).1 (nth I k) with name := free used (M + 1) (nameTo used M A I k).2 }) (nth I p)).name = (nth (nameTo used M A I k).1 (nth I p)).name := fun p hp => by
        rw [nth_set (by rw [hlen]; exact hA _ (nth_mem (by omega))), if_neg (fun e => hne p hp e.symm)]
      simp only at hself hoth ⊢
      refine ⟨fun p hp hn => ?_, fun u h1 h2 => ?_⟩
      · by_cases e : p = k
        · subst e
          rw [hself]
          refine ⟨hst, by omega, by omega, fun p' hp' hn' => ?_⟩
          rw [hoth p' hp']
          have := (ih1 p' hp' hn').2.2.1
          omega
        · obtain ⟨q1, q2, q3, q4⟩ := ih1 p (by omega) hn
          rw [hoth p (by omega)]
          refine ⟨q1, q2, by omega, fun p' hp' hn' => ?_⟩
          rw [hoth p' (by omega)]
          exact q4 p' hp' hn'
      · by_cases e : u < (nameTo used M A I k).2
        · rcases ih2 u h1 e with h | ⟨p, hp, h, h'⟩
          · exact .inl h
          · exact .inr ⟨p, by omega, h, by rw [hoth p hp]; exact h'⟩
        · by_cases e2 : u = free used (M + 1) (nameTo used M A I k).2
          · exact .inr ⟨k, by omega, by omega, by rw [hself, e2]⟩
          · exact .inl (free_below (M + 1) (nameTo used M A I k).2 u (by omega) (by omega))

theorem used_iff {t : List Nd} {n : Int} : usedP t n = true ↔ ∃ j, j < t.length ∧ (nth t j).name = n := by
  simp only [usedP, memP, List.contains_iff_mem, List.mem_map]
  constructor
  · rintro ⟨x, hx, e⟩
    obtain ⟨k, hk, rfl⟩ := List.getElem_of_mem hx
    exact ⟨k, hk, by rw [nth_eq hk]; exact e⟩
  · rintro ⟨k, hk, e⟩
    exact ⟨_, nth_mem hk, e⟩

section
variable {b : Bu} {t : List Nd} {a : Int}

theorem valid_name (hv : validT b t = true) {j : Nat} (hj : j < t.length) : 1 ≤ (nth t j).name ∧ (nth t j).name ≤ 2 * b.next.length := by
  have := (of_valid hv hj).1
  unfold okH at this
  omega
theorem valid_diff (hv : validT b t = true) {i j : Nat} (hi : i < t.length) (hj : j < t.length) (e : (nth t i).name = (nth t j).name) : i = j := by
  rcases Nat.lt_trichotomy i j with h | h | h
  · exact absurd e (okP_iff.1 ((of_valid hv hj).2.2.1 i h)).1
  · exact h
  · exact absurd e.symm (okP_iff.1 ((of_valid hv hi).2.2.1 j h)).1

theorem used_le (hv : validT b t = true) : ∀ x, usedP t x = true → x ≤ ((2 * b.next.length : Nat) : Int) := fun x hx => by
  obtain ⟨j, hj, rfl⟩ := used_iff.1 hx
  have := valid_name hv hj
  omega

theorem keptS_sorted : (keptS b t a).Pairwise (· < ·) := keptI_sorted _ _
theorem keptS_lt {i : Nat} (h : i ∈ keptS b t a) : i < 2 * t.length := (mem_keptI.1 h).1

theorem named_old (hv : validT b t = true) {j : Nat} (hj : j < t.length) : (nth (namedS b t a) j).name = (nth t j).name := by
  have h1 := flashed_name (b := b) (a := a) hj
  have h2 := valid_name hv hj
  rw [namedS, nameTo_old (by rw [flashed_length]; omega) (by omega) _ (Nat.le_refl _), h1]

theorem named_new (hv : validT b t = true) {k : Nat} (hk : k < (keptS b t a).length) (hn : t.length ≤ nth (keptS b t a) k) : usedP t (nth (namedS b t a) (nth (keptS b t a) k)).name = false ∧ 1 ≤ (nth (namedS b t a) (nth (keptS b t a) k)).name := by
  have h := (nameTo_new (used := usedP t) (M := 2 * b.next.length) (used_le hv) (A := flashed b t a) (I := keptS b t a) keptS_sorted (fun i hi => by rw [flashed_length]; exact keptS_lt hi) _ (Nat.le_refl _)).1 k hk (by
    rw [flashed_new hn (keptS_lt (nth_mem hk))]; omega)
  exact ⟨h.1, h.2.1⟩

/-- Where a node of the tree stands in the next one. -/
theorem place_out (hv : validT b t = true) {i : Nat} (hi : i < t.length) : place (outS b t a) (nth t i).name = if (nth (flashed b t a) i).gone then -1 else ((keptI (flashed b t a) i).length : Int) := by
  have hdiff : ∀ k, k < (keptS b t a).length → nth (keptS b t a) k ≠ i → (nth (outS b t a) k).name ≠ (nth t i).name := fun k hk hne e => by
    rw [out_nth hk] at e
    simp only at e
    by_cases h : nth (keptS b t a) k < t.length
    · rw [named_old hv h] at e
      exact hne (valid_diff hv h hi e)
    · have := (named_new hv hk (by omega)).1
      rw [used_iff.2 ⟨i, hi, e.symm⟩] at this
      cases this
  cases hg : (nth (flashed b t a) i).gone with
  | true =>
    rw [if_pos rfl]
    refine place_none fun j hj => ?_
    rw [out_len] at hj
    refine hdiff j hj fun e => ?_
    have := (mem_keptI.1 (nth_mem hj)).2
    rw [show nth (keptI (flashed b t a) (2 * t.length)) j = i from e, hg] at this
    cases this
  | false =>
    obtain ⟨h1, h2⟩ := keptI_at (F := flashed b t a) (m := 2 * t.length) (show i < 2 * t.length by omega) hg
    rw [if_neg (by simp)]
    refine place_some (by rw [out_len]; exact h1) ?_ fun j hj => hdiff j (by unfold keptS; omega) fun e => ?_
    · rw [out_nth h1]
      simp only
      have : nth (keptS b t a) (keptI (flashed b t a) i).length = i := h2
      rw [this, named_old hv hi]
    · have h3 : nth (keptI (flashed b t a) (2 * t.length)) j = nth (keptI (flashed b t a) (2 * t.length)) (keptI (flashed b t a) i).length := by rw [h2]; exact e
      rw [nth_eq (by omega), nth_eq h1] at h3
      have := List.pairwise_iff_getElem.1 (keptI_sorted (flashed b t a) (2 * t.length)) j _ (by omega) h1 hj
      omega

theorem bad_iff (hv : validT b t = true) {i : Nat} (hi : i < t.length) : (evS b t a).bad.contains (nth t i).name = (nth (flashed b t a) i).gone := by
  rw [Bool.eq_iff_iff, List.contains_iff_mem, mem_bad]
  constructor
  · rintro ⟨j, hj, hg, hn⟩
    rw [flashed_name hj] at hn
    obtain rfl := valid_diff hv hj hi hn
    exact hg
  · intro hg
    exact ⟨i, hi, hg, flashed_name hi⟩

theorem new_out (hv : validT b t = true) {k : Nat} (hk : k < (keptS b t a).length) (hp : place t (nth (outS b t a) k).name < 0) : t.length ≤ nth (keptS b t a) k ∧ (keptI (flashed b t a) t.length).length ≤ k := by
  have h1 : ¬ nth (keptS b t a) k < t.length := fun h => by
    have : 0 ≤ place t (nth (outS b t a) k).name := place_ge.2 ⟨_, h, by rw [out_nth hk]; exact (named_old hv h).symm⟩
    omega
  refine ⟨by omega, ?_⟩
  have := (keptI_lt (F := flashed b t a) (i := t.length) (m := 2 * t.length) (k := k) (by omega) hk).2
  exact Nat.le_of_not_lt fun h => h1 (this h)

/-- A new node is never full. -/
theorem goodAt_old (hv : validT b t = true) {j : Nat} (hj : j < 2 * t.length) (hg : goodAt b (flashTo b (trimTo (grown b t a) (2 * t.length)) j) j = true) : j < t.length := by
  have hl : (trimTo (grown b t a) (2 * t.length)).length = 2 * t.length := by rw [trimTo_length, grown_length]
  have hgl := grown_length b t a
  simp only [goodAt, Bool.and_eq_true, Bool.not_eq_true', decide_eq_true_eq] at hg
  obtain ⟨h1, h2⟩ := hg
  have h3 : cnt b (nth (flashTo b (trimTo (grown b t a) (2 * t.length)) j) j).st ≠ 0 := by
    unfold goneAt at h1
    simp only [Bool.or_eq_false_iff, decide_eq_false_iff_not] at h1
    exact h1.2
  have h4 : cnt b (nth (flashTo b (trimTo (grown b t a) (2 * t.length)) j) j).ch ≠ 0 := by omega
  rw [(flashTo_same b _ j j (by omega)).2.2.2] at h4
  have h5 : ∃ q, (nth (trimTo (grown b t a) (2 * t.length)) j).ch q = true := by
    unfold cnt at h4
    cases he : elems b (nth (trimTo (grown b t a) (2 * t.length)) j).ch with
    | nil => rw [he] at h4; exact absurd rfl h4
    | cons q l =>
      have : q ∈ elems b (nth (trimTo (grown b t a) (2 * t.length)) j).ch := by rw [he]; simp
      exact ⟨q, (List.mem_filter.1 this).2⟩
  obtain ⟨q, hq⟩ := h5
  obtain ⟨i, hi, hi0, hip, _⟩ := trimTo_ch (A := grown b t a) (fun j hj => (grown_up hv j (by omega)).1) (fun j hj => by
    by_cases h : j < t.length
    · rw [grown_old h]
    · obtain ⟨k, rfl⟩ : ∃ k, j = t.length + k := ⟨j - t.length, by omega⟩
      rw [grown_new (by omega)]) q (2 * t.length) (by omega) j (by omega) hq
  by_cases h : i < t.length
  · have := (grown_up (a := a) hv i (by omega)).1
    omega
  · obtain ⟨k, rfl⟩ : ∃ k, i = t.length + k := ⟨i - t.length, by omega⟩
    rw [grown_new (by omega)] at hip
    simp only at hip
    omega

theorem trimmed_name {j : Nat} (hj : j < t.length) : (nth (trimTo (grown b t a) (2 * t.length)) j).name = (nth t j).name := by
  rw [(trimTo_up _ _ j (by rw [grown_length]; omega)).2.1, grown_old hj]

theorem good_iff (hv : validT b t = true) {n : Int} : n ∈ (evS b t a).good ↔ ∃ j, j < t.length ∧ goodAt b (flashTo b (trimTo (grown b t a) (2 * t.length)) j) j = true ∧ (nth t j).name = n := by
  rw [mem_good]
  constructor
  · rintro ⟨j, h1, h2, h3⟩
    have hj := goodAt_old hv h1 h2
    exact ⟨j, hj, h2, by rw [← trimmed_name hj]; exact h3⟩
  · rintro ⟨j, h1, h2, h3⟩
    exact ⟨j, by omega, h2, by rw [trimmed_name h1]; exact h3⟩

theorem good_place (hv : validT b t = true) {n : Int} (hn : n ∈ (evS b t a).good) : 0 ≤ place t n ∧ 0 ≤ place (outS b t a) n := by
  obtain ⟨j, hj, hg, rfl⟩ := (good_iff hv).1 hn
  refine ⟨place_ge.2 ⟨j, hj, rfl⟩, ?_⟩
  rw [place_out hv hj]
  have := (mem_keptI.1 (goodAt_kept (a := a) (show j < 2 * t.length by omega) hg)).2
  rw [show (nth (flashed b t a) j).gone = false from this]
  simp

theorem bad_place {n : Int} (hn : n ∈ (evS b t a).bad) : 0 ≤ place t n := by
  obtain ⟨j, hj, _, hg⟩ := mem_bad.1 hn
  exact place_ge.2 ⟨j, hj, by rw [← hg, flashed_name hj]⟩

theorem sortI_up {l : List Int} (hd : l.Nodup) : (sortI l).Pairwise (· < ·) := by
  have h1 := List.pairwise_mergeSort (le := fun x y : Int => decide (x ≤ y)) (fun a b c => by simp; omega) (fun a b => by simp; omega) l
  have h2 : (l.mergeSort fun x y => decide (x ≤ y)).Nodup := (List.mergeSort_perm l _).nodup_iff.2 hd
  refine (h1.and h2).imp fun {a b} h => ?_
  have := h.1; simp at this
  have := h.2; omega

theorem goodsTo_nodup {A : List An} (hd : ∀ i j, i < j → goodAt b (flashTo b A i) i = true → goodAt b (flashTo b A j) j = true → j < A.length → (nth A i).name ≠ (nth A j).name) : ∀ i, i ≤ A.length → (goodsTo b A i).Nodup
  | 0, _ => by simp [goodsTo]
  | i + 1, hi => by
    rw [goodsTo, List.nodup_append]
    refine ⟨goodsTo_nodup hd i (by omega), by split <;> simp, fun x hx y hy e => ?_⟩
    split at hy
    · rename_i hg
      obtain ⟨j, hj, hg', hn⟩ := mem_goodsTo.1 hx
      simp at hy
      exact hd j i hj hg' hg (by omega) (by omega)
    · cases hy

theorem badsTo_nodup {F : List An} (n : Nat) (hd : ∀ i j, i < j → j < n → (nth F i).name ≠ (nth F j).name) : ∀ i, i ≤ n → (badsTo F i).Nodup
  | 0, _ => by simp [badsTo]
  | i + 1, hi => by
    rw [badsTo, List.nodup_append]
    refine ⟨badsTo_nodup n hd i (by omega), by split <;> simp, fun x hx y hy e => ?_⟩
    split at hy
    · obtain ⟨j, hj, _, hn⟩ := mem_badsTo.1 hx
      simp at hy
      exact hd j i hj (by omega) (by omega)
    · cases hy

theorem good_up (hv : validT b t = true) : (evS b t a).good.Pairwise (· < ·) := by
  refine sortI_up (goodsTo_nodup (fun i j hij gi gj hj e => ?_) _ (by rw [trimTo_length, grown_length]; omega))
  rw [trimTo_length, grown_length] at hj
  have h1 := goodAt_old hv (by omega) gi
  have h2 := goodAt_old hv (by omega) gj
  rw [trimmed_name h1, trimmed_name h2] at e
  have := valid_diff hv h1 h2 e
  omega

theorem bad_up (hv : validT b t = true) : (evS b t a).bad.Pairwise (· < ·) := by
  refine sortI_up (badsTo_nodup t.length (fun i j hij hj e => ?_) _ (Nat.le_refl _))
  rw [flashed_name (by omega), flashed_name hj] at e
  have := valid_diff hv (by omega) hj e
  omega

theorem new_quiet (hv : validT b t = true) {n : Int} (hn : place t n < 0) : (evS b t a).good.contains n = false ∧ (evS b t a).bad.contains n = false := by
  constructor
  · rw [Bool.eq_false_iff]
    intro h
    have := (good_place hv (List.contains_iff_mem.1 h)).1
    omega
  · rw [Bool.eq_false_iff]
    intro h
    have := bad_place (List.contains_iff_mem.1 h)
    omega

end

end Go.Proofs.Ytonhbeapffiibaa
