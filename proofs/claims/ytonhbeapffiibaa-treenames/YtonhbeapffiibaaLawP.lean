/-
  Chapter 16: the plain laws of the abstract step: the first node.
-/
import Derived.Test.YtonhbeapffiibaaLawB
namespace Go.Proofs.Ytonhbeapffiibaa
open Go.HL

theorem trimTo_root {A : List An} (h0 : 0 < A.length) (hup : (nth A 0).up < 0) : ∀ i, i ≤ A.length → (nth (trimTo A i) 0).st = (nth A 0).st
  | 0, _ => rfl
  | i + 1, hi => by
    have ih := trimTo_root h0 hup i (by omega)
    have hl : 0 < (trimTo A i).length := by rw [trimTo_length]; exact h0
    have hu := (trimTo_up A i 0 h0).1
    rw [trimTo, trimStep]
    split
    · exact ih
    · rename_i hn
      simp only
      rw [nth_set (by simpa using hl)]
      split
      · rename_i e; rw [e]; exact ih
      · rw [nth_set hl]
        split
        · rename_i e
          subst e
          rw [hu] at hn
          exact absurd hup hn
        · exact ih

/-- What flash says of a node is told when its turn comes. -/
theorem flashTo_gone {b : Bu} {A : List An} : ∀ {i : Nat}, i ≤ A.length → ∀ j, j < i → (nth (flashTo b A i) j).gone = goneAt b (flashTo b A j) j
  | 0, _, j, hj => by omega
  | i + 1, hi, j, hj => by
    rw [flashTo, flashStep, nth_set (by rw [flashTo_length]; omega)]
    split
    · rename_i e; subst e; rfl
    · exact flashTo_gone (by omega) j (by omega)

theorem flashTo_root {b : Bu} {A : List An} (hup : (nth A 0).up < 0) {n : Nat} (hn : n ≤ A.length) (h1 : 0 < n) : (nth (flashTo b A n) 0).gone = decide (cnt b (nth A 0).st = 0) := by
  rw [flashTo_gone hn 0 h1]
  show goneAt b A 0 = _
  have hd : decide (0 ≤ (nth A 0).up) = false := decide_eq_false (by omega)
  simp only [goneAt, hd, Bool.false_and, Bool.false_or]

/-- If the first node is gone then all are. -/
theorem flashTo_all {b : Bu} {A : List An} (hup : ∀ j, j < A.length → (nth A j).up < j) (hpos : ∀ j, 0 < j → j < A.length → 0 ≤ (nth A j).up) {n : Nat} (hn : n ≤ A.length) (hg : (nth (flashTo b A n) 0).gone = true) : ∀ j, j < n → (nth (flashTo b A n) j).gone = true := by
  intro j
  induction j using Nat.strongRecOn with
  | ind j ih =>
    intro hj
    rcases Nat.eq_zero_or_pos j with rfl | hj0
    · exact hg
    have hu := hup j (by omega)
    have hp := hpos j hj0 (by omega)
    have hpar := ih (nth A j).up.toNat (by omega) (by omega)
    have e1 := flashTo_gone (b := b) hn (nth A j).up.toNat (by omega)
    have e2 := flashTo_gone (b := b) (A := A) (i := j) (by omega) (nth A j).up.toNat (by omega)
    rw [flashTo_gone hn j hj, goneAt]
    rw [(flashTo_same b A j j (by omega)).1]
    rw [e2, ← e1, hpar]
    simp [hp]

/-- A node of a tree: the first has no node above it, each other one stands after the one above it. -/
theorem valid_up {b : Bu} {t : List Nd} (hv : validT b t = true) (j : Nat) (hj : j < t.length) : (nth t j).par < j ∧ (0 < j → 0 ≤ (nth t j).par) ∧ (j = 0 → (nth t j).par = -1) := by
  have h := (okN_nth.1 ((validT_iff.1 hv).2.2 j hj)).1
  unfold okH at h
  obtain ⟨_, _, _, h4, h5, h6⟩ := h
  refine ⟨h5, fun hj0 => ?_, fun e => h4.1 (by omega)⟩
  by_cases hm : (nth t j).par = -1
  · have := h4.2 hm; omega
  · omega

theorem grown_up {b : Bu} {t : List Nd} {a : Int} (hv : validT b t = true) (j : Nat) (hj : j < 2 * t.length) : (nth (grown b t a) j).up < j ∧ (0 < j → 0 ≤ (nth (grown b t a) j).up) ∧ (j = 0 → (nth (grown b t a) j).up < 0) := by
  by_cases hjt : j < t.length
  · rw [grown_old hjt]
    have := valid_up hv j hjt
    refine ⟨this.1, this.2.1, fun e => ?_⟩
    have := this.2.2 e
    simp only; omega
  · obtain ⟨k, rfl⟩ : ∃ k, j = t.length + k := ⟨j - t.length, by omega⟩
    rw [grown_new (by omega)]
    simp only
    refine ⟨by omega, fun _ => by omega, fun e => by omega⟩

/-- No node is left exactly if no state is reached from the first node's set. -/
theorem keptS_nil {b : Bu} {t : List Nd} {a : Int} (hv : validT b t = true) (h0 : 0 < t.length) : keptS b t a = [] ↔ cnt b (hits b (nth t 0).set a false) = 0 := by
  have hl : (trimTo (grown b t a) (2 * t.length)).length = 2 * t.length := by rw [trimTo_length, grown_length]
  have hu : ∀ j, j < 2 * t.length → (nth (trimTo (grown b t a) (2 * t.length)) j).up = (nth (grown b t a) j).up := fun j hj => (trimTo_up _ _ j (by rw [grown_length]; exact hj)).1
  have hroot : (nth (flashed b t a) 0).gone = decide (cnt b (hits b (nth t 0).set a false) = 0) := by
    unfold flashed
    rw [flashTo_root (by rw [hu 0 (by omega)]; exact (grown_up hv 0 (by omega)).2.2 rfl) (by omega) (by omega)]
    rw [trimTo_root (by rw [grown_length]; omega) ((grown_up hv 0 (by omega)).2.2 rfl) _ (by rw [grown_length]; omega), grown_old h0]
  constructor
  · intro h
    have : ¬ 0 ∈ keptS b t a := by rw [h]; simp
    rw [keptS, mem_keptI] at this
    have hg : (nth (flashed b t a) 0).gone = true := by
      cases hx : (nth (flashed b t a) 0).gone
      · exact absurd ⟨by omega, hx⟩ this
      · rfl
    rw [hroot] at hg
    exact of_decide_eq_true hg
  · intro h
    have hg : (nth (flashed b t a) 0).gone = true := by rw [hroot]; exact decide_eq_true h
    refine List.eq_nil_iff_forall_not_mem.2 fun i hi => ?_
    rw [keptS, mem_keptI] at hi
    have := flashTo_all (b := b) (A := trimTo (grown b t a) (2 * t.length)) (n := 2 * t.length) (fun j hj => by rw [hu j (by omega)]; exact (grown_up hv j (by omega)).1) (fun j hj0 hj => by rw [hu j (by omega)]; exact (grown_up hv j (by omega)).2.1 hj0) (by omega) hg i hi.1
    have h2 := hi.2
    unfold flashed at h2
    rw [this] at h2
    cases h2

theorem root_gone {b : Bu} {t : List Nd} {a : Int} (hv : validT b t = true) (h0 : 0 < t.length) : (nth (flashed b t a) 0).gone = decide (cnt b (hits b (nth t 0).set a false) = 0) ∧ (nth (flashed b t a) 0).st = hits b (nth t 0).set a false := by
  have hl : (trimTo (grown b t a) (2 * t.length)).length = 2 * t.length := by rw [trimTo_length, grown_length]
  have hu : (nth (trimTo (grown b t a) (2 * t.length)) 0).up < 0 := by
    rw [(trimTo_up _ _ 0 (by rw [grown_length]; omega)).1]
    exact (grown_up hv 0 (by omega)).2.2 rfl
  have hst : (nth (trimTo (grown b t a) (2 * t.length)) 0).st = hits b (nth t 0).set a false := by
    rw [trimTo_root (by rw [grown_length]; omega) ((grown_up hv 0 (by omega)).2.2 rfl) _ (by rw [grown_length]; omega), grown_old h0]
  unfold flashed
  rw [flashTo_root hu (by omega) (by omega), (flashTo_same b _ _ 0 (by omega)).2.2.1, hst]
  exact ⟨rfl, rfl⟩

/-- The set of the first node is that of the states reached. -/
theorem outS_root {b : Bu} {t : List Nd} {a : Int} (hv : validT b t = true) (h0 : 0 < t.length) (hc : cnt b (hits b (nth t 0).set a false) ≠ 0) : 0 < (outS b t a).length ∧ (nth (outS b t a) 0).set = reach b (nth t 0).set a false := by
  obtain ⟨r1, r2⟩ := root_gone (a := a) hv h0
  rw [decide_eq_false hc] at r1
  have hfl : (flashed b t a).length = 2 * t.length := by unfold flashed; rw [flashTo_length, trimTo_length, grown_length]
  obtain ⟨m, hm⟩ : ∃ m, 2 * t.length = m + 1 := ⟨2 * t.length - 1, by omega⟩
  have hk : keptS b t a = 0 :: ((List.range m).map Nat.succ).filter fun i => !(nth (flashed b t a) i).gone := by
    rw [keptS, keptI, hm, List.range_succ_eq_map, List.filter_cons, r1]
    rfl
  have hlen : (outS b t a).length = (keptS b t a).length := by rw [outS, List.length_map]
  have hl2 : 0 < (keptS b t a).length := by rw [hk]; simp
  refine ⟨by omega, ?_⟩
  rw [nth_eq (by omega)]
  simp only [outS, List.getElem_map]
  have e0 : (keptS b t a)[0] = 0 := by simp only [hk, List.getElem_cons_zero]
  rw [e0]
  have := (nameTo_same (usedP t) (2 * b.next.length) (flashed b t a) (keptS b t a) _ (Nat.le_refl _) 0 (by omega)).2.1
  rw [namedS, this, r2]
  rfl

theorem mem_badsTo {F : List An} {n : Int} : ∀ {i : Nat}, n ∈ badsTo F i ↔ ∃ j, j < i ∧ (nth F j).gone = true ∧ (nth F j).name = n
  | 0 => by simp [badsTo]
  | i + 1 => by
    rw [badsTo, List.mem_append, mem_badsTo]
    constructor
    · rintro (⟨j, h1, h2⟩ | h)
      · exact ⟨j, by omega, h2⟩
      · split at h
        · rename_i hg
          exact ⟨i, by omega, hg, by simpa using (List.mem_singleton.1 h).symm⟩
        · cases h
    · rintro ⟨j, h1, h2, h3⟩
      by_cases e : j = i
      · subst e
        rw [if_pos h2]
        exact .inr (List.mem_singleton.2 h3.symm)
      · exact .inl ⟨j, by omega, h2, h3⟩

theorem mem_goodsTo {b : Bu} {A : List An} {n : Int} : ∀ {i : Nat}, n ∈ goodsTo b A i ↔ ∃ j, j < i ∧ goodAt b (flashTo b A j) j = true ∧ (nth A j).name = n
  | 0 => by simp [goodsTo]
  | i + 1 => by
    rw [goodsTo, List.mem_append, mem_goodsTo]
    constructor
    · rintro (⟨j, h1, h2⟩ | h)
      · exact ⟨j, by omega, h2⟩
      · split at h
        · rename_i hg
          exact ⟨i, by omega, hg, by simpa using (List.mem_singleton.1 h).symm⟩
        · cases h
    · rintro ⟨j, h1, h2, h3⟩
      by_cases e : j = i
      · subst e
        rw [if_pos h2]
        exact .inr (List.mem_singleton.2 h3.symm)
      · exact .inl ⟨j, by omega, h2, h3⟩

theorem mem_sortI {l : List Int} {n : Int} : n ∈ sortI l ↔ n ∈ l := by
  unfold sortI
  exact List.mem_mergeSort

/-- The bad names are those of the tree's nodes that are gone. -/
theorem mem_bad {b : Bu} {t : List Nd} {a n : Int} : n ∈ (evS b t a).bad ↔ ∃ j, j < t.length ∧ (nth (flashed b t a) j).gone = true ∧ (nth (flashed b t a) j).name = n := by
  rw [evS, mem_sortI, mem_badsTo]

/-- A node of the tree has its name before flash and after it. -/
theorem flashed_name {b : Bu} {t : List Nd} {a : Int} {j : Nat} (hj : j < t.length) : (nth (flashed b t a) j).name = (nth t j).name := by
  unfold flashed
  rw [(flashTo_same b _ _ j (by rw [trimTo_length, grown_length]; omega)).2.1, (trimTo_up _ _ j (by rw [grown_length]; omega)).2.1, grown_old hj]

/-- A good name is that of a node that stays. -/
theorem goodAt_kept {b : Bu} {t : List Nd} {a : Int} {j : Nat} (hj : j < 2 * t.length) (hg : goodAt b (flashTo b (trimTo (grown b t a) (2 * t.length)) j) j = true) : j ∈ keptS b t a := by
  rw [keptS, mem_keptI]
  refine ⟨hj, ?_⟩
  unfold flashed
  rw [flashTo_gone (by rw [trimTo_length, grown_length]; omega) j hj]
  simp only [goodAt, Bool.and_eq_true, Bool.not_eq_true'] at hg
  exact hg.1

theorem mem_good {b : Bu} {t : List Nd} {a n : Int} : n ∈ (evS b t a).good ↔ ∃ j, j < 2 * t.length ∧ goodAt b (flashTo b (trimTo (grown b t a) (2 * t.length)) j) j = true ∧ (nth (trimTo (grown b t a) (2 * t.length)) j).name = n := by
  rw [evS, mem_sortI, mem_goodsTo]

/-- The set of each node of the next tree: states reached from the set of the node that it was, or was added below. -/
theorem trimTo_sub {A : List An} (q : Int) : ∀ i, i ≤ A.length → ∀ j, j < A.length → (nth (trimTo A i) j).st q = true → (nth A j).st q = true
  | 0, _, _, _, h => h
  | i + 1, hi, j, hj, h => by
    have hl := trimTo_length A i
    have ih := trimTo_sub (A := A) q i (by omega)
    rw [trimTo, trimStep] at h
    split at h
    · exact ih j hj h
    · simp only at h
      rw [nth_set (by rw [List.length_set]; omega)] at h
      split at h
      · rename_i e
        rw [e] at h
        exact ih j hj h
      · rw [nth_set (by omega)] at h
        split at h
        · rename_i e
          subst e
          simp only [Bool.and_eq_true] at h
          exact ih _ hj h.1
        · exact ih j hj h

theorem trimStep_other {B : List An} {i j : Nat} (hj : j < B.length) (hne : j ≠ i) : (nth (trimStep B i) j).st = (nth B j).st := by
  unfold trimStep
  split
  · rfl
  · simp only
    rw [nth_set (by rw [List.length_set]; omega)]
    split
    · rename_i e; rw [e]
    · rw [nth_set hj, if_neg (by omega)]

theorem trimStep_self {B : List An} {i : Nat} (hi : i < B.length) (h0 : 0 ≤ (nth B i).up) (hne : (nth B i).up.toNat ≠ i) (q : Int) : (nth (trimStep B i) i).st q = ((nth B i).st q && ((nth B (nth B i).up.toNat).st q && !(nth B (nth B i).up.toNat).ch q)) := by
  unfold trimStep
  rw [if_neg (by omega)]
  simp only
  rw [nth_set (by rw [List.length_set]; omega), if_neg (by omega), nth_set hi, if_pos rfl]

/-- The set of a node lies within that of the node above it. -/
theorem trimTo_chain {A : List An} (hup : ∀ j, j < A.length → (nth A j).up < j) (q : Int) : ∀ i, i ≤ A.length → ∀ j, j < i → 0 ≤ (nth A j).up → (nth (trimTo A i) j).st q = true → (nth (trimTo A i) (nth A j).up.toNat).st q = true
  | 0, _, j, hj, _, _ => by omega
  | i + 1, hi, j, hj, h0, h => by
    have hl := trimTo_length A i
    have hu := hup j (by omega)
    rw [trimTo] at h ⊢
    rw [trimStep_other (by omega) (by omega)]
    by_cases e : j = i
    · subst e
      have hu2 := (trimTo_up A j j (by omega)).1
      rw [trimStep_self (by omega) (by rw [hu2]; exact h0) (by rw [hu2]; omega), hu2] at h
      simp only [Bool.and_eq_true] at h
      exact h.2.1
    · rw [trimStep_other (by omega) e] at h
      exact trimTo_chain hup q i (by omega) j (by omega) h0 h

theorem trimStep_ch {B : List An} {i j : Nat} (hj : j < B.length) {q : Int} (h : (nth B j).ch q = true) : (nth (trimStep B i) j).ch q = true := by
  unfold trimStep
  split
  · exact h
  · simp only
    rw [nth_set (by rw [List.length_set]; omega)]
    split
    · rename_i e
      subst e
      simp only [h, Bool.true_or]
    · rw [nth_set hj]
      split
      · rename_i e; subst e; exact h
      · exact h

theorem trimStep_chs {B : List An} {i : Nat} (hi : i < B.length) (h0 : 0 ≤ (nth B i).up) (hlt : (nth B i).up.toNat < i) {q : Int} (h : (nth (trimStep B i) i).st q = true) : (nth (trimStep B i) (nth B i).up.toNat).ch q = true := by
  rw [trimStep_self hi h0 (by omega)] at h
  unfold trimStep
  rw [if_neg (by omega)]
  simp only
  rw [nth_set (by rw [List.length_set]; omega), if_pos rfl]
  simp only [h, Bool.or_true]

theorem trimTo_chs {A : List An} (hup : ∀ j, j < A.length → (nth A j).up < j) (q : Int) : ∀ i, i ≤ A.length → ∀ j, j < i → 0 ≤ (nth A j).up → (nth (trimTo A i) j).st q = true → (nth (trimTo A i) (nth A j).up.toNat).ch q = true
  | 0, _, j, hj, _, _ => by omega
  | i + 1, hi, j, hj, h0, h => by
    have hl := trimTo_length A i
    have hu := hup j (by omega)
    rw [trimTo] at h ⊢
    by_cases e : j = i
    · subst e
      have hu2 := (trimTo_up A j j (by omega)).1
      rw [← hu2]
      exact trimStep_chs (by omega) (by rw [hu2]; exact h0) (by rw [hu2]; omega) h
    · rw [trimStep_other (by omega) e] at h
      exact trimStep_ch (by omega) (trimTo_chs hup q i (by omega) j (by omega) h0 h)

/-- Two nodes below the same one have no state in common. -/
theorem trimTo_apart {A : List An} (hup : ∀ j, j < A.length → (nth A j).up < j) (q : Int) : ∀ i, i ≤ A.length → ∀ j k, j < k → k < i → (nth A j).up = (nth A k).up → 0 ≤ (nth A k).up → (nth (trimTo A i) j).st q = true → (nth (trimTo A i) k).st q = true → False
  | 0, _, j, k, _, hk, _, _, _, _ => by omega
  | i + 1, hi, j, k, hjk, hk, he, h0, hj, hq => by
    have hl := trimTo_length A i
    have hu := hup k (by omega)
    rw [trimTo] at hj hq
    rw [trimStep_other (by omega) (by omega)] at hj
    by_cases e : k = i
    · subst e
      have hu2 := (trimTo_up A k k (by omega)).1
      rw [trimStep_self (by omega) (by rw [hu2]; exact h0) (by rw [hu2]; omega), hu2] at hq
      simp only [Bool.and_eq_true, Bool.not_eq_true'] at hq
      have := trimTo_chs hup q k (by omega) j hjk (by omega) hj
      rw [he] at this
      rw [this] at hq
      exact absurd hq.2.2 (by simp)
    · rw [trimStep_other (by omega) e] at hq
      exact trimTo_apart hup q i (by omega) j k hjk (by omega) he h0 hj hq

theorem trimStep_ch_inv {B : List An} {i j : Nat} (hi : i < B.length) (hlt : (nth B i).up < i) (hj : j < B.length) {q : Int} (h : (nth (trimStep B i) j).ch q = true) : (nth B j).ch q = true ∨ (0 ≤ (nth B i).up ∧ (nth B i).up.toNat = j ∧ (nth (trimStep B i) i).st q = true) := by
  by_cases h0 : 0 ≤ (nth B i).up
  · have hs := trimStep_self hi h0 (by omega) q
    unfold trimStep at h
    rw [if_neg (by omega)] at h
    simp only at h
    rw [nth_set (by rw [List.length_set]; omega)] at h
    split at h
    · rename_i e
      rw [← e]
      simp only [Bool.or_eq_true] at h
      rcases h with h | h
      · exact .inl h
      · exact .inr ⟨h0, rfl, by rw [hs]; exact h⟩
    · rw [nth_set hj] at h
      split at h
      · rename_i e; subst e; exact .inl h
      · exact .inl h
  · unfold trimStep at h
    rw [if_pos (by omega)] at h
    exact .inl h

/-- What lies below a node is the union of its children's sets. -/
theorem trimTo_ch {A : List An} (hup : ∀ j, j < A.length → (nth A j).up < j) (hch : ∀ j, j < A.length → (nth A j).ch = none') (q : Int) : ∀ i, i ≤ A.length → ∀ p, p < A.length → (nth (trimTo A i) p).ch q = true → ∃ j, j < i ∧ 0 ≤ (nth A j).up ∧ (nth A j).up.toNat = p ∧ (nth (trimTo A i) j).st q = true
  | 0, _, p, hp, h => by
    rw [trimTo, hch p hp] at h
    simp [none'] at h
  | i + 1, hi, p, hp, h => by
    have hl := trimTo_length A i
    have hu2 := (trimTo_up A i i (by omega)).1
    rw [trimTo] at h ⊢
    rcases trimStep_ch_inv (by omega) (by rw [hu2]; exact hup i (by omega)) (by omega) h with h | ⟨h1, h2, h3⟩
    · obtain ⟨j, h1, h2, h3, h4⟩ := trimTo_ch hup hch q i (by omega) p hp h
      exact ⟨j, by omega, h2, h3, by rw [trimStep_other (by omega) (by omega)]; exact h4⟩
    · rw [hu2] at h1 h2
      exact ⟨i, by omega, h1, h2, h3⟩

end Go.Proofs.Ytonhbeapffiibaa
