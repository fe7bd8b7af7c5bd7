/-
  Chapter 16: the plain laws of the abstract step: the first node.
-/
import Derived.Test.YtonhbeapffiibaaLawALawB
import Derived.Test.YtonhbeapffiibaaValP
namespace Go.Proofs.Ytonhbeapffiibaa
open Go.HL

theorem trimTo_root {A : List An} (h0 : 0 < A.length) (hup : (nth A 0).up < 0) : ∀ i, i ≤ A.length → (nth (trimTo A i) 0).st = (nth A 0).st
  | 0, _ => rfl
  | i + 1, hi => by
    have ih := trimTo_root h0 hup i (by omega)
    have hl : 0 < (trimTo A i).length := by rw [trimTo_length]; exact h0
    have hu := (trimTo_up A i 0 h0).1
    rw [trimTo, trimStep]
    split
    · exact ih
    · rename_i hn
      simp only
      rw [nth_set (by simpa using hl)]
      split
      · rename_i e; rw [e]; exact ih
      · rw [nth_set hl]
        split
        · rename_i e
          subst e
          rw [hu] at hn
          exact absurd hup hn
        · exact ih

/-- What flash says of a node is told when its turn comes. -/
theorem flashTo_gone {b : Bu} {A : List An} : ∀ {i : Nat}, i ≤ A.length → ∀ j, j < i → (nth (flashTo b A i) j).gone = goneAt b (flashTo b A j) j
  | 0, _, j, hj => by omega
  | i + 1, hi, j, hj => by
    rw [flashTo, flashStep, nth_set (by rw [flashTo_length]; omega)]
    split
    · rename_i e; subst e; rfl
    · exact flashTo_gone (by omega) j (by omega)

theorem flashTo_root {b : Bu} {A : List An} (hup : (nth A 0).up < 0) {n : Nat} (hn : n ≤ A.length) (h1 : 0 < n) : (nth (flashTo b A n) 0).gone = decide (cnt b (nth A 0).st = 0) := by
  rw [flashTo_gone hn 0 h1]
  show goneAt b A 0 = _
  have hd : decide (0 ≤ (nth A 0).up) = false := decide_eq_false (by omega)
  simp only [goneAt, hd, Bool.false_and, Bool.false_or]

/-- If the first node is gone then all are. -/
theorem flashTo_all {b : Bu} {A : List An} (hup : ∀ j, j < A.length → (nth A j).up < j) (hpos : ∀ j, 0 < j → j < A.length → 0 ≤ (nth A j).up) {n : Nat} (hn : n ≤ A.length) (hg : (nth (flashTo b A n) 0).gone = true) : ∀ j, j < n → (nth (flashTo b A n) j).gone = true := by
  intro j
  induction j using Nat.strongRecOn with
  | ind j ih =>
    intro hj
    rcases Nat.eq_zero_or_pos j with rfl | hj0
    · exact hg
    have hu := hup j (by omega)
    have hp := hpos j hj0 (by omega)
    have hpar := ih (nth A j).up.toNat (by omega) (by omega)
    have e1 := flashTo_gone (b := b) hn (nth A j).up.toNat (by omega)
    have e2 := flashTo_gone (b := b) (A := A) (i := j) (by omega) (nth A j).up.toNat (by omega)
    rw [flashTo_gone hn j hj, goneAt]
    rw [(flashTo_same b A j j (by omega)).1]
    rw [e2, ← e1, hpar]
    simp [hp]

/-- A node of a tree: the first has no node above it, each other one stands after the one above it. -/
theorem valid_up {b : Bu} {t : List Nd} (hv : validT b t = true) (j : Nat) (hj : j < t.length) : (nth t j).par < j ∧ (0 < j → 0 ≤ (nth t j).par) ∧ (j = 0 → (nth t j).par = -1) := by
  have h := (okN_nth.1 ((validT_iff.1 hv).2.2 j hj)).1
  unfold okH at h
  obtain ⟨_, _, _, h4, h5, h6⟩ := h
  refine ⟨h5, fun hj0 => ?_, fun e => h4.1 (by omega)⟩
  by_cases hm : (nth t j).par = -1
  · have := h4.2 hm; omega
  · omega

theorem grown_up {b : Bu} {t : List Nd} {a : Int} (hv : validT b t = true) (j : Nat) (hj : j < 2 * t.length) : (nth (grown b t a) j).up < j ∧ (0 < j → 0 ≤ (nth (grown b t a) j).up) ∧ (j = 0 → (nth (grown b t a) j).up < 0) := by
  by_cases hjt : j < t.length
  · rw [grown_old hjt]
    have := valid_up hv j hjt
    refine ⟨this.1, this.2.1, fun e => ?_⟩
    have := this.2.2 e
    simp only; omega
  · obtain ⟨k, rfl⟩ : ∃ k, j = t.length + k := ⟨j - t.length, by omega⟩
    rw [grown_new (by omega)]
    simp only
    refine ⟨by omega, fun _ => by omega, fun e => by omega⟩

/-- No node is left exactly if no state is reached from the first node's set. -/
theorem keptS_nil {b : Bu} {t : List Nd} {a : Int} (hv : validT b t = true) (h0 : 0 < t.length) : keptS b t a = [] ↔ cnt b (hits b (nth t 0).set a false) = 0 := by
  have hl : (trimTo (grown b t a) (2 * t.length)).length = 2 * t.length := by rw [trimTo_length, grown_length]
  have hu : ∀ j, j < 2 * t.length → (nth (trimTo (grown b t a) (2 * t.length)) j).up = (nth (grown b t a) j).up := fun j hj => (trimTo_up _ _ j (by rw [grown_length]; exact hj)).1
  have hroot : (nth (flashed b t a) 0).gone = decide (cnt b (hits b (nth t 0).set a false) = 0) := by
    unfold flashed
    rw [flashTo_root (by rw [hu 0 (by omega)]; exact (grown_up hv 0 (by omega)).2.2 rfl) (by omega) (by omega)]
    rw [trimTo_root (by rw [grown_length]; omega) ((grown_up hv 0 (by omega)).2.2 rfl) _ (by rw [grown_length]; omega), grown_old h0]
  constructor
  · intro h
    have : ¬ 0 ∈ keptS b t a := by rw [h]; simp
    rw [keptS, mem_keptI] at this
    have hg : (nth (flashed b t a) 0).gone = true := by
      cases hx : (nth (flashed b t a) 0).gone
      · exact absurd ⟨by omega, hx⟩ this
      · rfl
    rw [hroot] at hg
    exact of_decide_eq_true hg
  · intro h
    have hg : (nth (flashed b t a) 0).gone = true := by rw [hroot]; exact decide_eq_true h
    refine List.eq_nil_iff_forall_not_mem.2 fun i hi => ?_
    rw [keptS, mem_keptI] at hi
    have := flashTo_all (b := b) (A := trimTo (grown b t a) (2 * t.length)) (n := 2 * t.length) (fun j hj => by rw [hu j (by omega)]; exact (grown_up hv j (by omega)).1) (fun j hj0 hj => by rw [hu j (by omega)]; exact (grown_up hv j (by omega)).2.1 hj0) (by omega) hg i hi.1
    have h2 := hi.2
    unfold flashed at h2
    rw [this] at h2
    cases h2

theorem root_gone {b : Bu} {t : List Nd} {a : Int} (hv : validT b t = true) (h0 : 0 < t.length) : (nth (flashed b t a) 0).gone = decide (cnt b (hits b (nth t 0).set a false) = 0) ∧ (nth (flashed b t a) 0).st = hits b (nth t 0).set a false := by
  have hl : (trimTo (grown b t a) (2 * t.length)).length = 2 * t.length := by rw [trimTo_length, grown_length]
  have hu : (nth (trimTo (grown b t a) (2 * t.length)) 0).up < 0 := by
    rw [(trimTo_up _ _ 0 (by rw [grown_length]; omega)).1]
    exact (grown_up hv 0 (by omega)).2.2 rfl
  have hst : (nth (trimTo (grown b t a) (2 * t.length)) 0).st = hits b (nth t 0).set a false := by
    rw [trimTo_root (by rw [grown_length]; omega) ((grown_up hv 0 (by omega)).2.2 rfl) _ (by rw [grown_length]; omega), grown_old h0]
  unfold flashed
  rw [flashTo_root hu (by omega) (by omega), (flashTo_same b _ _ 0 (by omega)).2.2.1, hst]
  exact ⟨rfl, rfl⟩

/-- The set of the first node is that of the states reached. -/
theorem outS_root {b : Bu} {t : List Nd} {a : Int} (hv : validT b t = true) (h0 : 0 < t.length) (hc : cnt b (hits b (nth t 0).set a false) ≠ 0) : 0 < (outS b t a).length ∧ (nth (outS b t a) 0).set = reach b (nth t 0).set a false := by
  obtain ⟨r1, r2⟩ := root_gone (a := a) hv h0
  rw [decide_eq_false hc] at r1
  have hfl : (flashed b t a).length = 2 * t.length := by unfold flashed; rw [flashTo_length, trimTo_length, grown_length]
  obtain ⟨m, hm⟩ : ∃ m, 2 * t.length = m + 1 := ⟨2 * t.length - 1, by omega⟩
  have hk : keptS b t a = 0 :: ((List.range m).map Nat.succ).filter fun i => !(nth (flashed b t a) i).gone := by
    rw [keptS, keptI, hm, List.range_succ_eq_map, List.filter_cons, r1]
    rfl
  have hlen : (outS b t a).length = (keptS b t a).length := by rw [outS, List.length_map]
  have hl2 : 0 < (keptS b t a).length := by rw [hk]; simp
  refine ⟨by omega, ?_⟩
  rw [nth_eq (by omega)]
  simp only [outS, List.getElem_map]
  have e0 : (keptS b t a)[0] = 0 := by simp only [hk, List.getElem_cons_zero]
  rw [e0]
  have := (nameTo_same (usedP t) (2 * b.next.length) (flashed b t a) (keptS b t a) _ (Nat.le_refl _) 0 (by omega)).2.1
  rw [namedS, this, r2]
  rfl

theorem mem_badsTo {F : List An} {n : Int} : ∀ {i : Nat}, n ∈ badsTo F i ↔ ∃ j, j < i ∧ (nth F j).gone = true ∧ (nth F j).name = n
  | 0 => by simp [badsTo]
  | i + 1 => by
    rw [badsTo, List.mem_append, mem_badsTo]
    constructor
    · rintro (⟨j, h1, h2⟩ | h)
      · exact ⟨j, by omega, h2⟩
      · split at h
        · rename_i hg
          exact ⟨i, by omega, hg, by simpa using (List.mem_singleton.1 h).symm⟩
        · cases h
    · rintro ⟨j, h1, h2, h3⟩
      by_cases e : j = i
      · subst e
        rw [if_pos h2]
        exact .inr (List.mem_singleton.2 h3.symm)
      · exact .inl ⟨j, by omega, h2, h3⟩

theorem mem_goodsTo {b : Bu} {A : List An} {n : Int} : ∀ {i : Nat}, n ∈ goodsTo b A i ↔ ∃ j, j < i ∧ goodAt b (flashTo b A j) j = true ∧ (nth A j).name = n
  | 0 => by simp [goodsTo]
  | i + 1 => by
    rw [goodsTo, List.mem_append, mem_goodsTo]
    constructor
    · rintro (⟨j, h1, h2⟩ | h)
      · exact ⟨j, by omega, h2⟩
      · split at h
        · rename_i hg
          exact ⟨i, by omega, hg, by simpa using (List.mem_singleton.1 h).symm⟩
        · cases h
    · rintro ⟨j, h1, h2, h3⟩
      by_cases e : j = i
      · subst e
        rw [if_pos h2]
        exact .inr (List.mem_singleton.2 h3.symm)
      · exact .inl ⟨j, by omega, h2, h3⟩

theorem mem_sortI {l : List Int} {n : Int} : n ∈ sortI l ↔ n ∈ l := by
  unfold sortI
  exact List.mem_mergeSort

/-- The bad names are those of the tree's nodes that are gone. -/
theorem mem_bad {b : Bu} {t : List Nd} {a n : Int} : n ∈ (evS b t a).bad ↔ ∃ j, j < t.length ∧ (nth (flashed b t a) j).gone = true ∧ (nth (flashed b t a) j).name = n := by
  rw [evS, mem_sortI, mem_badsTo]

/-- A node of the tree has its name before flash and after it. -/
theorem flashed_name {b : Bu} {t : List Nd} {a : Int} {j : Nat} (hj : j < t.length) : (nth (flashed b t a) j).name = (nth t j).name := by
  unfold flashed
  rw [(flashTo_same b _ _ j (by rw [trimTo_length, grown_length]; omega)).2.1, (trimTo_up _ _ j (by rw [grown_length]; omega)).2.1, grown_old hj]

/-- A good name is that of a node that stays. -/
theorem goodAt_kept {b : Bu} {t : List Nd} {a : Int} {j : Nat} (hj : j < 2 * t.length) (hg : goodAt b (flashTo b (trimTo (grown b t a) (2 * t.length)) j) j = true) : j ∈ keptS b t a := by
  rw [keptS, mem_keptI]
  refine ⟨hj, ?_⟩
  unfold flashed
  rw [flashTo_gone (by rw [trimTo_length, grown_length]; omega) j hj]
  simp only [goodAt, Bool.and_eq_true, Bool.not_eq_true'] at hg
  exact hg.1

theorem mem_good {b : Bu} {t : List Nd} {a n : Int} : n ∈ (evS b t a).good ↔ ∃ j, j < 2 * t.length ∧ goodAt b (flashTo b (trimTo (grown b t a) (2 * t.length)) j) j = true ∧ (nth (trimTo (grown b t a) (2 * t.length)) j).name = n := by
  rw [evS, mem_sortI, mem_goodsTo]

/-- The set of each node of the next tree: states reached from the set of the node that it was, or was added below. -/
theorem trimTo_sub {A : List An} (q : Int) : ∀ i, i ≤ A.length → ∀ j, j < A.length → (nth (trimTo A i) j).st q = true → (nth A j).st q = true
  | 0, _, _, _, h => h
  | i + 1, hi, j, hj, h => by
    have hl := trimTo_length A i
    have ih := trimTo_sub (A := A) q i (by omega)
    rw [trimTo, trimStep] at h
    split at h
    · exact ih j hj h
    · simp only at h
      rw [nth_set (by rw [List.length_set]; omega)] at h
      split at h
      · rename_i e
        rw [e] at h
        exact ih j hj h
      · rw [nth_set (by omega)] at h
        split at h
        · rename_i e
          subst e
          simp only [Bool.and_eq_true] at h
          exact ih _ hj h.1
        · exact ih j hj h

theorem trimStep_other {B : List An} {i j : Nat} (hj : j < B.length) (hne : j ≠ i) : (nth (trimStep B i) j).st = (nth B j).st := by
  unfold trimStep
  split
  · rfl
  · simp only
    rw [nth_set (by rw [List.length_set]; omega)]
    split
    · rename_i e; rw [e]
    · rw [nth_set hj, if_neg (by omega)]

theorem trimStep_self {B : List An} {i : Nat} (hi : i < B.length) (h0 : 0 ≤ (nth B i).up) (hne : (nth B i).up.toNat ≠ i) (q : Int) : (nth (trimStep B i) i).st q = ((nth B i).st q && ((nth B (nth B i).up.toNat).st q && !(nth B (nth B i).up.toNat).ch q)) := by
  unfold trimStep
  rw [if_neg (by omega)]
  simp only
  rw [nth_set (by rw [List.length_set]; omega), if_neg (by omega), nth_set hi, if_pos rfl]

/-- The set of a node lies within that of the node above it. -/
theorem trimTo_chain {A : List An} (hup : ∀ j, j < A.length → (nth A j).up < j) (q : Int) : ∀ i, i ≤ A.length → ∀ j, j < i → 0 ≤ (nth A j).up → (nth (trimTo A i) j).st q = true → (nth (trimTo A i) (nth A j).up.toNat).st q = true
  | 0, _, j, hj, _, _ => by omega
  | i + 1, hi, j, hj, h0, h => by
    have hl := trimTo_length A i
    have hu := hup j (by omega)
    rw [trimTo] at h ⊢
    rw [trimStep_other (by omega) (by omega)]
    by_cases e : j = i
    · subst e
      have hu2 := (trimTo_up A j j (by omega)).1
      rw [trimStep_self (by omega) (by rw [hu2]; exact h0) (by rw [hu2]; omega), hu2] at h
      simp only [Bool.and_eq_true] at h
      exact h.2.1
    · rw [trimStep_other (by omega) e] at h
      exact trimTo_chain hup q i (by omega) j (by omega) h0 h

theorem trimStep_ch {B : List An} {i j : Nat} (hj : j < B.length) {q : Int} (h : (nth B j).ch q = true) : (nth (trimStep B i) j).ch q = true := by
  unfold trimStep
  split
  · exact h
  · simp only
    rw [nth_set (by rw [List.length_set]; omega)]
    split
    · rename_i e
      subst e
      simp only [h, Bool.true_or]
    · rw [nth_set hj]
      split
      · rename_i e; subst e; exact h
      · exact h

theorem trimStep_chs {B : List An} {i : Nat} (hi : i < B.length) (h0 : 0 ≤ (nth B i).up) (hlt : (nth B i).up.toNat < i) {q : Int} (h : (nth (trimStep B i) i).st q = true) : (nth (trimStep B i) (nth B i).up.toNat).ch q = true := by
  rw [trimStep_self hi h0 (by omega)] at h
  unfold trimStep
  rw [if_neg (by omega)]
  simp only
  rw [nth_set (by rw [List.length_set]; omega), if_pos rfl]
  simp only [h, Bool.or_true]

theorem trimTo_chs {A : List An} (hup : ∀ j, j < A.length → (nth A j).up < j) (q : Int) : ∀ i, i ≤ A.length → ∀ j, j < i → 0 ≤ (nth A j).up → (nth (trimTo A i) j).st q = true → (nth (trimTo A i) (nth A j).up.toNat).ch q = true
  | 0, _, j, hj, _, _ => by omega
  | i + 1, hi, j, hj, h0, h => by
    have hl := trimTo_length A i
    have hu := hup j (by omega)
    rw [trimTo] at h ⊢
    by_cases e : j = i
    · subst e
      have hu2 := (trimTo_up A j j (by omega)).1
      rw [← hu2]
      exact trimStep_chs (by omega) (by rw [hu2]; exact h0) (by rw [hu2]; omega) h
    · rw [trimStep_other (by omega) e] at h
      exact trimStep_ch (by omega) (trimTo_chs hup q i (by omega) j (by omega) h0 h)

/-- Two nodes below the same one have no state in common. -/
theorem trimTo_apart {A : List An} (hup : ∀ j, j < A.length → (nth A j).up < j) (q : Int) : ∀ i, i ≤ A.length → ∀ j k, j < k → k < i → (nth A j).up = (nth A k).up → 0 ≤ (nth A k).up → (nth (trimTo A i) j).st q = true → (nth (trimTo A i) k).st q = true → False
  | 0, _, j, k, _, hk, _, _, _, _ => by omega
  | i + 1, hi, j, k, hjk, hk, he, h0, hj, hq => by
    have hl := trimTo_length A i
    have hu := hup k (by omega)
    rw [trimTo] at hj hq
    rw [trimStep_other (by omega) (by omega)] at hj
    by_cases e : k = i
    · subst e
      have hu2 := (trimTo_up A k k (by omega)).1
      rw [trimStep_self (by omega) (by rw [hu2]; exact h0) (by rw [hu2]; omega), hu2] at hq
      simp only [Bool.and_eq_true, Bool.not_eq_true'] at hq
      have := trimTo_chs hup q k (by omega) j hjk (by omega) hj
      rw [he] at this
      rw [this] at hq
      exact absurd hq.2.2 (by simp)
    · rw [trimStep_other (by omega) e] at hq
      exact trimTo_apart hup q i (by omega) j k hjk (by omega) he h0 hj hq

theorem trimStep_ch_inv {B : List An} {i j : Nat} (hi : i < B.length) (hlt : (nth B i).up < i) (hj : j < B.length) {q : Int} (h : (nth (trimStep B i) j).ch q = true) : (nth B j).ch q = true ∨ (0 ≤ (nth B i).up ∧ (nth B i).up.toNat = j ∧ (nth (trimStep B i) i).st q = true) := by
  by_cases h0 : 0 ≤ (nth B i).up
  · have hs := trimStep_self hi h0 (by omega) q
    unfold trimStep at h
    rw [if_neg (by omega)] at h
    simp only at h
    rw [nth_set (by rw [List.length_set]; omega)] at h
    split at h
    · rename_i e
      rw [← e]
      simp only [Bool.or_eq_true] at h
      rcases h with h | h
      · exact .inl h
      · exact .inr ⟨h0, rfl, by rw [hs]; exact h⟩
    · rw [nth_set hj] at h
      split at h
      · rename_i e; subst e; exact .inl h
      · exact .inl h
  · unfold trimStep at h
    rw [if_pos (by omega)] at h
    exact .inl h

/-- What lies below a node is the union of its children's sets. -/
theorem trimTo_ch {A : List An} (hup : ∀ j, j < A.length → (nth A j).up < j) (hch : ∀ j, j < A.length → (nth A j).ch = none') (q : Int) : ∀ i, i ≤ A.length → ∀ p, p < A.length → (nth (trimTo A i) p).ch q = true → ∃ j, j < i ∧ 0 ≤ (nth A j).up ∧ (nth A j).up.toNat = p ∧ (nth (trimTo A i) j).st q = true
  | 0, _, p, hp, h => by
    rw [trimTo, hch p hp] at h
    simp [none'] at h
  | i + 1, hi, p, hp, h => by
    have hl := trimTo_length A i
    have hu2 := (trimTo_up A i i (by omega)).1
    rw [trimTo] at h ⊢
    rcases trimStep_ch_inv (by omega) (by rw [hu2]; exact hup i (by omega)) (by omega) h with h | ⟨h1, h2, h3⟩
    · obtain ⟨j, h1, h2, h3, h4⟩ := trimTo_ch hup hch q i (by omega) p hp h
      exact ⟨j, by omega, h2, h3, by rw [trimStep_other (by omega) (by omega)]; exact h4⟩
    · rw [hu2] at h1 h2
      exact ⟨i, by omega, h1, h2, h3⟩

end Go.Proofs.Ytonhbeapffiibaa

/-
  Chapter 16: the names after a step: the plain laws.
-/
namespace Go.Proofs.Ytonhbeapffiibaa
open Go.HL

theorem place_some {l : List Nd} {i : Nat} {n : Int} (hi : i < l.length) (hn : (nth l i).name = n) (hd : ∀ j, j < i → (nth l j).name ≠ n) : place l n = i := by
  have : l.findIdx? (fun x => decide (x.name = n)) = some i := by
    rw [List.findIdx?_eq_some_iff_getElem]
    refine ⟨hi, by rw [nth_eq hi] at hn; simpa using hn, fun j hj => ?_⟩
    have := hd j hj
    rw [nth_eq (by omega)] at this
    simp [this]
  simp [place, this]
theorem place_none {l : List Nd} {n : Int} (hd : ∀ j, j < l.length → (nth l j).name ≠ n) : place l n = -1 := by
  have : l.findIdx? (fun x => decide (x.name = n)) = none := by
    rw [List.findIdx?_eq_none_iff]
    intro x hx
    obtain ⟨j, hj, rfl⟩ := List.getElem_of_mem hx
    have := hd j hj
    rw [nth_eq hj] at this
    simp [this]
  simp [place, this]
theorem place_ge {l : List Nd} {n : Int} : 0 ≤ place l n ↔ ∃ j, j < l.length ∧ (nth l j).name = n := by
  unfold place
  cases h : l.findIdx? (fun x => decide (x.name = n)) with
  | none =>
    rw [List.findIdx?_eq_none_iff] at h
    constructor
    · intro h; simp at h
    · rintro ⟨j, hj, e⟩
      have := h _ (nth_mem hj)
      simp [e] at this
  | some i =>
    rw [List.findIdx?_eq_some_iff_getElem] at h
    obtain ⟨hi, hp, _⟩ := h
    refine ⟨fun _ => ⟨i, hi, by rw [nth_eq hi]; simpa using hp⟩, fun _ => by simp⟩

theorem keptI_prefix (F : List An) (i : Nat) : ∀ m, i ≤ m → ∃ r, keptI F m = keptI F i ++ r ∧ ∀ x ∈ r, i ≤ x
  | 0, h => by
    obtain rfl : i = 0 := by omega
    exact ⟨[], by simp, by simp⟩
  | m + 1, h => by
    by_cases e : i = m + 1
    · subst e; exact ⟨[], by simp, by simp⟩
    · obtain ⟨r, h1, h2⟩ := keptI_prefix F i m (by omega)
      rw [keptI_succ, h1]
      refine ⟨r ++ _, by rw [List.append_assoc], fun x hx => ?_⟩
      rcases List.mem_append.1 hx with hx | hx
      · exact h2 x hx
      · split at hx
        · cases hx
        · simp at hx; omega

/-- Where a node that is kept stands: behind all that are kept before it. -/
theorem keptI_at {F : List An} {i m : Nat} (hi : i < m) (hg : (nth F i).gone = false) : (keptI F i).length < (keptI F m).length ∧ nth (keptI F m) (keptI F i).length = i := by
  obtain ⟨r, h1, _⟩ := keptI_prefix F (i + 1) m (by omega)
  have h2 : keptI F (i + 1) = keptI F i ++ [i] := by rw [keptI_succ, hg]; rfl
  rw [h1, h2]
  refine ⟨by simp, ?_⟩
  rw [nth_left (by simp), nth_last rfl]

theorem keptI_lt {F : List An} {i m k : Nat} (hi : i ≤ m) (hk : k < (keptI F m).length) : nth (keptI F m) k < i ↔ k < (keptI F i).length := by
  obtain ⟨r, h1, h2⟩ := keptI_prefix F i m hi
  rw [h1] at hk ⊢
  by_cases h : k < (keptI F i).length
  · rw [nth_left h]
    exact ⟨fun _ => h, fun _ => (mem_keptI.1 (nth_mem h)).1⟩
  · refine ⟨fun hl => ?_, fun hl => absurd hl h⟩
    exfalso
    rw [nth_eq hk, List.getElem_append_right (by omega)] at hl
    have := h2 _ (List.getElem_mem (by simp at hk; omega : k - (keptI F i).length < r.length))
    omega

theorem out_len {b : Bu} {t : List Nd} {a : Int} : (outS b t a).length = (keptS b t a).length := by rw [outS, List.length_map]
theorem out_nth {b : Bu} {t : List Nd} {a : Int} {k : Nat} (hk : k < (keptS b t a).length) : nth (outS b t a) k = ⟨(nth (namedS b t a) (nth (keptS b t a) k)).name, parS (keptS b t a) (namedS b t a) (nth (keptS b t a) k), elems b (nth (namedS b t a) (nth (keptS b t a) k)).st⟩ := by
  rw [nth_eq (by rw [out_len]; exact hk)]
  simp only [outS, List.getElem_map]
  rw [nth_eq hk]

theorem flashed_length {b : Bu} {t : List Nd} {a : Int} : (flashed b t a).length = 2 * t.length := by unfold flashed; rw [flashTo_length, trimTo_length, grown_length]

theorem flashed_new {b : Bu} {t : List Nd} {a : Int} {j : Nat} (hj : t.length ≤ j) (hj2 : j < 2 * t.length) : (nth (flashed b t a) j).name = 0 := by
  unfold flashed
  rw [(flashTo_same b _ _ j (by rw [trimTo_length, grown_length]; omega)).2.1, (trimTo_up _ _ j (by rw [grown_length]; omega)).2.1]
  obtain ⟨k, rfl⟩ : ∃ k, j = t.length + k := ⟨j - t.length, by omega⟩
  rw [grown_new (by omega)]

/-- A node with a name keeps it. -/
theorem nameTo_old {used : Int → Bool} {M : Nat} {A : List An} {I : List Nat} {j : Nat} (hj : j < A.length) (hn : 0 < (nth A j).name) : ∀ k, k ≤ I.length → (nth (nameTo used M A I k).1 j).name = (nth A j).name
  | 0, _ => by simp [nameTo]
  | k + 1, h => by
    have ih := nameTo_old (used := used) (M := M) (I := I) hj hn k (by omega)
    rw [nameTo_succ used M A I (by omega)]
    unfold nameStep
    split
    · exact ih
    · rename_i h0
      simp only
      rw [nth_set (by rw [nameTo_length used M A I k (by omega)]; exact hj)]
      split
      · rename_i e; rw [e, ih] at h0; exact absurd hn h0
      · exact ih

/-- A node whose turn has not come keeps what it has. -/
theorem nameTo_wait {used : Int → Bool} {M : Nat} {A : List An} {I : List Nat} {j : Nat} (hj : j < A.length) : ∀ k, k ≤ I.length → (∀ p, p < k → nth I p ≠ j) → (nth (nameTo used M A I k).1 j).name = (nth A j).name
  | 0, _, _ => by simp [nameTo]
  | k + 1, h, hp => by
    have ih := nameTo_wait (used := used) (M := M) (I := I) hj k (by omega) (fun p hpk => hp p (by omega))
    rw [nameTo_succ used M A I (by omega)]
    unfold nameStep
    split
    · exact ih
    · simp only
      rw [nth_set (by rw [nameTo_length used M A I k (by omega)]; exact hj), if_neg (hp k (by omega))]
      exact ih

theorem free_below {used : Int → Bool} : ∀ (k : Nat) (n u : Int), n ≤ u → u < free used k n → used u = true
  | 0, n, u, h1, h2 => by simp [free] at h2; omega
  | k + 1, n, u, h1, h2 => by
    rw [free] at h2
    split at h2
    · rename_i hu
      by_cases e : u = n
      · rw [e]; exact hu
      · exact free_below k (n + 1) u (by omega) h2
    · omega

/-- The new names: free, rising, and none is left out. -/
theorem nameTo_new {used : Int → Bool} {M : Nat} (hM : ∀ x, used x = true → x ≤ M) {A : List An} {I : List Nat} (hI : I.Pairwise (· < ·)) (hA : ∀ i ∈ I, i < A.length) : ∀ k, k ≤ I.length →
    (∀ p, p < k → (nth A (nth I p)).name ≤ 0 → used (nth (nameTo used M A I k).1 (nth I p)).name = false ∧ 1 ≤ (nth (nameTo used M A I k).1 (nth I p)).name ∧ (nth (nameTo used M A I k).1 (nth I p)).name < (nameTo used M A I k).2 ∧
      ∀ p', p' < p → (nth A (nth I p')).name ≤ 0 → (nth (nameTo used M A I k).1 (nth I p')).name < (nth (nameTo used M A I k).1 (nth I p)).name) ∧
    ∀ u, 1 ≤ u → u < (nameTo used M A I k).2 → used u = true ∨ ∃ p, p < k ∧ (nth A (nth I p)).name ≤ 0 ∧ (nth (nameTo used M A I k).1 (nth I p)).name = u
  | 0, _ => ⟨fun p hp => by omega, fun u h1 h2 => by simp [nameTo] at h2; omega⟩
  | k + 1, hk => by
    obtain ⟨ih1, ih2⟩ := nameTo_new hM hI hA k (by omega)
    have hIk := hA _ (nth_mem (l := I) (k := k) (by omega))
    have hne : ∀ p, p < k → nth I p ≠ nth I k := fun p hp => by
      rw [nth_eq (by omega), nth_eq (by omega)]
      have := List.pairwise_iff_getElem.1 hI p k (by omega) (by omega) hp
      omega
    have hw := nameTo_wait (used := used) (M := M) hIk k (by omega) hne
    have hnx := (nameTo_next hM A I k (by omega)).1
    rw [nameTo_succ used M A I (by omega)]
    unfold nameStep
    rw [hw]
    split
    · rename_i h0
      refine ⟨fun p hp hn => ?_, fun u h1 h2 => ?_⟩
      · have hpk : p < k := by
          by_cases e : p = k
          · subst e; omega
          · omega
        exact ih1 p hpk hn
      · rcases ih2 u h1 h2 with h | ⟨p, hp, h⟩
        · exact .inl h
        · exact .inr ⟨p, by omega, h⟩
    · rename_i h0
      have hlen := nameTo_length used M A I k (by omega)
      have hge := free_ge used (M + 1) (nameTo used M A I k).2
      have hst := free_stop hM (M + 1) (nameTo used M A I k).2 (by omega)
      have hself : (nth ((nameTo used M A I k).1.set (nth I k) { nth (nameTo used M A I k).1 (nth I k) with name := free used (M + 1) (nameTo used M A I k).2 }) (nth I k)).name = free used (M + 1) (nameTo used M A I k).2 := by
        rw [nth_set (by rw [hlen]; exact hIk), if_pos rfl]
      have hoth : ∀ p, p < k → (nth ((nameTo used M A I k).1.set (nth I k) { nth (nameTo used M A I k).1 (nth I k) with name := free used (M + 1) (nameTo used M A I k).2 }) (nth I p)).name = (nth (nameTo used M A I k).1 (nth I p)).name := fun p hp => by
        rw [nth_set (by rw [hlen]; exact hA _ (nth_mem (by omega))), if_neg (fun e => hne p hp e.symm)]
      simp only at hself hoth ⊢
      refine ⟨fun p hp hn => ?_, fun u h1 h2 => ?_⟩
      · by_cases e : p = k
        · subst e
          rw [hself]
          refine ⟨hst, by omega, by omega, fun p' hp' hn' => ?_⟩
          rw [hoth p' hp']
          have := (ih1 p' hp' hn').2.2.1
          omega
        · obtain ⟨q1, q2, q3, q4⟩ := ih1 p (by omega) hn
          rw [hoth p (by omega)]
          refine ⟨q1, q2, by omega, fun p' hp' hn' => ?_⟩
          rw [hoth p' (by omega)]
          exact q4 p' hp' hn'
      · by_cases e : u < (nameTo used M A I k).2
        · rcases ih2 u h1 e with h | ⟨p, hp, h, h'⟩
          · exact .inl h
          · exact .inr ⟨p, by omega, h, by rw [hoth p hp]; exact h'⟩
        · by_cases e2 : u = free used (M + 1) (nameTo used M A I k).2
          · exact .inr ⟨k, by omega, by omega, by rw [hself, e2]⟩
          · exact .inl (free_below (M + 1) (nameTo used M A I k).2 u (by omega) (by omega))

theorem used_iff {t : List Nd} {n : Int} : usedP t n = true ↔ ∃ j, j < t.length ∧ (nth t j).name = n := by
  simp only [usedP, memP, List.contains_iff_mem, List.mem_map]
  constructor
  · rintro ⟨x, hx, e⟩
    obtain ⟨k, hk, rfl⟩ := List.getElem_of_mem hx
    exact ⟨k, hk, by rw [nth_eq hk]; exact e⟩
  · rintro ⟨k, hk, e⟩
    exact ⟨_, nth_mem hk, e⟩

section
variable {b : Bu} {t : List Nd} {a : Int}

theorem valid_name (hv : validT b t = true) {j : Nat} (hj : j < t.length) : 1 ≤ (nth t j).name ∧ (nth t j).name ≤ 2 * b.next.length := by
  have := (of_valid hv hj).1
  unfold okH at this
  omega
theorem valid_diff (hv : validT b t = true) {i j : Nat} (hi : i < t.length) (hj : j < t.length) (e : (nth t i).name = (nth t j).name) : i = j := by
  rcases Nat.lt_trichotomy i j with h | h | h
  · exact absurd e (okP_iff.1 ((of_valid hv hj).2.2.1 i h)).1
  · exact h
  · exact absurd e.symm (okP_iff.1 ((of_valid hv hi).2.2.1 j h)).1

theorem used_le (hv : validT b t = true) : ∀ x, usedP t x = true → x ≤ ((2 * b.next.length : Nat) : Int) := fun x hx => by
  obtain ⟨j, hj, rfl⟩ := used_iff.1 hx
  have := valid_name hv hj
  omega

theorem keptS_sorted : (keptS b t a).Pairwise (· < ·) := keptI_sorted _ _
theorem keptS_lt {i : Nat} (h : i ∈ keptS b t a) : i < 2 * t.length := (mem_keptI.1 h).1

theorem named_old (hv : validT b t = true) {j : Nat} (hj : j < t.length) : (nth (namedS b t a) j).name = (nth t j).name := by
  have h1 := flashed_name (b := b) (a := a) hj
  have h2 := valid_name hv hj
  rw [namedS, nameTo_old (by rw [flashed_length]; omega) (by omega) _ (Nat.le_refl _), h1]

theorem named_new (hv : validT b t = true) {k : Nat} (hk : k < (keptS b t a).length) (hn : t.length ≤ nth (keptS b t a) k) : usedP t (nth (namedS b t a) (nth (keptS b t a) k)).name = false ∧ 1 ≤ (nth (namedS b t a) (nth (keptS b t a) k)).name := by
  have h := (nameTo_new (used := usedP t) (M := 2 * b.next.length) (used_le hv) (A := flashed b t a) (I := keptS b t a) keptS_sorted (fun i hi => by rw [flashed_length]; exact keptS_lt hi) _ (Nat.le_refl _)).1 k hk (by
    rw [flashed_new hn (keptS_lt (nth_mem hk))]; omega)
  exact ⟨h.1, h.2.1⟩

/-- Where a node of the tree stands in the next one. -/
theorem place_out (hv : validT b t = true) {i : Nat} (hi : i < t.length) : place (outS b t a) (nth t i).name = if (nth (flashed b t a) i).gone then -1 else ((keptI (flashed b t a) i).length : Int) := by
  have hdiff : ∀ k, k < (keptS b t a).length → nth (keptS b t a) k ≠ i → (nth (outS b t a) k).name ≠ (nth t i).name := fun k hk hne e => by
    rw [out_nth hk] at e
    simp only at e
    by_cases h : nth (keptS b t a) k < t.length
    · rw [named_old hv h] at e
      exact hne (valid_diff hv h hi e)
    · have := (named_new hv hk (by omega)).1
      rw [used_iff.2 ⟨i, hi, e.symm⟩] at this
      cases this
  cases hg : (nth (flashed b t a) i).gone with
  | true =>
    rw [if_pos rfl]
    refine place_none fun j hj => ?_
    rw [out_len] at hj
    refine hdiff j hj fun e => ?_
    have := (mem_keptI.1 (nth_mem hj)).2
    rw [show nth (keptI (flashed b t a) (2 * t.length)) j = i from e, hg] at this
    cases this
  | false =>
    obtain ⟨h1, h2⟩ := keptI_at (F := flashed b t a) (m := 2 * t.length) (show i < 2 * t.length by omega) hg
    rw [if_neg (by simp)]
    refine place_some (by rw [out_len]; exact h1) ?_ fun j hj => hdiff j (by unfold keptS; omega) fun e => ?_
    · rw [out_nth h1]
      simp only
      have : nth (keptS b t a) (keptI (flashed b t a) i).length = i := h2
      rw [this, named_old hv hi]
    · have h3 : nth (keptI (flashed b t a) (2 * t.length)) j = nth (keptI (flashed b t a) (2 * t.length)) (keptI (flashed b t a) i).length := by rw [h2]; exact e
      rw [nth_eq (by omega), nth_eq h1] at h3
      have := List.pairwise_iff_getElem.1 (keptI_sorted (flashed b t a) (2 * t.length)) j _ (by omega) h1 hj
      omega

theorem bad_iff (hv : validT b t = true) {i : Nat} (hi : i < t.length) : (evS b t a).bad.contains (nth t i).name = (nth (flashed b t a) i).gone := by
  rw [Bool.eq_iff_iff, List.contains_iff_mem, mem_bad]
  constructor
  · rintro ⟨j, hj, hg, hn⟩
    rw [flashed_name hj] at hn
    obtain rfl := valid_diff hv hj hi hn
    exact hg
  · intro hg
    exact ⟨i, hi, hg, flashed_name hi⟩

theorem new_out (hv : validT b t = true) {k : Nat} (hk : k < (keptS b t a).length) (hp : place t (nth (outS b t a) k).name < 0) : t.length ≤ nth (keptS b t a) k ∧ (keptI (flashed b t a) t.length).length ≤ k := by
  have h1 : ¬ nth (keptS b t a) k < t.length := fun h => by
    have : 0 ≤ place t (nth (outS b t a) k).name := place_ge.2 ⟨_, h, by rw [out_nth hk]; exact (named_old hv h).symm⟩
    omega
  refine ⟨by omega, ?_⟩
  have := (keptI_lt (F := flashed b t a) (i := t.length) (m := 2 * t.length) (k := k) (by omega) hk).2
  exact Nat.le_of_not_lt fun h => h1 (this h)

/-- A new node is never full. -/
theorem goodAt_old (hv : validT b t = true) {j : Nat} (hj : j < 2 * t.length) (hg : goodAt b (flashTo b (trimTo (grown b t a) (2 * t.length)) j) j = true) : j < t.length := by
  have hl : (trimTo (grown b t a) (2 * t.length)).length = 2 * t.length := by rw [trimTo_length, grown_length]
  have hgl := grown_length b t a
  simp only [goodAt, Bool.and_eq_true, Bool.not_eq_true', decide_eq_true_eq] at hg
  obtain ⟨h1, h2⟩ := hg
  have h3 : cnt b (nth (flashTo b (trimTo (grown b t a) (2 * t.length)) j) j).st ≠ 0 := by
    unfold goneAt at h1
    simp only [Bool.or_eq_false_iff, decide_eq_false_iff_not] at h1
    exact h1.2
  have h4 : cnt b (nth (flashTo b (trimTo (grown b t a) (2 * t.length)) j) j).ch ≠ 0 := by omega
  rw [(flashTo_same b _ j j (by omega)).2.2.2] at h4
  have h5 : ∃ q, (nth (trimTo (grown b t a) (2 * t.length)) j).ch q = true := by
    unfold cnt at h4
    cases he : elems b (nth (trimTo (grown b t a) (2 * t.length)) j).ch with
    | nil => rw [he] at h4; exact absurd rfl h4
    | cons q l =>
      have : q ∈ elems b (nth (trimTo (grown b t a) (2 * t.length)) j).ch := by rw [he]; simp
      exact ⟨q, (List.mem_filter.1 this).2⟩
  obtain ⟨q, hq⟩ := h5
  obtain ⟨i, hi, hi0, hip, _⟩ := trimTo_ch (A := grown b t a) (fun j hj => (grown_up hv j (by omega)).1) (fun j hj => by
    by_cases h : j < t.length
    · rw [grown_old h]
    · obtain ⟨k, rfl⟩ : ∃ k, j = t.length + k := ⟨j - t.length, by omega⟩
      rw [grown_new (by omega)]) q (2 * t.length) (by omega) j (by omega) hq
  by_cases h : i < t.length
  · have := (grown_up (a := a) hv i (by omega)).1
    omega
  · obtain ⟨k, rfl⟩ : ∃ k, i = t.length + k := ⟨i - t.length, by omega⟩
    rw [grown_new (by omega)] at hip
    simp only at hip
    omega

theorem trimmed_name {j : Nat} (hj : j < t.length) : (nth (trimTo (grown b t a) (2 * t.length)) j).name = (nth t j).name := by
  rw [(trimTo_up _ _ j (by rw [grown_length]; omega)).2.1, grown_old hj]

theorem good_iff (hv : validT b t = true) {n : Int} : n ∈ (evS b t a).good ↔ ∃ j, j < t.length ∧ goodAt b (flashTo b (trimTo (grown b t a) (2 * t.length)) j) j = true ∧ (nth t j).name = n := by
  rw [mem_good]
  constructor
  · rintro ⟨j, h1, h2, h3⟩
    have hj := goodAt_old hv h1 h2
    exact ⟨j, hj, h2, by rw [← trimmed_name hj]; exact h3⟩
  · rintro ⟨j, h1, h2, h3⟩
    exact ⟨j, by omega, h2, by rw [trimmed_name h1]; exact h3⟩

theorem good_place (hv : validT b t = true) {n : Int} (hn : n ∈ (evS b t a).good) : 0 ≤ place t n ∧ 0 ≤ place (outS b t a) n := by
  obtain ⟨j, hj, hg, rfl⟩ := (good_iff hv).1 hn
  refine ⟨place_ge.2 ⟨j, hj, rfl⟩, ?_⟩
  rw [place_out hv hj]
  have := (mem_keptI.1 (goodAt_kept (a := a) (show j < 2 * t.length by omega) hg)).2
  rw [show (nth (flashed b t a) j).gone = false from this]
  simp

theorem bad_place {n : Int} (hn : n ∈ (evS b t a).bad) : 0 ≤ place t n := by
  obtain ⟨j, hj, _, hg⟩ := mem_bad.1 hn
  exact place_ge.2 ⟨j, hj, by rw [← hg, flashed_name hj]⟩

theorem sortI_up {l : List Int} (hd : l.Nodup) : (sortI l).Pairwise (· < ·) := by
  have h1 := List.pairwise_mergeSort (le := fun x y : Int => decide (x ≤ y)) (fun a b c => by simp; omega) (fun a b => by simp; omega) l
  have h2 : (l.mergeSort fun x y => decide (x ≤ y)).Nodup := (List.mergeSort_perm l _).nodup_iff.2 hd
  refine (h1.and h2).imp fun {a b} h => ?_
  have := h.1; simp at this
  have := h.2; omega

theorem goodsTo_nodup {A : List An} (hd : ∀ i j, i < j → goodAt b (flashTo b A i) i = true → goodAt b (flashTo b A j) j = true → j < A.length → (nth A i).name ≠ (nth A j).name) : ∀ i, i ≤ A.length → (goodsTo b A i).Nodup
  | 0, _ => by simp [goodsTo]
  | i + 1, hi => by
    rw [goodsTo, List.nodup_append]
    refine ⟨goodsTo_nodup hd i (by omega), by split <;> simp, fun x hx y hy e => ?_⟩
    split at hy
    · rename_i hg
      obtain ⟨j, hj, hg', hn⟩ := mem_goodsTo.1 hx
      simp at hy
      exact hd j i hj hg' hg (by omega) (by omega)
    · cases hy

theorem badsTo_nodup {F : List An} (n : Nat) (hd : ∀ i j, i < j → j < n → (nth F i).name ≠ (nth F j).name) : ∀ i, i ≤ n → (badsTo F i).Nodup
  | 0, _ => by simp [badsTo]
  | i + 1, hi => by
    rw [badsTo, List.nodup_append]
    refine ⟨badsTo_nodup n hd i (by omega), by split <;> simp, fun x hx y hy e => ?_⟩
    split at hy
    · obtain ⟨j, hj, _, hn⟩ := mem_badsTo.1 hx
      simp at hy
      exact hd j i hj (by omega) (by omega)
    · cases hy

theorem good_up (hv : validT b t = true) : (evS b t a).good.Pairwise (· < ·) := by
  refine sortI_up (goodsTo_nodup (fun i j hij gi gj hj e => ?_) _ (by rw [trimTo_length, grown_length]; omega))
  rw [trimTo_length, grown_length] at hj
  have h1 := goodAt_old hv (by omega) gi
  have h2 := goodAt_old hv (by omega) gj
  rw [trimmed_name h1, trimmed_name h2] at e
  have := valid_diff hv h1 h2 e
  omega

theorem bad_up (hv : validT b t = true) : (evS b t a).bad.Pairwise (· < ·) := by
  refine sortI_up (badsTo_nodup t.length (fun i j hij hj e => ?_) _ (Nat.le_refl _))
  rw [flashed_name (by omega), flashed_name hj] at e
  have := valid_diff hv (by omega) hj e
  omega

theorem new_quiet (hv : validT b t = true) {n : Int} (hn : place t n < 0) : (evS b t a).good.contains n = false ∧ (evS b t a).bad.contains n = false := by
  constructor
  · rw [Bool.eq_false_iff]
    intro h
    have := (good_place hv (List.contains_iff_mem.1 h)).1
    omega
  · rw [Bool.eq_false_iff]
    intro h
    have := bad_place (List.contains_iff_mem.1 h)
    omega

end

end Go.Proofs.Ytonhbeapffiibaa

/-
  Chapter 16: what a step makes of a tree is a tree: the plain laws.
-/
namespace Go.Proofs.Ytonhbeapffiibaa
open Go.HL

def trimS (b : Bu) (t : List Nd) (a : Int) : List An := trimTo (grown b t a) (2 * t.length)

section
variable {b : Bu} {t : List Nd} {a : Int}

theorem trimS_length : (trimS b t a).length = 2 * t.length := by rw [trimS, trimTo_length, grown_length]

theorem flashed_at {j : Nat} (hj : j < 2 * t.length) : (nth (flashed b t a) j).up = (nth (grown b t a) j).up ∧ (nth (flashed b t a) j).st = (nth (trimS b t a) j).st := by
  have h := flashTo_same b (trimS b t a) (2 * t.length) j (by rw [trimS_length]; exact hj)
  exact ⟨h.1.trans (trimTo_up _ _ j (by rw [grown_length]; exact hj)).1, h.2.2.1⟩

theorem named_at {j : Nat} (hj : j < 2 * t.length) : (nth (namedS b t a) j).up = (nth (grown b t a) j).up ∧ (nth (namedS b t a) j).st = (nth (trimS b t a) j).st := by
  have h := nameTo_same (usedP t) (2 * b.next.length) (flashed b t a) (keptS b t a) _ (Nat.le_refl _) j (by rw [flashed_length]; exact hj)
  have h2 := flashed_at (b := b) (a := a) hj
  exact ⟨h.1.trans h2.1, h.2.1.trans h2.2⟩

/-- A node that is kept has states; so is the one above it, and its children do not have all of its states. -/
theorem kept_facts (hv : validT b t = true) {i : Nat} (hi : i ∈ keptS b t a) : cnt b (nth (trimS b t a) i).st ≠ 0 ∧ (0 ≤ (nth (grown b t a) i).up → (nth (grown b t a) i).up.toNat ∈ keptS b t a ∧ cnt b (nth (trimS b t a) (nth (grown b t a) i).up.toNat).ch ≠ cnt b (nth (trimS b t a) (nth (grown b t a) i).up.toNat).st) := by
  obtain ⟨hi2, hg⟩ := mem_keptI.1 hi
  have hl := trimS_length (b := b) (t := t) (a := a)
  have hgu := grown_up (a := a) hv i hi2
  rw [show flashed b t a = flashTo b (trimS b t a) (2 * t.length) from rfl, flashTo_gone (by omega) i hi2] at hg
  unfold goneAt at hg
  have hs := flashTo_same b (trimS b t a) i i (by omega)
  have hup := (trimTo_up (grown b t a) (2 * t.length) i (by rw [grown_length]; exact hi2)).1
  rw [hs.1, hs.2.2.1, show (nth (trimS b t a) i).up = (nth (grown b t a) i).up from hup] at hg
  simp only [Bool.or_eq_false_iff, Bool.and_eq_false_iff, decide_eq_false_iff_not] at hg
  obtain ⟨h1, h2⟩ := hg
  refine ⟨h2, fun h0 => ?_⟩
  rcases h1 with h1 | ⟨h1, h3⟩
  · exact absurd h0 h1
  have hp : (nth (grown b t a) i).up.toNat < i := by omega
  have hsp := flashTo_same b (trimS b t a) i (nth (grown b t a) i).up.toNat (by omega)
  rw [hsp.2.2.1, hsp.2.2.2] at h3
  refine ⟨mem_keptI.2 ⟨by omega, ?_⟩, h3⟩
  rw [flashTo_gone (by omega) _ hp] at h1
  rw [show flashed b t a = flashTo b (trimS b t a) (2 * t.length) from rfl, flashTo_gone (by omega) _ (by omega)]
  exact h1

/-- The place of a node among those that are kept. -/
def pos (b : Bu) (t : List Nd) (a : Int) (i : Nat) : Nat := (keptI (flashed b t a) i).length

theorem pos_at {i : Nat} (hi : i ∈ keptS b t a) : pos b t a i < (keptS b t a).length ∧ nth (keptS b t a) (pos b t a i) = i := by
  obtain ⟨h1, h2⟩ := mem_keptI.1 hi
  exact keptI_at h1 h2

theorem keptS_inj {j k : Nat} (hj : j < (keptS b t a).length) (hk : k < (keptS b t a).length) (e : nth (keptS b t a) j = nth (keptS b t a) k) : j = k := by
  rw [nth_eq hj, nth_eq hk] at e
  have hp := List.pairwise_iff_getElem.1 (keptS_sorted (b := b) (t := t) (a := a))
  rcases Nat.lt_trichotomy j k with h | h | h
  · have := hp j k hj hk h; omega
  · exact h
  · have := hp k j hk hj h; omega

theorem pos_of {k : Nat} (hk : k < (keptS b t a).length) : pos b t a (nth (keptS b t a) k) = k := by
  obtain ⟨h1, h2⟩ := pos_at (nth_mem hk)
  exact keptS_inj h1 hk h2

theorem pos_lt {p i : Nat} (hp : p ∈ keptS b t a) (h : p < i) : pos b t a p < pos b t a i := by
  obtain ⟨h1, h2⟩ := mem_keptI.1 hp
  exact (keptI_at (F := flashed b t a) h h2).1

theorem parS_kept {i : Nat} (hi : i < 2 * t.length) (h0 : 0 ≤ (nth (grown b t a) i).up) (hp : (nth (grown b t a) i).up.toNat ∈ keptS b t a) : parS (keptS b t a) (namedS b t a) i = pos b t a (nth (grown b t a) i).up.toNat := by
  obtain ⟨h1, h2⟩ := pos_at hp
  rw [parS, (named_at hi).1, if_neg (by omega)]
  refine idxF_some h1 (by rw [h2]; simp) fun j hj => ?_
  simp only [decide_eq_false_iff_not]
  intro e
  have := keptS_inj (by omega) h1 (e.trans h2.symm)
  omega

theorem parS_root {i : Nat} (hi : i < 2 * t.length) (h0 : (nth (grown b t a) i).up < 0) : parS (keptS b t a) (namedS b t a) i = -1 := by
  rw [parS, (named_at hi).1, if_pos h0]

theorem x_set {k : Nat} (hk : k < (keptS b t a).length) : (nth (outS b t a) k).set = elems b (nth (trimS b t a) (nth (keptS b t a) k)).st := by
  rw [out_nth hk]
  simp only
  rw [(named_at (keptS_lt (nth_mem hk))).2]

theorem x_par (hv : validT b t = true) {k : Nat} (hk : k < (keptS b t a).length) : (nth (outS b t a) k).par = if (nth (grown b t a) (nth (keptS b t a) k)).up < 0 then -1 else (pos b t a (nth (grown b t a) (nth (keptS b t a) k)).up.toNat : Int) := by
  rw [out_nth hk]
  simp only
  have hm := nth_mem hk
  split
  · rename_i h; exact parS_root (keptS_lt hm) h
  · rename_i h; exact parS_kept (keptS_lt hm) (by omega) ((kept_facts hv hm).2 (by omega)).1

theorem set_in (hv : validT b t = true) {i : Nat} (hi : i < t.length) : ∀ k, k < (nth t i).set.length → 0 ≤ nth (nth t i).set k ∧ nth (nth t i).set k < b.next.length := fun k hk =>
  (okE_iff.1 ((of_valid hv hi).2.1 k hk)).1

theorem st_in (hv : validT b t = true) (ha : 0 ≤ a ∧ a < b.letters) {j : Nat} (hj : j < 2 * t.length) : inB b (nth (trimS b t a) j).st ∧ inB b (nth (trimS b t a) j).ch := by
  have hvb := (validT_iff.1 hv).1
  refine trimTo_in (A := grown b t a) (fun j hj => ?_) (2 * t.length) (by rw [grown_length]; omega) j (by rw [grown_length]; exact hj)
  rw [grown_length] at hj
  by_cases h : j < t.length
  · rw [grown_old h]
    exact ⟨inB_hits b _ a false hvb ha (set_in hv h), inB_none b⟩
  · obtain ⟨k, rfl⟩ : ∃ k, j = t.length + k := ⟨j - t.length, by omega⟩
    rw [grown_new (by omega)]
    exact ⟨inB_hits b _ a true hvb ha (set_in hv (by omega)), inB_none b⟩

theorem grown_ups (hv : validT b t = true) : ∀ j, j < (grown b t a).length → (nth (grown b t a) j).up < j := fun j hj => (grown_up hv j (by rw [grown_length] at hj; exact hj)).1

theorem grown_ch : ∀ j, j < (grown b t a).length → (nth (grown b t a) j).ch = none' := fun j hj => by
  rw [grown_length] at hj
  by_cases h : j < t.length
  · rw [grown_old h]
  · obtain ⟨k, rfl⟩ : ∃ k, j = t.length + k := ⟨j - t.length, by omega⟩
    rw [grown_new (by omega)]

theorem st_up (hv : validT b t = true) {j : Nat} (hj : j < 2 * t.length) (h0 : 0 ≤ (nth (grown b t a) j).up) {q : Int} (hq : (nth (trimS b t a) j).st q = true) : (nth (trimS b t a) (nth (grown b t a) j).up.toNat).st q = true :=
  trimTo_chain (grown_ups hv) q (2 * t.length) (by rw [grown_length]; omega) j hj h0 hq
theorem st_ch (hv : validT b t = true) {j : Nat} (hj : j < 2 * t.length) (h0 : 0 ≤ (nth (grown b t a) j).up) {q : Int} (hq : (nth (trimS b t a) j).st q = true) : (nth (trimS b t a) (nth (grown b t a) j).up.toNat).ch q = true :=
  trimTo_chs (grown_ups hv) q (2 * t.length) (by rw [grown_length]; omega) j hj h0 hq

/-- The first node is kept if any is. -/
theorem root_kept (hv : validT b t = true) {i : Nat} (hi : i ∈ keptS b t a) : 0 ∈ keptS b t a := by
  obtain ⟨h1, h2⟩ := mem_keptI.1 hi
  refine mem_keptI.2 ⟨by omega, ?_⟩
  cases hg : (nth (flashed b t a) 0).gone with
  | false => rfl
  | true =>
    have hl := trimS_length (b := b) (t := t) (a := a)
    have hu : ∀ j, j < 2 * t.length → (nth (trimS b t a) j).up = (nth (grown b t a) j).up := fun j hj => (trimTo_up _ _ j (by rw [grown_length]; exact hj)).1
    have := flashTo_all (b := b) (A := trimS b t a) (n := 2 * t.length) (fun j hj => by rw [hu j (by omega)]; exact (grown_up hv j (by omega)).1) (fun j hj0 hj => by rw [hu j (by omega)]; exact (grown_up hv j (by omega)).2.1 hj0) (by omega) hg i h1
    rw [show nth (flashTo b (trimS b t a) (2 * t.length)) i = nth (flashed b t a) i from rfl, h2] at this
    cases this

theorem new_names (hv : validT b t = true) : (∀ p, p < (keptS b t a).length → t.length ≤ nth (keptS b t a) p → usedP t (nth (namedS b t a) (nth (keptS b t a) p)).name = false ∧ 1 ≤ (nth (namedS b t a) (nth (keptS b t a) p)).name ∧
      (∀ p', p' < p → t.length ≤ nth (keptS b t a) p' → (nth (namedS b t a) (nth (keptS b t a) p')).name < (nth (namedS b t a) (nth (keptS b t a) p)).name) ∧
      ∀ u, 1 ≤ u → u ≤ (nth (namedS b t a) (nth (keptS b t a) p)).name → usedP t u = true ∨ ∃ p', p' < (keptS b t a).length ∧ (nth (namedS b t a) (nth (keptS b t a) p')).name = u) := by
  obtain ⟨h1, h2⟩ := nameTo_new (used := usedP t) (M := 2 * b.next.length) (used_le hv) (A := flashed b t a) (I := keptS b t a) keptS_sorted (fun i hi => by rw [flashed_length]; exact keptS_lt hi) _ (Nat.le_refl _)
  have hz : ∀ p, p < (keptS b t a).length → t.length ≤ nth (keptS b t a) p → (nth (flashed b t a) (nth (keptS b t a) p)).name ≤ 0 := fun p hp hn => by
    rw [flashed_new hn (keptS_lt (nth_mem hp))]; omega
  intro p hp hn
  obtain ⟨q1, q2, q3, q4⟩ := h1 p hp (hz p hp hn)
  refine ⟨q1, q2, fun p' hp' hn' => q4 p' hp' (hz p' (by omega) hn'), fun u hu1 hu2 => ?_⟩
  have hq3 : u < (nameTo (usedP t) (2 * b.next.length) (flashed b t a) (keptS b t a) (keptS b t a).length).2 := by
    have : (nth (namedS b t a) (nth (keptS b t a) p)).name = (nth (nameTo (usedP t) (2 * b.next.length) (flashed b t a) (keptS b t a) (keptS b t a).length).1 (nth (keptS b t a) p)).name := rfl
    omega
  rcases h2 u hu1 hq3 with h | ⟨p', h3, _, h5⟩
  · exact .inl h
  · exact .inr ⟨p', h3, h5⟩

theorem x_name {k : Nat} (hk : k < (keptS b t a).length) : (nth (outS b t a) k).name = (nth (namedS b t a) (nth (keptS b t a) k)).name := by rw [out_nth hk]

theorem x_diff (hv : validT b t = true) {j k : Nat} (hk : k < (keptS b t a).length) (hj : j < k) : (nth (outS b t a) j).name ≠ (nth (outS b t a) k).name := by
  rw [x_name hk, x_name (by omega)]
  intro e
  by_cases h1 : nth (keptS b t a) k < t.length
  · by_cases h2 : nth (keptS b t a) j < t.length
    · rw [named_old hv h1, named_old hv h2] at e
      have := keptS_inj (by omega) hk (valid_diff hv h2 h1 e)
      omega
    · have := (new_names (a := a) hv j (by omega) (by omega)).1
      rw [e, named_old hv h1, used_iff.2 ⟨_, h1, rfl⟩] at this
      cases this
  · obtain ⟨q1, _, q3, _⟩ := new_names (a := a) hv k hk (by omega)
    by_cases h2 : nth (keptS b t a) j < t.length
    · rw [← e, named_old hv h2, used_iff.2 ⟨_, h2, rfl⟩] at q1
      cases q1
    · have := q3 j hj (by omega)
      omega

theorem mem_x (hv : validT b t = true) (ha : 0 ≤ a ∧ a < b.letters) {k : Nat} (hk : k < (keptS b t a).length) {q : Int} : q ∈ (nth (outS b t a) k).set ↔ (nth (trimS b t a) (nth (keptS b t a) k)).st q = true := by
  rw [x_set hk]
  exact mem_elems (st_in hv ha (keptS_lt (nth_mem hk))).1

theorem x_okP (hv : validT b t = true) (ha : 0 ≤ a ∧ a < b.letters) {j k : Nat} (hk : k < (keptS b t a).length) (hj : j < k) : okP (outS b t a) k j = true := by
  refine okP_iff.2 ⟨x_diff hv hk hj, fun e q hq hqj => ?_⟩
  rw [mem_x hv ha hk] at hq
  rw [mem_x hv ha (by omega)] at hqj
  rw [x_par hv hk, x_par hv (by omega)] at e
  have hmk := nth_mem hk
  have hmj := nth_mem (show j < (keptS b t a).length by omega)
  have hlt : nth (keptS b t a) j < nth (keptS b t a) k := by
    rw [nth_eq hk, nth_eq (by omega)]
    exact List.pairwise_iff_getElem.1 (keptS_sorted (b := b) (t := t) (a := a)) j k (by omega) hk hj
  have gk := grown_up (a := a) hv _ (keptS_lt hmk)
  have gj := grown_up (a := a) hv _ (keptS_lt hmj)
  by_cases h1 : (nth (grown b t a) (nth (keptS b t a) k)).up < 0
  · have : nth (keptS b t a) k = 0 := by
      by_cases h0 : 0 < nth (keptS b t a) k
      · have := gk.2.1 h0; omega
      · omega
    omega
  · by_cases h2 : (nth (grown b t a) (nth (keptS b t a) j)).up < 0
    · rw [if_pos h2, if_neg h1] at e; omega
    · rw [if_neg h2, if_neg h1] at e
      obtain ⟨p1, p2⟩ := pos_at ((kept_facts hv hmk).2 (by omega)).1
      obtain ⟨p3, p4⟩ := pos_at ((kept_facts hv hmj).2 (by omega)).1
      have e' : pos b t a (nth (grown b t a) (nth (keptS b t a) j)).up.toNat = pos b t a (nth (grown b t a) (nth (keptS b t a) k)).up.toNat := by omega
      rw [e', p2] at p4
      exact trimTo_apart (grown_ups hv) q (2 * t.length) (by rw [grown_length]; omega) _ _ hlt (keptS_lt hmk) (by omega) (by omega) hqj hq

theorem x_okE (hv : validT b t = true) (ha : 0 ≤ a ∧ a < b.letters) {k : Nat} (hk : k < (keptS b t a).length) : ∀ i, i < (nth (outS b t a) k).set.length → okE b.next.length (outS b t a) k i = true := by
  intro i hi
  have hs : (nth (outS b t a) k).set.Pairwise (· < ·) := by rw [x_set hk]; exact elems_sorted b _
  have hm := nth_mem hi
  have hin := (mem_x hv ha hk).1 hm
  have hmk := nth_mem hk
  refine okE_iff.2 ⟨(st_in hv ha (keptS_lt hmk)).1 _ hin, fun h0 => pw_nth hs (by omega) hi, fun h0 => ?_⟩
  have hup : ¬ (nth (grown b t a) (nth (keptS b t a) k)).up < 0 := fun h => by
    have h1 := (grown_up (a := a) hv _ (keptS_lt hmk)).2.1
    have : nth (keptS b t a) k = 0 := by
      by_cases h0 : 0 < nth (keptS b t a) k
      · have := h1 h0; omega
      · omega
    have h3 := pos_of (b := b) (t := t) (a := a) hk
    rw [this] at h3
    have : pos b t a 0 = 0 := rfl
    omega
  obtain ⟨p1, p2⟩ := pos_at ((kept_facts hv hmk).2 (by omega)).1
  rw [x_par hv hk, if_neg hup]
  simp only [Int.toNat_natCast]
  rw [mem_x hv ha p1, p2]
  exact st_up hv (keptS_lt hmk) (by omega) hin

theorem x_okW (hv : validT b t = true) (ha : 0 ≤ a ∧ a < b.letters) {k : Nat} (hk : k < (keptS b t a).length) : okW b.next.length (outS b t a) k := by
  have hmk := nth_mem hk
  obtain ⟨c1, c2⟩ := kept_facts hv hmk
  have gk := grown_up (a := a) hv _ (keptS_lt hmk)
  have hr0 : nth (keptS b t a) k = 0 ↔ k = 0 := by
    constructor
    · intro e
      have h3 := pos_of (b := b) (t := t) (a := a) hk
      rw [e] at h3
      have : pos b t a 0 = 0 := rfl
      omega
    · intro e
      subst e
      have h3 := (pos_at (root_kept hv hmk)).2
      have : pos b t a 0 = 0 := rfl
      rw [this] at h3
      exact h3
  have hup : (nth (grown b t a) (nth (keptS b t a) k)).up < 0 ↔ k = 0 := by
    rw [← hr0]
    constructor
    · intro h
      by_cases h0 : 0 < nth (keptS b t a) k
      · have := gk.2.1 h0; omega
      · omega
    · intro e
      exact gk.2.2 e
  have hpar := x_par hv hk
  refine ⟨by rw [x_set hk]; exact c1, ?_, ?_, ?_, x_okE hv ha hk, fun h0 => ?_⟩
  · rw [hpar]
    constructor
    · intro e
      rw [if_pos (hup.2 (by omega))]
    · intro e
      split at e
      · rename_i h; have := hup.1 h; omega
      · omega
  · rw [hpar]
    split
    · omega
    · rename_i h
      have := pos_lt (c2 (by omega)).1 (show (nth (grown b t a) (nth (keptS b t a) k)).up.toNat < nth (keptS b t a) k by omega)
      rw [pos_of hk] at this
      omega
  · rw [hpar]; split <;> omega
  · have hnu : ¬ (nth (grown b t a) (nth (keptS b t a) k)).up < 0 := fun h => by have := hup.1 h; omega
    obtain ⟨c3, c4⟩ := c2 (by omega)
    obtain ⟨p1, p2⟩ := pos_at c3
    rw [hpar, if_neg hnu]
    simp only [Int.toNat_natCast]
    rw [x_set p1, p2]
    have hnd : (kids ((outS b t a).take (k + 1)) ((pos b t a (nth (grown b t a) (nth (keptS b t a) k)).up.toNat : Nat) : Int)).Nodup := kids_nodup (n := b.next.length) (k + 1) (by rw [out_len]; omega) (fun j hj => ⟨x_okE hv ha (by omega), fun i hi => x_okP hv ha (by omega) hi⟩) _
    have hsub : ∀ q ∈ kids ((outS b t a).take (k + 1)) ((pos b t a (nth (grown b t a) (nth (keptS b t a) k)).up.toNat : Nat) : Int), (nth (trimS b t a) (nth (grown b t a) (nth (keptS b t a) k)).up.toNat).ch q = true := fun q hq => by
      obtain ⟨j, hj, hjp, hjq⟩ := (mem_kids (by rw [out_len]; omega)).1 hq
      have hmj := nth_mem (show j < (keptS b t a).length by omega)
      rw [mem_x hv ha (by omega)] at hjq
      rw [x_par hv (by omega)] at hjp
      split at hjp
      · omega
      · rename_i hu
        obtain ⟨p3, p4⟩ := pos_at ((kept_facts hv hmj).2 (by omega)).1
        have e' : pos b t a (nth (grown b t a) (nth (keptS b t a) j)).up.toNat = pos b t a (nth (grown b t a) (nth (keptS b t a) k)).up.toNat := by omega
        rw [e', p2] at p4
        rw [p4]
        exact st_ch hv (keptS_lt hmj) (by omega) hjq
    have hpl : (nth (grown b t a) (nth (keptS b t a) k)).up.toNat < 2 * t.length := keptS_lt c3
    have hchst : ∀ q, (nth (trimS b t a) (nth (grown b t a) (nth (keptS b t a) k)).up.toNat).ch q = true → (nth (trimS b t a) (nth (grown b t a) (nth (keptS b t a) k)).up.toNat).st q = true := fun q hq => by
      obtain ⟨j, hj, h1, h2, h3⟩ := trimTo_ch (grown_ups hv) grown_ch q (2 * t.length) (by rw [grown_length]; omega) _ (by rw [grown_length]; exact hpl) hq
      rw [← h2]
      exact st_up hv hj h1 h3
    have h1 : (kids ((outS b t a).take (k + 1)) ((pos b t a (nth (grown b t a) (nth (keptS b t a) k)).up.toNat : Nat) : Int)).length ≤ cnt b (nth (trimS b t a) (nth (grown b t a) (nth (keptS b t a) k)).up.toNat).ch :=
      nodup_le hnd fun q hq => (mem_elems (st_in hv ha hpl).2).2 (hsub q hq)
    have h2 : cnt b (nth (trimS b t a) (nth (grown b t a) (nth (keptS b t a) k)).up.toNat).ch ≤ cnt b (nth (trimS b t a) (nth (grown b t a) (nth (keptS b t a) k)).up.toNat).st :=
      nodup_le (elems_nodup b _) fun q hq => (mem_elems (st_in hv ha hpl).1).2 (hchst q ((mem_elems (st_in hv ha hpl).2).1 hq))
    have h3 : (elems b (nth (trimS b t a) (nth (grown b t a) (nth (keptS b t a) k)).up.toNat).st).length = cnt b (nth (trimS b t a) (nth (grown b t a) (nth (keptS b t a) k)).up.toNat).st := rfl
    omega

/-- What a step makes of a tree is a tree. -/
theorem outS_valid (hv : validT b t = true) (ha : 0 ≤ a ∧ a < b.letters) : validT b (outS b t a) = true := by
  have hlen : (outS b t a).length ≤ b.next.length := len_le fun j hj => x_okW hv ha (by rw [out_len] at hj; exact hj)
  have htl := (validT_iff.1 hv).2.1
  refine valid_of (validT_iff.1 hv).1 fun k hk => ?_
  rw [out_len] at hk hlen
  have hW := x_okW hv ha hk
  obtain ⟨w1, w2, w3, w4, w5, w6⟩ := hW
  have hname : 1 ≤ (nth (outS b t a) k).name ∧ (nth (outS b t a) k).name ≤ 2 * b.next.length := by
    rw [x_name hk]
    by_cases h : nth (keptS b t a) k < t.length
    · rw [named_old hv h]; exact valid_name hv h
    · obtain ⟨_, q2, _, q4⟩ := new_names (a := a) hv k hk (by omega)
      refine ⟨q2, ?_⟩
      have hle := nodup_le (l := (List.range (nth (namedS b t a) (nth (keptS b t a) k)).name.toNat).map fun i : Nat => ((i : Int) + 1)) (m := t.map (·.name) ++ (keptS b t a).map fun i => (nth (namedS b t a) i).name) ?_ ?_
      · simp only [List.length_map, List.length_range, List.length_append] at hle
        omega
      · rw [List.Nodup, List.pairwise_map]
        exact List.pairwise_lt_range.imp fun h => by omega
      · intro x hx
        obtain ⟨i, hi, rfl⟩ := List.mem_map.1 hx
        simp only [List.mem_range] at hi
        rw [List.mem_append]
        rcases q4 ((i : Int) + 1) (by omega) (by omega) with h | ⟨p', hp', h⟩
        · left
          obtain ⟨j, hj, e⟩ := used_iff.1 h
          exact List.mem_map.2 ⟨_, nth_mem hj, e⟩
        · right
          exact List.mem_map.2 ⟨_, nth_mem hp', h⟩
  exact ⟨⟨hname.1, hname.2, w1, w2, w3, w4⟩, w5, fun j hj => x_okP hv ha hk hj, w6⟩

end

/-- The tree at the beginning. -/
theorem startT_valid {b : Bu} (hv : validB b = true) : validT b (startT b) = true := by
  obtain ⟨_, v2, _⟩ := validB_iff.1 hv
  unfold startT
  split
  · rename_i h
    have h0 : 0 < b.start.length := List.length_pos_iff.2 h.2
    have h1 := (okS_iff.1 (v2 0 h0)).1
    refine valid_of hv fun j hj => ?_
    obtain rfl : j = 0 := by simp at hj; omega
    refine ⟨⟨by show (1 : Int) ≤ 1; decide, by show (1 : Int) ≤ _; omega, by show b.start.length ≠ 0; omega, by constructor <;> intro _ <;> rfl, by show (-1 : Int) < 0; decide, by show (-1 : Int) ≤ -1; decide⟩, fun k hk => ?_, fun k hk => by omega, fun h => by omega⟩
    have := okS_iff.1 (v2 k hk)
    exact okE_iff.2 ⟨this.1, this.2, fun h => by omega⟩
  · exact valid_of hv fun j hj => by simp at hj

end Go.Proofs.Ytonhbeapffiibaa

