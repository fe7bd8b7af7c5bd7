/-
  Chapter 16: what a step makes of a tree is a tree: the plain laws.
-/
import Derived.Test.YtonhbeapffiibaaLawN
namespace Go.Proofs.Ytonhbeapffiibaa
open Go.HL

def trimS (b : Bu) (t : List Nd) (a : Int) : List An := trimTo (grown b t a) (2 * t.length)

section
variable {b : Bu} {t : List Nd} {a : Int}

theorem trimS_length : (trimS b t a).length = 2 * t.length := by rw [trimS, trimTo_length, grown_length]

theorem flashed_at {j : Nat} (hj : j < 2 * t.length) : (nth (flashed b t a) j).up = (nth (grown b t a) j).up ∧ (nth (flashed b t a) j).st = (nth (trimS b t a) j).st := by
  have h := flashTo_same b (trimS b t a) (2 * t.length) j (by rw [trimS_length]; exact hj)
  exact ⟨h.1.trans (trimTo_up _ _ j (by rw [grown_length]; exact hj)).1, h.2.2.1⟩

theorem named_at {j : Nat} (hj : j < 2 * t.length) : (nth (namedS b t a) j).up = (nth (grown b t a) j).up ∧ (nth (namedS b t a) j).st = (nth (trimS b t a) j).st := by
  have h := nameTo_same (usedP t) (2 * b.next.length) (flashed b t a) (keptS b t a) _ (Nat.le_refl _) j (by rw [flashed_length]; exact hj)
  have h2 := flashed_at (b := b) (a := a) hj
  exact ⟨h.1.trans h2.1, h.2.1.trans h2.2⟩

/-- A node that is kept has states; so is the one above it, and its children do not have all of its states. -/
theorem kept_facts (hv : validT b t = true) {i : Nat} (hi : i ∈ keptS b t a) : cnt b (nth (trimS b t a) i).st ≠ 0 ∧ (0 ≤ (nth (grown b t a) i).up → (nth (grown b t a) i).up.toNat ∈ keptS b t a ∧ cnt b (nth (trimS b t a) (nth (grown b t a) i).up.toNat).ch ≠ cnt b (nth (trimS b t a) (nth (grown b t a) i).up.toNat).st) := by
  obtain ⟨hi2, hg⟩ := mem_keptI.1 hi
  have hl := trimS_length (b := b) (t := t) (a := a)
  have hgu := grown_up (a := a) hv i hi2
  rw [show flashed b t a = flashTo b (trimS b t a) (2 * t.length) from rfl, flashTo_gone (by omega) i hi2] at hg
  unfold goneAt at hg
  have hs := flashTo_same b (trimS b t a) i i (by omega)
  have hup := (trimTo_up (grown b t a) (2 * t.length) i (by rw [grown_length]; exact hi2)).1
  rw [hs.1, hs.2.2.1, show (nth (trimS b t a) i).up = (nth (grown b t a) i).up from hup] at hg
  simp only [Bool.or_eq_false_iff, Bool.and_eq_false_iff, decide_eq_false_iff_not] at hg
  obtain ⟨h1, h2⟩ := hg
  refine ⟨h2, fun h0 => ?_⟩
  rcases h1 with h1 | ⟨h1, h3⟩
  · exact absurd h0 h1
  have hp : (nth (grown b t a) i).up.toNat < i := by omega
  have hsp := flashTo_same b (trimS b t a) i (nth (grown b t a) i).up.toNat (by omega)
  rw [hsp.2.2.1, hsp.2.2.2] at h3
  refine ⟨mem_keptI.2 ⟨by omega, ?_⟩, h3⟩
  rw [flashTo_gone (by omega) _ hp] at h1
  rw [show flashed b t a = flashTo b (trimS b t a) (2 * t.length) from rfl, flashTo_gone (by omega) _ (by omega)]
  exact h1

/-- The place of a node among those that are kept. -/
def pos (b : Bu) (t : List Nd) (a : Int) (i : Nat) : Nat := (keptI (flashed b t a) i).length

theorem pos_at {i : Nat} (hi : i ∈ keptS b t a) : pos b t a i < (keptS b t a).length ∧ nth (keptS b t a) (pos b t a i) = i := by
  obtain ⟨h1, h2⟩ := mem_keptI.1 hi
  exact keptI_at h1 h2

theorem keptS_inj {j k : Nat} (hj : j < (keptS b t a).length) (hk : k < (keptS b t a).length) (e : nth (keptS b t a) j = nth (keptS b t a) k) : j = k := by
  rw [nth_eq hj, nth_eq hk] at e
  have hp := List.pairwise_iff_getElem.1 (keptS_sorted (b := b) (t := t) (a := a))
  rcases Nat.lt_trichotomy j k with h | h | h
  · have := hp j k hj hk h; omega
  · exact h
  · have := hp k j hk hj h; omega

theorem pos_of {k : Nat} (hk : k < (keptS b t a).length) : pos b t a (nth (keptS b t a) k) = k := by
  obtain ⟨h1, h2⟩ := pos_at (nth_mem hk)
  exact keptS_inj h1 hk h2

theorem pos_lt {p i : Nat} (hp : p ∈ keptS b t a) (h : p < i) : pos b t a p < pos b t a i := by
  obtain ⟨h1, h2⟩ := mem_keptI.1 hp
  exact (keptI_at (F := flashed b t a) h h2).1

theorem parS_kept {i : Nat} (hi : i < 2 * t.length) (h0 : 0 ≤ (nth (grown b t a) i).up) (hp : (nth (grown b t a) i).up.toNat ∈ keptS b t a) : parS (keptS b t a) (namedS b t a) i = pos b t a (nth (grown b t a) i).up.toNat := by
  obtain ⟨h1, h2⟩ := pos_at hp
  rw [parS, (named_at hi).1, if_neg (by omega)]
  refine idxF_some h1 (by rw [h2]; simp) fun j hj => ?_
  simp only [decide_eq_false_iff_not]
  intro e
  have := keptS_inj (by omega) h1 (e.trans h2.symm)
  omega

theorem parS_root {i : Nat} (hi : i < 2 * t.length) (h0 : (nth (grown b t a) i).up < 0) : parS (keptS b t a) (namedS b t a) i = -1 := by
  rw [parS, (named_at hi).1, if_pos h0]

theorem x_set {k : Nat} (hk : k < (keptS b t a).length) : (nth (outS b t a) k).set = elems b (nth (trimS b t a) (nth (keptS b t a) k)).st := by
  rw [out_nth hk]
  simp only
  rw [(named_at (keptS_lt (nth_mem hk))).2]

theorem x_par (hv : validT b t = true) {k : Nat} (hk : k < (keptS b t a).length) : (nth (outS b t a) k).par = if (nth (grown b t a) (nth (keptS b t a) k)).up < 0 then -1 else (pos b t a (nth (grown b t a) (nth (keptS b t a) k)).up.toNat : Int) := by
  rw [out_nth hk]
  simp only
  have hm := nth_mem hk
  split
  · rename_i h; exact parS_root (keptS_lt hm) h
  · rename_i h; exact parS_kept (keptS_lt hm) (by omega) ((kept_facts hv hm).2 (by omega)).1

theorem set_in (hv : validT b t = true) {i : Nat} (hi : i < t.length) : ∀ k, k < (nth t i).set.length → 0 ≤ nth (nth t i).set k ∧ nth (nth t i).set k < b.next.length := fun k hk =>
  (okE_iff.1 ((of_valid hv hi).2.1 k hk)).1

theorem st_in (hv : validT b t = true) (ha : 0 ≤ a ∧ a < b.letters) {j : Nat} (hj : j < 2 * t.length) : inB b (nth (trimS b t a) j).st ∧ inB b (nth (trimS b t a) j).ch := by
  have hvb := (validT_iff.1 hv).1
  refine trimTo_in (A := grown b t a) (fun j hj => ?_) (2 * t.length) (by rw [grown_length]; omega) j (by rw [grown_length]; exact hj)
  rw [grown_length] at hj
  by_cases h : j < t.length
  · rw [grown_old h]
    exact ⟨inB_hits b _ a false hvb ha (set_in hv h), inB_none b⟩
  · obtain ⟨k, rfl⟩ : ∃ k, j = t.length + k := ⟨j - t.length, by omega⟩
    rw [grown_new (by omega)]
    exact ⟨inB_hits b _ a true hvb ha (set_in hv (by omega)), inB_none b⟩

theorem grown_ups (hv : validT b t = true) : ∀ j, j < (grown b t a).length → (nth (grown b t a) j).up < j := fun j hj => (grown_up hv j (by rw [grown_length] at hj; exact hj)).1

theorem grown_ch : ∀ j, j < (grown b t a).length → (nth (grown b t a) j).ch = none' := fun j hj => by
  rw [grown_length] at hj
  by_cases h : j < t.length
  · rw [grown_old h]
  · obtain ⟨k, rfl⟩ : ∃ k, j = t.length + k := ⟨j - t.length, by omega⟩
    rw [grown_new (by omega)]

theorem st_up (hv : validT b t = true) {j : Nat} (hj : j < 2 * t.length) (h0 : 0 ≤ (nth (grown b t a) j).up) {q : Int} (hq : (nth (trimS b t a) j).st q = true) : (nth (trimS b t a) (nth (grown b t a) j).up.toNat).st q = true :=
  trimTo_chain (grown_ups hv) q (2 * t.length) (by rw [grown_length]; omega) j hj h0 hq
theorem st_ch (hv : validT b t = true) {j : Nat} (hj : j < 2 * t.length) (h0 : 0 ≤ (nth (grown b t a) j).up) {q : Int} (hq : (nth (trimS b t a) j).st q = true) : (nth (trimS b t a) (nth (grown b t a) j).up.toNat).ch q = true :=
  trimTo_chs (grown_ups hv) q (2 * t.length) (by rw [grown_length]; omega) j hj h0 hq

/-- The first node is kept if any is. -/
theorem root_kept (hv : validT b t = true) {i : Nat} (hi : i ∈ keptS b t a) : 0 ∈ keptS b t a := by
  obtain ⟨h1, h2⟩ := mem_keptI.1 hi
  refine mem_keptI.2 ⟨by omega, ?_⟩
  cases hg : (nth (flashed b t a) 0).gone with
  | false => rfl
  | true =>
    have hl := trimS_length (b := b) (t := t) (a := a)
    have hu : ∀ j, j < 2 * t.length → (nth (trimS b t a) j).up = (nth (grown b t a) j).up := fun j hj => (trimTo_up _ _ j (by rw [grown_length]; exact hj)).1
    have := flashTo_all (b := b) (A := trimS b t a) (n := 2 * t.length) (fun j hj => by rw [hu j (by omega)]; exact (grown_up hv j (by omega)).1) (fun j hj0 hj => by rw [hu j (by omega)]; exact (grown_up hv j (by omega)).2.1 hj0) (by omega) hg i h1
    rw [show nth (flashTo b (trimS b t a) (2 * t.length)) i = nth (flashed b t a) i from rfl, h2] at this
    cases this

theorem new_names (hv : validT b t = true) : (∀ p, p < (keptS b t a).length → t.length ≤ nth (keptS b t a) p → usedP t (nth (namedS b t a) (nth (keptS b t a) p)).name = false ∧ 1 ≤ (nth (namedS b t a) (nth (keptS b t a) p)).name ∧
      (∀ p', p' < p → t.length ≤ nth (keptS b t a) p' → (nth (namedS b t a) (nth (keptS b t a) p')).name < (nth (namedS b t a) (nth (keptS b t a) p)).name) ∧
      ∀ u, 1 ≤ u → u ≤ (nth (namedS b t a) (nth (keptS b t a) p)).name → usedP t u = true ∨ ∃ p', p' < (keptS b t a).length ∧ (nth (namedS b t a) (nth (keptS b t a) p')).name = u) := by
  obtain ⟨h1, h2⟩ := nameTo_new (used := usedP t) (M := 2 * b.next.length) (used_le hv) (A := flashed b t a) (I := keptS b t a) keptS_sorted (fun i hi => by rw [flashed_length]; exact keptS_lt hi) _ (Nat.le_refl _)
  have hz : ∀ p, p < (keptS b t a).length → t.length ≤ nth (keptS b t a) p → (nth (flashed b t a) (nth (keptS b t a) p)).name ≤ 0 := fun p hp hn => by
    rw [flashed_new hn (keptS_lt (nth_mem hp))]; omega
  intro p hp hn
  obtain ⟨q1, q2, q3, q4⟩ := h1 p hp (hz p hp hn)
  refine ⟨q1, q2, fun p' hp' hn' => q4 p' hp' (hz p' (by omega) hn'), fun u hu1 hu2 => ?_⟩
  have hq3 : u < (nameTo (usedP t) (2 * b.next.length) (flashed b t a) (keptS b t a) (keptS b t a).length).2 := by
    have : (nth (namedS b t a) (nth (keptS b t a) p)).name = (nth (nameTo (usedP t) (2 * b.next.length) (flashed b t a) (keptS b t a) (keptS b t a).length).1 (nth (keptS b t a) p)).name := rfl
    omega
  rcases h2 u hu1 hq3 with h | ⟨p', h3, _, h5⟩
  · exact .inl h
  · exact .inr ⟨p', h3, h5⟩

theorem x_name {k : Nat} (hk : k < (keptS b t a).length) : (nth (outS b t a) k).name = (nth (namedS b t a) (nth (keptS b t a) k)).name := by rw [out_nth hk]

theorem x_diff (hv : validT b t = true) {j k : Nat} (hk : k < (keptS b t a).length) (hj : j < k) : (nth (outS b t a) j).name ≠ (nth (outS b t a) k).name := by
  rw [x_name hk, x_name (by omega)]
  intro e
  by_cases h1 : nth (keptS b t a) k < t.length
  · by_cases h2 : nth (keptS b t a) j < t.length
    · rw [named_old hv h1, named_old hv h2] at e
      have := keptS_inj (by omega) hk (valid_diff hv h2 h1 e)
      omega
    · have := (new_names (a := a) hv j (by omega) (by omega)).1
      rw [e, named_old hv h1, used_iff.2 ⟨_, h1, rfl⟩] at this
      cases this
  · obtain ⟨q1, _, q3, _⟩ := new_names (a := a) hv k hk (by omega)
    by_cases h2 : nth (keptS b t a) j < t.length
    · rw [← e, named_old hv h2, used_iff.2 ⟨_, h2, rfl⟩] at q1
      cases q1
    · have := q3 j hj (by omega)
      omega

theorem mem_x (hv : validT b t = true) (ha : 0 ≤ a ∧ a < b.letters) {k : Nat} (hk : k < (keptS b t a).length) {q : Int} : q ∈ (nth (outS b t a) k).set ↔ (nth (trimS b t a) (nth (keptS b t a) k)).st q = true := by
  rw [x_set hk]
  exact mem_elems (st_in hv ha (keptS_lt (nth_mem hk))).1

theorem x_okP (hv : validT b t = true) (ha : 0 ≤ a ∧ a < b.letters) {j k : Nat} (hk : k < (keptS b t a).length) (hj : j < k) : okP (outS b t a) k j = true := by
  refine okP_iff.2 ⟨x_diff hv hk hj, fun e q hq hqj => ?_⟩
  rw [mem_x hv ha hk] at hq
  rw [mem_x hv ha (by omega)] at hqj
  rw [x_par hv hk, x_par hv (by omega)] at e
  have hmk := nth_mem hk
  have hmj := nth_mem (show j < (keptS b t a).length by omega)
  have hlt : nth (keptS b t a) j < nth (keptS b t a) k := by
    rw [nth_eq hk, nth_eq (by omega)]
    exact List.pairwise_iff_getElem.1 (keptS_sorted (b := b) (t := t) (a := a)) j k (by omega) hk hj
  have gk := grown_up (a := a) hv _ (keptS_lt hmk)
  have gj := grown_up (a := a) hv _ (keptS_lt hmj)
  by_cases h1 : (nth (grown b t a) (nth (keptS b t a) k)).up < 0
  · have : nth (keptS b t a) k = 0 := by
      by_cases h0 : 0 < nth (keptS b t a) k
      · have := gk.2.1 h0; omega
      · omega
    omega
  · by_cases h2 : (nth (grown b t a) (nth (keptS b t a) j)).up < 0
    · rw [if_pos h2, if_neg h1] at e; omega
    · rw [if_neg h2, if_neg h1] at e
      obtain ⟨p1, p2⟩ := pos_at ((kept_facts hv hmk).2 (by omega)).1
      obtain ⟨p3, p4⟩ := pos_at ((kept_facts hv hmj).2 (by omega)).1
      have e' : pos b t a (nth (grown b t a) (nth (keptS b t a) j)).up.toNat = pos b t a (nth (grown b t a) (nth (keptS b t a) k)).up.toNat := by omega
      rw [e', p2] at p4
      exact trimTo_apart (grown_ups hv) q (2 * t.length) (by rw [grown_length]; omega) _ _ hlt (keptS_lt hmk) (by omega) (by omega) hqj hq

theorem x_okE (hv : validT b t = true) (ha : 0 ≤ a ∧ a < b.letters) {k : Nat} (hk : k < (keptS b t a).length) : ∀ i, i < (nth (outS b t a) k).set.length → okE b.next.length (outS b t a) k i = true := by
  intro i hi
  have hs : (nth (outS b t a) k).set.Pairwise (· < ·) := by rw [x_set hk]; exact elems_sorted b _
  have hm := nth_mem hi
  have hin := (mem_x hv ha hk).1 hm
  have hmk := nth_mem hk
  refine okE_iff.2 ⟨(st_in hv ha (keptS_lt hmk)).1 _ hin, fun h0 => pw_nth hs (by omega) hi, fun h0 => ?_⟩
  have hup : ¬ (nth (grown b t a) (nth (keptS b t a) k)).up < 0 := fun h => by
    have h1 := (grown_up (a := a) hv _ (keptS_lt hmk)).2.1
    have : nth (keptS b t a) k = 0 := by
      by_cases h0 : 0 < nth (keptS b t a) k
      · have := h1 h0; omega
      · omega
    have h3 := pos_of (b := b) (t := t) (a := a) hk
    rw [this] at h3
    have : pos b t a 0 = 0 := rfl
    omega
  obtain ⟨p1, p2⟩ := pos_at ((kept_facts hv hmk).2 (by omega)).1
  rw [x_par hv hk, if_neg hup]
  simp only [Int.toNat_natCast]
  rw [mem_x hv ha p1, p2]
  exact st_up hv (keptS_lt hmk) (by omega) hin

theorem x_okW (hv : validT b t = true) (ha : 0 ≤ a ∧ a < b.letters) {k : Nat} (hk : k < (keptS b t a).length) : okW b.next.length (outS b t a) k := by
  have hmk := nth_mem hk
  obtain ⟨c1, c2⟩ := kept_facts hv hmk
  have gk := grown_up (a := a) hv _ (keptS_lt hmk)
  have hr0 : nth (keptS b t a) k = 0 ↔ k = 0 := by
    constructor
    · intro e
      have h3 := pos_of (b := b) (t := t) (a := a) hk
      rw [e] at h3
      have : pos b t a 0 = 0 := rfl
      omega
    · intro e
      subst e
      have h3 := (pos_at (root_kept hv hmk)).2
      have : pos b t a 0 = 0 := rfl
      rw [this] at h3
      exact h3
  have hup : (nth (grown b t a) (nth (keptS b t a) k)).up < 0 ↔ k = 0 := by
    rw [← hr0]
    constructor
    · intro h
      by_cases h0 : 0 < nth (keptS b t a) k
      · have := gk.2.1 h0; omega
      · omega
    · intro e
      exact gk.2.2 e
  have hpar := x_par hv hk
  refine ⟨by rw [x_set hk]; exact c1, ?_, ?_, ?_, x_okE hv ha hk, fun h0 => ?_⟩
  · rw [hpar]
    constructor
    · intro e
      rw [if_pos (hup.2 (by omega))]
    · intro e
      split at e
      · rename_i h; have := hup.1 h; omega
      · omega
  · rw [hpar]
    split
    · omega
    · rename_i h
      have := pos_lt (c2 (by omega)).1 (show (nth (grown b t a) (nth (keptS b t a) k)).up.toNat < nth (keptS b t a) k by omega)
      rw [pos_of hk] at this
      omega
  · rw [hpar]; split <;> omega
  · have hnu : ¬ (nth (grown b t a) (nth (keptS b t a) k)).up < 0 := fun h => by have := hup.1 h; omega
    obtain ⟨c3, c4⟩ := c2 (by omega)
    obtain ⟨p1, p2⟩ := pos_at c3
    rw [hpar, if_neg hnu]
    simp only [Int.toNat_natCast]
    rw [x_set p1, p2]
    have hnd : (kids ((outS b t a).take (k + 1)) ((pos b t a (nth (grown b t a) (nth (keptS b t a) k)).up.toNat : Nat) : Int)).Nodup := kids_nodup (n := b.next.length) (k + 1) (by rw [out_len]; omega) (fun j hj => ⟨x_okE hv ha (by omega), fun i hi => x_okP hv ha (by omega) hi⟩) _
    have hsub : ∀ q ∈ kids ((outS b t a).take (k + 1)) ((pos b t a (nth (grown b t a) (nth (keptS b t a) k)).up.toNat : Nat) : Int), (nth (trimS b t a) (nth (grown b t a) (nth (keptS b t a) k)).up.toNat).ch q = true := fun q hq => by
      obtain ⟨j, hj, hjp, hjq⟩ := (mem_kids (by rw [out_len]; omega)).1 hq
      have hmj := nth_mem (show j < (keptS b t a).length by omega)
      rw [mem_x hv ha (by omega)] at hjq
      rw [x_par hv (by omega)] at hjp
      split at hjp
      · omega
      · rename_i hu
        obtain ⟨p3, p4⟩ := pos_at ((kept_facts hv hmj).2 (by omega)).1
        have e' : pos b t a (nth (grown b t a) (nth (keptS b t a) j)).up.toNat = pos b t a (nth (grown b t a) (nth (keptS b t a) k)).up.toNat := by omega
        rw [e', p2] at p4
        rw [p4]
        exact st_ch hv (keptS_lt hmj) (by omega) hjq
    have hpl : (nth (grown b t a) (nth (keptS b t a) k)).up.toNat < 2 * t.length := keptS_lt c3
    have hchst : ∀ q, (nth (trimS b t a) (nth (grown b t a) (nth (keptS b t a) k)).up.toNat).ch q = true → (nth (trimS b t a) (nth (grown b t a) (nth (keptS b t a) k)).up.toNat).st q = true := fun q hq => by
      obtain ⟨j, hj, h1, h2, h3⟩ := trimTo_ch (grown_ups hv) grown_ch q (2 * t.length) (by rw [grown_length]; omega) _ (by rw [grown_length]; exact hpl) hq
      rw [← h2]
      exact st_up hv hj h1 h3
    have h1 : (kids ((outS b t a).take (k + 1)) ((pos b t a (nth (grown b t a) (nth (keptS b t a) k)).up.toNat : Nat) : Int)).length ≤ cnt b (nth (trimS b t a) (nth (grown b t a) (nth (keptS b t a) k)).up.toNat).ch :=
      nodup_le hnd fun q hq => (mem_elems (st_in hv ha hpl).2).2 (hsub q hq)
    have h2 : cnt b (nth (trimS b t a) (nth (grown b t a) (nth (keptS b t a) k)).up.toNat).ch ≤ cnt b (nth (trimS b t a) (nth (grown b t a) (nth (keptS b t a) k)).up.toNat).st :=
      nodup_le (elems_nodup b _) fun q hq => (mem_elems (st_in hv ha hpl).1).2 (hchst q ((mem_elems (st_in hv ha hpl).2).1 hq))
    have h3 : (elems b (nth (trimS b t a) (nth (grown b t a) (nth (keptS b t a) k)).up.toNat).st).length = cnt b (nth (trimS b t a) (nth (grown b t a) (nth (keptS b t a) k)).up.toNat).st := rfl
    omega

/-- What a step makes of a tree is a tree. -/
theorem outS_valid (hv : validT b t = true) (ha : 0 ≤ a ∧ a < b.letters) : validT b (outS b t a) = true := by
  have hlen : (outS b t a).length ≤ b.next.length := len_le fun j hj => x_okW hv ha (by rw [out_len] at hj; exact hj)
  have htl := (validT_iff.1 hv).2.1
  refine valid_of (validT_iff.1 hv).1 fun k hk => ?_
  rw [out_len] at hk hlen
  have hW := x_okW hv ha hk
  obtain ⟨w1, w2, w3, w4, w5, w6⟩ := hW
  have hname : 1 ≤ (nth (outS b t a) k).name ∧ (nth (outS b t a) k).name ≤ 2 * b.next.length := by
    rw [x_name hk]
    by_cases h : nth (keptS b t a) k < t.length
    · rw [named_old hv h]; exact valid_name hv h
    · obtain ⟨_, q2, _, q4⟩ := new_names (a := a) hv k hk (by omega)
      refine ⟨q2, ?_⟩
      have hle := nodup_le (l := (List.range (nth (namedS b t a) (nth (keptS b t a) k)).name.toNat).map fun i : Nat => ((i : Int) + 1)) (m := t.map (·.name) ++ (keptS b t a).map fun i => (nth (namedS b t a) i).name) ?_ ?_
      · simp only [List.length_map, List.length_range, List.length_append] at hle
        omega
      · rw [List.Nodup, List.pairwise_map]
        exact List.pairwise_lt_range.imp fun h => by omega
      · intro x hx
        obtain ⟨i, hi, rfl⟩ := List.mem_map.1 hx
        simp only [List.mem_range] at hi
        rw [List.mem_append]
        rcases q4 ((i : Int) + 1) (by omega) (by omega) with h | ⟨p', hp', h⟩
        · left
          obtain ⟨j, hj, e⟩ := used_iff.1 h
          exact List.mem_map.2 ⟨_, nth_mem hj, e⟩
        · right
          exact List.mem_map.2 ⟨_, nth_mem hp', h⟩
  exact ⟨⟨hname.1, hname.2, w1, w2, w3, w4⟩, w5, fun j hj => x_okP hv ha hk hj, w6⟩

end

/-- The tree at the beginning. -/
theorem startT_valid {b : Bu} (hv : validB b = true) : validT b (startT b) = true := by
  obtain ⟨_, v2, _⟩ := validB_iff.1 hv
  unfold startT
  split
  · rename_i h
    have h0 : 0 < b.start.length := List.length_pos_iff.2 h.2
    have h1 := (okS_iff.1 (v2 0 h0)).1
    refine valid_of hv fun j hj => ?_
    obtain rfl : j = 0 := by simp at hj; omega
    refine ⟨⟨by show (1 : Int) ≤ 1; decide, by show (1 : Int) ≤ _; omega, by show b.start.length ≠ 0; omega, by constructor <;> intro _ <;> rfl, by show (-1 : Int) < 0; decide, by show (-1 : Int) ≤ -1; decide⟩, fun k hk => ?_, fun k hk => by omega, fun h => by omega⟩
    have := okS_iff.1 (v2 k hk)
    exact okE_iff.2 ⟨this.1, this.2, fun h => by omega⟩
  · exact valid_of hv fun j hj => by simp at hj

end Go.Proofs.Ytonhbeapffiibaa
