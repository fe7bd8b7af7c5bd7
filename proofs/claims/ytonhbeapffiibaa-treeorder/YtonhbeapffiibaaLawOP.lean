/-
  Chapter 16: moves that are left out: the plain laws.
-/
import Derived.Test.YtonhbeapffiibaaTreH
namespace Go.Proofs.Ytonhbeapffiibaa
open Go.HL

def thinK (l : List Mv) (k : Nat) : Bool := !(decide (k + 1 < l.length) && decide ((nth l (k + 1)).to = (nth l k).to))
def thinTo (l : List Mv) : Nat → List Mv
  | 0 => []
  | k + 1 => thinTo l k ++ (if thinK l k then [nth l k] else [])
def thin (l : List Mv) : List Mv := thinTo l l.length
def thinB (b : Bu) : Bu := ⟨b.letters, b.start, b.next.map fun r => r.map thin⟩

theorem thinTo_len (l : List Mv) : ∀ k, (thinTo l k).length ≤ k
  | 0 => by simp [thinTo]
  | k + 1 => by
    have := thinTo_len l k
    rw [thinTo, List.length_append]
    split <;> simp <;> omega

theorem mem_thinTo {l : List Mv} {x : Mv} : ∀ {k : Nat}, x ∈ thinTo l k ↔ ∃ j, j < k ∧ thinK l j = true ∧ nth l j = x
  | 0 => by simp [thinTo]
  | k + 1 => by
    rw [thinTo, List.mem_append, mem_thinTo]
    constructor
    · rintro (⟨j, h1, h2⟩ | h)
      · exact ⟨j, by omega, h2⟩
      · split at h
        · rename_i hk
          exact ⟨k, by omega, hk, (List.mem_singleton.1 h).symm⟩
        · cases h
    · rintro ⟨j, h1, h2, h3⟩
      by_cases e : j = k
      · subst e
        rw [if_pos h2]
        exact .inr (List.mem_singleton.2 h3.symm)
      · exact .inl ⟨j, by omega, h2, h3⟩

theorem thinTo_sub (l : List Mv) : ∀ k, k ≤ l.length → (thinTo l k).Sublist (l.take k)
  | 0, _ => by simp [thinTo]
  | k + 1, h => by
    rw [thinTo, take_nth h]
    refine (thinTo_sub l k (by omega)).append ?_
    split
    · exact List.Sublist.refl _
    · exact List.nil_sublist _
theorem thin_sub (l : List Mv) : (thin l).Sublist l := by
  have := thinTo_sub l l.length (Nat.le_refl _)
  rwa [List.take_length] at this

theorem bef_iff {a b : Mv} : bef a b = true ↔ a.to < b.to ∨ (a.to = b.to ∧ a.good = false ∧ b.good = true) := by
  simp [bef, and_assoc]

theorem bef_trans {a b c : Mv} (h1 : bef a b = true) (h2 : bef b c = true) : bef a c = true := by
  rw [bef_iff] at *
  rcases h1 with h1 | ⟨h1, h3, h4⟩ <;> rcases h2 with h2 | ⟨h2, h5, h6⟩
  · left; omega
  · left; omega
  · left; omega
  · rw [h4] at h5; cases h5

theorem okM_pw {l : List Mv} {n : Nat} (h : ∀ k, k < l.length → okM l n k = true) : l.Pairwise fun a b => bef a b = true := by
  have : ∀ i j, i < j → j < l.length → bef (nth l i) (nth l j) = true := by
    intro i j hij
    induction j with
    | zero => omega
    | succ j ih =>
      intro hj
      have h1 := (okM_iff.1 (h (j + 1) hj)).2 (by omega)
      simp only [Nat.add_sub_cancel] at h1
      by_cases e : i = j
      · subst e; exact h1
      · exact bef_trans (ih (by omega) (by omega)) h1
  rw [List.pairwise_iff_getElem]
  intro i j hi hj hij
  have := this i j hij hj
  rwa [nth_eq hi, nth_eq hj] at this

theorem pw_okM {l : List Mv} {n : Nat} (h1 : l.Pairwise fun a b => bef a b = true) (h2 : ∀ m ∈ l, 0 ≤ m.to ∧ m.to < n) : ∀ k, k < l.length → okM l n k = true := fun k hk => by
  refine okM_iff.2 ⟨h2 _ (nth_mem hk), fun h0 => ?_⟩
  rw [nth_eq (by omega), nth_eq hk]
  exact List.pairwise_iff_getElem.1 h1 (k - 1) k (by omega) hk (by omega)

theorem thin_ok {l : List Mv} {n : Nat} (h : ∀ k, k < l.length → okM l n k = true) : ∀ k, k < (thin l).length → okM (thin l) n k = true := by
  refine pw_okM ((okM_pw h).sublist (thin_sub l)) fun m hm => ?_
  obtain ⟨k, hk, rfl⟩ := List.getElem_of_mem ((thin_sub l).subset hm)
  have := (okM_iff.1 (h k hk)).1
  rwa [nth_eq hk] at this

theorem thin_any {l : List Mv} {n : Nat} (h : ∀ k, k < l.length → okM l n k = true) (t : Int) (w : Bool) : (thin l).any (fun m => decide (m.to = t) && (m.good || !w)) = l.any fun m => decide (m.to = t) && (m.good || !w) := by
  rw [Bool.eq_iff_iff, List.any_eq_true, List.any_eq_true]
  constructor
  · rintro ⟨m, hm, hp⟩
    exact ⟨m, (thin_sub l).subset hm, hp⟩
  · rintro ⟨m, hm, hp⟩
    obtain ⟨k, hk, rfl⟩ := List.getElem_of_mem hm
    rw [← nth_eq hk] at hp
    have step : ∀ j, j < l.length → thinK l j = false → j + 1 < l.length ∧ (nth l (j + 1)).to = (nth l j).to ∧ (nth l j).good = false ∧ (nth l (j + 1)).good = true := fun j hj hd => by
      simp only [thinK, Bool.not_eq_false', Bool.and_eq_true, decide_eq_true_eq] at hd
      obtain ⟨h1, h2⟩ := hd
      have h3 := (okM_iff.1 (h (j + 1) h1)).2 (by omega)
      simp only [Nat.add_sub_cancel] at h3
      rcases bef_iff.1 h3 with h3 | ⟨_, h4, h5⟩
      · omega
      · exact ⟨h1, h2, h4, h5⟩
    cases hd : thinK l k with
    | true => exact ⟨_, mem_thinTo.2 ⟨k, hk, hd, rfl⟩, hp⟩
    | false =>
      obtain ⟨h1, h2, h3, h4⟩ := step k hk hd
      have hk2 : thinK l (k + 1) = true := by
        cases hd2 : thinK l (k + 1) with
        | true => rfl
        | false =>
          obtain ⟨_, _, h5, _⟩ := step (k + 1) h1 hd2
          rw [h4] at h5; cases h5
      refine ⟨_, mem_thinTo.2 ⟨k + 1, h1, hk2, rfl⟩, ?_⟩
      simp only [Bool.and_eq_true, decide_eq_true_eq] at hp ⊢
      exact ⟨by rw [h2]; exact hp.1, by simp [h4]⟩

theorem nth_over {α : Type} [Inhabited α] {l : List α} {k : Nat} (h : l.length ≤ k) : nth l k = default := by simp [nth, h]

theorem thinB_next {b : Bu} {i : Nat} (hi : i < b.next.length) : nth (thinB b).next i = (nth b.next i).map thin := by
  rw [nth_eq (by simpa [thinB] using hi), nth_eq hi]; simp [thinB]
theorem thinB_row {b : Bu} {i a : Nat} (hi : i < b.next.length) (ha : a < (nth b.next i).length) : nth (nth (thinB b).next i) a = thin (nth (nth b.next i) a) := by
  rw [thinB_next hi, nth_eq (by simpa using ha), nth_eq ha]; simp

theorem thinB_rowOf {b : Bu} (q a : Int) : rowOf (thinB b) q a = thin (rowOf b q a) := by
  unfold rowOf
  by_cases hi : q.toNat < b.next.length
  · by_cases ha : a.toNat < (nth b.next q.toNat).length
    · rw [thinB_row hi ha]
    · rw [thinB_next hi, nth_over (by simpa using ha), nth_over (by simpa using ha)]; rfl
  · rw [nth_over (l := b.next) (by omega), nth_over (l := (thinB b).next) (by simp [thinB]; omega)]; rfl

theorem thinB_valid {b : Bu} (hv : validB b = true) : validB (thinB b) = true := by
  obtain ⟨h1, h2, h3⟩ := validB_iff.1 hv
  have hl : (thinB b).next.length = b.next.length := by simp [thinB]
  refine validB_iff.2 ⟨by rw [hl]; exact h1, by rw [hl]; exact h2, fun i hi => ?_⟩
  rw [hl] at hi ⊢
  obtain ⟨h4, h5⟩ := h3 i hi
  rw [thinB_next hi, List.length_map]
  refine ⟨h4, fun a ha => ?_⟩
  have e : nth ((nth b.next i).map thin) a = thin (nth (nth b.next i) a) := by rw [nth_eq (by simpa using ha), nth_eq ha]; simp
  rw [e]
  exact thin_ok (h5 a ha)

theorem rowOf_ok {b : Bu} (hv : validB b = true) (q a : Int) : ∀ k, k < (rowOf b q a).length → okM (rowOf b q a) b.next.length k = true := by
  obtain ⟨_, _, h3⟩ := validB_iff.1 hv
  unfold rowOf
  by_cases hi : q.toNat < b.next.length
  · by_cases ha : a.toNat < (nth b.next q.toNat).length
    · exact (h3 _ hi).2 _ ha
    · rw [nth_over (l := nth b.next q.toNat) (by omega)]
      intro k hk; cases hk
  · rw [nth_over (l := b.next) (by omega)]
    intro k hk; cases hk

theorem thinB_hits {b : Bu} (hv : validB b = true) (set : List Int) (a : Int) (w : Bool) : hits (thinB b) set a w = hits b set a w := by
  funext t
  unfold hits
  congr 1
  funext q
  rw [thinB_rowOf]
  exact thin_any (rowOf_ok hv q a) t w

section
variable {b b' : Bu} (hn : b'.next.length = b.next.length)
include hn

theorem elems_same : elems b' = elems b := by
  funext p
  unfold elems states
  rw [hn]
theorem cnt_same : cnt b' = cnt b := by
  funext p
  unfold cnt
  rw [elems_same hn]
theorem goneAt_same : goneAt b' = goneAt b := by
  funext A i
  unfold goneAt
  rw [cnt_same hn]
theorem flashTo_same' (A : List An) : ∀ n, flashTo b' A n = flashTo b A n
  | 0 => rfl
  | n + 1 => by rw [flashTo, flashTo, flashStep, flashStep, flashTo_same' A n, goneAt_same hn]
theorem goodsTo_same (A : List An) : ∀ n, goodsTo b' A n = goodsTo b A n
  | 0 => rfl
  | n + 1 => by rw [goodsTo, goodsTo, goodsTo_same A n, flashTo_same' hn, goodAt, goodAt, goneAt_same hn, cnt_same hn]
end

theorem thinB_step {b : Bu} {t : List Nd} {a : Int} (ho : okStep b t a) : stepT (thinB b) t a = stepT b t a := by
  have hn : (thinB b).next.length = b.next.length := by simp [thinB]
  obtain ⟨hv, ha⟩ := id ho
  have hvb := (validT_iff.1 hv).1
  have ho' : okStep (thinB b) t a := by
    refine ⟨?_, ha⟩
    rw [validT_iff] at hv ⊢
    rw [hn]
    exact ⟨thinB_valid hv.1, hv.2⟩
  have hg : grown (thinB b) t a = grown b t a := by
    unfold grown
    simp only [thinB_hits hvb]
  have hf : flashed (thinB b) t a = flashed b t a := by
    unfold flashed
    rw [hg, flashTo_same' hn]
  have hk : keptS (thinB b) t a = keptS b t a := by unfold keptS; rw [hf]
  have hnm : namedS (thinB b) t a = namedS b t a := by unfold namedS; rw [hf, hk, hn]
  rw [stepT, stepT, if_pos ho, if_pos ho']
  congr 1
  · unfold outS; rw [hk, hnm, elems_same hn]
  · unfold evS; rw [hf, hg, goodsTo_same hn]

end Go.Proofs.Ytonhbeapffiibaa
