/-
  Chapter 16: the states that are reached.
-/
import Derived.Test.YtonhbeapffiibaaRefE
namespace Go.Proofs.Ytonhbeapffiibaa
open Go.HL

def rowOf (b : Bu) (q a : Int) : List Mv := nth (nth b.next q.toNat) a.toNat
def hits (b : Bu) (set : List Int) (a : Int) (well : Bool) (t : Int) : Bool := set.any fun q => (rowOf b q a).any fun m => decide (m.to = t) && (m.good || !well)
def states (b : Bu) : List Int := (List.range b.next.length).map fun (i : Nat) => (i : Int)
/-- The states that are reached, or reached well, in increasing order. -/
def reach (b : Bu) (set : List Int) (a : Int) (well : Bool) : List Int := (states b).filter (hits b set a well)

theorem validB_iff {b : Bu} : validB b = true ↔ (1 ≤ b.letters ∧ b.letters ≤ 64 ∧ b.next.length ≤ 3000) ∧ (∀ i, i < b.start.length → okS b.start b.next.length i = true) ∧ ∀ i, i < b.next.length → ((nth b.next i).length : Int) = b.letters ∧ ∀ a, a < (nth b.next i).length → ∀ k, k < (nth (nth b.next i) a).length → okM (nth (nth b.next i) a) b.next.length k = true := by
  simp only [validB, okRow, Bool.and_eq_true, decide_eq_true_eq, upto_iff, and_assoc]

theorem reach_lt {b : Bu} {set : List Int} {a : Int} {w : Bool} {x : Int} (h : x ∈ reach b set a w) : 0 ≤ x ∧ x < b.next.length := by
  simp only [reach, states, List.mem_filter, List.mem_map, List.mem_range] at h
  omega

theorem mem_states {b : Bu} {x : Int} : x ∈ states b ↔ 0 ≤ x ∧ x < b.next.length := by
  simp only [states, List.mem_map, List.mem_range]
  exact ⟨fun ⟨i, hi, e⟩ => by omega, fun h => ⟨x.toNat, by omega, by omega⟩⟩

theorem hits_iff {b : Bu} {set : List Int} {a : Int} {w : Bool} {t : Int} : hits b set a w t = true ↔ ∃ q ∈ set, ∃ m ∈ rowOf b q a, m.to = t ∧ (m.good = true ∨ w = false) := by
  simp only [hits, List.any_eq_true, Bool.and_eq_true, decide_eq_true_eq, Bool.or_eq_true, Bool.not_eq_true']

theorem mem_reach {b : Bu} {set : List Int} {a : Int} {w : Bool} {x : Int} : x ∈ reach b set a w ↔ (0 ≤ x ∧ x < b.next.length) ∧ ∃ q ∈ set, ∃ m ∈ rowOf b q a, m.to = x ∧ (m.good = true ∨ w = false) := by
  rw [reach, List.mem_filter, mem_states, hits_iff]

/-- The array of marks. -/
def marks (b : Bu) (p : Int → Bool) : List Bool := (List.range b.next.length).map fun (i : Nat) => p i

theorem marks_length (b : Bu) (p : Int → Bool) : (marks b p).length = b.next.length := by simp [marks]
theorem marks_nth {b : Bu} {p : Int → Bool} {k : Nat} (h : k < b.next.length) : nth (marks b p) k = p k := by
  rw [nth_eq (by simpa [marks] using h)]; simp [marks]
theorem marks_set {b : Bu} {p : Int → Bool} {k : Nat} : (marks b p).set k true = marks b (fun t => p t || decide (t = k)) := by
  apply List.ext_getElem
  · simp [marks]
  · intro i h1 h2
    simp only [marks, List.getElem_set, List.getElem_map, List.getElem_range]
    by_cases h : k = i
    · subst h; simp
    · rw [if_neg h]
      have : ¬ (i : Int) = k := by omega
      simp [this]
theorem boolsH_marks {b : Bu} {p : Int → Bool} {k : Nat} (h : k < b.next.length) : (boolsH (marks b p))[k]? = some [.bool (p k)] := by
  rw [boolsH_nth (by rw [marks_length]; exact h), marks_nth h]
attribute [go_sem] marks_length marks_set boolsH_marks

def hitsT (b : Bu) (set : List Int) (a : Int) (w : Bool) (i : Nat) (t : Int) : Bool := hits b (set.take i) a w t

theorem hits_succ {b : Bu} {set : List Int} {a : Int} {w : Bool} {i : Nat} (hi : i < set.length) : (fun t => hits b (set.take i) a w t || ((rowOf b (nth set i) a).take (rowOf b (nth set i) a).length).any fun m => decide (m.to = t) && (m.good || !w)) = hits b (set.take (i + 1)) a w := by
  funext t
  rw [take_nth hi]
  simp [hits]

theorem marks_congr {b : Bu} {p q : Int → Bool} (h : ∀ t, p t = q t) : marks b p = marks b q := by
  have : p = q := funext h
  rw [this]

theorem take_states {b : Bu} {i : Nat} (h : i < b.next.length) : (states b).take (i + 1) = (states b).take i ++ [(i : Int)] := by
  have h1 : i < (states b).length := by simpa [states] using h
  rw [List.take_succ_eq_append_getElem h1]
  simp [states]

theorem boolsH_len (l : List Bool) : (boolsH l).length = l.length := by simp [boolsH]
attribute [go_sem] boolsH_len
theorem filter_le {α : Type} (p : α → Bool) (l : List α) : (l.filter p).length ≤ l.length := List.length_filter_le _ _

set_option maxHeartbeats 4000000 in
set_option maxRecDepth 8000 in
theorem ref_Reached (b : Bu) (set : List Int) (a : Int) (w : Bool) (hv : validB b = true) (ha : 0 ≤ a ∧ a < b.letters) (hset : ∀ i, i < set.length → 0 ≤ nth set i ∧ nth set i < b.next.length) :
    CallsP pg 24 [.agg (buC b), .sl false (ints set), .int .i64 a, .bool w] (fun v => v = .sl false (ints (reach b set a w))) := by
  obtain ⟨v1, v2, v3⟩ := validB_iff.1 hv
  refine CallsP.of_wpW [] 74 fn24 rfl rfl ?_
  refine WP.abs (fun s => s 0 = .agg (buC b) ∧ s 1 = .sl false (ints set) ∧ s 2 = .int .i64 a ∧ s 3 = .bool w) ⟨rfl, rfl, rfl, rfl⟩ ?_
  rintro s ⟨h0, h1, h2, h3⟩
  refine WP.bnd 0 h0 fun hbd => ?_
  refine WP.slLen h1 fun hlen => ?_
  rw [ints_length, maxLen] at hlen
  have hl3 := (bnd_bu hbd).2
  clear hbd
  repeat' (with_reducible first | refine WP.seq ?_ | refine WP.block ?_ | refine seqK_normal ?_ | (apply WP.regionE; (with_unfolding_all (simp +decide (disch := first | decide | omega) only [go_sem, *]; rfl))))
  refine WP.loop (fun s h => s 1 = .sl false (ints set) ∧ s 2 = .int .i64 a ∧ s 3 = .bool w ∧ s 4 = .ep 0 0 0 ∧ s 9 = .ow 1 0 b.next.length ∧ (True) ∧ ∃ i : Nat, s 10 = .int .i64 i ∧ i ≤ set.length ∧ (∃ p : Int → Bool, h = [.row 25 [buC b], .row 4 (boolsH (marks b p))] ∧ ∀ t, p t = hits b (set.take i) a w t)) (fun s _ => set.length - (s 10).toInt.toNat) ⟨by ((simp +decide (disch := first | decide | omega) only [go_sem, *]; done)), by ((simp +decide (disch := first | decide | omega) only [go_sem, *]; done)), by ((simp +decide (disch := first | decide | omega) only [go_sem, *]; done)), by ((simp +decide (disch := first | decide | omega) only [go_sem, *]; done)), by ((simp +decide (disch := first | decide | omega) only [go_sem, *]; done)), trivial, 0, by ((simp +decide (disch := first | decide | omega) only [go_sem, *]; rfl)), by omega, ?_⟩ ?_
  · refine ⟨fun _ => false, ?_, fun t => by simp [hits]⟩
    have : boolsH (List.replicate b.next.length false) = boolsH (marks b fun _ => false) := by
      congr 1
      apply List.ext_getElem
      · simp [marks]
      · intro i h1 h2; simp [marks]
    first | rw [this] | (simp +decide (disch := first | decide | omega) only [go_sem, *]; rw [this])
  clear h0 h1 h2 h3 s
  rintro s h ⟨h1, h2, h3, h4, h9, -, i, h10, hlei, hx⟩
  obtain ⟨p, rfl, hp⟩ := hx
  have hq := hset i
  have hq3 : i < set.length → ((nth b.next (nth set i).toNat).length : Int) = b.letters := fun h => (v3 _ (by have := hq h; omega)).1
  repeat' (with_reducible first | refine WP.seq ?_ | refine WP.skip ?_ | refine WP.block ?_ | refine WP.exit ?_ | refine seqK_normal ?_ | refine seqK_exit ?_ | refine loopK_exit ?_ | refine blockK_here ?_ | (apply WP.regionE; (with_unfolding_all (simp +decide (disch := first | decide | omega) only [go_sem, *]; rfl))) | (apply WP.regionV1 mixed; with_unfolding_all rfl; with_unfolding_all rfl; (with_unfolding_all (simp +decide (disch := first | decide | omega) only [go_sem, *]; rfl))) | (apply WP.condB; (simp +decide (disch := first | decide | omega) only [go_sem, *]; rfl); all_goals (intro hb; (first | rw [dlt_t] at hb | rw [dlt_f] at hb | rw [dle_t] at hb | rw [dle_f] at hb | rw [Bool.not_eq_true'] at hb | rw [Bool.not_eq_false'] at hb | skip))))
  · have hq1 := hq (by omega)
    have hq2 := hq3 (by omega)
    have hl4 := hl3 (nth set i).toNat a.toNat (by omega) (by omega)
    have hmv := fun k hk => (okM_iff.1 ((v3 (nth set i).toNat (by omega)).2 a.toNat (by omega) k hk)).1
    refine WP.loop (fun s' h => s' 1 = .sl false (ints set) ∧ s' 2 = .int .i64 a ∧ s' 3 = .bool w ∧ s' 4 = .ep 0 0 0 ∧ s' 9 = .ow 1 0 b.next.length ∧ s' 10 = .int .i64 i ∧ s' 11 = .sl false (mvs (nth (nth b.next (nth set i).toNat) a.toNat)) ∧ (True) ∧ ∃ k : Nat, s' 12 = .int .i64 k ∧ k ≤ (nth (nth b.next (nth set i).toNat) a.toNat).length ∧ (∃ p : Int → Bool, h = [.row 25 [buC b], .row 4 (boolsH (marks b p))] ∧ ∀ t, p t = (hits b (set.take i) a w t || ((rowOf b (nth set i) a).take k).any fun m => decide (m.to = t) && (m.good || !w)))) (fun s' _ => (nth (nth b.next (nth set i).toNat) a.toNat).length - (s' 12).toInt.toNat) ⟨by ((simp +decide (disch := first | decide | omega) only [go_sem, *]; done)), by ((simp +decide (disch := first | decide | omega) only [go_sem, *]; done)), by ((simp +decide (disch := first | decide | omega) only [go_sem, *]; done)), by ((simp +decide (disch := first | decide | omega) only [go_sem, *]; done)), by ((simp +decide (disch := first | decide | omega) only [go_sem, *]; done)), by ((simp +decide (disch := first | decide | omega) only [go_sem, *]; done)), by ((simp +decide (disch := first | decide | omega) only [go_sem, *]; done)), trivial, 0, by ((simp +decide (disch := first | decide | omega) only [go_sem, *]; rfl)), by omega, ?_⟩ ?_
    · exact ⟨p, by (rfl), fun t => by simp [hp]⟩
    clear h1 h2 h3 h4 h9 hq hq3 hp p
    rintro s' h ⟨h1, h2, h3, h4, h9, h10, h11, -, k, h12, hlek, hx⟩
    obtain ⟨p, rfl, hp⟩ := hx
    have hm := hmv k
    have ht : ∀ k, k < (nth (nth b.next (nth set i).toNat) a.toNat).length → (rowOf b (nth set i) a).take (k + 1) = (rowOf b (nth set i) a).take k ++ [nth (nth (nth b.next (nth set i).toNat) a.toNat) k] := fun k hk => take_nth hk
    clear hmv
    repeat' (with_reducible first | refine WP.seq ?_ | refine WP.skip ?_ | refine WP.block ?_ | refine WP.exit ?_ | refine seqK_normal ?_ | refine seqK_exit ?_ | refine loopK_exit ?_ | refine blockK_normal ?_ | refine blockK_here ?_ | (apply WP.regionE; (with_unfolding_all (simp +decide (disch := first | decide | omega) only [go_sem, *]; rfl))) | (apply WP.condT; (focus (simp +decide (disch := first | decide | omega) only [go_sem, *]; done))) | (apply WP.condB; (simp +decide (disch := first | decide | omega) only [go_sem, *]; rfl); all_goals (intro hb; (first | rw [dlt_t] at hb | rw [dlt_f] at hb | rw [dle_t] at hb | rw [dle_f] at hb | rw [Bool.not_eq_true'] at hb | rw [Bool.not_eq_false'] at hb | skip))) | (apply WP.guardB 0; with_unfolding_all rfl; (with_unfolding_all (simp +decide (disch := first | decide | omega) only [go_sem, *]; rfl)); (simp +decide (disch := first | decide | omega) only [go_sem, *]; rfl); all_goals (intro hb; (fail_if_success (exact absurd hb (by decide))); (first | rw [dlt_t] at hb | rw [dlt_f] at hb | rw [dle_t] at hb | rw [dle_f] at hb | rw [Bool.not_eq_true'] at hb | rw [Bool.not_eq_false'] at hb | skip))))
    · refine loopK_normal ⟨by ((simp +decide (disch := first | decide | omega) only [go_sem, *]; done)), by ((simp +decide (disch := first | decide | omega) only [go_sem, *]; done)), by ((simp +decide (disch := first | decide | omega) only [go_sem, *]; done)), by ((simp +decide (disch := first | decide | omega) only [go_sem, *]; done)), by ((simp +decide (disch := first | decide | omega) only [go_sem, *]; done)), by ((simp +decide (disch := first | decide | omega) only [go_sem, *]; done)), by ((simp +decide (disch := first | decide | omega) only [go_sem, *]; done)), trivial, k + 1, by ((simp +decide (disch := first | decide | omega) only [go_sem, *]; rfl)), by omega, ?_⟩ (by simp +decide (disch := first | decide | omega) only [go_sem, *]; omega)
      refine ⟨_, by (rfl), fun t => ?_⟩
      have := hm (by omega)
      rw [ht k (by omega)]
      try rw [hp t]
      simp [hb, Bool.or_assoc]
      congr 2
      rw [decide_eq_decide]
      omega
    · refine loopK_normal ⟨by ((simp +decide (disch := first | decide | omega) only [go_sem, *]; done)), by ((simp +decide (disch := first | decide | omega) only [go_sem, *]; done)), by ((simp +decide (disch := first | decide | omega) only [go_sem, *]; done)), by ((simp +decide (disch := first | decide | omega) only [go_sem, *]; done)), by ((simp +decide (disch := first | decide | omega) only [go_sem, *]; done)), by ((simp +decide (disch := first | decide | omega) only [go_sem, *]; done)), by ((simp +decide (disch := first | decide | omega) only [go_sem, *]; done)), trivial, k + 1, by ((simp +decide (disch := first | decide | omega) only [go_sem, *]; rfl)), by omega, ?_⟩ (by simp +decide (disch := first | decide | omega) only [go_sem, *]; omega)
      refine ⟨_, by (rfl), fun t => ?_⟩
      have := hm (by omega)
      rename_i hb1 hb2
      rw [ht k (by omega)]
      try rw [hp t]
      simp [hb, hb2, Bool.or_assoc]
      congr 2
      rw [decide_eq_decide]
      omega
    · refine loopK_normal ⟨by ((simp +decide (disch := first | decide | omega) only [go_sem, *]; done)), by ((simp +decide (disch := first | decide | omega) only [go_sem, *]; done)), by ((simp +decide (disch := first | decide | omega) only [go_sem, *]; done)), by ((simp +decide (disch := first | decide | omega) only [go_sem, *]; done)), by ((simp +decide (disch := first | decide | omega) only [go_sem, *]; done)), by ((simp +decide (disch := first | decide | omega) only [go_sem, *]; done)), by ((simp +decide (disch := first | decide | omega) only [go_sem, *]; done)), trivial, k + 1, by ((simp +decide (disch := first | decide | omega) only [go_sem, *]; rfl)), by omega, ?_⟩ (by simp +decide (disch := first | decide | omega) only [go_sem, *]; omega)
      refine ⟨p, by (rfl), fun t => ?_⟩
      rename_i hb1 hb2
      rw [ht k (by omega)]
      try rw [hp t]
      simp [hb, hb2]
    · refine loopK_normal ⟨by ((simp +decide (disch := first | decide | omega) only [go_sem, *]; done)), by ((simp +decide (disch := first | decide | omega) only [go_sem, *]; done)), by ((simp +decide (disch := first | decide | omega) only [go_sem, *]; done)), by ((simp +decide (disch := first | decide | omega) only [go_sem, *]; done)), by ((simp +decide (disch := first | decide | omega) only [go_sem, *]; done)), trivial, i + 1, by ((simp +decide (disch := first | decide | omega) only [go_sem, *]; rfl)), by omega, ?_⟩ (by simp +decide (disch := first | decide | omega) only [go_sem, *]; omega)
      refine ⟨p, by (rfl), fun t => ?_⟩
      have hk : (rowOf b (nth set i) a).take k = rowOf b (nth set i) a := List.take_of_length_le (by rw [rowOf]; omega)
      rw [hp t, hk, take_nth (by omega)]
      simp [hits]
  · have hp2 : ∀ t, p t = hits b set a w t := fun t => by rw [hp t, List.take_of_length_le (by omega)]
    have hpe : marks b p = marks b (hits b set a w) := marks_congr hp2
    rw [hpe]
    clear hp hp2 hpe p
    refine WP.loop (fun s h => s 9 = .ow 1 0 b.next.length ∧ (True) ∧ ∃ k : Nat, s 14 = .int .i64 k ∧ k ≤ b.next.length ∧ (OwnsL h [(.ow 1 0 b.next.length, 4, boolsH (marks b (hits b set a w))), (s 13, 3, ints (((states b).take k).filter (hits b set a w)))])) (fun s _ => b.next.length - (s 14).toInt.toNat) ⟨by ((simp +decide (disch := first | decide | omega) only [go_sem, *]; done)), trivial, 0, by ((simp +decide (disch := first | decide | omega) only [go_sem, *]; rfl)), by omega, ?_⟩ ?_
    · simp +decide (disch := first | decide | omega) only [go_sem, *]
      refine ⟨?_, ?_⟩
      · intro p hp
        simp at hp
        rcases hp with rfl | rfl
        · have := @OwnAt.of_row [.row 25 [buC b], .row 4 (boolsH (marks b (hits b set a w)))] 1 4 (boolsH (marks b (hits b set a w))) rfl
          rwa [boolsH_len, marks_length] at this
        · exact .inl ⟨rfl, rfl⟩
      · simp
    clear h1 h2 h3 h4 h9 h10 s
    rintro s h ⟨h9, -, k, h14, hlek, hL⟩
    have hrow := hL.row 0 rfl
    have hts := @take_states b k
    have hle := filter_le (hits b set a w) ((states b).take k)
    have hle2 : (states b).length = b.next.length := by simp [states]
    rw [List.length_take] at hle
    obtain ⟨q, hq1, hL1⟩ := owns_int hL 1 rfl (y := .sl true [[.int .i64 k]]) (ys := [(k : Int)]) rfl (by simp; omega)
    obtain ⟨fl, hrd⟩ := hL.read 1 rfl (ints_free _)
    repeat' (with_reducible first | refine WP.seq ?_ | refine WP.skip ?_ | refine WP.block ?_ | refine WP.exit ?_ | refine WP.ret ?_ | refine seqK_normal ?_ | refine seqK_exit ?_ | refine loopK_exit ?_ | refine blockK_normal ?_ | refine blockK_here ?_ | (apply WP.regionE; (with_unfolding_all (simp +decide (disch := first | decide | omega) only [go_sem, *]; rfl))) | (apply WP.condB; (simp +decide (disch := first | decide | omega) only [go_sem, *]; rfl); all_goals (intro hb; (first | rw [dlt_t] at hb | rw [dlt_f] at hb | rw [dle_t] at hb | rw [dle_f] at hb | rw [Bool.not_eq_true'] at hb | rw [Bool.not_eq_false'] at hb | skip))))
    · refine loopK_normal ⟨by ((simp +decide (disch := first | decide | omega) only [go_sem, *]; done)), trivial, k + 1, by ((simp +decide (disch := first | decide | omega) only [go_sem, *]; rfl)), by omega, ?_⟩ (by simp +decide (disch := first | decide | omega) only [go_sem, *]; omega)
      rw [hts (by omega), List.filter_append]
      simp only [List.filter_cons, hb, if_true, List.filter_nil]
      simp +decide (disch := first | decide | omega) only [go_sem, *]
      exact hL1
    · refine loopK_normal ⟨by ((simp +decide (disch := first | decide | omega) only [go_sem, *]; done)), trivial, k + 1, by ((simp +decide (disch := first | decide | omega) only [go_sem, *]; rfl)), by omega, ?_⟩ (by simp +decide (disch := first | decide | omega) only [go_sem, *]; omega)
      rw [hts (by omega), List.filter_append]
      simp only [List.filter_cons, hb, Bool.false_eq_true, if_false, List.filter_nil, List.append_nil]
      simp +decide (disch := first | decide | omega) only [go_sem, *]
    · refine fnPost_pure 1 (by first | exact .inl rfl | exact .inr rfl) (by simp +decide (disch := first | decide | omega) only [go_sem, *]; rfl) (by simp +decide (disch := first | decide | omega) only [go_sem, *]; rfl) ?_
      rw [List.take_of_length_le (by omega)]
      simp [wkV, wk1, reach]
end Go.Proofs.Ytonhbeapffiibaa

