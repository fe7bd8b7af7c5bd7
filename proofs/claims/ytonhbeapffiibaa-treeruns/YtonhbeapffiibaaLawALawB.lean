/-
  Chapter 16: the statements' own functions.
-/
import Derived.Test.YtonhbeapffiibaaTreI
namespace Go.Proofs.Ytonhbeapffiibaa
open Go.HL

/-- The example. -/
def exB : Bu := ⟨1, [0], [[[⟨0, false⟩, ⟨1, true⟩]], [[⟨1, true⟩]]]⟩

set_option maxHeartbeats 4000000 in
set_option maxRecDepth 20000 in
theorem law_Example : CallsP pg 32 [] (fun v => v = .agg (buC exB)) := by
  refine CallsP.dimR ?_
  refine CallsP.of_wpN [] 11 fn32 rfl rfl ?_
  refine WP.abs (fun _ => True) trivial ?_
  rintro s -
  repeat' (with_reducible first | refine WP.seq ?_ | refine WP.ret ?_ | refine seqK_normal ?_ | (apply WP.regionE; (with_unfolding_all (simp +decide (disch := first | decide | omega) only [go_sem, *]; rfl))) | (apply fnPost_pure 1; (first | exact .inl rfl | exact .inr rfl); (simp +decide (disch := first | decide | omega) only [go_sem, *]; rfl); (simp +decide (disch := first | decide | omega) only [go_sem, *]; rfl)))
  rfl

/-- A word over an automaton's letters, not too long; the automaton is small. -/
def rightB (b : Bu) (w : List Int) (n : Int) : Bool := few b && validB b && decide ((w.length : Int) ≤ n) && upto w.length fun i => decide (0 ≤ nth w i ∧ nth w i < b.letters)

theorem rightB_iff {b : Bu} {w : List Int} {n : Int} : rightB b w n = true ↔ few b = true ∧ validB b = true ∧ w.length ≤ n ∧ ∀ i, i < w.length → 0 ≤ nth w i ∧ nth w i < b.letters := by
  simp only [rightB, Bool.and_eq_true, decide_eq_true_eq, upto_iff, and_assoc]

set_option maxHeartbeats 4000000 in
set_option maxRecDepth 8000 in
theorem law_right (b : Bu) (w : List Int) (n : Int) : CallsP pg 22 [.agg (buC b), .sl false (ints w), .int .i64 n] (fun v => v = .bool (rightB b w n)) := by
  have hfew := ref_Few b
  have hval := ref_BValid b
  refine CallsP.of_wpN [] 42 fn22 rfl rfl ?_
  refine WP.abs (fun s => s 0 = .agg (buC b) ∧ s 1 = .sl false (ints w) ∧ s 2 = .int .i64 n) ⟨rfl, rfl, rfl⟩ ?_
  rintro s ⟨h0, h1, h2⟩
  refine WP.slLen h1 fun hlen => ?_
  rw [ints_length, maxLen] at hlen
  repeat' (with_reducible first | refine WP.seq ?_ | refine WP.skip ?_ | refine WP.block ?_ | refine WP.ret ?_ | refine seqK_normal ?_ | refine seqK_ret ?_ | (apply WP.regionE; (with_unfolding_all (simp +decide (disch := first | decide | omega) only [go_sem, *]; rfl))) | (apply WP.regionX; with_unfolding_all rfl; (with_unfolding_all (simp +decide (disch := first | decide | omega) only [go_sem, *]; rfl))) | (apply opsT.skipG; (focus (simp +decide (disch := first | decide | omega) only [go_sem, *]; done))) | (apply opsT.call; (with_unfolding_all (simp +decide (disch := first | decide | omega) only [go_sem, *]; rfl)); (focus (simp +decide (disch := first | decide | omega) only [go_sem, *]; done)); (with_unfolding_all (simp +decide (disch := first | decide | omega) only [go_sem, *]; rfl))) | (apply opsT.callG; (focus (simp +decide (disch := first | decide | omega) only [go_sem, *]; done)); (with_unfolding_all (simp +decide (disch := first | decide | omega) only [go_sem, *]; rfl)); (focus (simp +decide (disch := first | decide | omega) only [go_sem, *]; done)); (with_unfolding_all (simp +decide (disch := first | decide | omega) only [go_sem, *]; rfl))) | (apply opsT.moreX; with_unfolding_all rfl; (with_unfolding_all (simp +decide (disch := first | decide | omega) only [go_sem, *]; rfl))) | (apply opsT.fin; (with_unfolding_all (simp +decide (disch := first | decide | omega) only [go_sem, *]; rfl))) | (apply CallsP.eq (hfew); (focus (simp +decide (disch := first | decide | omega) only [go_sem, *]; done))) | (apply CallsP.eq (hval); (focus (simp +decide (disch := first | decide | omega) only [go_sem, *]; done))) | (apply WP.condT; (focus (simp +decide (disch := first | decide | omega) only [go_sem, *]; done))) | (apply WP.condB; (simp +decide (disch := first | decide | omega) only [go_sem, *]; rfl); all_goals (intro hb; (first | rw [dlt_t] at hb | rw [dlt_f] at hb | rw [dle_t] at hb | rw [dle_f] at hb | rw [Bool.not_eq_true'] at hb | rw [Bool.not_eq_false'] at hb | skip))) | (apply fnPost_pure 0; (first | exact .inl rfl | exact .inr rfl); (simp +decide (disch := first | decide | omega) only [go_sem, *]; rfl); (simp +decide (disch := first | decide | omega) only [go_sem, *]; rfl)) | (apply opsT.guardB 0; with_unfolding_all rfl; (with_unfolding_all (simp +decide (disch := first | decide | omega) only [go_sem, *]; rfl)); (simp +decide (disch := first | decide | omega) only [go_sem, *]; rfl); all_goals (intro hb; (fail_if_success (exact absurd hb (by decide))); (first | rw [dlt_t] at hb | rw [dlt_f] at hb | rw [dle_t] at hb | rw [dle_f] at hb | rw [Bool.not_eq_true'] at hb | rw [Bool.not_eq_false'] at hb | skip))) | (apply opsT.guardB 1; with_unfolding_all rfl; (with_unfolding_all (simp +decide (disch := first | decide | omega) only [go_sem, *]; rfl)); (simp +decide (disch := first | decide | omega) only [go_sem, *]; rfl); all_goals (intro hb; (fail_if_success (exact absurd hb (by decide))); (first | rw [dlt_t] at hb | rw [dlt_f] at hb | rw [dle_t] at hb | rw [dle_f] at hb | rw [Bool.not_eq_true'] at hb | rw [Bool.not_eq_false'] at hb | skip))))
  · exact congrArg HV.bool (by simp [rightB, hb])
  · exact congrArg HV.bool (by simp [rightB, hb])
  · exact congrArg HV.bool (by simp [rightB, show ¬ (w.length : Int) ≤ n by omega])
  rename_i hb1 hb2
  clear hfew hval
  refine WP.loop (fun s h => s 1 = .sl false (ints w) ∧ s 3 = .ep 0 0 0 ∧ (h = [.row 25 [buC b]]) ∧ ∃ i : Nat, s 7 = .int .i64 i ∧ i ≤ w.length ∧ (∀ k, k < i → 0 ≤ nth w k ∧ nth w k < b.letters)) (fun s _ => w.length - (s 7).toInt.toNat) ⟨by ((simp +decide (disch := first | decide | omega) only [go_sem, *]; done)), by ((simp +decide (disch := first | decide | omega) only [go_sem, *]; done)), by ((simp +decide (disch := first | decide | omega) only [go_sem, *]; done)), 0, by ((simp +decide (disch := first | decide | omega) only [go_sem, *]; rfl)), by omega, ?_⟩ ?_
  · intro k hk; omega
  clear h0 h1 h2 s
  rintro s h ⟨h1, h3, rfl, i, h7, hlei, hpre⟩
  repeat' (with_reducible first | refine WP.seq ?_ | refine WP.skip ?_ | refine WP.block ?_ | refine WP.exit ?_ | refine WP.ret ?_ | refine seqK_normal ?_ | refine seqK_exit ?_ | refine seqK_ret ?_ | refine loopK_exit ?_ | refine loopK_ret ?_ | refine blockK_normal ?_ | refine blockK_here ?_ | refine blockK_ret ?_ | (apply WP.regionE; (with_unfolding_all (simp +decide (disch := first | decide | omega) only [go_sem, *]; rfl))) | (apply WP.regionV1 mixed; with_unfolding_all rfl; with_unfolding_all rfl; (with_unfolding_all (simp +decide (disch := first | decide | omega) only [go_sem, *]; rfl))) | (apply WP.condT; (focus (simp +decide (disch := first | decide | omega) only [go_sem, *]; done))) | (apply WP.condB; (simp +decide (disch := first | decide | omega) only [go_sem, *]; rfl); all_goals (intro hb; (first | rw [dlt_t] at hb | rw [dlt_f] at hb | rw [dle_t] at hb | rw [dle_f] at hb | rw [Bool.not_eq_true'] at hb | rw [Bool.not_eq_false'] at hb | skip))) | (apply fnPost_pure 0; (first | exact .inl rfl | exact .inr rfl); (simp +decide (disch := first | decide | omega) only [go_sem, *]; rfl); (simp +decide (disch := first | decide | omega) only [go_sem, *]; rfl)) | (apply WP.guardB 0; with_unfolding_all rfl; (with_unfolding_all (simp +decide (disch := first | decide | omega) only [go_sem, *]; rfl)); (simp +decide (disch := first | decide | omega) only [go_sem, *]; rfl); all_goals (intro hb; (fail_if_success (exact absurd hb (by decide))); (first | rw [dlt_t] at hb | rw [dlt_f] at hb | rw [dle_t] at hb | rw [dle_f] at hb | rw [Bool.not_eq_true'] at hb | rw [Bool.not_eq_false'] at hb | skip))))
  · exact congrArg HV.bool (Bool.eq_false_iff.2 fun h => by have := (rightB_iff.1 h).2.2.2 i (by omega); omega).symm
  · exact congrArg HV.bool (Bool.eq_false_iff.2 fun h => by have := (rightB_iff.1 h).2.2.2 i (by omega); omega).symm
  · refine loopK_normal ⟨by ((simp +decide (disch := first | decide | omega) only [go_sem, *]; done)), by ((simp +decide (disch := first | decide | omega) only [go_sem, *]; done)), by ((simp +decide (disch := first | decide | omega) only [go_sem, *]; done)), i + 1, by ((simp +decide (disch := first | decide | omega) only [go_sem, *]; rfl)), by omega, ?_⟩ (by simp +decide (disch := first | decide | omega) only [go_sem, *]; omega)
    intro k hk
    by_cases hki : k < i
    · exact hpre k hki
    · have : k = i := by omega
      subst this
      omega
  · refine congrArg HV.bool (rightB_iff.2 ⟨hb1, hb2, by omega, fun k hk => hpre k (by omega)⟩).symm

end Go.Proofs.Ytonhbeapffiibaa

/-
  Chapter 16: Reached, its result an own row.
-/
namespace Go.Proofs.Ytonhbeapffiibaa
open Go.HL

set_option maxHeartbeats 4000000 in
set_option maxRecDepth 8000 in
theorem ref_ReachedH (b : Bu) (set : List Int) (a : Int) (w : Bool) (h0 : Hp) (hv : validB b = true) (ha : 0 ≤ a ∧ a < b.letters) (hset : ∀ i, i < set.length → 0 ≤ nth set i ∧ nth set i < b.next.length) :
    CallsH pg 24 [.agg (buC b), .sl false (ints set), .int .i64 a, .bool w] h0 (fun r h' => Pre h0 h' ∧ OwnAt h' r 3 (ints (reach b set a w)) ∧ ∀ id n, r = .ow id 0 n → h0.length ≤ id) := by
  obtain ⟨v1, v2, v3⟩ := validB_iff.1 hv
  refine CallsH.of_wpN [] 74 fn24 rfl rfl ?_
  refine WP.abs (fun s => s 0 = .agg (buC b) ∧ s 1 = .sl false (ints set) ∧ s 2 = .int .i64 a ∧ s 3 = .bool w) ⟨rfl, rfl, rfl, rfl⟩ ?_
  rintro s ⟨h0', h1, h2, h3⟩
  refine WP.bnd 0 h0' fun hbd => ?_
  refine WP.slLen h1 fun hlen => ?_
  rw [ints_length, maxLen] at hlen
  have hl3 := (bnd_bu hbd).2
  clear hbd
  repeat' (with_reducible first | refine WP.seq ?_ | refine WP.block ?_ | refine seqK_normal ?_ | (apply WP.regionE; (with_unfolding_all (simp +decide (disch := first | decide | omega) only [go_sem, *]; rfl))))
  refine WP.loop (fun s h => s 1 = .sl false (ints set) ∧ s 2 = .int .i64 a ∧ s 3 = .bool w ∧ s 4 = .ep h0.length 0 0 ∧ s 9 = .ow (h0.length + 1) 0 b.next.length ∧ (True) ∧ ∃ i : Nat, s 10 = .int .i64 i ∧ i ≤ set.length ∧ (∃ p : Int → Bool, h = h0 ++ [.row 25 [buC b], .row 4 (boolsH (marks b p))] ∧ ∀ t, p t = hits b (set.take i) a w t)) (fun s _ => set.length - (s 10).toInt.toNat) ⟨by ((simp +decide (disch := first | decide | omega) only [go_sem, *]; done)), by ((simp +decide (disch := first | decide | omega) only [go_sem, *]; done)), by ((simp +decide (disch := first | decide | omega) only [go_sem, *]; done)), by ((simp +decide (disch := first | decide | omega) only [go_sem, *]; done)), by ((simp +decide (disch := first | decide | omega) only [go_sem, *]; simp; done)), trivial, 0, by ((simp +decide (disch := first | decide | omega) only [go_sem, *]; rfl)), by omega, ?_⟩ ?_
  · refine ⟨fun _ => false, ?_, fun t => by simp [hits]⟩
    have : boolsH (List.replicate b.next.length false) = boolsH (marks b fun _ => false) := by
      congr 1
      apply List.ext_getElem
      · simp [marks]
      · intro i h1 h2; simp [marks]
    simp +decide (disch := first | decide | omega) only [go_sem, *]
    simp
  clear h0' h1 h2 h3 s
  rintro s h ⟨h1, h2, h3, h4, h9, -, i, h10, hlei, hx⟩
  obtain ⟨p, rfl, hp⟩ := hx
  have hr0 : (h0 ++ [HO.row 25 [buC b], HO.row 4 (boolsH (marks b p))])[h0.length]? = some (.row 25 [buC b]) := by simp
  have hr1 : (h0 ++ [HO.row 25 [buC b], HO.row 4 (boolsH (marks b p))])[h0.length + 1]? = some (.row 4 (boolsH (marks b p))) := by simp
  have hsq : ∀ c, (h0 ++ [HO.row 25 [buC b], HO.row 4 (boolsH (marks b p))]).set (h0.length + 1) c = h0 ++ [HO.row 25 [buC b], c] := fun c => by
    rw [List.set_append_right _ _ (by omega), show h0.length + 1 - h0.length = 1 by omega]; rfl
  have hq := hset i
  have hq3 : i < set.length → ((nth b.next (nth set i).toNat).length : Int) = b.letters := fun h => (v3 _ (by have := hq h; omega)).1
  repeat' (with_reducible first | refine WP.seq ?_ | refine WP.skip ?_ | refine WP.block ?_ | refine WP.exit ?_ | refine seqK_normal ?_ | refine seqK_exit ?_ | refine loopK_exit ?_ | refine blockK_here ?_ | (apply WP.regionE; (with_unfolding_all (simp +decide (disch := first | decide | omega) only [go_sem, *]; rfl))) | (apply WP.regionV1 mixed; with_unfolding_all rfl; with_unfolding_all rfl; (with_unfolding_all (simp +decide (disch := first | decide | omega) only [go_sem, *]; rfl))) | (apply WP.condB; (simp +decide (disch := first | decide | omega) only [go_sem, *]; rfl); all_goals (intro hb; (first | rw [dlt_t] at hb | rw [dlt_f] at hb | rw [dle_t] at hb | rw [dle_f] at hb | rw [Bool.not_eq_true'] at hb | rw [Bool.not_eq_false'] at hb | skip))))
  · have hq1 := hq (by omega)
    have hq2 := hq3 (by omega)
    have hl4 := hl3 (nth set i).toNat a.toNat (by omega) (by omega)
    have hmv := fun k hk => (okM_iff.1 ((v3 (nth set i).toNat (by omega)).2 a.toNat (by omega) k hk)).1
    refine WP.loop (fun s' h => s' 1 = .sl false (ints set) ∧ s' 2 = .int .i64 a ∧ s' 3 = .bool w ∧ s' 4 = .ep h0.length 0 0 ∧ s' 9 = .ow (h0.length + 1) 0 b.next.length ∧ s' 10 = .int .i64 i ∧ s' 11 = .sl false (mvs (nth (nth b.next (nth set i).toNat) a.toNat)) ∧ (True) ∧ ∃ k : Nat, s' 12 = .int .i64 k ∧ k ≤ (nth (nth b.next (nth set i).toNat) a.toNat).length ∧ (∃ p : Int → Bool, h = h0 ++ [.row 25 [buC b], .row 4 (boolsH (marks b p))] ∧ ∀ t, p t = (hits b (set.take i) a w t || ((rowOf b (nth set i) a).take k).any fun m => decide (m.to = t) && (m.good || !w)))) (fun s' _ => (nth (nth b.next (nth set i).toNat) a.toNat).length - (s' 12).toInt.toNat) ⟨by ((simp +decide (disch := first | decide | omega) only [go_sem, *]; done)), by ((simp +decide (disch := first | decide | omega) only [go_sem, *]; done)), by ((simp +decide (disch := first | decide | omega) only [go_sem, *]; done)), by ((simp +decide (disch := first | decide | omega) only [go_sem, *]; done)), by ((simp +decide (disch := first | decide | omega) only [go_sem, *]; done)), by ((simp +decide (disch := first | decide | omega) only [go_sem, *]; done)), by ((simp +decide (disch := first | decide | omega) only [go_sem, *]; done)), trivial, 0, by ((simp +decide (disch := first | decide | omega) only [go_sem, *]; rfl)), by omega, ?_⟩ ?_
    · exact ⟨p, by (rfl), fun t => by simp [hp]⟩
    clear h1 h2 h3 h4 h9 hq hq3 hr0 hr1 hsq hp p
    rintro s' h ⟨h1, h2, h3, h4, h9, h10, h11, -, k, h12, hlek, hx⟩
    obtain ⟨p, rfl, hp⟩ := hx
    have hr0 : (h0 ++ [HO.row 25 [buC b], HO.row 4 (boolsH (marks b p))])[h0.length]? = some (.row 25 [buC b]) := by simp
    have hr1 : (h0 ++ [HO.row 25 [buC b], HO.row 4 (boolsH (marks b p))])[h0.length + 1]? = some (.row 4 (boolsH (marks b p))) := by simp
    have hsq : ∀ c, (h0 ++ [HO.row 25 [buC b], HO.row 4 (boolsH (marks b p))]).set (h0.length + 1) c = h0 ++ [HO.row 25 [buC b], c] := fun c => by
      rw [List.set_append_right _ _ (by omega), show h0.length + 1 - h0.length = 1 by omega]; rfl
    have hm := hmv k
    have ht : ∀ k, k < (nth (nth b.next (nth set i).toNat) a.toNat).length → (rowOf b (nth set i) a).take (k + 1) = (rowOf b (nth set i) a).take k ++ [nth (nth (nth b.next (nth set i).toNat) a.toNat) k] := fun k hk => take_nth hk
    clear hmv
    repeat' (with_reducible first | refine WP.seq ?_ | refine WP.skip ?_ | refine WP.block ?_ | refine WP.exit ?_ | refine seqK_normal ?_ | refine seqK_exit ?_ | refine loopK_exit ?_ | refine blockK_normal ?_ | refine blockK_here ?_ | (apply WP.regionE; (with_unfolding_all (simp +decide (disch := first | decide | omega) only [go_sem, *]; rfl))) | (apply WP.condT; (focus (simp +decide (disch := first | decide | omega) only [go_sem, *]; done))) | (apply WP.condB; (simp +decide (disch := first | decide | omega) only [go_sem, *]; rfl); all_goals (intro hb; (first | rw [dlt_t] at hb | rw [dlt_f] at hb | rw [dle_t] at hb | rw [dle_f] at hb | rw [Bool.not_eq_true'] at hb | rw [Bool.not_eq_false'] at hb | skip))) | (apply WP.guardB 0; with_unfolding_all rfl; (with_unfolding_all (simp +decide (disch := first | decide | omega) only [go_sem, *]; rfl)); (simp +decide (disch := first | decide | omega) only [go_sem, *]; rfl); all_goals (intro hb; (fail_if_success (exact absurd hb (by decide))); (first | rw [dlt_t] at hb | rw [dlt_f] at hb | rw [dle_t] at hb | rw [dle_f] at hb | rw [Bool.not_eq_true'] at hb | rw [Bool.not_eq_false'] at hb | skip))))
    · refine loopK_normal ⟨by ((simp +decide (disch := first | decide | omega) only [go_sem, *]; done)), by ((simp +decide (disch := first | decide | omega) only [go_sem, *]; done)), by ((simp +decide (disch := first | decide | omega) only [go_sem, *]; done)), by ((simp +decide (disch := first | decide | omega) only [go_sem, *]; done)), by ((simp +decide (disch := first | decide | omega) only [go_sem, *]; done)), by ((simp +decide (disch := first | decide | omega) only [go_sem, *]; done)), by ((simp +decide (disch := first | decide | omega) only [go_sem, *]; done)), trivial, k + 1, by ((simp +decide (disch := first | decide | omega) only [go_sem, *]; rfl)), by omega, ?_⟩ (by simp +decide (disch := first | decide | omega) only [go_sem, *]; omega)
      refine ⟨_, by (rfl), fun t => ?_⟩
      have := hm (by omega)
      rw [ht k (by omega)]
      try rw [hp t]
      simp [hb, Bool.or_assoc]
      congr 2
      rw [decide_eq_decide]
      omega
    · refine loopK_normal ⟨by ((simp +decide (disch := first | decide | omega) only [go_sem, *]; done)), by ((simp +decide (disch := first | decide | omega) only [go_sem, *]; done)), by ((simp +decide (disch := first | decide | omega) only [go_sem, *]; done)), by ((simp +decide (disch := first | decide | omega) only [go_sem, *]; done)), by ((simp +decide (disch := first | decide | omega) only [go_sem, *]; done)), by ((simp +decide (disch := first | decide | omega) only [go_sem, *]; done)), by ((simp +decide (disch := first | decide | omega) only [go_sem, *]; done)), trivial, k + 1, by ((simp +decide (disch := first | decide | omega) only [go_sem, *]; rfl)), by omega, ?_⟩ (by simp +decide (disch := first | decide | omega) only [go_sem, *]; omega)
      refine ⟨_, by (rfl), fun t => ?_⟩
      have := hm (by omega)
      rename_i hb1 hb2
      rw [ht k (by omega)]
      try rw [hp t]
      simp [hb, hb2, Bool.or_assoc]
      congr 2
      rw [decide_eq_decide]
      omega
    · refine loopK_normal ⟨by ((simp +decide (disch := first | decide | omega) only [go_sem, *]; done)), by ((simp +decide (disch := first | decide | omega) only [go_sem, *]; done)), by ((simp +decide (disch := first | decide | omega) only [go_sem, *]; done)), by ((simp +decide (disch := first | decide | omega) only [go_sem, *]; done)), by ((simp +decide (disch := first | decide | omega) only [go_sem, *]; done)), by ((simp +decide (disch := first | decide | omega) only [go_sem, *]; done)), by ((simp +decide (disch := first | decide | omega) only [go_sem, *]; done)), trivial, k + 1, by ((simp +decide (disch := first | decide | omega) only [go_sem, *]; rfl)), by omega, ?_⟩ (by simp +decide (disch := first | decide | omega) only [go_sem, *]; omega)
      refine ⟨p, by (rfl), fun t => ?_⟩
      rename_i hb1 hb2
      rw [ht k (by omega)]
      try rw [hp t]
      simp [hb, hb2]
    · refine loopK_normal ⟨by ((simp +decide (disch := first | decide | omega) only [go_sem, *]; done)), by ((simp +decide (disch := first | decide | omega) only [go_sem, *]; done)), by ((simp +decide (disch := first | decide | omega) only [go_sem, *]; done)), by ((simp +decide (disch := first | decide | omega) only [go_sem, *]; done)), by ((simp +decide (disch := first | decide | omega) only [go_sem, *]; done)), trivial, i + 1, by ((simp +decide (disch := first | decide | omega) only [go_sem, *]; rfl)), by omega, ?_⟩ (by simp +decide (disch := first | decide | omega) only [go_sem, *]; omega)
      refine ⟨p, by (rfl), fun t => ?_⟩
      have hk : (rowOf b (nth set i) a).take k = rowOf b (nth set i) a := List.take_of_length_le (by rw [rowOf]; omega)
      rw [hp t, hk, take_nth (by omega)]
      simp [hits]
  · have hp2 : ∀ t, p t = hits b set a w t := fun t => by rw [hp t, List.take_of_length_le (by omega)]
    clear hr0 hr1 hsq
    have hpe : marks b p = marks b (hits b set a w) := marks_congr hp2
    rw [hpe]
    clear hp hp2 hpe p
    refine WP.loop (fun s h => s 9 = .ow (h0.length + 1) 0 b.next.length ∧ (True) ∧ ∃ k : Nat, s 14 = .int .i64 k ∧ k ≤ b.next.length ∧ (OwnsL h [(.ow (h0.length + 1) 0 b.next.length, 4, boolsH (marks b (hits b set a w))), (s 13, 3, ints (((states b).take k).filter (hits b set a w)))]) ∧ (Pre h0 h ∧ h0.length + 1 < h.length ∧ ∀ id n, s 13 = .ow id 0 n → h0.length ≤ id)) (fun s _ => b.next.length - (s 14).toInt.toNat) ⟨by ((simp +decide (disch := first | decide | omega) only [go_sem, *]; done)), trivial, 0, by ((simp +decide (disch := first | decide | omega) only [go_sem, *]; rfl)), by omega, ?_, ?_⟩ ?_
    · simp +decide (disch := first | decide | omega) only [go_sem, *]
      refine ⟨?_, ?_⟩
      · intro p hp
        simp at hp
        rcases hp with rfl | rfl
        · have := @OwnAt.of_row (h0 ++ [.row 25 [buC b], .row 4 (boolsH (marks b (hits b set a w)))]) (h0.length + 1) 4 (boolsH (marks b (hits b set a w))) (by simp)
          rwa [boolsH_len, marks_length] at this
        · exact .inl ⟨rfl, rfl⟩
      · simp
    · refine ⟨⟨_, rfl⟩, by simp, fun id n e => ?_⟩
      replace e : HV.sl true [] = .ow id 0 n := Eq.trans (by (rfl)) e
      cases e
    clear h1 h2 h3 h4 h9 h10 s
    rintro s h ⟨h9, -, k, h14, hlek, hL, hP⟩
    have hrow := hL.row 0 rfl
    have hts := @take_states b k
    have hle := filter_le (hits b set a w) ((states b).take k)
    have hle2 : (states b).length = b.next.length := by simp [states]
    rw [List.length_take] at hle
    obtain ⟨q, hq1, hL1⟩ := owns_int hL 1 rfl (y := .sl true [[.int .i64 k]]) (ys := [(k : Int)]) rfl (by simp; omega)
    obtain ⟨fl, hrd⟩ := hL.read 1 rfl (ints_free _)
    obtain ⟨f1, f2, f3, f4⟩ := (hL.get 1 rfl).append_frame (P := pg.P) el22 rfl hq1
    have hpn : Pre h0 (setAll (h ++ q.ns) q.ws) := by
      refine ⟨(setAll (h ++ q.ns) q.ws).drop h0.length, ?_⟩
      refine Eq.trans (List.take_append_drop h0.length _).symm ?_
      congr 1
      have hl0 := hP.1.len
      apply List.ext_getElem?
      intro j
      rw [List.getElem?_take]
      split
      · rename_i hj
        rw [f3 j (by omega) (not_ids (k := h0.length) (hL.get 1 rfl) hP.2.2 hj), hP.1.at hj]
      · rename_i hj
        rw [List.getElem?_eq_none (by omega)]
    have f5 : h0.length + 1 < (setAll (h ++ q.ns) q.ws).length := by rw [f1]; omega
    have f6 : ∀ id n, q.x = .ow id 0 n → h0.length ≤ id := fun id n e => by
      rw [f2] at e
      injection e with e
      have := hP.1.len
      omega
    clear f1 f2 f3 f4
    repeat' (with_reducible first | refine WP.seq ?_ | refine WP.skip ?_ | refine WP.block ?_ | refine WP.exit ?_ | refine WP.ret ?_ | refine seqK_normal ?_ | refine seqK_exit ?_ | refine loopK_exit ?_ | refine blockK_normal ?_ | refine blockK_here ?_ | (apply WP.regionE; (with_unfolding_all (simp +decide (disch := first | decide | omega) only [go_sem, *]; rfl))) | (apply WP.condB; (simp +decide (disch := first | decide | omega) only [go_sem, *]; rfl); all_goals (intro hb; (first | rw [dlt_t] at hb | rw [dlt_f] at hb | rw [dle_t] at hb | rw [dle_f] at hb | rw [Bool.not_eq_true'] at hb | rw [Bool.not_eq_false'] at hb | skip))))
    · refine loopK_normal ⟨by ((simp +decide (disch := first | decide | omega) only [go_sem, *]; done)), trivial, k + 1, by ((simp +decide (disch := first | decide | omega) only [go_sem, *]; rfl)), by omega, ?_, ?_⟩ (by simp +decide (disch := first | decide | omega) only [go_sem, *]; omega)
      · rw [hts (by omega), List.filter_append]
        simp only [List.filter_cons, hb, if_true, List.filter_nil]
        simp +decide (disch := first | decide | omega) only [go_sem, *]
        exact hL1
      · exact ⟨hpn, f5, fun id n e => f6 id n (Eq.trans (by (rfl)) e)⟩
    · refine loopK_normal ⟨by ((simp +decide (disch := first | decide | omega) only [go_sem, *]; done)), trivial, k + 1, by ((simp +decide (disch := first | decide | omega) only [go_sem, *]; rfl)), by omega, ?_, ?_⟩ (by simp +decide (disch := first | decide | omega) only [go_sem, *]; omega)
      · rw [hts (by omega), List.filter_append]
        simp only [List.filter_cons, hb, Bool.false_eq_true, if_false, List.filter_nil, List.append_nil]
        simp +decide (disch := first | decide | omega) only [go_sem, *]
        try exact hL
      · exact ⟨hP.1, hP.2.1, fun id n e => hP.2.2 id n (Eq.trans (by (rfl)) e)⟩
    · rw [List.take_of_length_le (by omega)] at hL
      exact fnPost_ret (by simp +decide (disch := first | decide | omega) only [go_sem, *]) ⟨hP.1, hL.get 1 rfl, hP.2.2⟩
end Go.Proofs.Ytonhbeapffiibaa

