/-
  Chapter 16: the statements' own functions.
-/
import Derived.Test.YtonhbeapffiibaaTreI
namespace Go.Proofs.Ytonhbeapffiibaa
open Go.HL

/-- The example. -/
def exB : Bu := ⟨1, [0], [[[⟨0, false⟩, ⟨1, true⟩]], [[⟨1, true⟩]]]⟩

set_option maxHeartbeats 4000000 in
set_option maxRecDepth 20000 in
theorem law_Example : CallsP pg 32 [] (fun v => v = .agg (buC exB)) := by
  refine CallsP.dimR ?_
  refine CallsP.of_wpN [] 11 fn32 rfl rfl ?_
  refine WP.abs (fun _ => True) trivial ?_
  rintro s -
  repeat' (with_reducible first | refine WP.seq ?_ | refine WP.ret ?_ | refine seqK_normal ?_ | (apply WP.regionE; (with_unfolding_all (simp +decide (disch := first | decide | omega) only [go_sem, *]; rfl))) | (apply fnPost_pure 1; (first | exact .inl rfl | exact .inr rfl); (simp +decide (disch := first | decide | omega) only [go_sem, *]; rfl); (simp +decide (disch := first | decide | omega) only [go_sem, *]; rfl)))
  rfl

/-- A word over an automaton's letters, not too long; the automaton is small. -/
def rightB (b : Bu) (w : List Int) (n : Int) : Bool := few b && validB b && decide ((w.length : Int) ≤ n) && upto w.length fun i => decide (0 ≤ nth w i ∧ nth w i < b.letters)

theorem rightB_iff {b : Bu} {w : List Int} {n : Int} : rightB b w n = true ↔ few b = true ∧ validB b = true ∧ w.length ≤ n ∧ ∀ i, i < w.length → 0 ≤ nth w i ∧ nth w i < b.letters := by
  simp only [rightB, Bool.and_eq_true, decide_eq_true_eq, upto_iff, and_assoc]

set_option maxHeartbeats 4000000 in
set_option maxRecDepth 8000 in
theorem law_right (b : Bu) (w : List Int) (n : Int) : CallsP pg 22 [.agg (buC b), .sl false (ints w), .int .i64 n] (fun v => v = .bool (rightB b w n)) := by
  have hfew := ref_Few b
  have hval := ref_BValid b
  refine CallsP.of_wpN [] 42 fn22 rfl rfl ?_
  refine WP.abs (fun s => s 0 = .agg (buC b) ∧ s 1 = .sl false (ints w) ∧ s 2 = .int .i64 n) ⟨rfl, rfl, rfl⟩ ?_
  rintro s ⟨h0, h1, h2⟩
  refine WP.slLen h1 fun hlen => ?_
  rw [ints_length, maxLen] at hlen
  repeat' (with_reducible first | refine WP.seq ?_ | refine WP.skip ?_ | refine WP.block ?_ | refine WP.ret ?_ | refine seqK_normal ?_ | refine seqK_ret ?_ | (apply WP.regionE; (with_unfolding_all (simp +decide (disch := first | decide | omega) only [go_sem, *]; rfl))) | (apply WP.regionX; with_unfolding_all rfl; (with_unfolding_all (simp +decide (disch := first | decide | omega) only [go_sem, *]; rfl))) | (apply opsT.skipG; (focus (simp +decide (disch := first | decide | omega) only [go_sem, *]; done))) | (apply opsT.call; (with_unfolding_all (simp +decide (disch := first | decide | omega) only [go_sem, *]; rfl)); (focus (simp +decide (disch := first | decide | omega) only [go_sem, *]; done)); (with_unfolding_all (simp +decide (disch := first | decide | omega) only [go_sem, *]; rfl))) | (apply opsT.callG; (focus (simp +decide (disch := first | decide | omega) only [go_sem, *]; done)); (with_unfolding_all (simp +decide (disch := first | decide | omega) only [go_sem, *]; rfl)); (focus (simp +decide (disch := first | decide | omega) only [go_sem, *]; done)); (with_unfolding_all (simp +decide (disch := first | decide | omega) only [go_sem, *]; rfl))) | (apply opsT.moreX; with_unfolding_all rfl; (with_unfolding_all (simp +decide (disch := first | decide | omega) only [go_sem, *]; rfl))) | (apply opsT.fin; (with_unfolding_all (simp +decide (disch := first | decide | omega) only [go_sem, *]; rfl))) | (apply CallsP.eq (hfew); (focus (simp +decide (disch := first | decide | omega) only [go_sem, *]; done))) | (apply CallsP.eq (hval); (focus (simp +decide (disch := first | decide | omega) only [go_sem, *]; done))) | (apply WP.condT; (focus (simp +decide (disch := first | decide | omega) only [go_sem, *]; done))) | (apply WP.condB; (simp +decide (disch := first | decide | omega) only [go_sem, *]; rfl); all_goals (intro hb; (first | rw [dlt_t] at hb | rw [dlt_f] at hb | rw [dle_t] at hb | rw [dle_f] at hb | rw [Bool.not_eq_true'] at hb | rw [Bool.not_eq_false'] at hb | skip))) | (apply fnPost_pure 0; (first | exact .inl rfl | exact .inr rfl); (simp +decide (disch := first | decide | omega) only [go_sem, *]; rfl); (simp +decide (disch := first | decide | omega) only [go_sem, *]; rfl)) | (apply opsT.guardB 0; with_unfolding_all rfl; (with_unfolding_all (simp +decide (disch := first | decide | omega) only [go_sem, *]; rfl)); (simp +decide (disch := first | decide | omega) only [go_sem, *]; rfl); all_goals (intro hb; (fail_if_success (exact absurd hb (by decide))); (first | rw [dlt_t] at hb | rw [dlt_f] at hb | rw [dle_t] at hb | rw [dle_f] at hb | rw [Bool.not_eq_true'] at hb | rw [Bool.not_eq_false'] at hb | skip))) | (apply opsT.guardB 1; with_unfolding_all rfl; (with_unfolding_all (simp +decide (disch := first | decide | omega) only [go_sem, *]; rfl)); (simp +decide (disch := first | decide | omega) only [go_sem, *]; rfl); all_goals (intro hb; (fail_if_success (exact absurd hb (by decide))); (first | rw [dlt_t] at hb | rw [dlt_f] at hb | rw [dle_t] at hb | rw [dle_f] at hb | rw [Bool.not_eq_true'] at hb | rw [Bool.not_eq_false'] at hb | skip))))
  · exact congrArg HV.bool (by simp [rightB, hb])
  · exact congrArg HV.bool (by simp [rightB, hb])
  · exact congrArg HV.bool (by simp [rightB, show ¬ (w.length : Int) ≤ n by omega])
  rename_i hb1 hb2
  clear hfew hval
  refine WP.loop (fun s h => s 1 = .sl false (ints w) ∧ s 3 = .ep 0 0 0 ∧ (h = [.row 25 [buC b]]) ∧ ∃ i : Nat, s 7 = .int .i64 i ∧ i ≤ w.length ∧ (∀ k, k < i → 0 ≤ nth w k ∧ nth w k < b.letters)) (fun s _ => w.length - (s 7).toInt.toNat) ⟨by ((simp +decide (disch := first | decide | omega) only [go_sem, *]; done)), by ((simp +decide (disch := first | decide | omega) only [go_sem, *]; done)), by ((simp +decide (disch := first | decide | omega) only [go_sem, *]; done)), 0, by ((simp +decide (disch := first | decide | omega) only [go_sem, *]; rfl)), by omega, ?_⟩ ?_
  · intro k hk; omega
  clear h0 h1 h2 s
  rintro s h ⟨h1, h3, rfl, i, h7, hlei, hpre⟩
  repeat' (with_reducible first | refine WP.seq ?_ | refine WP.skip ?_ | refine WP.block ?_ | refine WP.exit ?_ | refine WP.ret ?_ | refine seqK_normal ?_ | refine seqK_exit ?_ | refine seqK_ret ?_ | refine loopK_exit ?_ | refine loopK_ret ?_ | refine blockK_normal ?_ | refine blockK_here ?_ | refine blockK_ret ?_ | (apply WP.regionE; (with_unfolding_all (simp +decide (disch := first | decide | omega) only [go_sem, *]; rfl))) | (apply WP.regionV1 mixed; with_unfolding_all rfl; with_unfolding_all rfl; (with_unfolding_all (simp +decide (disch := first | decide | omega) only [go_sem, *]; rfl))) | (apply WP.condT; (focus (simp +decide (disch := first | decide | omega) only [go_sem, *]; done))) | (apply WP.condB; (simp +decide (disch := first | decide | omega) only [go_sem, *]; rfl); all_goals (intro hb; (first | rw [dlt_t] at hb | rw [dlt_f] at hb | rw [dle_t] at hb | rw [dle_f] at hb | rw [Bool.not_eq_true'] at hb | rw [Bool.not_eq_false'] at hb | skip))) | (apply fnPost_pure 0; (first | exact .inl rfl | exact .inr rfl); (simp +decide (disch := first | decide | omega) only [go_sem, *]; rfl); (simp +decide (disch := first | decide | omega) only [go_sem, *]; rfl)) | (apply WP.guardB 0; with_unfolding_all rfl; (with_unfolding_all (simp +decide (disch := first | decide | omega) only [go_sem, *]; rfl)); (simp +decide (disch := first | decide | omega) only [go_sem, *]; rfl); all_goals (intro hb; (fail_if_success (exact absurd hb (by decide))); (first | rw [dlt_t] at hb | rw [dlt_f] at hb | rw [dle_t] at hb | rw [dle_f] at hb | rw [Bool.not_eq_true'] at hb | rw [Bool.not_eq_false'] at hb | skip))))
  · exact congrArg HV.bool (Bool.eq_false_iff.2 fun h => by have := (rightB_iff.1 h).2.2.2 i (by omega); omega).symm
  · exact congrArg HV.bool (Bool.eq_false_iff.2 fun h => by have := (rightB_iff.1 h).2.2.2 i (by omega); omega).symm
  · refine loopK_normal ⟨by ((simp +decide (disch := first | decide | omega) only [go_sem, *]; done)), by ((simp +decide (disch := first | decide | omega) only [go_sem, *]; done)), by ((simp +decide (disch := first | decide | omega) only [go_sem, *]; done)), i + 1, by ((simp +decide (disch := first | decide | omega) only [go_sem, *]; rfl)), by omega, ?_⟩ (by simp +decide (disch := first | decide | omega) only [go_sem, *]; omega)
    intro k hk
    by_cases hki : k < i
    · exact hpre k hki
    · have : k = i := by omega
      subst this
      omega
  · refine congrArg HV.bool (rightB_iff.2 ⟨hb1, hb2, by omega, fun k hk => hpre k (by omega)⟩).symm

end Go.Proofs.Ytonhbeapffiibaa
