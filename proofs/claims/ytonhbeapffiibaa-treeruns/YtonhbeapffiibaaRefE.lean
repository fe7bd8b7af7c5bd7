/-
  Chapter 16: which automata are well-formed: the reference's check.
-/
import Derived.Test.YtonhbeapffiibaaRefD
namespace Go.Proofs.Ytonhbeapffiibaa
open Go.HL

/-- The i-th number of a list is a state, and greater than the one before. -/
def okS (l : List Int) (n : Nat) (i : Nat) : Bool := decide ((0 ≤ nth l i ∧ nth l i < n) ∧ (0 < i → nth l (i - 1) < nth l i))

def okM (l : List Mv) (n : Nat) (i : Nat) : Bool := decide ((0 ≤ (nth l i).to ∧ (nth l i).to < n) ∧ (0 < i → bef (nth l (i - 1)) (nth l i) = true))

def okRow (k : Int) (n : Nat) (rows : List (List Mv)) : Bool := decide ((rows.length : Int) = k) && upto rows.length fun a => upto (nth rows a).length (okM (nth rows a) n)

/-- A well-formed automaton. -/
def validB (b : Bu) : Bool := decide (1 ≤ b.letters ∧ b.letters ≤ 64 ∧ b.next.length ≤ 3000) && upto b.start.length (okS b.start b.next.length) && upto b.next.length fun i => okRow b.letters b.next.length (nth b.next i)

theorem validB_0 {b : Bu} (h : ¬ (1 ≤ b.letters ∧ b.letters ≤ 64 ∧ b.next.length ≤ 3000)) : validB b = false := by
  simp [validB, h]
theorem validB_start {b : Bu} (i : Nat) (hi : i < b.start.length) (h : okS b.start b.next.length i = false) : validB b = false := by
  simp [validB, upto_no i hi h]
theorem validB_next {b : Bu} (i : Nat) (hi : i < b.next.length) (h : okRow b.letters b.next.length (nth b.next i) = false) : validB b = false := by
  have := upto_no (p := fun i => okRow b.letters b.next.length (nth b.next i)) i hi h
  simp only [validB, this, Bool.and_false]
theorem okS_iff {l : List Int} {n i : Nat} : okS l n i = true ↔ (0 ≤ nth l i ∧ nth l i < n) ∧ (0 < i → nth l (i - 1) < nth l i) := by simp only [okS, decide_eq_true_eq]
theorem okM_iff {l : List Mv} {n i : Nat} : okM l n i = true ↔ (0 ≤ (nth l i).to ∧ (nth l i).to < n) ∧ (0 < i → bef (nth l (i - 1)) (nth l i) = true) := by simp only [okM, decide_eq_true_eq]

theorem bnd_bu {b : Bu} (h : (HV.agg (buC b)).bnd) : b.start.length ≤ 2 ^ 63 - 1 ∧ ∀ i a, i < b.next.length → a < (nth b.next i).length → (nth (nth b.next i) a).length ≤ 2 ^ 63 - 1 := by
  simp only [buC, HV.bnd, HV.bndL, ints_length, maxLen] at h
  refine ⟨h.2.1.1, fun i a hi ha => ?_⟩
  have h1 := bndLL_get h.2.2.1.2 (mats_nth hi)
  simp only [HV.bnd, HV.bndL] at h1
  have h2 := bndLL_get h1.1.2 (rows_nth ha)
  simp only [HV.bnd, HV.bndL, mvs_length, maxLen] at h2
  exact h2.1.1

set_option maxHeartbeats 4000000 in
set_option maxRecDepth 8000 in
theorem ref_BValid (b : Bu) : CallsP pg 28 [.agg (buC b)] (fun r => r = .bool (validB b)) := by
  refine CallsP.of_wpN [] 134 fn28 rfl rfl ?_
  refine WP.abs (fun s => s 0 = .agg (buC b)) rfl ?_
  rintro s h0
  refine WP.bnd 0 h0 fun hbd => ?_
  have hsl : b.start.length ≤ 2 ^ 63 - 1 := (bnd_bu hbd).1
  have hsl3 := (bnd_bu hbd).2
  repeat' (with_reducible first | refine WP.seq ?_ | refine WP.skip ?_ | refine WP.block ?_ | refine WP.ret ?_ | refine seqK_normal ?_ | refine seqK_ret ?_ | (apply WP.regionE; (with_unfolding_all (simp +decide (disch := first | decide | omega) only [go_sem, *]; rfl))) | (apply WP.condT; (focus (simp +decide (disch := first | decide | omega) only [go_sem, *]; done))) | (apply WP.condB; (simp +decide (disch := first | decide | omega) only [go_sem, *]; rfl); all_goals (intro hb; (first | rw [dlt_t] at hb | rw [dlt_f] at hb | rw [dle_t] at hb | rw [dle_f] at hb | rw [Bool.not_eq_true'] at hb | rw [Bool.not_eq_false'] at hb | skip))) | (apply fnPost_pure 0; (first | exact .inl rfl | exact .inr rfl); (simp +decide (disch := first | decide | omega) only [go_sem, *]; rfl); (simp +decide (disch := first | decide | omega) only [go_sem, *]; rfl)) | (apply WP.guardB 0; with_unfolding_all rfl; (with_unfolding_all (simp +decide (disch := first | decide | omega) only [go_sem, *]; rfl)); (simp +decide (disch := first | decide | omega) only [go_sem, *]; rfl); all_goals (intro hb; (fail_if_success (exact absurd hb (by decide))); (first | rw [dlt_t] at hb | rw [dlt_f] at hb | rw [dle_t] at hb | rw [dle_f] at hb | rw [Bool.not_eq_true'] at hb | rw [Bool.not_eq_false'] at hb | skip))) | (apply WP.guardB 1; with_unfolding_all rfl; (with_unfolding_all (simp +decide (disch := first | decide | omega) only [go_sem, *]; rfl)); (simp +decide (disch := first | decide | omega) only [go_sem, *]; rfl); all_goals (intro hb; (fail_if_success (exact absurd hb (by decide))); (first | rw [dlt_t] at hb | rw [dlt_f] at hb | rw [dle_t] at hb | rw [dle_f] at hb | rw [Bool.not_eq_true'] at hb | rw [Bool.not_eq_false'] at hb | skip))))
  iterate 3 (exact congrArg HV.bool (validB_0 (by omega)).symm)
  refine WP.loop (fun s h => s 1 = .ep 0 0 0 ∧ (h = [.row 25 [buC b]]) ∧ ∃ i : Nat, s 3 = .int .i64 i ∧ i ≤ b.start.length ∧ (upto i (okS b.start b.next.length) = true)) (fun s _ => b.start.length - (s 3).toInt.toNat) ⟨by ((simp +decide (disch := first | decide | omega) only [go_sem, *]; done)), by ((simp +decide (disch := first | decide | omega) only [go_sem, *]; done)), 0, by ((simp +decide (disch := first | decide | omega) only [go_sem, *]; rfl)), by omega, ?_⟩ ?_
  · rfl
  clear h0 s
  rintro s h ⟨h1, rfl, i, h3, hlei, hpre⟩
  repeat' (with_reducible first | refine WP.seq ?_ | refine WP.skip ?_ | refine WP.block ?_ | refine WP.exit ?_ | refine WP.ret ?_ | refine seqK_normal ?_ | refine seqK_exit ?_ | refine seqK_ret ?_ | refine loopK_exit ?_ | refine loopK_ret ?_ | refine blockK_normal ?_ | refine blockK_here ?_ | refine blockK_ret ?_ | (apply WP.regionE; (with_unfolding_all (simp +decide (disch := first | decide | omega) only [go_sem, *]; rfl))) | (apply WP.regionV1 mixed; with_unfolding_all rfl; with_unfolding_all rfl; (with_unfolding_all (simp +decide (disch := first | decide | omega) only [go_sem, *]; rfl))) | (apply WP.condT; (focus (simp +decide (disch := first | decide | omega) only [go_sem, *]; done))) | (apply WP.condF; (focus (simp +decide (disch := first | decide | omega) only [go_sem, *]; done))) | (apply WP.condB; (simp +decide (disch := first | decide | omega) only [go_sem, *]; rfl); all_goals (intro hb; (first | rw [dlt_t] at hb | rw [dlt_f] at hb | rw [dle_t] at hb | rw [dle_f] at hb | rw [Bool.not_eq_true'] at hb | rw [Bool.not_eq_false'] at hb | skip))) | (apply fnPost_pure 0; (first | exact .inl rfl | exact .inr rfl); (simp +decide (disch := first | decide | omega) only [go_sem, *]; rfl); (simp +decide (disch := first | decide | omega) only [go_sem, *]; rfl)) | (apply WP.guardB 0; with_unfolding_all rfl; (with_unfolding_all (simp +decide (disch := first | decide | omega) only [go_sem, *]; rfl)); (simp +decide (disch := first | decide | omega) only [go_sem, *]; rfl); all_goals (intro hb; (fail_if_success (exact absurd hb (by decide))); (first | rw [dlt_t] at hb | rw [dlt_f] at hb | rw [dle_t] at hb | rw [dle_f] at hb | rw [Bool.not_eq_true'] at hb | rw [Bool.not_eq_false'] at hb | skip))) | (apply WP.guardB 1; with_unfolding_all rfl; (with_unfolding_all (simp +decide (disch := first | decide | omega) only [go_sem, *]; rfl)); (simp +decide (disch := first | decide | omega) only [go_sem, *]; rfl); all_goals (intro hb; (fail_if_success (exact absurd hb (by decide))); (first | rw [dlt_t] at hb | rw [dlt_f] at hb | rw [dle_t] at hb | rw [dle_f] at hb | rw [Bool.not_eq_true'] at hb | rw [Bool.not_eq_false'] at hb | skip))) | (apply WP.guardB 2; with_unfolding_all rfl; (with_unfolding_all (simp +decide (disch := first | decide | omega) only [go_sem, *]; rfl)); (simp +decide (disch := first | decide | omega) only [go_sem, *]; rfl); all_goals (intro hb; (fail_if_success (exact absurd hb (by decide))); (first | rw [dlt_t] at hb | rw [dlt_f] at hb | rw [dle_t] at hb | rw [dle_f] at hb | rw [Bool.not_eq_true'] at hb | rw [Bool.not_eq_false'] at hb | skip))))
  any_goals first
    | exact congrArg HV.bool (validB_start i (by omega) (no_of okS_iff (by omega))).symm
    | (refine loopK_normal ⟨by ((simp +decide (disch := first | decide | omega) only [go_sem, *]; done)), by ((simp +decide (disch := first | decide | omega) only [go_sem, *]; done)), i + 1, by ((simp +decide (disch := first | decide | omega) only [go_sem, *]; rfl)), by omega, ?_⟩ (by simp +decide (disch := first | decide | omega) only [go_sem, *]; omega); exact upto_succ hpre (okS_iff.2 (by omega)))
  have hst : upto b.start.length (okS b.start b.next.length) = true := upto_le hpre (by omega)
  clear hpre
  refine WP.loop (fun s h => s 1 = .ep 0 0 0 ∧ (h = [.row 25 [buC b]]) ∧ ∃ i : Nat, s 4 = .int .i64 i ∧ i ≤ b.next.length ∧ (upto i (fun i => okRow b.letters b.next.length (nth b.next i)) = true)) (fun s _ => b.next.length - (s 4).toInt.toNat) ⟨by ((simp +decide (disch := first | decide | omega) only [go_sem, *]; done)), by ((simp +decide (disch := first | decide | omega) only [go_sem, *]; done)), 0, by ((simp +decide (disch := first | decide | omega) only [go_sem, *]; rfl)), by omega, ?_⟩ ?_
  · rfl
  clear h1 h3 s
  rintro s h ⟨h1, rfl, i, h4, hlei, hpre⟩
  repeat' (with_reducible first | refine WP.seq ?_ | refine WP.skip ?_ | refine WP.block ?_ | refine WP.exit ?_ | refine WP.ret ?_ | refine seqK_normal ?_ | refine seqK_exit ?_ | refine seqK_ret ?_ | refine loopK_exit ?_ | refine loopK_ret ?_ | refine blockK_here ?_ | refine blockK_ret ?_ | (apply WP.regionE; (with_unfolding_all (simp +decide (disch := first | decide | omega) only [go_sem, *]; rfl))) | (apply WP.regionV1 mixed; with_unfolding_all rfl; with_unfolding_all rfl; (with_unfolding_all (simp +decide (disch := first | decide | omega) only [go_sem, *]; rfl))) | (apply WP.condB; (simp +decide (disch := first | decide | omega) only [go_sem, *]; rfl); all_goals (intro hb; (first | rw [dlt_t] at hb | rw [dlt_f] at hb | rw [dle_t] at hb | rw [dle_f] at hb | rw [Bool.not_eq_true'] at hb | rw [Bool.not_eq_false'] at hb | skip))) | (apply fnPost_pure 0; (first | exact .inl rfl | exact .inr rfl); (simp +decide (disch := first | decide | omega) only [go_sem, *]; rfl); (simp +decide (disch := first | decide | omega) only [go_sem, *]; rfl)))
  · refine congrArg HV.bool (validB_next i (by omega) ?_).symm
    simp only [okRow, Bool.and_eq_false_iff]
    exact .inl (by simpa using hb)
  · have hll : ((nth b.next i).length : Int) = b.letters := by simpa using hb
    refine WP.loop (fun s' h => s' 1 = .ep 0 0 0 ∧ s' 4 = .int .i64 i ∧ (h = [.row 25 [buC b]]) ∧ ∃ a : Nat, s' 5 = .int .i64 a ∧ a ≤ b.letters.toNat ∧ (upto a (fun a => upto (nth (nth b.next i) a).length (okM (nth (nth b.next i) a) b.next.length)) = true)) (fun s' _ => b.letters.toNat - (s' 5).toInt.toNat) ⟨by ((simp +decide (disch := first | decide | omega) only [go_sem, *]; done)), by ((simp +decide (disch := first | decide | omega) only [go_sem, *]; done)), by ((simp +decide (disch := first | decide | omega) only [go_sem, *]; done)), 0, by ((simp +decide (disch := first | decide | omega) only [go_sem, *]; rfl)), by omega, ?_⟩ ?_
    · rfl
    clear h1
    rintro s' h ⟨h1, h4, rfl, a, h5, hlea, hpre2⟩
    repeat' (with_reducible first | refine WP.seq ?_ | refine WP.skip ?_ | refine WP.block ?_ | refine WP.exit ?_ | refine seqK_normal ?_ | refine seqK_exit ?_ | refine loopK_exit ?_ | refine blockK_normal ?_ | refine blockK_here ?_ | (apply WP.regionE; (with_unfolding_all (simp +decide (disch := first | decide | omega) only [go_sem, *]; rfl))) | (apply WP.condB; (simp +decide (disch := first | decide | omega) only [go_sem, *]; rfl); all_goals (intro hb; (first | rw [dlt_t] at hb | rw [dlt_f] at hb | rw [dle_t] at hb | rw [dle_f] at hb | rw [Bool.not_eq_true'] at hb | rw [Bool.not_eq_false'] at hb | skip))))
    · have hbad : ∀ k, k < (nth (nth b.next i) a).length → okM (nth (nth b.next i) a) b.next.length k = false → validB b = false := fun k hk hf => by
        refine validB_next i (by omega) ?_
        rw [okRow, upto_no a (by omega) (upto_no k hk hf), Bool.and_false]
      have hl3 := hsl3 i a (by omega) (by omega)
      refine WP.loop (fun s'' h => s'' 1 = .ep 0 0 0 ∧ s'' 4 = .int .i64 i ∧ s'' 5 = .int .i64 a ∧ s'' 6 = .sl false (mvs (nth (nth b.next i) a)) ∧ (h = [.row 25 [buC b]]) ∧ ∃ k : Nat, s'' 7 = .int .i64 k ∧ k ≤ (nth (nth b.next i) a).length ∧ (upto k (okM (nth (nth b.next i) a) b.next.length) = true)) (fun s'' _ => (nth (nth b.next i) a).length - (s'' 7).toInt.toNat) ⟨by ((simp +decide (disch := first | decide | omega) only [go_sem, *]; done)), by ((simp +decide (disch := first | decide | omega) only [go_sem, *]; done)), by ((simp +decide (disch := first | decide | omega) only [go_sem, *]; done)), by ((simp +decide (disch := first | decide | omega) only [go_sem, *]; done)), by ((simp +decide (disch := first | decide | omega) only [go_sem, *]; done)), 0, by ((simp +decide (disch := first | decide | omega) only [go_sem, *]; rfl)), by omega, ?_⟩ ?_
      · rfl
      clear h1 h4
      rintro s'' h ⟨h1, h4, h5, h6, rfl, k, h7, hlek, hpre3⟩
      repeat' (with_reducible first | refine WP.seq ?_ | refine WP.skip ?_ | refine WP.block ?_ | refine WP.exit ?_ | refine WP.ret ?_ | refine seqK_normal ?_ | refine seqK_exit ?_ | refine seqK_ret ?_ | refine loopK_exit ?_ | refine loopK_ret ?_ | refine blockK_normal ?_ | refine blockK_here ?_ | refine blockK_ret ?_ | (apply WP.regionE; (with_unfolding_all (simp +decide (disch := first | decide | omega) only [go_sem, *]; rfl))) | (apply WP.regionVX mixed; with_unfolding_all rfl; with_unfolding_all rfl; with_unfolding_all rfl; (with_unfolding_all (simp +decide (disch := first | decide | omega) only [go_sem, *]; rfl))) | (apply opsV.skipG; (focus (simp +decide (disch := first | decide | omega) only [go_sem, *]; done))) | (apply opsV.callG; (focus (simp +decide (disch := first | decide | omega) only [go_sem, *]; done)); (with_unfolding_all (simp +decide (disch := first | decide | omega) only [go_sem, *]; rfl)); (focus (simp +decide (disch := first | decide | omega) only [go_sem, *]; done)); (with_unfolding_all (simp +decide (disch := first | decide | omega) only [go_sem, *]; rfl)); exact (ref_before ..); (focus (simp +decide (disch := first | decide | omega) only [go_sem, *]; done))) | (apply opsV.fin; with_unfolding_all rfl; (with_unfolding_all (simp +decide (disch := first | decide | omega) only [go_sem, *]; rfl))) | (apply WP.condT; (focus (simp +decide (disch := first | decide | omega) only [go_sem, *]; done))) | (apply WP.condF; (focus (simp +decide (disch := first | decide | omega) only [go_sem, *]; done))) | (apply WP.condB; (simp +decide (disch := first | decide | omega) only [go_sem, *]; rfl); all_goals (intro hb; (first | rw [dlt_t] at hb | rw [dlt_f] at hb | rw [dle_t] at hb | rw [dle_f] at hb | rw [Bool.not_eq_true'] at hb | rw [Bool.not_eq_false'] at hb | skip))) | (apply fnPost_pure 0; (first | exact .inl rfl | exact .inr rfl); (simp +decide (disch := first | decide | omega) only [go_sem, *]; rfl); (simp +decide (disch := first | decide | omega) only [go_sem, *]; rfl)) | (apply WP.guardB 0; with_unfolding_all rfl; (with_unfolding_all (simp +decide (disch := first | decide | omega) only [go_sem, *]; rfl)); (simp +decide (disch := first | decide | omega) only [go_sem, *]; rfl); all_goals (intro hb; (fail_if_success (exact absurd hb (by decide))); (first | rw [dlt_t] at hb | rw [dlt_f] at hb | rw [dle_t] at hb | rw [dle_f] at hb | rw [Bool.not_eq_true'] at hb | rw [Bool.not_eq_false'] at hb | skip))) | (apply WP.guardB 1; with_unfolding_all rfl; (with_unfolding_all (simp +decide (disch := first | decide | omega) only [go_sem, *]; rfl)); (simp +decide (disch := first | decide | omega) only [go_sem, *]; rfl); all_goals (intro hb; (fail_if_success (exact absurd hb (by decide))); (first | rw [dlt_t] at hb | rw [dlt_f] at hb | rw [dle_t] at hb | rw [dle_f] at hb | rw [Bool.not_eq_true'] at hb | rw [Bool.not_eq_false'] at hb | skip))) | (apply WP.guardB 2; with_unfolding_all rfl; (with_unfolding_all (simp +decide (disch := first | decide | omega) only [go_sem, *]; rfl)); (simp +decide (disch := first | decide | omega) only [go_sem, *]; rfl); all_goals (intro hb; (fail_if_success (exact absurd hb (by decide))); (first | rw [dlt_t] at hb | rw [dlt_f] at hb | rw [dle_t] at hb | rw [dle_f] at hb | rw [Bool.not_eq_true'] at hb | rw [Bool.not_eq_false'] at hb | skip))))
      any_goals first
        | exact congrArg HV.bool (hbad k (by omega) (no_of okM_iff (by omega))).symm
        | exact congrArg HV.bool (hbad k (by omega) (no_of okM_iff fun hk => by have := hk.2 (by omega); simp [this] at hb)).symm
        | (refine loopK_normal ⟨by ((simp +decide (disch := first | decide | omega) only [go_sem, *]; done)), by ((simp +decide (disch := first | decide | omega) only [go_sem, *]; done)), by ((simp +decide (disch := first | decide | omega) only [go_sem, *]; done)), by ((simp +decide (disch := first | decide | omega) only [go_sem, *]; done)), by ((simp +decide (disch := first | decide | omega) only [go_sem, *]; done)), k + 1, by ((simp +decide (disch := first | decide | omega) only [go_sem, *]; rfl)), by omega, ?_⟩ (by simp +decide (disch := first | decide | omega) only [go_sem, *]; omega); exact upto_succ hpre3 (okM_iff.2 ⟨by omega, fun h0 => by omega⟩))
        | (refine loopK_normal ⟨by ((simp +decide (disch := first | decide | omega) only [go_sem, *]; done)), by ((simp +decide (disch := first | decide | omega) only [go_sem, *]; done)), by ((simp +decide (disch := first | decide | omega) only [go_sem, *]; done)), by (omega), by (fail), k + 1, by (fail), by omega, ?_⟩ (by simp +decide (disch := first | decide | omega) only [go_sem, *]; omega); exact upto_succ hpre3 (okM_iff.2 ⟨by omega, fun _ => by simpa using hb⟩))
      refine loopK_normal ⟨by ((simp +decide (disch := first | decide | omega) only [go_sem, *]; done)), by ((simp +decide (disch := first | decide | omega) only [go_sem, *]; done)), by ((simp +decide (disch := first | decide | omega) only [go_sem, *]; done)), a + 1, by ((simp +decide (disch := first | decide | omega) only [go_sem, *]; rfl)), by omega, ?_⟩ (by simp +decide (disch := first | decide | omega) only [go_sem, *]; omega)
      exact upto_succ hpre2 (upto_le hpre3 (by omega))
    · refine loopK_normal ⟨by ((simp +decide (disch := first | decide | omega) only [go_sem, *]; done)), by ((simp +decide (disch := first | decide | omega) only [go_sem, *]; done)), i + 1, by ((simp +decide (disch := first | decide | omega) only [go_sem, *]; rfl)), by omega, ?_⟩ (by simp +decide (disch := first | decide | omega) only [go_sem, *]; omega)
      refine upto_succ hpre ?_
      simp only [okRow, hll, decide_true, Bool.true_and]
      exact upto_le hpre2 (by omega)
  · congr 1
    symm
    simp only [validB, hst, Bool.and_true, Bool.and_eq_true, decide_eq_true_eq]
    exact ⟨by omega, upto_le hpre (by omega)⟩

end Go.Proofs.Ytonhbeapffiibaa

