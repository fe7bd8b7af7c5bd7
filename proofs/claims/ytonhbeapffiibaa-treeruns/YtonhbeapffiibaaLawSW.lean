/-
  Chapter 16: the statement on sets: the walk.
-/
import Derived.Test.YtonhbeapffiibaaLawPLawNLawS
import Derived.Test.YtonhbeapffiibaaLawNW
namespace Go.Proofs.Ytonhbeapffiibaa
open Go.HL

/-- The tree and the set after a beginning of a word. -/
def runT (b : Bu) (w : List Int) : Nat → List Nd × List Int
  | 0 => (startT b, b.start)
  | i + 1 => ((stepT b (runT b w i).1 (nth w i)).1, reach b (runT b w i).2 (nth w i) false)

theorem stepT_valid {b : Bu} {t : List Nd} {a : Int} (ha : 0 ≤ a ∧ a < b.letters) (ht : validT b t = true) : validT b (stepT b t a).1 = true := by
  rw [stepT, if_pos ⟨ht, ha⟩]
  exact outS_valid ht ha

theorem reach_sub {b : Bu} {set : List Int} {a : Int} {w : Bool} : ∀ i, i < (reach b set a w).length → 0 ≤ nth (reach b set a w) i ∧ nth (reach b set a w) i < b.next.length := fun i hi => reach_lt (nth_mem hi)

/-- The first node's set is that of the states reached; there is no node exactly if there are none. -/
def Agree (t : List Nd) (set : List Int) : Prop := (t = [] ↔ set = []) ∧ (t ≠ [] → (nth t 0).set = set)

theorem step_agree {b : Bu} {t : List Nd} {set : List Int} {a : Int} (ha : 0 ≤ a ∧ a < b.letters) (ht : validT b t = true) (h : Agree t set) : Agree (stepT b t a).1 (reach b set a false) := by
  rw [stepT, if_pos ⟨ht, ha⟩]
  simp only
  by_cases h0 : t = []
  · have h1 := h.1.1 h0
    subst h0; subst h1
    have e1 : outS b [] a = [] := by
      refine List.eq_nil_of_length_eq_zero ?_
      rw [out_len]
      have := keptI_len (flashed b [] a) (2 * 0)
      unfold keptS
      simp at this ⊢
      exact this
    have e2 : reach b [] a false = [] := by
      simp only [reach, List.filter_eq_nil_iff]
      intro x _
      simp [hits]
    rw [e1, e2]
    exact ⟨by simp, fun h => absurd rfl h⟩
  · have h1 := h.2 h0
    have hl : 0 < t.length := List.length_pos_iff.2 h0
    rw [← h1]
    by_cases hc : cnt b (hits b (nth t 0).set a false) = 0
    · have e1 : outS b t a = [] := by rw [outS, (keptS_nil ht hl).2 hc]; rfl
      have e2 : reach b (nth t 0).set a false = [] := List.eq_nil_of_length_eq_zero hc
      rw [e1, e2]
      exact ⟨by simp, fun h => absurd rfl h⟩
    · obtain ⟨g1, g2⟩ := outS_root ht hl hc
      refine ⟨?_, fun _ => g2⟩
      constructor
      · intro e; rw [e] at g1; simp at g1
      · intro e
        have : (reach b (nth t 0).set a false).length = 0 := by rw [e]; rfl
        exact absurd this hc

theorem start_agree {b : Bu} (hv : validB b = true) : Agree (startT b) b.start := by
  unfold startT Agree
  by_cases h : b.start = []
  · rw [if_neg (by simp [h])]; simp [h]
  · rw [if_pos ⟨hv, h⟩]
    exact ⟨by simp [h], fun _ => rfl⟩

theorem run_ok {b : Bu} {w : List Int} (hv : validB b = true) (hw : ∀ i, i < w.length → 0 ≤ nth w i ∧ nth w i < b.letters) : ∀ i, i ≤ w.length → validT b (runT b w i).1 = true ∧ Agree (runT b w i).1 (runT b w i).2 ∧ ∀ k, k < (runT b w i).2.length → 0 ≤ nth (runT b w i).2 k ∧ nth (runT b w i).2 k < b.next.length
  | 0, _ => ⟨startT_valid hv, start_agree hv, fun k hk => (okS_iff.1 ((validB_iff.1 hv).2.1 k hk)).1⟩
  | i + 1, hi => by
    obtain ⟨h1, h2, _⟩ := run_ok hv hw i (by omega)
    exact ⟨stepT_valid (hw i (by omega)) h1, step_agree (hw i (by omega)) h1 h2, reach_sub⟩

theorem valid_kids {b : Bu} {t : List Nd} (ht : validT b t = true) (i : Int) : (kids t i).length ≤ 1000000 := by
  have hvb := (validB_iff.1 (validT_iff.1 ht).1).1
  by_cases h : ∃ p : Nat, p < t.length ∧ i = p
  · obtain ⟨p, hp, rfl⟩ := h
    have h1 := kids_lt (fun j hj => okW_of (of_valid ht hj)) p hp
    have h2 := nodup_le (l := (nth t p).set) (m := states b) (pw_nodup (okE_pw (of_valid ht hp).2.1)) fun x hx => mem_states.2 (okE_mem (of_valid ht hp).2.1 hx).1
    have h3 : (states b).length = b.next.length := by simp [states]
    omega
  · have h0 : kids t i = kids (t.take t.length) i := by rw [List.take_length]
    by_cases hl : (kids t i).length = 0
    · omega
    have : ∃ q, q ∈ kids t i := by
      cases hk : kids t i with
      | nil => rw [hk] at hl; exact absurd rfl hl
      | cons q l => exact ⟨q, by simp⟩
    obtain ⟨q, hq⟩ := this
    rw [h0] at hq
    obtain ⟨k, hk, hkp, _⟩ := (mem_kids (Nat.le_refl _)).1 hq
    have hH := (of_valid ht hk).1
    unfold okH at hH
    by_cases hn : i = -1
    · have hroot : ∀ j, j < t.length → (nth t j).par = -1 → j = 0 := fun j hj e => by
        have := (of_valid ht hj).1
        unfold okH at this
        omega
      have h1 : (kids t i).length ≤ (nth t 0).set.length := by
        have hnd := kids_nodup (n := b.next.length) t.length (Nat.le_refl _) (fun j hj => ⟨(of_valid ht hj).2.1, (of_valid ht hj).2.2.1⟩) i
        rw [h0]
        refine nodup_le hnd fun x hx => ?_
        obtain ⟨j, hj, hjp, hjq⟩ := (mem_kids (Nat.le_refl _)).1 hx
        rwa [hroot j hj (by omega)] at hjq
      have h2 := nodup_le (l := (nth t 0).set) (m := states b) (pw_nodup (okE_pw (of_valid ht (by omega)).2.1)) fun x hx => mem_states.2 (okE_mem (of_valid ht (show 0 < t.length by omega)).2.1 hx).1
      have h3 : (states b).length = b.next.length := by simp [states]
      omega
    · exfalso
      exact h ⟨i.toNat, by omega, by omega⟩

set_option maxHeartbeats 4000000 in
set_option maxRecDepth 8000 in
theorem law_sets (b : Bu) (w : List Int) : CallsP pg 4 [.agg (buC b), .sl false (ints w)] (fun v => v = .bool true) := by
  have c9 := law_head
  have c22 := law_right b w 12
  cases hr : rightB b w 12 with
  | false =>
    rw [hr] at c22
    refine CallsP.of_wpN [] 76 fn4 rfl rfl ?_
    refine WP.abs (fun s => s 0 = .agg (buC b) ∧ s 1 = .sl false (ints w)) ⟨rfl, rfl⟩ ?_
    rintro s ⟨h0, h1⟩
    repeat' (with_reducible first | refine WP.seq ?_ | refine WP.ret ?_ | refine seqK_normal ?_ | refine seqK_ret ?_ | (apply WP.regionE; (with_unfolding_all (simp +decide (disch := first | decide | omega) only [go_sem, *]; rfl))) | (apply WP.regionX; with_unfolding_all rfl; (with_unfolding_all (simp +decide (disch := first | decide | omega) only [go_sem, *]; rfl))) | (apply opsT.call; (with_unfolding_all (simp +decide (disch := first | decide | omega) only [go_sem, *]; rfl)); (focus (simp +decide (disch := first | decide | omega) only [go_sem, *]; done)); (with_unfolding_all (simp +decide (disch := first | decide | omega) only [go_sem, *]; rfl))) | (apply opsT.fin; (with_unfolding_all (simp +decide (disch := first | decide | omega) only [go_sem, *]; rfl))) | (apply CallsP.eq (c9); (focus (simp +decide (disch := first | decide | omega) only [go_sem, *]; done))) | (apply CallsP.eq (c22); (focus (simp +decide (disch := first | decide | omega) only [go_sem, *]; done))) | (apply WP.condT; (focus (simp +decide (disch := first | decide | omega) only [go_sem, *]; done))) | (apply fnPost_pure 0; (first | exact .inl rfl | exact .inr rfl); (simp +decide (disch := first | decide | omega) only [go_sem, *]; rfl); (simp +decide (disch := first | decide | omega) only [go_sem, *]; rfl)))
    rfl
  | true =>
  rw [hr] at c22
  obtain ⟨hf, hv, hwl, hw⟩ := rightB_iff.1 hr
  have hw12 : w.length ≤ 12 := by omega
  have c17 := tree_Start b
  refine CallsP.of_wpN [] 76 fn4 rfl rfl ?_
  refine WP.abs (fun s => s 0 = .agg (buC b) ∧ s 1 = .sl false (ints w)) ⟨rfl, rfl⟩ ?_
  rintro s ⟨h0, h1⟩
  repeat' (with_reducible first | refine WP.seq ?_ | refine WP.skip ?_ | refine WP.block ?_ | refine seqK_normal ?_ | (apply WP.regionE; (with_unfolding_all (simp +decide (disch := first | decide | omega) only [go_sem, *]; rfl))) | (apply WP.regionX; with_unfolding_all rfl; (with_unfolding_all (simp +decide (disch := first | decide | omega) only [go_sem, *]; rfl))) | (apply opsT.call; (with_unfolding_all (simp +decide (disch := first | decide | omega) only [go_sem, *]; rfl)); (focus (simp +decide (disch := first | decide | omega) only [go_sem, *]; done)); (with_unfolding_all (simp +decide (disch := first | decide | omega) only [go_sem, *]; rfl))) | (apply opsT.fin; (with_unfolding_all (simp +decide (disch := first | decide | omega) only [go_sem, *]; rfl))) | (apply CallsP.eq (c9); (focus (simp +decide (disch := first | decide | omega) only [go_sem, *]; done))) | (apply CallsP.eq (c22); (focus (simp +decide (disch := first | decide | omega) only [go_sem, *]; done))) | (apply CallsP.eq (c17); (focus (simp +decide (disch := first | decide | omega) only [go_sem, *]; done))) | (apply WP.condF; (focus (simp +decide (disch := first | decide | omega) only [go_sem, *]; done))))
  clear c9 c22 c17
  refine WP.loop (fun s h => s 1 = .sl false (ints w) ∧ s 2 = .ep 0 0 0 ∧ s 5 = .bool true ∧ h = [.row 25 [buC b]] ∧ ∃ i : Nat, s 8 = .int .i64 i ∧ i ≤ w.length ∧ s 6 = .sl false (nds (runT b w i).1) ∧ s 7 = .sl false (ints (runT b w i).2)) (fun s _ => w.length - (s 8).toInt.toNat)
    ⟨by ((simp +decide (disch := first | decide | omega) only [go_sem, *]; done)), by (rfl), by (rfl), by (rfl), 0, by simp +decide (disch := first | decide | omega) only [go_sem, *]; rfl, by omega, by (rfl), by (rfl)⟩ ?_
  clear h0 h1 s
  rintro s h ⟨h1, h2, h5, rfl, i, h8, hi, h6, h7⟩
  obtain ⟨r1, r2, r3⟩ := run_ok hv hw i hi
  have hT : (runT b w (i + 1)).1 = (stepT b (runT b w i).1 (nth w i)).1 := rfl
  have hS : (runT b w (i + 1)).2 = reach b (runT b w i).2 (nth w i) false := rfl
  have htl := (validT_iff.1 r1).2.1
  have hvl := (validB_iff.1 hv).1
  have c19 := tree_Valid b (runT b w i).1 (by omega)
  have c20 := ref_Valid b (runT b w i).1 (valid_kids r1)
  rw [r1] at c19 c20
  generalize (runT b w i).1 = T at *
  generalize (runT b w i).2 = S at *
  have c12 := law_step b T (nth w i) (by omega)
  have c23 := ref_Ints (nth T 0).set S
  have hlt : i < w.length → 0 ≤ nth w i ∧ nth w i < b.letters := hw i
  rw [← hT] at c12
  obtain ⟨T', hT'⟩ : ∃ T', (runT b w (i + 1)).1 = T' := ⟨_, rfl⟩
  obtain ⟨S', hS'⟩ : ∃ S', (runT b w (i + 1)).2 = S' := ⟨_, rfl⟩
  rw [hT'] at c12
  rw [hS'] at hS
  have hfin : ∃ i' : Nat, i' = i + 1 ∧ (runT b w i').1 = T' ∧ (runT b w i').2 = S' := ⟨_, rfl, hT', hS'⟩
  clear hT hT' hS'
  obtain ⟨a1, a2⟩ := r2
  by_cases ht : T = []
  · have hs := a1.1 ht
    subst ht; subst hs
    by_cases hil : i < w.length
    · have c24 := ref_Reached b [] (nth w i) false hv (hw i hil) r3
      rw [← hS] at c24
      have hdi : decide ((i : Int) = (w.length : Int)) = false := decide_eq_false (by omega)
      clear a1 a2 hS r1 hlt r3
      repeat' (with_reducible first | refine WP.seq ?_ | refine WP.skip ?_ | refine WP.block ?_ | refine seqK_normal ?_ | refine blockK_normal ?_ | (apply WP.regionE; (with_unfolding_all (simp +decide (disch := first | decide | omega) only [go_sem, *]; rfl))) | (apply WP.regionX; with_unfolding_all rfl; (with_unfolding_all (simp +decide (disch := first | decide | omega) only [go_sem, *]; rfl))) | (apply WP.regionVX mixed; with_unfolding_all rfl; with_unfolding_all rfl; with_unfolding_all rfl; (with_unfolding_all (simp +decide (disch := first | decide | omega) only [go_sem, *]; rfl))) | (apply opsT.skipG; (focus (simp +decide (disch := first | decide | omega) only [go_sem, *]; done))) | (apply opsT.call; (with_unfolding_all (simp +decide (disch := first | decide | omega) only [go_sem, *]; rfl)); (focus (simp +decide (disch := first | decide | omega) only [go_sem, *]; done)); (with_unfolding_all (simp +decide (disch := first | decide | omega) only [go_sem, *]; rfl))) | (apply opsT.callG; (focus (simp +decide (disch := first | decide | omega) only [go_sem, *]; done)); (with_unfolding_all (simp +decide (disch := first | decide | omega) only [go_sem, *]; rfl)); (focus (simp +decide (disch := first | decide | omega) only [go_sem, *]; done)); (with_unfolding_all (simp +decide (disch := first | decide | omega) only [go_sem, *]; rfl))) | (apply opsT.moreX; with_unfolding_all rfl; (with_unfolding_all (simp +decide (disch := first | decide | omega) only [go_sem, *]; rfl))) | (apply opsT.fin; (with_unfolding_all (simp +decide (disch := first | decide | omega) only [go_sem, *]; rfl))) | (apply opsV.call; (with_unfolding_all (simp +decide (disch := first | decide | omega) only [go_sem, *]; rfl)); (focus (simp +decide (disch := first | decide | omega) only [go_sem, *]; done)); (with_unfolding_all (simp +decide (disch := first | decide | omega) only [go_sem, *]; rfl)); exact (c12); (focus (simp +decide (disch := first | decide | omega) only [go_sem, *]; done))) | (apply opsV.call; (with_unfolding_all (simp +decide (disch := first | decide | omega) only [go_sem, *]; rfl)); (focus (simp +decide (disch := first | decide | omega) only [go_sem, *]; done)); (with_unfolding_all (simp +decide (disch := first | decide | omega) only [go_sem, *]; rfl)); exact (c24); (focus (simp +decide (disch := first | decide | omega) only [go_sem, *]; done))) | (apply opsV.fin; with_unfolding_all rfl; (with_unfolding_all (simp +decide (disch := first | decide | omega) only [go_sem, *]; rfl))) | (apply CallsP.eq (c19); (focus (simp +decide (disch := first | decide | omega) only [go_sem, *]; done))) | (apply CallsP.eq (c20); (focus (simp +decide (disch := first | decide | omega) only [go_sem, *]; done))) | (apply WP.condF; (focus (simp +decide (disch := first | decide | omega) only [go_sem, *]; done))))
      all_goals try omega
      obtain ⟨i', hi', rfl, rfl⟩ := hfin
      exact loopK_normal ⟨by ((simp +decide (disch := first | decide | omega) only [go_sem, *]; done)), by ((simp +decide (disch := first | decide | omega) only [go_sem, *]; done)), by ((simp +decide (disch := first | decide | omega) only [go_sem, *]; done)), rfl, i', by first | (simp +decide (disch := first | decide | omega) only [go_sem, *]; done) | (simp +decide (disch := first | decide | omega) only [go_sem, *]; rfl), by omega, by (rfl), by (rfl)⟩ (by simp +decide (disch := first | decide | omega) only [go_sem, *]; omega)
    · have hdi : decide ((i : Int) = (w.length : Int)) = true := decide_eq_true (by omega)
      clear a1 a2 hS r1 hlt r3 hfin
      repeat' (with_reducible first | refine WP.seq ?_ | refine WP.skip ?_ | refine WP.block ?_ | refine WP.ret ?_ | refine seqK_normal ?_ | refine seqK_ret ?_ | refine loopK_ret ?_ | refine blockK_ret ?_ | (apply WP.regionE; (with_unfolding_all (simp +decide (disch := first | decide | omega) only [go_sem, *]; rfl))) | (apply WP.regionX; with_unfolding_all rfl; (with_unfolding_all (simp +decide (disch := first | decide | omega) only [go_sem, *]; rfl))) | (apply opsT.skipG; (focus (simp +decide (disch := first | decide | omega) only [go_sem, *]; done))) | (apply opsT.call; (with_unfolding_all (simp +decide (disch := first | decide | omega) only [go_sem, *]; rfl)); (focus (simp +decide (disch := first | decide | omega) only [go_sem, *]; done)); (with_unfolding_all (simp +decide (disch := first | decide | omega) only [go_sem, *]; rfl))) | (apply opsT.callG; (focus (simp +decide (disch := first | decide | omega) only [go_sem, *]; done)); (with_unfolding_all (simp +decide (disch := first | decide | omega) only [go_sem, *]; rfl)); (focus (simp +decide (disch := first | decide | omega) only [go_sem, *]; done)); (with_unfolding_all (simp +decide (disch := first | decide | omega) only [go_sem, *]; rfl))) | (apply opsT.moreX; with_unfolding_all rfl; (with_unfolding_all (simp +decide (disch := first | decide | omega) only [go_sem, *]; rfl))) | (apply opsT.fin; (with_unfolding_all (simp +decide (disch := first | decide | omega) only [go_sem, *]; rfl))) | (apply CallsP.eq (c19); (focus (simp +decide (disch := first | decide | omega) only [go_sem, *]; done))) | (apply CallsP.eq (c20); (focus (simp +decide (disch := first | decide | omega) only [go_sem, *]; done))) | (apply WP.condT; (focus (simp +decide (disch := first | decide | omega) only [go_sem, *]; done))) | (apply WP.condF; (focus (simp +decide (disch := first | decide | omega) only [go_sem, *]; done))) | (apply fnPost_pure 0; (first | exact .inl rfl | exact .inr rfl); (simp +decide (disch := first | decide | omega) only [go_sem, *]; rfl); (simp +decide (disch := first | decide | omega) only [go_sem, *]; rfl)))
      all_goals try omega
      rfl
  · have hl1 : 0 < T.length := List.length_pos_iff.2 ht
    have hl2 : 0 < S.length := List.length_pos_iff.2 fun e => ht (a1.2 e)
    have hd1 : decide ((T.length : Int) = 0) = false := decide_eq_false (by omega)
    have hd2 : decide ((S.length : Int) = 0) = false := decide_eq_false (by omega)
    rw [decide_eq_true (a2 ht)] at c23
    by_cases hil : i < w.length
    · have c24 := ref_Reached b S (nth w i) false hv (hw i hil) r3
      rw [← hS] at c24
      have hdi : decide ((i : Int) = (w.length : Int)) = false := decide_eq_false (by omega)
      clear a1 a2 hS r1 hlt r3
      repeat' (with_reducible first | refine WP.seq ?_ | refine WP.skip ?_ | refine WP.block ?_ | refine WP.ret ?_ | refine seqK_normal ?_ | refine seqK_ret ?_ | refine loopK_ret ?_ | refine blockK_normal ?_ | refine blockK_ret ?_ | (apply WP.regionE; (with_unfolding_all (simp +decide (disch := first | decide | omega) only [go_sem, *]; rfl))) | (apply WP.regionX; with_unfolding_all rfl; (with_unfolding_all (simp +decide (disch := first | decide | omega) only [go_sem, *]; rfl))) | (apply WP.regionVX mixed; with_unfolding_all rfl; with_unfolding_all rfl; with_unfolding_all rfl; (with_unfolding_all (simp +decide (disch := first | decide | omega) only [go_sem, *]; rfl))) | (apply opsT.skipG; (focus (simp +decide (disch := first | decide | omega) only [go_sem, *]; done))) | (apply opsT.call; (with_unfolding_all (simp +decide (disch := first | decide | omega) only [go_sem, *]; rfl)); (focus (simp +decide (disch := first | decide | omega) only [go_sem, *]; done)); (with_unfolding_all (simp +decide (disch := first | decide | omega) only [go_sem, *]; rfl))) | (apply opsT.callG; (focus (simp +decide (disch := first | decide | omega) only [go_sem, *]; done)); (with_unfolding_all (simp +decide (disch := first | decide | omega) only [go_sem, *]; rfl)); (focus (simp +decide (disch := first | decide | omega) only [go_sem, *]; done)); (with_unfolding_all (simp +decide (disch := first | decide | omega) only [go_sem, *]; rfl))) | (apply opsT.moreX; with_unfolding_all rfl; (with_unfolding_all (simp +decide (disch := first | decide | omega) only [go_sem, *]; rfl))) | (apply opsT.fin; (with_unfolding_all (simp +decide (disch := first | decide | omega) only [go_sem, *]; rfl))) | (apply opsV.call; (with_unfolding_all (simp +decide (disch := first | decide | omega) only [go_sem, *]; rfl)); (focus (simp +decide (disch := first | decide | omega) only [go_sem, *]; done)); (with_unfolding_all (simp +decide (disch := first | decide | omega) only [go_sem, *]; rfl)); exact (c12); (focus (simp +decide (disch := first | decide | omega) only [go_sem, *]; done))) | (apply opsV.call; (with_unfolding_all (simp +decide (disch := first | decide | omega) only [go_sem, *]; rfl)); (focus (simp +decide (disch := first | decide | omega) only [go_sem, *]; done)); (with_unfolding_all (simp +decide (disch := first | decide | omega) only [go_sem, *]; rfl)); exact (c24); (focus (simp +decide (disch := first | decide | omega) only [go_sem, *]; done))) | (apply opsV.fin; with_unfolding_all rfl; (with_unfolding_all (simp +decide (disch := first | decide | omega) only [go_sem, *]; rfl))) | (apply CallsP.eq (c19); (focus (simp +decide (disch := first | decide | omega) only [go_sem, *]; done))) | (apply CallsP.eq (c20); (focus (simp +decide (disch := first | decide | omega) only [go_sem, *]; done))) | (apply CallsP.eq (c23); (focus (simp +decide (disch := first | decide | omega) only [go_sem, *]; done))) | (apply WP.condT; (focus (simp +decide (disch := first | decide | omega) only [go_sem, *]; done))) | (apply WP.condF; (focus (simp +decide (disch := first | decide | omega) only [go_sem, *]; done))) | (apply fnPost_pure 0; (first | exact .inl rfl | exact .inr rfl); (simp +decide (disch := first | decide | omega) only [go_sem, *]; rfl); (simp +decide (disch := first | decide | omega) only [go_sem, *]; rfl)) | (apply opsT.guardB 3; with_unfolding_all rfl; (with_unfolding_all (simp +decide (disch := first | decide | omega) only [go_sem, *]; rfl)); (simp +decide (disch := first | decide | omega) only [go_sem, *]; rfl); all_goals (intro hb; (fail_if_success (exact absurd hb (by decide))); (first | rw [dlt_t] at hb | rw [dlt_f] at hb | rw [dle_t] at hb | rw [dle_f] at hb | rw [Bool.not_eq_true'] at hb | rw [Bool.not_eq_false'] at hb | skip))))
      all_goals try omega
      obtain ⟨i', hi', rfl, rfl⟩ := hfin
      exact loopK_normal ⟨by ((simp +decide (disch := first | decide | omega) only [go_sem, *]; done)), by ((simp +decide (disch := first | decide | omega) only [go_sem, *]; done)), by ((simp +decide (disch := first | decide | omega) only [go_sem, *]; done)), rfl, i', by first | (simp +decide (disch := first | decide | omega) only [go_sem, *]; done) | (simp +decide (disch := first | decide | omega) only [go_sem, *]; rfl), by omega, by (rfl), by (rfl)⟩ (by simp +decide (disch := first | decide | omega) only [go_sem, *]; omega)
    · have hdi : decide ((i : Int) = (w.length : Int)) = true := decide_eq_true (by omega)
      clear a1 a2 hS r1 hlt r3 hfin
      repeat' (with_reducible first | refine WP.seq ?_ | refine WP.skip ?_ | refine WP.block ?_ | refine WP.ret ?_ | refine seqK_normal ?_ | refine seqK_ret ?_ | refine loopK_ret ?_ | refine blockK_ret ?_ | (apply WP.regionE; (with_unfolding_all (simp +decide (disch := first | decide | omega) only [go_sem, *]; rfl))) | (apply WP.regionX; with_unfolding_all rfl; (with_unfolding_all (simp +decide (disch := first | decide | omega) only [go_sem, *]; rfl))) | (apply opsT.skipG; (focus (simp +decide (disch := first | decide | omega) only [go_sem, *]; done))) | (apply opsT.call; (with_unfolding_all (simp +decide (disch := first | decide | omega) only [go_sem, *]; rfl)); (focus (simp +decide (disch := first | decide | omega) only [go_sem, *]; done)); (with_unfolding_all (simp +decide (disch := first | decide | omega) only [go_sem, *]; rfl))) | (apply opsT.callG; (focus (simp +decide (disch := first | decide | omega) only [go_sem, *]; done)); (with_unfolding_all (simp +decide (disch := first | decide | omega) only [go_sem, *]; rfl)); (focus (simp +decide (disch := first | decide | omega) only [go_sem, *]; done)); (with_unfolding_all (simp +decide (disch := first | decide | omega) only [go_sem, *]; rfl))) | (apply opsT.moreX; with_unfolding_all rfl; (with_unfolding_all (simp +decide (disch := first | decide | omega) only [go_sem, *]; rfl))) | (apply opsT.fin; (with_unfolding_all (simp +decide (disch := first | decide | omega) only [go_sem, *]; rfl))) | (apply CallsP.eq (c19); (focus (simp +decide (disch := first | decide | omega) only [go_sem, *]; done))) | (apply CallsP.eq (c20); (focus (simp +decide (disch := first | decide | omega) only [go_sem, *]; done))) | (apply CallsP.eq (c23); (focus (simp +decide (disch := first | decide | omega) only [go_sem, *]; done))) | (apply WP.condT; (focus (simp +decide (disch := first | decide | omega) only [go_sem, *]; done))) | (apply WP.condF; (focus (simp +decide (disch := first | decide | omega) only [go_sem, *]; done))) | (apply fnPost_pure 0; (first | exact .inl rfl | exact .inr rfl); (simp +decide (disch := first | decide | omega) only [go_sem, *]; rfl); (simp +decide (disch := first | decide | omega) only [go_sem, *]; rfl)) | (apply opsT.guardB 3; with_unfolding_all rfl; (with_unfolding_all (simp +decide (disch := first | decide | omega) only [go_sem, *]; rfl)); (simp +decide (disch := first | decide | omega) only [go_sem, *]; rfl); all_goals (intro hb; (fail_if_success (exact absurd hb (by decide))); (first | rw [dlt_t] at hb | rw [dlt_f] at hb | rw [dle_t] at hb | rw [dle_f] at hb | rw [Bool.not_eq_true'] at hb | rw [Bool.not_eq_false'] at hb | skip))))
      all_goals try omega
      rfl

end Go.Proofs.Ytonhbeapffiibaa

