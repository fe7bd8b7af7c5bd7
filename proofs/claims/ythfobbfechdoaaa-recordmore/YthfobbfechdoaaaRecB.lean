/-
  Chapter 17: package record: Valid, marks, Step, Wins.
-/
import Derived.Test.YthfobbfechdoaaaRec
namespace Go.Proofs.Ythfobbfechdoaaa
open Go.HL

theorem perm_of : ∀ {l m : List Int}, l.Nodup → (∀ x ∈ l, x ∈ m) → m.length ≤ l.length → l.Perm m
  | [], m, _, _, hl => by
    obtain rfl : m = [] := List.eq_nil_of_length_eq_zero (by simpa using hl)
    exact .refl _
  | a :: l, m, hn, hs, hl => by
    obtain ⟨n1, n2⟩ := List.nodup_cons.1 hn
    have ha := hs a (by simp)
    have := perm_of (m := m.erase a) n2 (fun x hx => (List.mem_erase_of_ne (fun e => n1 (by rw [← e]; exact hx))).2 (hs x (by simp [hx]))) (by rw [List.length_erase_of_mem ha]; simp at hl; omega)
    exact (this.cons a).trans (List.perm_cons_erase ha).symm

theorem startL_length {n : Int} (h6 : n ≤ 6000) : (startL n).length = n.toNat := by simp [startL, h6]
theorem startL_mem {n x : Int} (h6 : n ≤ 6000) : x ∈ startL n ↔ 1 ≤ x ∧ x ≤ n := by
  simp only [startL, if_pos h6, List.mem_map, List.mem_range]
  constructor
  · rintro ⟨i, hi, rfl⟩; omega
  · intro h; exact ⟨(x - 1).toNat, by omega, by omega⟩
theorem startL_lt (n : Int) : (startL n).Pairwise fun a b => a < b := by
  unfold startL
  split
  · rw [List.pairwise_map]
    exact List.pairwise_lt_range.imp fun h => by omega
  · exact .nil
theorem startL_nodup (n : Int) : (startL n).Nodup := (startL_lt n).imp fun h => by omega

theorem sortL_perm (l : List Int) : (sortL l).Perm l := List.mergeSort_perm _ _
theorem sortL_sorted (l : List Int) : (sortL l).Pairwise fun a b => a ≤ b := by
  have := List.pairwise_mergeSort (le := fun x y : Int => decide (x ≤ y)) (fun a b c h1 h2 => by simp at *; omega) (fun a b => by simp; omega) l
  exact this.imp fun h => by simpa using h

theorem sortL_iff {r : List Int} {n : Int} (h0 : 0 ≤ n) (h6 : n ≤ 6000) (hr : (r.length : Int) = n) : sortL r = startL n ↔ ((∀ x ∈ r, 1 ≤ x ∧ x ≤ n) ∧ r.Nodup) := by
  constructor
  · intro h
    have hp := (sortL_perm r).symm
    rw [h] at hp
    exact ⟨fun x hx => (startL_mem h6).1 (hp.mem_iff.1 hx), hp.nodup_iff.2 (startL_nodup n)⟩
  · rintro ⟨h1, h2⟩
    have hp : r.Perm (startL n) := perm_of h2 (fun x hx => (startL_mem h6).2 (h1 x hx)) (by rw [startL_length h6]; omega)
    exact List.Perm.eq_of_pairwise (fun a b _ _ h1 h2 => Int.le_antisymm h1 h2) (sortL_sorted r) ((startL_lt n).imp fun h => by omega) ((sortL_perm r).trans hp)

theorem rec_Valid (full : Bool) (r : List Int) (n : Int) : CallsP pg 17 [.sl full (ints r), .int .i64 n] (fun v => v = .bool (valid r n)) := by
  refine CallsP.of_wpN [] 23 fn17 rfl rfl ?_
  refine WP.abs (fun s => s 0 = .sl full (ints r) ∧ s 1 = .int .i64 n) ⟨rfl, rfl⟩ ?_
  rintro s ⟨h0, h1⟩
  refine WP.slLen h0 fun hlen => ?_
  rw [ints_length, maxLen] at hlen
  by_cases c1 : n < 0
  · repeat' (with_reducible first | refine WP.seq ?_ | refine WP.skip ?_ | refine WP.label ?_ | refine WP.block ?_ | refine WP.exit ?_ | refine WP.ret ?_ | refine seqK_normal ?_ | refine seqK_exit ?_ | refine seqK_ret ?_ | refine loopK_exit ?_ | refine loopK_ret ?_ | refine blockK_normal ?_ | refine blockK_here ?_ | refine blockK_there (by decide) ?_ | refine blockK_ret ?_ | (apply WP.regionE; (with_unfolding_all (simp +decide (disch := first | decide | omega) only [go_sem, *]; rfl))) | (apply WP.regionV1 mixed; with_unfolding_all rfl; with_unfolding_all rfl; (with_unfolding_all (simp +decide (disch := first | decide | omega) only [go_sem, *]; rfl))))
    refine WP.condB (by simp +decide (disch := first | decide | omega) only [go_sem, *]; rfl) (fun hb => ?_) (fun hb => ?_)
    · repeat' (with_reducible first | refine WP.seq ?_ | refine WP.skip ?_ | refine WP.label ?_ | refine WP.block ?_ | refine WP.exit ?_ | refine WP.ret ?_ | refine seqK_normal ?_ | refine seqK_exit ?_ | refine seqK_ret ?_ | refine loopK_exit ?_ | refine loopK_ret ?_ | refine blockK_normal ?_ | refine blockK_here ?_ | refine blockK_there (by decide) ?_ | refine blockK_ret ?_ | (apply WP.regionE; (with_unfolding_all (simp +decide (disch := first | decide | omega) only [go_sem, *]; rfl))) | (apply WP.regionV1 mixed; with_unfolding_all rfl; with_unfolding_all rfl; (with_unfolding_all (simp +decide (disch := first | decide | omega) only [go_sem, *]; rfl))))
      refine fnPost_pure 0 (by first | exact .inl rfl | exact .inr rfl) (by simp +decide (disch := first | decide | omega) only [go_sem, *]; rfl) (by simp +decide (disch := first | decide | omega) only [go_sem, *]; rfl) ?_
      simp [valid]; omega
    · simp at hb
  by_cases c2 : 6000 < n
  · repeat' (with_reducible first | refine WP.seq ?_ | refine WP.skip ?_ | refine WP.label ?_ | refine WP.block ?_ | refine WP.exit ?_ | refine WP.ret ?_ | refine seqK_normal ?_ | refine seqK_exit ?_ | refine seqK_ret ?_ | refine loopK_exit ?_ | refine loopK_ret ?_ | refine blockK_normal ?_ | refine blockK_here ?_ | refine blockK_there (by decide) ?_ | refine blockK_ret ?_ | (apply WP.regionE; (with_unfolding_all (simp +decide (disch := first | decide | omega) only [go_sem, *]; rfl))) | (apply WP.regionV1 mixed; with_unfolding_all rfl; with_unfolding_all rfl; (with_unfolding_all (simp +decide (disch := first | decide | omega) only [go_sem, *]; rfl))))
    refine WP.condB (by simp +decide (disch := first | decide | omega) only [go_sem, *]; rfl) (fun hb => ?_) (fun hb => ?_)
    · repeat' (with_reducible first | refine WP.seq ?_ | refine WP.skip ?_ | refine WP.label ?_ | refine WP.block ?_ | refine WP.exit ?_ | refine WP.ret ?_ | refine seqK_normal ?_ | refine seqK_exit ?_ | refine seqK_ret ?_ | refine loopK_exit ?_ | refine loopK_ret ?_ | refine blockK_normal ?_ | refine blockK_here ?_ | refine blockK_there (by decide) ?_ | refine blockK_ret ?_ | (apply WP.regionE; (with_unfolding_all (simp +decide (disch := first | decide | omega) only [go_sem, *]; rfl))) | (apply WP.regionV1 mixed; with_unfolding_all rfl; with_unfolding_all rfl; (with_unfolding_all (simp +decide (disch := first | decide | omega) only [go_sem, *]; rfl))))
      refine fnPost_pure 0 (by first | exact .inl rfl | exact .inr rfl) (by simp +decide (disch := first | decide | omega) only [go_sem, *]; rfl) (by simp +decide (disch := first | decide | omega) only [go_sem, *]; rfl) ?_
      simp [valid]; omega
    · simp at hb
  by_cases c3 : (r.length : Int) = n
  · have hl6 : r.length ≤ 6000 := by omega
    repeat' (with_reducible first | refine WP.seq ?_ | refine WP.skip ?_ | refine WP.label ?_ | refine WP.block ?_ | refine WP.exit ?_ | refine WP.ret ?_ | refine seqK_normal ?_ | refine seqK_exit ?_ | refine seqK_ret ?_ | refine loopK_exit ?_ | refine loopK_ret ?_ | refine blockK_normal ?_ | refine blockK_here ?_ | refine blockK_there (by decide) ?_ | refine blockK_ret ?_ | (apply WP.regionE; (with_unfolding_all (simp +decide (disch := first | decide | omega) only [go_sem, *]; rfl))) | (apply WP.regionV1 mixed; with_unfolding_all rfl; with_unfolding_all rfl; (with_unfolding_all (simp +decide (disch := first | decide | omega) only [go_sem, *]; rfl))))
    refine WP.condB (by simp +decide (disch := first | decide | omega) only [go_sem, *]; rfl) (fun hb => ?_) (fun hb => ?_)
    · simp at hb
    repeat' (with_reducible first | refine WP.seq ?_ | refine WP.skip ?_ | refine WP.label ?_ | refine WP.block ?_ | refine WP.exit ?_ | refine WP.ret ?_ | refine seqK_normal ?_ | refine seqK_exit ?_ | refine seqK_ret ?_ | refine loopK_exit ?_ | refine loopK_ret ?_ | refine blockK_normal ?_ | refine blockK_here ?_ | refine blockK_there (by decide) ?_ | refine blockK_ret ?_ | (apply WP.regionE; (with_unfolding_all (simp +decide (disch := first | decide | omega) only [go_sem, *]; rfl))) | (apply WP.regionV1 mixed; with_unfolding_all rfl; with_unfolding_all rfl; (with_unfolding_all (simp +decide (disch := first | decide | omega) only [go_sem, *]; rfl))) | (apply WP.regionX; with_unfolding_all rfl; (with_unfolding_all (simp +decide (disch := first | decide | omega) only [go_sem, *]; rfl))) | (apply WP.regionVX mixed; with_unfolding_all rfl; with_unfolding_all rfl; with_unfolding_all rfl; (with_unfolding_all (simp +decide (disch := first | decide | omega) only [go_sem, *]; rfl))) | (apply opsT.skipG; (focus (simp +decide (disch := first | decide | omega) only [go_sem, *]; done))) | (apply opsT.call; (with_unfolding_all (simp +decide (disch := first | decide | omega) only [go_sem, *]; rfl)); (focus (simp +decide (disch := first | decide | omega) only [go_sem, *]; done)); (with_unfolding_all (simp +decide (disch := first | decide | omega) only [go_sem, *]; rfl))) | (apply opsT.callG; (focus (simp +decide (disch := first | decide | omega) only [go_sem, *]; done)); (with_unfolding_all (simp +decide (disch := first | decide | omega) only [go_sem, *]; rfl)); (focus (simp +decide (disch := first | decide | omega) only [go_sem, *]; done)); (with_unfolding_all (simp +decide (disch := first | decide | omega) only [go_sem, *]; rfl))) | (apply opsT.moreX; with_unfolding_all rfl; (with_unfolding_all (simp +decide (disch := first | decide | omega) only [go_sem, *]; rfl))) | (apply opsT.fin; (with_unfolding_all (simp +decide (disch := first | decide | omega) only [go_sem, *]; rfl))) | (apply opsV.skipG; (focus (simp +decide (disch := first | decide | omega) only [go_sem, *]; done))) | (apply opsV.call; (with_unfolding_all (simp +decide (disch := first | decide | omega) only [go_sem, *]; rfl)); (focus (simp +decide (disch := first | decide | omega) only [go_sem, *]; done)); (with_unfolding_all (simp +decide (disch := first | decide | omega) only [go_sem, *]; rfl)); exact (rec_Values ..); (focus (simp +decide (disch := first | decide | omega) only [go_sem, *]; done))) | (apply opsV.callG; (focus (simp +decide (disch := first | decide | omega) only [go_sem, *]; done)); (with_unfolding_all (simp +decide (disch := first | decide | omega) only [go_sem, *]; rfl)); (focus (simp +decide (disch := first | decide | omega) only [go_sem, *]; done)); (with_unfolding_all (simp +decide (disch := first | decide | omega) only [go_sem, *]; rfl)); exact (rec_Values ..); (focus (simp +decide (disch := first | decide | omega) only [go_sem, *]; done))) | (apply opsV.call; (with_unfolding_all (simp +decide (disch := first | decide | omega) only [go_sem, *]; rfl)); (focus (simp +decide (disch := first | decide | omega) only [go_sem, *]; done)); (with_unfolding_all (simp +decide (disch := first | decide | omega) only [go_sem, *]; rfl)); exact (rec_Sorted 36 [.ip [.sl full (ints r)]] r en36 (iter_Values full r) hl6); (focus (simp +decide (disch := first | decide | omega) only [go_sem, *]; done))) | (apply opsV.callG; (focus (simp +decide (disch := first | decide | omega) only [go_sem, *]; done)); (with_unfolding_all (simp +decide (disch := first | decide | omega) only [go_sem, *]; rfl)); (focus (simp +decide (disch := first | decide | omega) only [go_sem, *]; done)); (with_unfolding_all (simp +decide (disch := first | decide | omega) only [go_sem, *]; rfl)); exact (rec_Sorted 36 [.ip [.sl full (ints r)]] r en36 (iter_Values full r) hl6); (focus (simp +decide (disch := first | decide | omega) only [go_sem, *]; done))) | (apply opsV.call; (with_unfolding_all (simp +decide (disch := first | decide | omega) only [go_sem, *]; rfl)); (focus (simp +decide (disch := first | decide | omega) only [go_sem, *]; done)); (with_unfolding_all (simp +decide (disch := first | decide | omega) only [go_sem, *]; rfl)); exact (rec_Start ..); (focus (simp +decide (disch := first | decide | omega) only [go_sem, *]; done))) | (apply opsV.callG; (focus (simp +decide (disch := first | decide | omega) only [go_sem, *]; done)); (with_unfolding_all (simp +decide (disch := first | decide | omega) only [go_sem, *]; rfl)); (focus (simp +decide (disch := first | decide | omega) only [go_sem, *]; done)); (with_unfolding_all (simp +decide (disch := first | decide | omega) only [go_sem, *]; rfl)); exact (rec_Start ..); (focus (simp +decide (disch := first | decide | omega) only [go_sem, *]; done))) | (apply opsV.call; (with_unfolding_all (simp +decide (disch := first | decide | omega) only [go_sem, *]; rfl)); (focus (simp +decide (disch := first | decide | omega) only [go_sem, *]; done)); (with_unfolding_all (simp +decide (disch := first | decide | omega) only [go_sem, *]; rfl)); exact (rec_Equal ..); (focus (simp +decide (disch := first | decide | omega) only [go_sem, *]; done))) | (apply opsV.callG; (focus (simp +decide (disch := first | decide | omega) only [go_sem, *]; done)); (with_unfolding_all (simp +decide (disch := first | decide | omega) only [go_sem, *]; rfl)); (focus (simp +decide (disch := first | decide | omega) only [go_sem, *]; done)); (with_unfolding_all (simp +decide (disch := first | decide | omega) only [go_sem, *]; rfl)); exact (rec_Equal ..); (focus (simp +decide (disch := first | decide | omega) only [go_sem, *]; done))) | (apply opsV.moreX; with_unfolding_all rfl; with_unfolding_all rfl; (with_unfolding_all (simp +decide (disch := first | decide | omega) only [go_sem, *]; rfl))) | (apply opsV.fin; with_unfolding_all rfl; (with_unfolding_all (simp +decide (disch := first | decide | omega) only [go_sem, *]; rfl))) | (apply CallsP.eq (rec_Values ..); (focus (simp +decide (disch := first | decide | omega) only [go_sem, *]; done))) | (apply CallsP.eq (rec_Sorted 36 [.ip [.sl full (ints r)]] r en36 (iter_Values full r) hl6); (focus (simp +decide (disch := first | decide | omega) only [go_sem, *]; done))) | (apply CallsP.eq (rec_Start ..); (focus (simp +decide (disch := first | decide | omega) only [go_sem, *]; done))) | (apply CallsP.eq (rec_Equal ..); (focus (simp +decide (disch := first | decide | omega) only [go_sem, *]; done))))
    refine fnPost_pure 0 (by first | exact .inl rfl | exact .inr rfl) (by simp +decide (disch := first | decide | omega) only [go_sem, *]; rfl) (by simp +decide (disch := first | decide | omega) only [go_sem, *]; rfl) ?_
    have : decide (sortL r = startL n) = valid r n := by
      apply Bool.eq_iff_iff.2
      simp only [decide_eq_true_eq, valid]
      rw [sortL_iff (by omega) (by omega) c3]
      exact ⟨fun h => ⟨by omega, by omega, c3, h⟩, fun h => h.2.2.2⟩
    rw [this]
  · repeat' (with_reducible first | refine WP.seq ?_ | refine WP.skip ?_ | refine WP.label ?_ | refine WP.block ?_ | refine WP.exit ?_ | refine WP.ret ?_ | refine seqK_normal ?_ | refine seqK_exit ?_ | refine seqK_ret ?_ | refine loopK_exit ?_ | refine loopK_ret ?_ | refine blockK_normal ?_ | refine blockK_here ?_ | refine blockK_there (by decide) ?_ | refine blockK_ret ?_ | (apply WP.regionE; (with_unfolding_all (simp +decide (disch := first | decide | omega) only [go_sem, *]; rfl))) | (apply WP.regionV1 mixed; with_unfolding_all rfl; with_unfolding_all rfl; (with_unfolding_all (simp +decide (disch := first | decide | omega) only [go_sem, *]; rfl))))
    refine WP.condB (by simp +decide (disch := first | decide | omega) only [go_sem, *]; rfl) (fun hb => ?_) (fun hb => ?_)
    · repeat' (with_reducible first | refine WP.seq ?_ | refine WP.skip ?_ | refine WP.label ?_ | refine WP.block ?_ | refine WP.exit ?_ | refine WP.ret ?_ | refine seqK_normal ?_ | refine seqK_exit ?_ | refine seqK_ret ?_ | refine loopK_exit ?_ | refine loopK_ret ?_ | refine blockK_normal ?_ | refine blockK_here ?_ | refine blockK_there (by decide) ?_ | refine blockK_ret ?_ | (apply WP.regionE; (with_unfolding_all (simp +decide (disch := first | decide | omega) only [go_sem, *]; rfl))) | (apply WP.regionV1 mixed; with_unfolding_all rfl; with_unfolding_all rfl; (with_unfolding_all (simp +decide (disch := first | decide | omega) only [go_sem, *]; rfl))))
      refine fnPost_pure 0 (by first | exact .inl rfl | exact .inr rfl) (by simp +decide (disch := first | decide | omega) only [go_sem, *]; rfl) (by simp +decide (disch := first | decide | omega) only [go_sem, *]; rfl) ?_
      simp [valid, c3]
    · simp at hb

/-- The marks of an event, as a function. -/
def markM (g b : List Int) : HV → Option HV
  | .int _ n => if n ∈ b then some (.bool true) else if n ∈ g then some (.bool false) else none
  | _ => none

theorem markM_good {k : IntKind} (g : List Int) (x n : Int) : (if sameH (.int .i64 x) (.int k n) = true then some (.bool false) else markM g [] (.int k n)) = markM (g ++ [x]) [] (.int k n) := by
  simp only [sameH, markM, List.not_mem_nil, if_false, List.mem_append, List.mem_singleton, decide_eq_true_eq]
  by_cases h : x = n
  · simp [h]
  · have : ¬ n = x := fun e => h e.symm
    simp [h, this]

theorem markM_bad {k : IntKind} (g b : List Int) (x n : Int) : (if sameH (.int .i64 x) (.int k n) = true then some (.bool true) else markM g b (.int k n)) = markM g (b ++ [x]) (.int k n) := by
  simp only [sameH, markM, List.mem_append, List.mem_singleton, decide_eq_true_eq]
  by_cases h : x = n
  · simp [h]
  · have : ¬ n = x := fun e => h e.symm
    simp [h, this]

theorem rec_mark (e : Ev) (h0 : Hp) : CallsH pg 26 [.agg (evC e)] h0 (fun r h' => ∃ id, r = .mp id ∧ h0.length ≤ id ∧ MapAt h' id (.int .i64) (markM e.good e.bad) ∧ h0.length ≤ h'.length ∧ ∀ j, j < h0.length → h'[j]? = h0[j]?) := by
  refine CallsH.of_wpN [] 30 fn26 rfl rfl ?_
  refine WP.abs (fun s => s 0 = .agg (evC e)) rfl ?_
  rintro s g0
  repeat' (with_reducible first | refine WP.seq ?_ | refine WP.skip ?_ | refine WP.label ?_ | refine WP.block ?_ | refine WP.exit ?_ | refine WP.ret ?_ | refine seqK_normal ?_ | refine seqK_exit ?_ | refine seqK_ret ?_ | refine loopK_exit ?_ | refine loopK_ret ?_ | refine blockK_normal ?_ | refine blockK_here ?_ | refine blockK_there (by decide) ?_ | refine blockK_ret ?_ | (apply WP.regionE; (with_unfolding_all (simp +decide (disch := first | decide | omega) only [go_sem, *]; rfl))) | (apply WP.regionV1 mixed; with_unfolding_all rfl; with_unfolding_all rfl; (with_unfolding_all (simp +decide (disch := first | decide | omega) only [go_sem, *]; rfl))))
  refine WP.absH (fun s h => s 3 = .mp (h0.length + 1) ∧ s 1 = .ep h0.length 0 0 ∧ h[h0.length]? = some (.row 24 [evC e]) ∧ MapAt h (h0.length + 1) (.int .i64) (markM [] []) ∧ h0.length + 2 ≤ h.length ∧ ∀ j, j < h0.length → h[j]? = h0[j]?) ⟨?_, ?_, ?_, ?_, ?_, ?_⟩ ?_
  · simp +decide (disch := first | decide | omega) only [go_sem, *]
    simp
  · simp +decide (disch := first | decide | omega) only [go_sem, *]
  · simp
  · refine MapAt.congr (m := fun _ => none) ⟨[], 0, by simp, .nil _ _⟩ fun k hk => ?_
    obtain ⟨n, rfl⟩ := keyInt hk
    simp [markM]
  · simp
  · intro j hj
    rw [List.getElem?_append_left (by simp; omega), List.getElem?_append_left hj]
  clear g0 s
  rintro s h ⟨g3, g1, hrow, hmap, hlen, hfr⟩
  repeat' (with_reducible first | refine WP.seq ?_ | refine WP.skip ?_ | refine WP.label ?_ | refine WP.block ?_ | refine WP.exit ?_ | refine WP.ret ?_ | refine seqK_normal ?_ | refine seqK_exit ?_ | refine seqK_ret ?_ | refine loopK_exit ?_ | refine loopK_ret ?_ | refine blockK_normal ?_ | refine blockK_here ?_ | refine blockK_there (by decide) ?_ | refine blockK_ret ?_ | (apply WP.regionE; (with_unfolding_all (simp +decide (disch := first | decide | omega) only [go_sem, *]; rfl))) | (apply WP.regionV1 mixed; with_unfolding_all rfl; with_unfolding_all rfl; (with_unfolding_all (simp +decide (disch := first | decide | omega) only [go_sem, *]; rfl))))
  refine WP.loop (fun s h => s 3 = .mp (h0.length + 1) ∧ s 1 = .ep h0.length 0 0 ∧ s 10 = .sl e.f (ints e.good) ∧ s 11 = .int .i64 e.good.length ∧ h[h0.length]? = some (.row 24 [evC e]) ∧ h0.length + 2 ≤ h.length ∧ (∀ j, j < h0.length → h[j]? = h0[j]?) ∧ ∃ i : Nat, s 12 = .int .i64 i ∧ i ≤ e.good.length ∧ MapAt h (h0.length + 1) (.int .i64) (markM (e.good.take i) [])) (fun s _ => e.good.length - (s 12).toInt.toNat) ⟨?_, ?_, ?_, ?_, ?_, ?_, ?_, 0, ?_, ?_, ?_⟩ ?_
  · simp +decide (disch := first | decide | omega) only [go_sem, *]
  · simp +decide (disch := first | decide | omega) only [go_sem, *]
  · simp +decide (disch := first | decide | omega) only [go_sem, *]
  · simp +decide (disch := first | decide | omega) only [go_sem, *]
  · exact hrow
  · exact hlen
  · exact hfr
  · simp +decide (disch := first | decide | omega) only [go_sem, *]; rfl
  · omega
  · exact hmap
  clear g3 g1 hrow hmap hlen hfr s h
  rintro s h ⟨g3, g1, g10, g11, hrow, hlen, hfr, i, g12, hi, hmap⟩
  refine WP.slLen g10 fun hlen10 => ?_
  rw [ints_length, maxLen] at hlen10
  repeat' (with_reducible first | refine WP.seq ?_ | refine WP.skip ?_ | refine WP.label ?_ | refine WP.block ?_ | refine WP.exit ?_ | refine WP.ret ?_ | refine seqK_normal ?_ | refine seqK_exit ?_ | refine seqK_ret ?_ | refine loopK_exit ?_ | refine loopK_ret ?_ | refine blockK_normal ?_ | refine blockK_here ?_ | refine blockK_there (by decide) ?_ | refine blockK_ret ?_ | (apply WP.regionE; (with_unfolding_all (simp +decide (disch := first | decide | omega) only [go_sem, *]; rfl))) | (apply WP.regionV1 mixed; with_unfolding_all rfl; with_unfolding_all rfl; (with_unfolding_all (simp +decide (disch := first | decide | omega) only [go_sem, *]; rfl))))
  refine WP.condB (by simp +decide (disch := first | decide | omega) only [go_sem, *]; rfl) (fun hb => ?_) (fun hb => ?_)
  · have hlt : i < e.good.length := by simpa using hb
    have hg := ints_get hlt
    obtain ⟨o, hu, hm⟩ := hmap.put (P := pg.P) (k := .int .i64 e.good[i]) (v := .bool false) ma45 rfl
    have hm' := (hm (h.set (h0.length + 1) o) (List.getElem?_set_self (by omega))).congr (m' := markM (e.good.take (i + 1)) []) fun k hk => by
      obtain ⟨n, rfl⟩ := keyInt hk
      rw [List.take_succ_eq_append_getElem hlt]
      exact markM_good _ _ _
    clear hm hmap
    repeat' (with_reducible first | refine WP.seq ?_ | refine WP.skip ?_ | refine WP.label ?_ | refine WP.block ?_ | refine WP.exit ?_ | refine WP.ret ?_ | refine seqK_normal ?_ | refine seqK_exit ?_ | refine seqK_ret ?_ | refine loopK_exit ?_ | refine loopK_ret ?_ | refine blockK_normal ?_ | refine blockK_here ?_ | refine blockK_there (by decide) ?_ | refine blockK_ret ?_ | (apply WP.regionE; (with_unfolding_all (simp +decide (disch := first | decide | omega) only [go_sem, *]; rfl))) | (apply WP.regionV1 mixed; with_unfolding_all rfl; with_unfolding_all rfl; (with_unfolding_all (simp +decide (disch := first | decide | omega) only [go_sem, *]; rfl))))
    refine loopK_normal ⟨?_, ?_, ?_, ?_, ?_, ?_, ?_, i + 1, ?_, ?_, ?_⟩ ?_
    · simp +decide (disch := first | decide | omega) only [go_sem, *]
    · simp +decide (disch := first | decide | omega) only [go_sem, *]
    · simp +decide (disch := first | decide | omega) only [go_sem, *]
    · simp +decide (disch := first | decide | omega) only [go_sem, *]
    · show (h.set (h0.length + 1) o)[h0.length]? = _
      rw [List.getElem?_set_ne (by omega)]; exact hrow
    · show _ ≤ (h.set (h0.length + 1) o).length
      rw [List.length_set]; exact hlen
    · intro j hj
      show (h.set (h0.length + 1) o)[j]? = _
      rw [List.getElem?_set_ne (by omega)]; exact hfr j hj
    · simp +decide (disch := first | decide | omega) only [go_sem, *]; rfl
    · omega
    · exact hm'
    · simp +decide (disch := first | decide | omega) only [go_sem, *]; omega
  have hge : e.good.length ≤ i := by simpa using hb
  rw [List.take_of_length_le hge] at hmap
  repeat' (with_reducible first | refine WP.seq ?_ | refine WP.skip ?_ | refine WP.label ?_ | refine WP.block ?_ | refine WP.exit ?_ | refine WP.ret ?_ | refine seqK_normal ?_ | refine seqK_exit ?_ | refine seqK_ret ?_ | refine loopK_exit ?_ | refine loopK_ret ?_ | refine blockK_normal ?_ | refine blockK_here ?_ | refine blockK_there (by decide) ?_ | refine blockK_ret ?_ | (apply WP.regionE; (with_unfolding_all (simp +decide (disch := first | decide | omega) only [go_sem, *]; rfl))) | (apply WP.regionV1 mixed; with_unfolding_all rfl; with_unfolding_all rfl; (with_unfolding_all (simp +decide (disch := first | decide | omega) only [go_sem, *]; rfl))))
  refine WP.loop (fun s h => s 3 = .mp (h0.length + 1) ∧ s 1 = .ep h0.length 0 0 ∧ s 20 = .sl e.g (ints e.bad) ∧ s 21 = .int .i64 e.bad.length ∧ h[h0.length]? = some (.row 24 [evC e]) ∧ h0.length + 2 ≤ h.length ∧ (∀ j, j < h0.length → h[j]? = h0[j]?) ∧ ∃ i : Nat, s 22 = .int .i64 i ∧ i ≤ e.bad.length ∧ MapAt h (h0.length + 1) (.int .i64) (markM e.good (e.bad.take i))) (fun s _ => e.bad.length - (s 22).toInt.toNat) ⟨?_, ?_, ?_, ?_, ?_, ?_, ?_, 0, ?_, ?_, ?_⟩ ?_
  · simp +decide (disch := first | decide | omega) only [go_sem, *]
  · simp +decide (disch := first | decide | omega) only [go_sem, *]
  · simp +decide (disch := first | decide | omega) only [go_sem, *]
  · simp +decide (disch := first | decide | omega) only [go_sem, *]
  · exact hrow
  · exact hlen
  · exact hfr
  · simp +decide (disch := first | decide | omega) only [go_sem, *]; rfl
  · omega
  · exact hmap
  clear g3 g1 hrow hmap hlen hfr g10 g11 g12 hb hlen10 hge s h
  rintro s h ⟨g3, g1, g20, g21, hrow, hlen, hfr, i, g22, hi, hmap⟩
  refine WP.slLen g20 fun hlen10 => ?_
  rw [ints_length, maxLen] at hlen10
  repeat' (with_reducible first | refine WP.seq ?_ | refine WP.skip ?_ | refine WP.label ?_ | refine WP.block ?_ | refine WP.exit ?_ | refine WP.ret ?_ | refine seqK_normal ?_ | refine seqK_exit ?_ | refine seqK_ret ?_ | refine loopK_exit ?_ | refine loopK_ret ?_ | refine blockK_normal ?_ | refine blockK_here ?_ | refine blockK_there (by decide) ?_ | refine blockK_ret ?_ | (apply WP.regionE; (with_unfolding_all (simp +decide (disch := first | decide | omega) only [go_sem, *]; rfl))) | (apply WP.regionV1 mixed; with_unfolding_all rfl; with_unfolding_all rfl; (with_unfolding_all (simp +decide (disch := first | decide | omega) only [go_sem, *]; rfl))))
  refine WP.condB (by simp +decide (disch := first | decide | omega) only [go_sem, *]; rfl) (fun hb => ?_) (fun hb => ?_)
  · have hlt : i < e.bad.length := by simpa using hb
    have hg := ints_get hlt
    obtain ⟨o, hu, hm⟩ := hmap.put (P := pg.P) (k := .int .i64 e.bad[i]) (v := .bool true) ma45 rfl
    have hm' := (hm (h.set (h0.length + 1) o) (List.getElem?_set_self (by omega))).congr (m' := markM e.good (e.bad.take (i + 1))) fun k hk => by
      obtain ⟨n, rfl⟩ := keyInt hk
      rw [List.take_succ_eq_append_getElem hlt]
      exact markM_bad _ _ _ _
    clear hm hmap
    repeat' (with_reducible first | refine WP.seq ?_ | refine WP.skip ?_ | refine WP.label ?_ | refine WP.block ?_ | refine WP.exit ?_ | refine WP.ret ?_ | refine seqK_normal ?_ | refine seqK_exit ?_ | refine seqK_ret ?_ | refine loopK_exit ?_ | refine loopK_ret ?_ | refine blockK_normal ?_ | refine blockK_here ?_ | refine blockK_there (by decide) ?_ | refine blockK_ret ?_ | (apply WP.regionE; (with_unfolding_all (simp +decide (disch := first | decide | omega) only [go_sem, *]; rfl))) | (apply WP.regionV1 mixed; with_unfolding_all rfl; with_unfolding_all rfl; (with_unfolding_all (simp +decide (disch := first | decide | omega) only [go_sem, *]; rfl))))
    refine loopK_normal ⟨?_, ?_, ?_, ?_, ?_, ?_, ?_, i + 1, ?_, ?_, ?_⟩ ?_
    · simp +decide (disch := first | decide | omega) only [go_sem, *]
    · simp +decide (disch := first | decide | omega) only [go_sem, *]
    · simp +decide (disch := first | decide | omega) only [go_sem, *]
    · simp +decide (disch := first | decide | omega) only [go_sem, *]
    · show (h.set (h0.length + 1) o)[h0.length]? = _
      rw [List.getElem?_set_ne (by omega)]; exact hrow
    · show _ ≤ (h.set (h0.length + 1) o).length
      rw [List.length_set]; exact hlen
    · intro j hj
      show (h.set (h0.length + 1) o)[j]? = _
      rw [List.getElem?_set_ne (by omega)]; exact hfr j hj
    · simp +decide (disch := first | decide | omega) only [go_sem, *]; rfl
    · omega
    · exact hm'
    · simp +decide (disch := first | decide | omega) only [go_sem, *]; omega
  have hge : e.bad.length ≤ i := by simpa using hb
  rw [List.take_of_length_le hge] at hmap
  repeat' (with_reducible first | refine WP.seq ?_ | refine WP.skip ?_ | refine WP.label ?_ | refine WP.block ?_ | refine WP.exit ?_ | refine WP.ret ?_ | refine seqK_normal ?_ | refine seqK_exit ?_ | refine seqK_ret ?_ | refine loopK_exit ?_ | refine loopK_ret ?_ | refine blockK_normal ?_ | refine blockK_here ?_ | refine blockK_there (by decide) ?_ | refine blockK_ret ?_ | (apply WP.regionE; (with_unfolding_all (simp +decide (disch := first | decide | omega) only [go_sem, *]; rfl))) | (apply WP.regionV1 mixed; with_unfolding_all rfl; with_unfolding_all rfl; (with_unfolding_all (simp +decide (disch := first | decide | omega) only [go_sem, *]; rfl))))
  refine fnPost_ret (by simp +decide (disch := first | decide | omega) only [go_sem, *]; rfl) ?_
  exact ⟨_, by simp +decide (disch := first | decide | omega) only [go_sem, *], by omega, hmap, by omega, hfr⟩

end Go.Proofs.Ythfobbfechdoaaa
