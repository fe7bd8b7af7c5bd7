/-
  Chapter 17: the reference's Step and Wins.
-/
import Derived.Test.YthfobbfechdoaaaRef
namespace Go.Proofs.Ythfobbfechdoaaa
open Go.HL

/-- Appending to a list of numbers. -/
theorem owns_int {h : Hp} {x y : HV} {es ys : List Int} {L : List (HV × TypeId × List (List HV))} (hL : OwnsL h L) (i : Nat) (hi : L[i]? = some (x, 3, ints es)) (hy : elemsH h y = some (ints ys)) (hlen : es.length + ys.length ≤ 17592186044416) :
    ∃ r, appendH pg.P h h.length 22 x y = some r ∧ OwnsL (setAll (h ++ r.ns) r.ws) (L.set i (r.x, 3, ints (es ++ ys))) := by
  obtain ⟨r, h1, h2⟩ := hL.append (P := pg.P) (T := 22) (y := y) i hi el22 sz3 ze3 by3 (by decide) rfl rfl hy (ints_ok ys) (by simp only [ints_length]; omega)
  exact ⟨r, h1, by rw [← ints_append]; exact h2⟩

def prio (e : Ev) : List Int → Int
  | [] => 1
  | x :: r => if x ∈ e.bad then 1 else if x ∈ e.good then 2 else prio e r + 2

def hit (e : Ev) (x : Int) : Bool := decide (x ∈ e.bad ∨ x ∈ e.good)

theorem prio_append (e : Ev) (a b : List Int) : prio e (a ++ b) = if a.any (hit e) then prio e a else prio e b + 2 * a.length := by
  induction a with
  | nil => simp
  | cons x r ih =>
    simp only [List.cons_append, prio, ih, List.any_cons, hit]
    by_cases h1 : x ∈ e.bad
    · simp [h1]
    · by_cases h2 : x ∈ e.good
      · simp [h1, h2]
      · simp only [h1, h2, if_false, or_self, decide_false, Bool.false_or, List.length_cons]
        show (if r.any (hit e) = true then prio e r else prio e b + 2 * r.length) + 2 = if r.any (hit e) = true then prio e r + 2 else _
        split <;> omega

theorem prio_le (e : Ev) (a : List Int) (h : a.any (hit e) = true) : prio e a ≤ 2 * a.length := by
  induction a with
  | nil => simp at h
  | cons x r ih =>
    simp only [prio, List.length_cons]
    split
    · omega
    · split
      · omega
      · rename_i h1 h2
        have hx : hit e x = false := by simp [hit, h1, h2]
        rw [List.any_cons, hx, Bool.false_or] at h
        have := ih h
        omega

theorem prio_ge (e : Ev) (a : List Int) : 1 ≤ prio e a := by
  induction a with
  | nil => simp [prio]
  | cons x r ih => simp only [prio]; split <;> first | omega | (split <;> omega)

def pri (e : Ev) (r : List Int) (n : Nat) : Int := if r.any (hit e) then prio e r else 2 * n + 1

theorem pri_end (e : Ev) (r : List Int) : pri e r r.length = prio e r := by
  unfold pri
  split
  · rfl
  · rename_i h
    have := prio_append e r []
    rw [if_neg h] at this
    simp [prio] at this
    omega

theorem pri_bad (e : Ev) (r : List Int) (n : Nat) (x : Int) (hn : r.length < n) (h : x ∈ e.bad) : pri e (r ++ [x]) n = min (pri e r n) (2 * r.length + 1) := by
  unfold pri
  rw [prio_append, List.any_append]
  by_cases ha : r.any (hit e) = true
  · have := prio_le e r ha
    simp only [ha, Bool.true_or, if_true]
    omega
  · have hx : hit e x = true := by simp [hit, h]
    simp only [ha, Bool.false_or, List.any_cons, hx, Bool.true_or, if_true, Bool.false_eq_true, if_false, prio, h]
    omega

theorem pri_good (e : Ev) (r : List Int) (n : Nat) (x : Int) (hn : r.length < n) (h : ¬ x ∈ e.bad) (h2 : x ∈ e.good) : pri e (r ++ [x]) n = min (pri e r n) (2 * r.length + 2) := by
  unfold pri
  rw [prio_append, List.any_append]
  by_cases ha : r.any (hit e) = true
  · have := prio_le e r ha
    simp only [ha, Bool.true_or, if_true]
    omega
  · have hx : hit e x = true := by simp [hit, h2]
    simp only [ha, Bool.false_or, List.any_cons, hx, Bool.true_or, if_true, Bool.false_eq_true, if_false, prio, h, h2]
    omega

theorem pri_none (e : Ev) (r : List Int) (n : Nat) (x : Int) (h : ¬ x ∈ e.bad) (h2 : ¬ x ∈ e.good) : pri e (r ++ [x]) n = pri e r n := by
  unfold pri
  rw [prio_append, List.any_append]
  have hx : hit e x = false := by simp [hit, h, h2]
  by_cases ha : r.any (hit e) = true
  · simp [ha]
  · simp [ha, hx]

def front (e : Ev) (r : List Int) : List Int := r.filter fun x => !e.bad.contains x
def back (e : Ev) (r : List Int) : List Int := r.filter fun x => e.bad.contains x

theorem front_bad {e : Ev} {l : List Int} {x : Int} (h : x ∈ e.bad) : front e (l ++ [x]) = front e l := by simp [front, h]
theorem front_not {e : Ev} {l : List Int} {x : Int} (h : ¬ x ∈ e.bad) : front e (l ++ [x]) = front e l ++ [x] := by simp [front, h]
theorem back_bad {e : Ev} {l : List Int} {x : Int} (h : x ∈ e.bad) : back e (l ++ [x]) = back e l ++ [x] := by simp [back, h]
theorem back_not {e : Ev} {l : List Int} {x : Int} (h : ¬ x ∈ e.bad) : back e (l ++ [x]) = back e l := by simp [back, h]

def stepF (r : List Int) (e : Ev) : List Int × Int := if valid r r.length then (front e r ++ back e r, prio e r) else ([], 0)

theorem pri_bounds (e : Ev) (r : List Int) (n : Nat) (h : r.length ≤ n) : 1 ≤ pri e r n ∧ pri e r n ≤ 2 * n + 1 := by
  unfold pri
  split
  · rename_i hh
    have := prio_le e r hh
    have := prio_ge e r
    omega
  · omega

theorem ref_Step (full : Bool) (r : List Int) (e : Ev) : CallsP pg 13 [.sl full (ints r), .agg (evC e)] (fun v => v = .tup [.sl false (ints (stepF r e).1), .int .i64 (stepF r e).2]) := by
  refine CallsP.of_wpW [] 69 fn13 rfl rfl ?_
  refine WP.abs (fun s => s 0 = .sl full (ints r) ∧ s 1 = .agg (evC e)) ⟨rfl, rfl⟩ ?_
  rintro s ⟨h0, h1⟩
  refine WP.slLen h0 fun hlen => ?_
  rw [ints_length, maxLen] at hlen
  cases hv : valid r r.length with
  | false =>
    repeat' (with_reducible first | refine WP.seq ?_ | refine WP.skip ?_ | refine WP.label ?_ | refine WP.block ?_ | refine WP.exit ?_ | refine WP.ret ?_ | refine seqK_normal ?_ | refine seqK_exit ?_ | refine seqK_ret ?_ | refine loopK_exit ?_ | refine loopK_ret ?_ | refine blockK_normal ?_ | refine blockK_here ?_ | refine blockK_there (by decide) ?_ | refine blockK_ret ?_ | (apply WP.regionE; (with_unfolding_all (simp +decide (disch := first | decide | omega) only [go_sem, *]; rfl))) | (apply WP.regionV1 mixed; with_unfolding_all rfl; with_unfolding_all rfl; (with_unfolding_all (simp +decide (disch := first | decide | omega) only [go_sem, *]; rfl))) | (apply WP.regionX; with_unfolding_all rfl; (with_unfolding_all (simp +decide (disch := first | decide | omega) only [go_sem, *]; rfl))) | (apply WP.regionVX mixed; with_unfolding_all rfl; with_unfolding_all rfl; with_unfolding_all rfl; (with_unfolding_all (simp +decide (disch := first | decide | omega) only [go_sem, *]; rfl))) | (apply opsT.skipG; (focus (simp +decide (disch := first | decide | omega) only [go_sem, *]; done))) | (apply opsT.call; (with_unfolding_all (simp +decide (disch := first | decide | omega) only [go_sem, *]; rfl)); (focus (simp +decide (disch := first | decide | omega) only [go_sem, *]; done)); (with_unfolding_all (simp +decide (disch := first | decide | omega) only [go_sem, *]; rfl))) | (apply opsT.callG; (focus (simp +decide (disch := first | decide | omega) only [go_sem, *]; done)); (with_unfolding_all (simp +decide (disch := first | decide | omega) only [go_sem, *]; rfl)); (focus (simp +decide (disch := first | decide | omega) only [go_sem, *]; done)); (with_unfolding_all (simp +decide (disch := first | decide | omega) only [go_sem, *]; rfl))) | (apply opsT.moreX; with_unfolding_all rfl; (with_unfolding_all (simp +decide (disch := first | decide | omega) only [go_sem, *]; rfl))) | (apply opsT.fin; (with_unfolding_all (simp +decide (disch := first | decide | omega) only [go_sem, *]; rfl))) | (apply opsV.skipG; (focus (simp +decide (disch := first | decide | omega) only [go_sem, *]; done))) | (apply opsV.call; (with_unfolding_all (simp +decide (disch := first | decide | omega) only [go_sem, *]; rfl)); (focus (simp +decide (disch := first | decide | omega) only [go_sem, *]; done)); (with_unfolding_all (simp +decide (disch := first | decide | omega) only [go_sem, *]; rfl)); exact (ref_Valid ..); (focus (simp +decide (disch := first | decide | omega) only [go_sem, *]; done))) | (apply opsV.callG; (focus (simp +decide (disch := first | decide | omega) only [go_sem, *]; done)); (with_unfolding_all (simp +decide (disch := first | decide | omega) only [go_sem, *]; rfl)); (focus (simp +decide (disch := first | decide | omega) only [go_sem, *]; done)); (with_unfolding_all (simp +decide (disch := first | decide | omega) only [go_sem, *]; rfl)); exact (ref_Valid ..); (focus (simp +decide (disch := first | decide | omega) only [go_sem, *]; done))) | (apply opsV.moreX; with_unfolding_all rfl; with_unfolding_all rfl; (with_unfolding_all (simp +decide (disch := first | decide | omega) only [go_sem, *]; rfl))) | (apply opsV.fin; with_unfolding_all rfl; (with_unfolding_all (simp +decide (disch := first | decide | omega) only [go_sem, *]; rfl))) | (apply CallsP.eq (ref_Valid ..); (focus (simp +decide (disch := first | decide | omega) only [go_sem, *]; done))))
    refine WP.condB (by simp +decide (disch := first | decide | omega) only [go_sem, *]; rfl) (fun hb => ?_) (fun hb => ?_)
    · repeat' (with_reducible first | refine WP.seq ?_ | refine WP.skip ?_ | refine WP.label ?_ | refine WP.block ?_ | refine WP.exit ?_ | refine WP.ret ?_ | refine seqK_normal ?_ | refine seqK_exit ?_ | refine seqK_ret ?_ | refine loopK_exit ?_ | refine loopK_ret ?_ | refine blockK_normal ?_ | refine blockK_here ?_ | refine blockK_there (by decide) ?_ | refine blockK_ret ?_ | (apply WP.regionE; (with_unfolding_all (simp +decide (disch := first | decide | omega) only [go_sem, *]; rfl))) | (apply WP.regionV1 mixed; with_unfolding_all rfl; with_unfolding_all rfl; (with_unfolding_all (simp +decide (disch := first | decide | omega) only [go_sem, *]; rfl))))
      refine fnPost_pure 0 (by first | exact .inl rfl | exact .inr rfl) (by simp +decide (disch := first | decide | omega) only [go_sem, *]; rfl) (by simp +decide (disch := first | decide | omega) only [go_sem, *]; rfl) ?_
      simp [stepF, hv, wkV, wk1, ints]
    · simp at hb
  | true =>
    have hr6 : r.length ≤ 6000 := by simp only [valid, decide_eq_true_eq] at hv; omega
    repeat' (with_reducible first | refine WP.seq ?_ | refine WP.skip ?_ | refine WP.label ?_ | refine WP.block ?_ | refine WP.exit ?_ | refine WP.ret ?_ | refine seqK_normal ?_ | refine seqK_exit ?_ | refine seqK_ret ?_ | refine loopK_exit ?_ | refine loopK_ret ?_ | refine blockK_normal ?_ | refine blockK_here ?_ | refine blockK_there (by decide) ?_ | refine blockK_ret ?_ | (apply WP.regionE; (with_unfolding_all (simp +decide (disch := first | decide | omega) only [go_sem, *]; rfl))) | (apply WP.regionV1 mixed; with_unfolding_all rfl; with_unfolding_all rfl; (with_unfolding_all (simp +decide (disch := first | decide | omega) only [go_sem, *]; rfl))) | (apply WP.regionX; with_unfolding_all rfl; (with_unfolding_all (simp +decide (disch := first | decide | omega) only [go_sem, *]; rfl))) | (apply WP.regionVX mixed; with_unfolding_all rfl; with_unfolding_all rfl; with_unfolding_all rfl; (with_unfolding_all (simp +decide (disch := first | decide | omega) only [go_sem, *]; rfl))) | (apply opsT.skipG; (focus (simp +decide (disch := first | decide | omega) only [go_sem, *]; done))) | (apply opsT.call; (with_unfolding_all (simp +decide (disch := first | decide | omega) only [go_sem, *]; rfl)); (focus (simp +decide (disch := first | decide | omega) only [go_sem, *]; done)); (with_unfolding_all (simp +decide (disch := first | decide | omega) only [go_sem, *]; rfl))) | (apply opsT.callG; (focus (simp +decide (disch := first | decide | omega) only [go_sem, *]; done)); (with_unfolding_all (simp +decide (disch := first | decide | omega) only [go_sem, *]; rfl)); (focus (simp +decide (disch := first | decide | omega) only [go_sem, *]; done)); (with_unfolding_all (simp +decide (disch := first | decide | omega) only [go_sem, *]; rfl))) | (apply opsT.moreX; with_unfolding_all rfl; (with_unfolding_all (simp +decide (disch := first | decide | omega) only [go_sem, *]; rfl))) | (apply opsT.fin; (with_unfolding_all (simp +decide (disch := first | decide | omega) only [go_sem, *]; rfl))) | (apply opsV.skipG; (focus (simp +decide (disch := first | decide | omega) only [go_sem, *]; done))) | (apply opsV.call; (with_unfolding_all (simp +decide (disch := first | decide | omega) only [go_sem, *]; rfl)); (focus (simp +decide (disch := first | decide | omega) only [go_sem, *]; done)); (with_unfolding_all (simp +decide (disch := first | decide | omega) only [go_sem, *]; rfl)); exact (ref_Valid ..); (focus (simp +decide (disch := first | decide | omega) only [go_sem, *]; done))) | (apply opsV.callG; (focus (simp +decide (disch := first | decide | omega) only [go_sem, *]; done)); (with_unfolding_all (simp +decide (disch := first | decide | omega) only [go_sem, *]; rfl)); (focus (simp +decide (disch := first | decide | omega) only [go_sem, *]; done)); (with_unfolding_all (simp +decide (disch := first | decide | omega) only [go_sem, *]; rfl)); exact (ref_Valid ..); (focus (simp +decide (disch := first | decide | omega) only [go_sem, *]; done))) | (apply opsV.moreX; with_unfolding_all rfl; with_unfolding_all rfl; (with_unfolding_all (simp +decide (disch := first | decide | omega) only [go_sem, *]; rfl))) | (apply opsV.fin; with_unfolding_all rfl; (with_unfolding_all (simp +decide (disch := first | decide | omega) only [go_sem, *]; rfl))) | (apply CallsP.eq (ref_Valid ..); (focus (simp +decide (disch := first | decide | omega) only [go_sem, *]; done))))
    refine WP.condB (by simp +decide (disch := first | decide | omega) only [go_sem, *]; rfl) (fun hb => ?_) (fun hb => ?_)
    · simp at hb
    repeat' (with_reducible first | refine WP.seq ?_ | refine WP.skip ?_ | refine WP.label ?_ | refine WP.block ?_ | refine WP.exit ?_ | refine WP.ret ?_ | refine seqK_normal ?_ | refine seqK_exit ?_ | refine seqK_ret ?_ | refine loopK_exit ?_ | refine loopK_ret ?_ | refine blockK_normal ?_ | refine blockK_here ?_ | refine blockK_there (by decide) ?_ | refine blockK_ret ?_ | (apply WP.regionE; (with_unfolding_all (simp +decide (disch := first | decide | omega) only [go_sem, *]; rfl))) | (apply WP.regionV1 mixed; with_unfolding_all rfl; with_unfolding_all rfl; (with_unfolding_all (simp +decide (disch := first | decide | omega) only [go_sem, *]; rfl))))
    refine WP.loop (fun s h => s 0 = .sl full (ints r) ∧ s 3 = .ep 0 0 0 ∧ ∃ i : Nat, s 10 = .int .i64 i ∧ i ≤ r.length ∧ s 7 = .int .i64 (pri e (r.take i) r.length) ∧ OwnsL h [(.ow 0 0 1, 24, [evC e]), (s 8, 3, ints (front e (r.take i))), (s 9, 3, ints (back e (r.take i)))]) (fun s _ => r.length - (s 10).toInt.toNat) ⟨?_, ?_, 0, ?_, ?_, ?_, ?_⟩ ?_
    · simp +decide (disch := first | decide | omega) only [go_sem, *]
    · simp +decide (disch := first | decide | omega) only [go_sem, *]
    · simp +decide (disch := first | decide | omega) only [go_sem, *]; rfl
    · omega
    · simp +decide (disch := first | decide | omega) only [go_sem, *]
      simp [pri]
    · simp +decide (disch := first | decide | omega) only [go_sem, *]
      exact ⟨by simp [front, back, ints, OwnAt], by simp⟩
    clear h0 h1 s hb
    rintro s h ⟨h0, h3, i, h10, hi, h7, hL⟩
    have hrow : h[0]? = some (.row 24 [evC e]) := hL.row 0 rfl
    have hpb := pri_bounds e (r.take i) r.length (by simp; omega)
    have hlf : (front e (r.take i)).length ≤ i := Nat.le_trans (List.length_filter_le _ _) (by simp; omega)
    have hlb : (back e (r.take i)).length ≤ i := Nat.le_trans (List.length_filter_le _ _) (by simp; omega)
    repeat' (with_reducible first | refine WP.seq ?_ | refine WP.skip ?_ | refine WP.label ?_ | refine WP.block ?_ | refine WP.exit ?_ | refine WP.ret ?_ | refine seqK_normal ?_ | refine seqK_exit ?_ | refine seqK_ret ?_ | refine loopK_exit ?_ | refine loopK_ret ?_ | refine blockK_normal ?_ | refine blockK_here ?_ | refine blockK_there (by decide) ?_ | refine blockK_ret ?_ | (apply WP.regionE; (with_unfolding_all (simp +decide (disch := first | decide | omega) only [go_sem, *]; rfl))) | (apply WP.regionV1 mixed; with_unfolding_all rfl; with_unfolding_all rfl; (with_unfolding_all (simp +decide (disch := first | decide | omega) only [go_sem, *]; rfl))))
    refine WP.condB (by simp +decide (disch := first | decide | omega) only [go_sem, *]; rfl) (fun hb => ?_) (fun hb => ?_)
    · have hlt : i < r.length := by simpa using hb
      have hg := ints_get hlt
      have ht := List.take_succ_eq_append_getElem hlt
      by_cases hbad : r[i] ∈ e.bad
      · have hbc : e.bad.contains r[i] = true := by simp [hbad]
        obtain ⟨q, hq, hL1⟩ := owns_int hL 2 rfl (y := .sl true [[.int .i64 r[i]]]) (ys := [r[i]]) rfl (by simp; omega)
        have hp := pri_bad e (r.take i) r.length r[i] (by simp; omega) hbad
        rw [← ht, List.length_take, Nat.min_eq_left hi] at hp
        have hfr : front e (r.take (i + 1)) = front e (r.take i) := by rw [ht]; exact front_bad hbad
        have hba : back e (r.take (i + 1)) = back e (r.take i) ++ [r[i]] := by rw [ht]; exact back_bad hbad
        clear ht
        repeat' (with_reducible first | refine WP.seq ?_ | refine WP.skip ?_ | refine WP.label ?_ | refine WP.block ?_ | refine WP.exit ?_ | refine WP.ret ?_ | refine seqK_normal ?_ | refine seqK_exit ?_ | refine seqK_ret ?_ | refine loopK_exit ?_ | refine loopK_ret ?_ | refine blockK_normal ?_ | refine blockK_here ?_ | refine blockK_there (by decide) ?_ | refine blockK_ret ?_ | (apply WP.regionE; (with_unfolding_all (simp +decide (disch := first | decide | omega) only [go_sem, *]; rfl))) | (apply WP.regionV1 mixed; with_unfolding_all rfl; with_unfolding_all rfl; (with_unfolding_all (simp +decide (disch := first | decide | omega) only [go_sem, *]; rfl))) | (apply WP.regionX; with_unfolding_all rfl; (with_unfolding_all (simp +decide (disch := first | decide | omega) only [go_sem, *]; rfl))) | (apply WP.regionVX mixed; with_unfolding_all rfl; with_unfolding_all rfl; with_unfolding_all rfl; (with_unfolding_all (simp +decide (disch := first | decide | omega) only [go_sem, *]; rfl))) | (apply opsT.skipG; (focus (simp +decide (disch := first | decide | omega) only [go_sem, *]; done))) | (apply opsT.call; (with_unfolding_all (simp +decide (disch := first | decide | omega) only [go_sem, *]; rfl)); (focus (simp +decide (disch := first | decide | omega) only [go_sem, *]; done)); (with_unfolding_all (simp +decide (disch := first | decide | omega) only [go_sem, *]; rfl))) | (apply opsT.callG; (focus (simp +decide (disch := first | decide | omega) only [go_sem, *]; done)); (with_unfolding_all (simp +decide (disch := first | decide | omega) only [go_sem, *]; rfl)); (focus (simp +decide (disch := first | decide | omega) only [go_sem, *]; done)); (with_unfolding_all (simp +decide (disch := first | decide | omega) only [go_sem, *]; rfl))) | (apply opsT.moreX; with_unfolding_all rfl; (with_unfolding_all (simp +decide (disch := first | decide | omega) only [go_sem, *]; rfl))) | (apply opsT.fin; (with_unfolding_all (simp +decide (disch := first | decide | omega) only [go_sem, *]; rfl))) | (apply opsV.skipG; (focus (simp +decide (disch := first | decide | omega) only [go_sem, *]; done))) | (apply opsV.call; (with_unfolding_all (simp +decide (disch := first | decide | omega) only [go_sem, *]; rfl)); (focus (simp +decide (disch := first | decide | omega) only [go_sem, *]; done)); (with_unfolding_all (simp +decide (disch := first | decide | omega) only [go_sem, *]; rfl)); exact (ref_In ..); (focus (simp +decide (disch := first | decide | omega) only [go_sem, *]; done))) | (apply opsV.callG; (focus (simp +decide (disch := first | decide | omega) only [go_sem, *]; done)); (with_unfolding_all (simp +decide (disch := first | decide | omega) only [go_sem, *]; rfl)); (focus (simp +decide (disch := first | decide | omega) only [go_sem, *]; done)); (with_unfolding_all (simp +decide (disch := first | decide | omega) only [go_sem, *]; rfl)); exact (ref_In ..); (focus (simp +decide (disch := first | decide | omega) only [go_sem, *]; done))) | (apply opsV.moreX; with_unfolding_all rfl; with_unfolding_all rfl; (with_unfolding_all (simp +decide (disch := first | decide | omega) only [go_sem, *]; rfl))) | (apply opsV.fin; with_unfolding_all rfl; (with_unfolding_all (simp +decide (disch := first | decide | omega) only [go_sem, *]; rfl))) | (apply CallsP.eq (ref_In ..); (focus (simp +decide (disch := first | decide | omega) only [go_sem, *]; done))))
        refine WP.condB (by simp +decide (disch := first | decide | omega) only [go_sem, *]; rfl) (fun hb => ?_) (fun hb => ?_)
        · repeat' (with_reducible first | refine WP.seq ?_ | refine WP.skip ?_ | refine WP.label ?_ | refine WP.block ?_ | refine WP.exit ?_ | refine WP.ret ?_ | refine seqK_normal ?_ | refine seqK_exit ?_ | refine seqK_ret ?_ | refine loopK_exit ?_ | refine loopK_ret ?_ | refine blockK_normal ?_ | refine blockK_here ?_ | refine blockK_there (by decide) ?_ | refine blockK_ret ?_ | (apply WP.regionE; (with_unfolding_all (simp +decide (disch := first | decide | omega) only [go_sem, *]; rfl))) | (apply WP.regionV1 mixed; with_unfolding_all rfl; with_unfolding_all rfl; (with_unfolding_all (simp +decide (disch := first | decide | omega) only [go_sem, *]; rfl))))
          refine loopK_normal ⟨?_, ?_, i + 1, ?_, ?_, ?_, ?_⟩ ?_
          · simp +decide (disch := first | decide | omega) only [go_sem, *]
          · simp +decide (disch := first | decide | omega) only [go_sem, *]
          · simp +decide (disch := first | decide | omega) only [go_sem, *]; rfl
          · omega
          · simp +decide (disch := first | decide | omega) only [go_sem, *]; congr 1; split <;> omega
          · rw [hfr, hba]
            simp +decide (disch := first | decide | omega) only [go_sem, *]
            exact hL1
          · simp +decide (disch := first | decide | omega) only [go_sem, *]; omega
        · simp at hb
      · have hbc : e.bad.contains r[i] = false := by simp [hbad]
        have hfr : front e (r.take (i + 1)) = front e (r.take i) ++ [r[i]] := by rw [ht]; exact front_not hbad
        have hba : back e (r.take (i + 1)) = back e (r.take i) := by rw [ht]; exact back_not hbad
        obtain ⟨q, hq, hL1⟩ := owns_int hL 1 rfl (y := .sl true [[.int .i64 r[i]]]) (ys := [r[i]]) rfl (by simp; omega)
        have hrow1 : (setAll (h ++ q.ns) q.ws)[0]? = some (.row 24 [evC e]) := hL1.row 0 rfl
        repeat' (with_reducible first | refine WP.seq ?_ | refine WP.skip ?_ | refine WP.label ?_ | refine WP.block ?_ | refine WP.exit ?_ | refine WP.ret ?_ | refine seqK_normal ?_ | refine seqK_exit ?_ | refine seqK_ret ?_ | refine loopK_exit ?_ | refine loopK_ret ?_ | refine blockK_normal ?_ | refine blockK_here ?_ | refine blockK_there (by decide) ?_ | refine blockK_ret ?_ | (apply WP.regionE; (with_unfolding_all (simp +decide (disch := first | decide | omega) only [go_sem, *]; rfl))) | (apply WP.regionV1 mixed; with_unfolding_all rfl; with_unfolding_all rfl; (with_unfolding_all (simp +decide (disch := first | decide | omega) only [go_sem, *]; rfl))) | (apply WP.regionX; with_unfolding_all rfl; (with_unfolding_all (simp +decide (disch := first | decide | omega) only [go_sem, *]; rfl))) | (apply WP.regionVX mixed; with_unfolding_all rfl; with_unfolding_all rfl; with_unfolding_all rfl; (with_unfolding_all (simp +decide (disch := first | decide | omega) only [go_sem, *]; rfl))) | (apply opsT.skipG; (focus (simp +decide (disch := first | decide | omega) only [go_sem, *]; done))) | (apply opsT.call; (with_unfolding_all (simp +decide (disch := first | decide | omega) only [go_sem, *]; rfl)); (focus (simp +decide (disch := first | decide | omega) only [go_sem, *]; done)); (with_unfolding_all (simp +decide (disch := first | decide | omega) only [go_sem, *]; rfl))) | (apply opsT.callG; (focus (simp +decide (disch := first | decide | omega) only [go_sem, *]; done)); (with_unfolding_all (simp +decide (disch := first | decide | omega) only [go_sem, *]; rfl)); (focus (simp +decide (disch := first | decide | omega) only [go_sem, *]; done)); (with_unfolding_all (simp +decide (disch := first | decide | omega) only [go_sem, *]; rfl))) | (apply opsT.moreX; with_unfolding_all rfl; (with_unfolding_all (simp +decide (disch := first | decide | omega) only [go_sem, *]; rfl))) | (apply opsT.fin; (with_unfolding_all (simp +decide (disch := first | decide | omega) only [go_sem, *]; rfl))) | (apply opsV.skipG; (focus (simp +decide (disch := first | decide | omega) only [go_sem, *]; done))) | (apply opsV.call; (with_unfolding_all (simp +decide (disch := first | decide | omega) only [go_sem, *]; rfl)); (focus (simp +decide (disch := first | decide | omega) only [go_sem, *]; done)); (with_unfolding_all (simp +decide (disch := first | decide | omega) only [go_sem, *]; rfl)); exact (ref_In ..); (focus (simp +decide (disch := first | decide | omega) only [go_sem, *]; done))) | (apply opsV.callG; (focus (simp +decide (disch := first | decide | omega) only [go_sem, *]; done)); (with_unfolding_all (simp +decide (disch := first | decide | omega) only [go_sem, *]; rfl)); (focus (simp +decide (disch := first | decide | omega) only [go_sem, *]; done)); (with_unfolding_all (simp +decide (disch := first | decide | omega) only [go_sem, *]; rfl)); exact (ref_In ..); (focus (simp +decide (disch := first | decide | omega) only [go_sem, *]; done))) | (apply opsV.moreX; with_unfolding_all rfl; with_unfolding_all rfl; (with_unfolding_all (simp +decide (disch := first | decide | omega) only [go_sem, *]; rfl))) | (apply opsV.fin; with_unfolding_all rfl; (with_unfolding_all (simp +decide (disch := first | decide | omega) only [go_sem, *]; rfl))) | (apply CallsP.eq (ref_In ..); (focus (simp +decide (disch := first | decide | omega) only [go_sem, *]; done))))
        refine WP.condB (by simp +decide (disch := first | decide | omega) only [go_sem, *]; rfl) (fun hb => ?_) (fun hb => ?_)
        · simp at hb
        by_cases hgood : r[i] ∈ e.good
        · have hgc : e.good.contains r[i] = true := by simp [hgood]
          have hp := pri_good e (r.take i) r.length r[i] (by simp; omega) hbad hgood
          rw [← ht, List.length_take, Nat.min_eq_left hi] at hp
          clear ht
          repeat' (with_reducible first | refine WP.seq ?_ | refine WP.skip ?_ | refine WP.label ?_ | refine WP.block ?_ | refine WP.exit ?_ | refine WP.ret ?_ | refine seqK_normal ?_ | refine seqK_exit ?_ | refine seqK_ret ?_ | refine loopK_exit ?_ | refine loopK_ret ?_ | refine blockK_normal ?_ | refine blockK_here ?_ | refine blockK_there (by decide) ?_ | refine blockK_ret ?_ | (apply WP.regionE; (with_unfolding_all (simp +decide (disch := first | decide | omega) only [go_sem, *]; rfl))) | (apply WP.regionV1 mixed; with_unfolding_all rfl; with_unfolding_all rfl; (with_unfolding_all (simp +decide (disch := first | decide | omega) only [go_sem, *]; rfl))) | (apply WP.regionX; with_unfolding_all rfl; (with_unfolding_all (simp +decide (disch := first | decide | omega) only [go_sem, *]; rfl))) | (apply WP.regionVX mixed; with_unfolding_all rfl; with_unfolding_all rfl; with_unfolding_all rfl; (with_unfolding_all (simp +decide (disch := first | decide | omega) only [go_sem, *]; rfl))) | (apply opsT.skipG; (focus (simp +decide (disch := first | decide | omega) only [go_sem, *]; done))) | (apply opsT.call; (with_unfolding_all (simp +decide (disch := first | decide | omega) only [go_sem, *]; rfl)); (focus (simp +decide (disch := first | decide | omega) only [go_sem, *]; done)); (with_unfolding_all (simp +decide (disch := first | decide | omega) only [go_sem, *]; rfl))) | (apply opsT.callG; (focus (simp +decide (disch := first | decide | omega) only [go_sem, *]; done)); (with_unfolding_all (simp +decide (disch := first | decide | omega) only [go_sem, *]; rfl)); (focus (simp +decide (disch := first | decide | omega) only [go_sem, *]; done)); (with_unfolding_all (simp +decide (disch := first | decide | omega) only [go_sem, *]; rfl))) | (apply opsT.moreX; with_unfolding_all rfl; (with_unfolding_all (simp +decide (disch := first | decide | omega) only [go_sem, *]; rfl))) | (apply opsT.fin; (with_unfolding_all (simp +decide (disch := first | decide | omega) only [go_sem, *]; rfl))) | (apply opsV.skipG; (focus (simp +decide (disch := first | decide | omega) only [go_sem, *]; done))) | (apply opsV.call; (with_unfolding_all (simp +decide (disch := first | decide | omega) only [go_sem, *]; rfl)); (focus (simp +decide (disch := first | decide | omega) only [go_sem, *]; done)); (with_unfolding_all (simp +decide (disch := first | decide | omega) only [go_sem, *]; rfl)); exact (ref_In ..); (focus (simp +decide (disch := first | decide | omega) only [go_sem, *]; done))) | (apply opsV.callG; (focus (simp +decide (disch := first | decide | omega) only [go_sem, *]; done)); (with_unfolding_all (simp +decide (disch := first | decide | omega) only [go_sem, *]; rfl)); (focus (simp +decide (disch := first | decide | omega) only [go_sem, *]; done)); (with_unfolding_all (simp +decide (disch := first | decide | omega) only [go_sem, *]; rfl)); exact (ref_In ..); (focus (simp +decide (disch := first | decide | omega) only [go_sem, *]; done))) | (apply opsV.moreX; with_unfolding_all rfl; with_unfolding_all rfl; (with_unfolding_all (simp +decide (disch := first | decide | omega) only [go_sem, *]; rfl))) | (apply opsV.fin; with_unfolding_all rfl; (with_unfolding_all (simp +decide (disch := first | decide | omega) only [go_sem, *]; rfl))) | (apply CallsP.eq (ref_In ..); (focus (simp +decide (disch := first | decide | omega) only [go_sem, *]; done))))
          refine WP.condB (by simp +decide (disch := first | decide | omega) only [go_sem, *]; rfl) (fun hb => ?_) (fun hb => ?_)
          · repeat' (with_reducible first | refine WP.seq ?_ | refine WP.skip ?_ | refine WP.label ?_ | refine WP.block ?_ | refine WP.exit ?_ | refine WP.ret ?_ | refine seqK_normal ?_ | refine seqK_exit ?_ | refine seqK_ret ?_ | refine loopK_exit ?_ | refine loopK_ret ?_ | refine blockK_normal ?_ | refine blockK_here ?_ | refine blockK_there (by decide) ?_ | refine blockK_ret ?_ | (apply WP.regionE; (with_unfolding_all (simp +decide (disch := first | decide | omega) only [go_sem, *]; rfl))) | (apply WP.regionV1 mixed; with_unfolding_all rfl; with_unfolding_all rfl; (with_unfolding_all (simp +decide (disch := first | decide | omega) only [go_sem, *]; rfl))))
            refine loopK_normal ⟨?_, ?_, i + 1, ?_, ?_, ?_, ?_⟩ ?_
            · simp +decide (disch := first | decide | omega) only [go_sem, *]
            · simp +decide (disch := first | decide | omega) only [go_sem, *]
            · simp +decide (disch := first | decide | omega) only [go_sem, *]; rfl
            · omega
            · simp +decide (disch := first | decide | omega) only [go_sem, *]; congr 1; split <;> omega
            · rw [hfr, hba]
              simp +decide (disch := first | decide | omega) only [go_sem, *]
              exact hL1
            · simp +decide (disch := first | decide | omega) only [go_sem, *]; omega
          · simp at hb
        · have hgc : e.good.contains r[i] = false := by simp [hgood]
          have hp := pri_none e (r.take i) r.length r[i] hbad hgood
          rw [← ht] at hp
          clear ht
          repeat' (with_reducible first | refine WP.seq ?_ | refine WP.skip ?_ | refine WP.label ?_ | refine WP.block ?_ | refine WP.exit ?_ | refine WP.ret ?_ | refine seqK_normal ?_ | refine seqK_exit ?_ | refine seqK_ret ?_ | refine loopK_exit ?_ | refine loopK_ret ?_ | refine blockK_normal ?_ | refine blockK_here ?_ | refine blockK_there (by decide) ?_ | refine blockK_ret ?_ | (apply WP.regionE; (with_unfolding_all (simp +decide (disch := first | decide | omega) only [go_sem, *]; rfl))) | (apply WP.regionV1 mixed; with_unfolding_all rfl; with_unfolding_all rfl; (with_unfolding_all (simp +decide (disch := first | decide | omega) only [go_sem, *]; rfl))) | (apply WP.regionX; with_unfolding_all rfl; (with_unfolding_all (simp +decide (disch := first | decide | omega) only [go_sem, *]; rfl))) | (apply WP.regionVX mixed; with_unfolding_all rfl; with_unfolding_all rfl; with_unfolding_all rfl; (with_unfolding_all (simp +decide (disch := first | decide | omega) only [go_sem, *]; rfl))) | (apply opsT.skipG; (focus (simp +decide (disch := first | decide | omega) only [go_sem, *]; done))) | (apply opsT.call; (with_unfolding_all (simp +decide (disch := first | decide | omega) only [go_sem, *]; rfl)); (focus (simp +decide (disch := first | decide | omega) only [go_sem, *]; done)); (with_unfolding_all (simp +decide (disch := first | decide | omega) only [go_sem, *]; rfl))) | (apply opsT.callG; (focus (simp +decide (disch := first | decide | omega) only [go_sem, *]; done)); (with_unfolding_all (simp +decide (disch := first | decide | omega) only [go_sem, *]; rfl)); (focus (simp +decide (disch := first | decide | omega) only [go_sem, *]; done)); (with_unfolding_all (simp +decide (disch := first | decide | omega) only [go_sem, *]; rfl))) | (apply opsT.moreX; with_unfolding_all rfl; (with_unfolding_all (simp +decide (disch := first | decide | omega) only [go_sem, *]; rfl))) | (apply opsT.fin; (with_unfolding_all (simp +decide (disch := first | decide | omega) only [go_sem, *]; rfl))) | (apply opsV.skipG; (focus (simp +decide (disch := first | decide | omega) only [go_sem, *]; done))) | (apply opsV.call; (with_unfolding_all (simp +decide (disch := first | decide | omega) only [go_sem, *]; rfl)); (focus (simp +decide (disch := first | decide | omega) only [go_sem, *]; done)); (with_unfolding_all (simp +decide (disch := first | decide | omega) only [go_sem, *]; rfl)); exact (ref_In ..); (focus (simp +decide (disch := first | decide | omega) only [go_sem, *]; done))) | (apply opsV.callG; (focus (simp +decide (disch := first | decide | omega) only [go_sem, *]; done)); (with_unfolding_all (simp +decide (disch := first | decide | omega) only [go_sem, *]; rfl)); (focus (simp +decide (disch := first | decide | omega) only [go_sem, *]; done)); (with_unfolding_all (simp +decide (disch := first | decide | omega) only [go_sem, *]; rfl)); exact (ref_In ..); (focus (simp +decide (disch := first | decide | omega) only [go_sem, *]; done))) | (apply opsV.moreX; with_unfolding_all rfl; with_unfolding_all rfl; (with_unfolding_all (simp +decide (disch := first | decide | omega) only [go_sem, *]; rfl))) | (apply opsV.fin; with_unfolding_all rfl; (with_unfolding_all (simp +decide (disch := first | decide | omega) only [go_sem, *]; rfl))) | (apply CallsP.eq (ref_In ..); (focus (simp +decide (disch := first | decide | omega) only [go_sem, *]; done))))
          refine WP.condB (by simp +decide (disch := first | decide | omega) only [go_sem, *]; rfl) (fun hb => ?_) (fun hb => ?_)
          · simp at hb
          · repeat' (with_reducible first | refine WP.seq ?_ | refine WP.skip ?_ | refine WP.label ?_ | refine WP.block ?_ | refine WP.exit ?_ | refine WP.ret ?_ | refine seqK_normal ?_ | refine seqK_exit ?_ | refine seqK_ret ?_ | refine loopK_exit ?_ | refine loopK_ret ?_ | refine blockK_normal ?_ | refine blockK_here ?_ | refine blockK_there (by decide) ?_ | refine blockK_ret ?_ | (apply WP.regionE; (with_unfolding_all (simp +decide (disch := first | decide | omega) only [go_sem, *]; rfl))) | (apply WP.regionV1 mixed; with_unfolding_all rfl; with_unfolding_all rfl; (with_unfolding_all (simp +decide (disch := first | decide | omega) only [go_sem, *]; rfl))))
            refine loopK_normal ⟨?_, ?_, i + 1, ?_, ?_, ?_, ?_⟩ ?_
            · simp +decide (disch := first | decide | omega) only [go_sem, *]
            · simp +decide (disch := first | decide | omega) only [go_sem, *]
            · simp +decide (disch := first | decide | omega) only [go_sem, *]; rfl
            · omega
            · simp +decide (disch := first | decide | omega) only [go_sem, *]
            · rw [hfr, hba]
              simp +decide (disch := first | decide | omega) only [go_sem, *]
              exact hL1
            · simp +decide (disch := first | decide | omega) only [go_sem, *]; omega
    · have hge : r.length ≤ i := by simpa using hb
      have e1 : r.take i = r := List.take_of_length_le hge
      rw [e1] at hL h7 hlf hlb
      rw [pri_end] at h7
      obtain ⟨q, hq, hL1⟩ := owns_int hL 1 rfl (y := s 9) (ys := back e r) (hL.elems 2 rfl) (by omega)
      obtain ⟨f, hrd⟩ := hL1.read 1 rfl (ints_free _)
      repeat' (with_reducible first | refine WP.seq ?_ | refine WP.skip ?_ | refine WP.label ?_ | refine WP.block ?_ | refine WP.exit ?_ | refine WP.ret ?_ | refine seqK_normal ?_ | refine seqK_exit ?_ | refine seqK_ret ?_ | refine loopK_exit ?_ | refine loopK_ret ?_ | refine blockK_normal ?_ | refine blockK_here ?_ | refine blockK_there (by decide) ?_ | refine blockK_ret ?_ | (apply WP.regionE; (with_unfolding_all (simp +decide (disch := first | decide | omega) only [go_sem, *]; rfl))) | (apply WP.regionV1 mixed; with_unfolding_all rfl; with_unfolding_all rfl; (with_unfolding_all (simp +decide (disch := first | decide | omega) only [go_sem, *]; rfl))))
      refine fnPost_pure 2 (by first | exact .inl rfl | exact .inr rfl) (by simp +decide (disch := first | decide | omega) only [go_sem, *]; rfl) (by simp +decide (disch := first | decide | omega) only [go_sem, *]; rfl) ?_
      simp [stepF, hv, wkV, wk1]

def gd (l : List Ev) (x : Int) : Bool := l.any fun e => e.good.contains x
def bd (l : List Ev) (x : Int) : Bool := l.any fun e => e.bad.contains x
def winName (l : List Ev) (x : Int) : Bool := gd l x && !bd l x
def wins (n : Int) (l : List Ev) : Bool := decide (0 ≤ n ∧ n ≤ 6000) && (List.range n.toNat).any fun i => winName l ((i : Int) + 1)

theorem gd_snoc (l : List Ev) (e : Ev) (x : Int) : gd (l ++ [e]) x = (gd l x || e.good.contains x) := by simp [gd]
theorem bd_snoc (l : List Ev) (e : Ev) (x : Int) : bd (l ++ [e]) x = (bd l x || e.bad.contains x) := by simp [bd]

theorem ref_Wins (f g : Bool) (n : Int) (st l : List Ev) : CallsP pg 20 [.int .i64 n, .sl f (evs st), .sl g (evs l)] (fun v => v = .bool (wins n l)) := by
  refine CallsP.of_wpN [] 53 fn20 rfl rfl ?_
  refine WP.abs (fun s => s 0 = .int .i64 n ∧ s 2 = .sl g (evs l)) ⟨rfl, rfl⟩ ?_
  rintro s ⟨h0, h2⟩
  refine WP.slLen h2 fun hlen => ?_
  rw [evs_length, maxLen] at hlen
  by_cases c1 : n < 0
  · repeat' (with_reducible first | refine WP.seq ?_ | refine WP.skip ?_ | refine WP.label ?_ | refine WP.block ?_ | refine WP.exit ?_ | refine WP.ret ?_ | refine seqK_normal ?_ | refine seqK_exit ?_ | refine seqK_ret ?_ | refine loopK_exit ?_ | refine loopK_ret ?_ | refine blockK_normal ?_ | refine blockK_here ?_ | refine blockK_there (by decide) ?_ | refine blockK_ret ?_ | (apply WP.regionE; (with_unfolding_all (simp +decide (disch := first | decide | omega) only [go_sem, *]; rfl))) | (apply WP.regionV1 mixed; with_unfolding_all rfl; with_unfolding_all rfl; (with_unfolding_all (simp +decide (disch := first | decide | omega) only [go_sem, *]; rfl))))
    refine WP.condB (by simp +decide (disch := first | decide | omega) only [go_sem, *]; rfl) (fun hb => ?_) (fun hb => ?_)
    · repeat' (with_reducible first | refine WP.seq ?_ | refine WP.skip ?_ | refine WP.label ?_ | refine WP.block ?_ | refine WP.exit ?_ | refine WP.ret ?_ | refine seqK_normal ?_ | refine seqK_exit ?_ | refine seqK_ret ?_ | refine loopK_exit ?_ | refine loopK_ret ?_ | refine blockK_normal ?_ | refine blockK_here ?_ | refine blockK_there (by decide) ?_ | refine blockK_ret ?_ | (apply WP.regionE; (with_unfolding_all (simp +decide (disch := first | decide | omega) only [go_sem, *]; rfl))) | (apply WP.regionV1 mixed; with_unfolding_all rfl; with_unfolding_all rfl; (with_unfolding_all (simp +decide (disch := first | decide | omega) only [go_sem, *]; rfl))))
      refine fnPost_pure 0 (by first | exact .inl rfl | exact .inr rfl) (by simp +decide (disch := first | decide | omega) only [go_sem, *]; rfl) (by simp +decide (disch := first | decide | omega) only [go_sem, *]; rfl) ?_
      simp [wins]; omega
    · simp at hb
  by_cases c2 : 6000 < n
  · repeat' (with_reducible first | refine WP.seq ?_ | refine WP.skip ?_ | refine WP.label ?_ | refine WP.block ?_ | refine WP.exit ?_ | refine WP.ret ?_ | refine seqK_normal ?_ | refine seqK_exit ?_ | refine seqK_ret ?_ | refine loopK_exit ?_ | refine loopK_ret ?_ | refine blockK_normal ?_ | refine blockK_here ?_ | refine blockK_there (by decide) ?_ | refine blockK_ret ?_ | (apply WP.regionE; (with_unfolding_all (simp +decide (disch := first | decide | omega) only [go_sem, *]; rfl))) | (apply WP.regionV1 mixed; with_unfolding_all rfl; with_unfolding_all rfl; (with_unfolding_all (simp +decide (disch := first | decide | omega) only [go_sem, *]; rfl))))
    refine WP.condB (by simp +decide (disch := first | decide | omega) only [go_sem, *]; rfl) (fun hb => ?_) (fun hb => ?_)
    · repeat' (with_reducible first | refine WP.seq ?_ | refine WP.skip ?_ | refine WP.label ?_ | refine WP.block ?_ | refine WP.exit ?_ | refine WP.ret ?_ | refine seqK_normal ?_ | refine seqK_exit ?_ | refine seqK_ret ?_ | refine loopK_exit ?_ | refine loopK_ret ?_ | refine blockK_normal ?_ | refine blockK_here ?_ | refine blockK_there (by decide) ?_ | refine blockK_ret ?_ | (apply WP.regionE; (with_unfolding_all (simp +decide (disch := first | decide | omega) only [go_sem, *]; rfl))) | (apply WP.regionV1 mixed; with_unfolding_all rfl; with_unfolding_all rfl; (with_unfolding_all (simp +decide (disch := first | decide | omega) only [go_sem, *]; rfl))))
      refine fnPost_pure 0 (by first | exact .inl rfl | exact .inr rfl) (by simp +decide (disch := first | decide | omega) only [go_sem, *]; rfl) (by simp +decide (disch := first | decide | omega) only [go_sem, *]; rfl) ?_
      simp [wins]; omega
    · simp at hb
  repeat' (with_reducible first | refine WP.seq ?_ | refine WP.skip ?_ | refine WP.label ?_ | refine WP.block ?_ | refine WP.exit ?_ | refine WP.ret ?_ | refine seqK_normal ?_ | refine seqK_exit ?_ | refine seqK_ret ?_ | refine loopK_exit ?_ | refine loopK_ret ?_ | refine blockK_normal ?_ | refine blockK_here ?_ | refine blockK_there (by decide) ?_ | refine blockK_ret ?_ | (apply WP.regionE; (with_unfolding_all (simp +decide (disch := first | decide | omega) only [go_sem, *]; rfl))) | (apply WP.regionV1 mixed; with_unfolding_all rfl; with_unfolding_all rfl; (with_unfolding_all (simp +decide (disch := first | decide | omega) only [go_sem, *]; rfl))))
  refine WP.condB (by simp +decide (disch := first | decide | omega) only [go_sem, *]; rfl) (fun hb => ?_) (fun hb => ?_)
  · simp at hb
  repeat' (with_reducible first | refine WP.seq ?_ | refine WP.skip ?_ | refine WP.label ?_ | refine WP.block ?_ | refine WP.exit ?_ | refine WP.ret ?_ | refine seqK_normal ?_ | refine seqK_exit ?_ | refine seqK_ret ?_ | refine loopK_exit ?_ | refine loopK_ret ?_ | refine blockK_normal ?_ | refine blockK_here ?_ | refine blockK_there (by decide) ?_ | refine blockK_ret ?_ | (apply WP.regionE; (with_unfolding_all (simp +decide (disch := first | decide | omega) only [go_sem, *]; rfl))) | (apply WP.regionV1 mixed; with_unfolding_all rfl; with_unfolding_all rfl; (with_unfolding_all (simp +decide (disch := first | decide | omega) only [go_sem, *]; rfl))))
  refine WP.loop (fun s h => s 0 = .int .i64 n ∧ s 2 = .sl g (evs l) ∧ h = [] ∧ ∃ k : Nat, s 7 = .int .i64 ((k : Int) + 1) ∧ (k : Int) ≤ n ∧ ∀ j, j < k → winName l ((j : Int) + 1) = false) (fun s _ => n.toNat + 1 - (s 7).toInt.toNat) ⟨?_, ?_, rfl, 0, ?_, ?_, ?_⟩ ?_
  · simp +decide (disch := first | decide | omega) only [go_sem, *]
  · simp +decide (disch := first | decide | omega) only [go_sem, *]
  · simp +decide (disch := first | decide | omega) only [go_sem, *]; rfl
  · omega
  · intro j hj; omega
  clear h0 h2 s hb
  rintro s h ⟨h0, h2, rfl, k, h7, hk, hpre⟩
  repeat' (with_reducible first | refine WP.seq ?_ | refine WP.skip ?_ | refine WP.label ?_ | refine WP.block ?_ | refine WP.exit ?_ | refine WP.ret ?_ | refine seqK_normal ?_ | refine seqK_exit ?_ | refine seqK_ret ?_ | refine loopK_exit ?_ | refine loopK_ret ?_ | refine blockK_normal ?_ | refine blockK_here ?_ | refine blockK_there (by decide) ?_ | refine blockK_ret ?_ | (apply WP.regionE; (with_unfolding_all (simp +decide (disch := first | decide | omega) only [go_sem, *]; rfl))) | (apply WP.regionV1 mixed; with_unfolding_all rfl; with_unfolding_all rfl; (with_unfolding_all (simp +decide (disch := first | decide | omega) only [go_sem, *]; rfl))))
  refine WP.condB (by simp +decide (disch := first | decide | omega) only [go_sem, *]; rfl) (fun hb => ?_) (fun hb => ?_)
  · have hkn : (k : Int) + 1 ≤ n := by simpa using hb
    repeat' (with_reducible first | refine WP.seq ?_ | refine WP.skip ?_ | refine WP.label ?_ | refine WP.block ?_ | refine WP.exit ?_ | refine WP.ret ?_ | refine seqK_normal ?_ | refine seqK_exit ?_ | refine seqK_ret ?_ | refine loopK_exit ?_ | refine loopK_ret ?_ | refine blockK_normal ?_ | refine blockK_here ?_ | refine blockK_there (by decide) ?_ | refine blockK_ret ?_ | (apply WP.regionE; (with_unfolding_all (simp +decide (disch := first | decide | omega) only [go_sem, *]; rfl))) | (apply WP.regionV1 mixed; with_unfolding_all rfl; with_unfolding_all rfl; (with_unfolding_all (simp +decide (disch := first | decide | omega) only [go_sem, *]; rfl))))
    refine WP.loop (fun s h => s 0 = .int .i64 n ∧ s 2 = .sl g (evs l) ∧ h = [] ∧ s 7 = .int .i64 ((k : Int) + 1) ∧ ∃ i : Nat, s 10 = .int .i64 i ∧ i ≤ l.length ∧ s 8 = .bool (gd (l.take i) ((k : Int) + 1)) ∧ s 9 = .bool (bd (l.take i) ((k : Int) + 1))) (fun s _ => l.length - (s 10).toInt.toNat) ⟨?_, ?_, rfl, ?_, 0, ?_, ?_, ?_, ?_⟩ ?_
    · simp +decide (disch := first | decide | omega) only [go_sem, *]
    · simp +decide (disch := first | decide | omega) only [go_sem, *]
    · simp +decide (disch := first | decide | omega) only [go_sem, *]
    · simp +decide (disch := first | decide | omega) only [go_sem, *]; rfl
    · omega
    · simp +decide (disch := first | decide | omega) only [go_sem, *]; rfl
    · simp +decide (disch := first | decide | omega) only [go_sem, *]; rfl
    have hmu : n.toNat + 1 - (s 7).toInt.toNat = n.toNat - k := by rw [h7, HV.toInt]; omega
    rw [hmu]
    clear h0 h2 h7 hmu hb s
    rintro s h ⟨h0, h2, rfl, h7, i, h10, hi, h8, h9⟩
    repeat' (with_reducible first | refine WP.seq ?_ | refine WP.skip ?_ | refine WP.label ?_ | refine WP.block ?_ | refine WP.exit ?_ | refine WP.ret ?_ | refine seqK_normal ?_ | refine seqK_exit ?_ | refine seqK_ret ?_ | refine loopK_exit ?_ | refine loopK_ret ?_ | refine blockK_normal ?_ | refine blockK_here ?_ | refine blockK_there (by decide) ?_ | refine blockK_ret ?_ | (apply WP.regionE; (with_unfolding_all (simp +decide (disch := first | decide | omega) only [go_sem, *]; rfl))) | (apply WP.regionV1 mixed; with_unfolding_all rfl; with_unfolding_all rfl; (with_unfolding_all (simp +decide (disch := first | decide | omega) only [go_sem, *]; rfl))))
    refine WP.condB (by simp +decide (disch := first | decide | omega) only [go_sem, *]; rfl) (fun hb => ?_) (fun hb => ?_)
    · have hlt : i < l.length := by simpa using hb
      have hg := evs_get hlt
      have eg : gd (l.take (i + 1)) ((k : Int) + 1) = (gd (l.take i) ((k : Int) + 1) || l[i].good.contains ((k : Int) + 1)) := by rw [List.take_succ_eq_append_getElem hlt, gd_snoc]
      have eb : bd (l.take (i + 1)) ((k : Int) + 1) = (bd (l.take i) ((k : Int) + 1) || l[i].bad.contains ((k : Int) + 1)) := by rw [List.take_succ_eq_append_getElem hlt, bd_snoc]
      cases hgd : gd (l.take i) ((k : Int) + 1) <;> cases hbd : bd (l.take i) ((k : Int) + 1) <;> rw [hgd] at h8 eg <;> rw [hbd] at h9 eb
      all_goals
        repeat' (with_reducible first | refine WP.seq ?_ | refine WP.skip ?_ | refine WP.label ?_ | refine WP.block ?_ | refine WP.exit ?_ | refine WP.ret ?_ | refine seqK_normal ?_ | refine seqK_exit ?_ | refine seqK_ret ?_ | refine loopK_exit ?_ | refine loopK_ret ?_ | refine blockK_normal ?_ | refine blockK_here ?_ | refine blockK_there (by decide) ?_ | refine blockK_ret ?_ | (apply WP.regionE; (with_unfolding_all (simp +decide (disch := first | decide | omega) only [go_sem, *]; rfl))) | (apply WP.regionV1 mixed; with_unfolding_all rfl; with_unfolding_all rfl; (with_unfolding_all (simp +decide (disch := first | decide | omega) only [go_sem, *]; rfl))) | (apply WP.regionX; with_unfolding_all rfl; (with_unfolding_all (simp +decide (disch := first | decide | omega) only [go_sem, *]; rfl))) | (apply WP.regionVX mixed; with_unfolding_all rfl; with_unfolding_all rfl; with_unfolding_all rfl; (with_unfolding_all (simp +decide (disch := first | decide | omega) only [go_sem, *]; rfl))) | (apply opsT.skipG; (focus (simp +decide (disch := first | decide | omega) only [go_sem, *]; done))) | (apply opsT.call; (with_unfolding_all (simp +decide (disch := first | decide | omega) only [go_sem, *]; rfl)); (focus (simp +decide (disch := first | decide | omega) only [go_sem, *]; done)); (with_unfolding_all (simp +decide (disch := first | decide | omega) only [go_sem, *]; rfl))) | (apply opsT.callG; (focus (simp +decide (disch := first | decide | omega) only [go_sem, *]; done)); (with_unfolding_all (simp +decide (disch := first | decide | omega) only [go_sem, *]; rfl)); (focus (simp +decide (disch := first | decide | omega) only [go_sem, *]; done)); (with_unfolding_all (simp +decide (disch := first | decide | omega) only [go_sem, *]; rfl))) | (apply opsT.moreX; with_unfolding_all rfl; (with_unfolding_all (simp +decide (disch := first | decide | omega) only [go_sem, *]; rfl))) | (apply opsT.fin; (with_unfolding_all (simp +decide (disch := first | decide | omega) only [go_sem, *]; rfl))) | (apply opsV.skipG; (focus (simp +decide (disch := first | decide | omega) only [go_sem, *]; done))) | (apply opsV.call; (with_unfolding_all (simp +decide (disch := first | decide | omega) only [go_sem, *]; rfl)); (focus (simp +decide (disch := first | decide | omega) only [go_sem, *]; done)); (with_unfolding_all (simp +decide (disch := first | decide | omega) only [go_sem, *]; rfl)); exact (ref_In ..); (focus (simp +decide (disch := first | decide | omega) only [go_sem, *]; done))) | (apply opsV.callG; (focus (simp +decide (disch := first | decide | omega) only [go_sem, *]; done)); (with_unfolding_all (simp +decide (disch := first | decide | omega) only [go_sem, *]; rfl)); (focus (simp +decide (disch := first | decide | omega) only [go_sem, *]; done)); (with_unfolding_all (simp +decide (disch := first | decide | omega) only [go_sem, *]; rfl)); exact (ref_In ..); (focus (simp +decide (disch := first | decide | omega) only [go_sem, *]; done))) | (apply opsV.moreX; with_unfolding_all rfl; with_unfolding_all rfl; (with_unfolding_all (simp +decide (disch := first | decide | omega) only [go_sem, *]; rfl))) | (apply opsV.fin; with_unfolding_all rfl; (with_unfolding_all (simp +decide (disch := first | decide | omega) only [go_sem, *]; rfl))) | (apply CallsP.eq (ref_In ..); (focus (simp +decide (disch := first | decide | omega) only [go_sem, *]; done))))
        refine loopK_normal ⟨?_, ?_, rfl, ?_, i + 1, ?_, ?_, ?_, ?_⟩ ?_
        · simp +decide (disch := first | decide | omega) only [go_sem, *]
        · simp +decide (disch := first | decide | omega) only [go_sem, *]
        · simp +decide (disch := first | decide | omega) only [go_sem, *]
        · simp +decide (disch := first | decide | omega) only [go_sem, *]; rfl
        · omega
        · simp +decide (disch := first | decide | omega) only [go_sem, *] <;> simp
        · simp +decide (disch := first | decide | omega) only [go_sem, *] <;> simp
        · simp +decide (disch := first | decide | omega) only [go_sem, *]; omega
    · have hge : l.length ≤ i := by simpa using hb
      rw [List.take_of_length_le hge] at h8 h9
      cases hgd : gd l ((k : Int) + 1) <;> cases hbd : bd l ((k : Int) + 1) <;> rw [hgd] at h8 <;> rw [hbd] at h9
      case true.false =>
        repeat' (with_reducible first | refine WP.seq ?_ | refine WP.skip ?_ | refine WP.label ?_ | refine WP.block ?_ | refine WP.exit ?_ | refine WP.ret ?_ | refine seqK_normal ?_ | refine seqK_exit ?_ | refine seqK_ret ?_ | refine loopK_exit ?_ | refine loopK_ret ?_ | refine blockK_normal ?_ | refine blockK_here ?_ | refine blockK_there (by decide) ?_ | refine blockK_ret ?_ | (apply WP.regionE; (with_unfolding_all (simp +decide (disch := first | decide | omega) only [go_sem, *]; rfl))) | (apply WP.regionV1 mixed; with_unfolding_all rfl; with_unfolding_all rfl; (with_unfolding_all (simp +decide (disch := first | decide | omega) only [go_sem, *]; rfl))))
        refine WP.condB (by simp +decide (disch := first | decide | omega) only [go_sem, *]; rfl) (fun hb => ?_) (fun hb => ?_)
        · repeat' (with_reducible first | refine WP.seq ?_ | refine WP.skip ?_ | refine WP.label ?_ | refine WP.block ?_ | refine WP.exit ?_ | refine WP.ret ?_ | refine seqK_normal ?_ | refine seqK_exit ?_ | refine seqK_ret ?_ | refine loopK_exit ?_ | refine loopK_ret ?_ | refine blockK_normal ?_ | refine blockK_here ?_ | refine blockK_there (by decide) ?_ | refine blockK_ret ?_ | (apply WP.regionE; (with_unfolding_all (simp +decide (disch := first | decide | omega) only [go_sem, *]; rfl))) | (apply WP.regionV1 mixed; with_unfolding_all rfl; with_unfolding_all rfl; (with_unfolding_all (simp +decide (disch := first | decide | omega) only [go_sem, *]; rfl))))
          refine fnPost_pure 0 (by first | exact .inl rfl | exact .inr rfl) (by simp +decide (disch := first | decide | omega) only [go_sem, *]; rfl) (by simp +decide (disch := first | decide | omega) only [go_sem, *]; rfl) ?_
          have : wins n l = true := by
            simp only [wins, Bool.and_eq_true, decide_eq_true_eq, List.any_eq_true, List.mem_range]
            exact ⟨by omega, k, by omega, by simp [winName, hgd, hbd]⟩
          rw [this]
        · simp at hb
      all_goals
        repeat' (with_reducible first | refine WP.seq ?_ | refine WP.skip ?_ | refine WP.label ?_ | refine WP.block ?_ | refine WP.exit ?_ | refine WP.ret ?_ | refine seqK_normal ?_ | refine seqK_exit ?_ | refine seqK_ret ?_ | refine loopK_exit ?_ | refine loopK_ret ?_ | refine blockK_normal ?_ | refine blockK_here ?_ | refine blockK_there (by decide) ?_ | refine blockK_ret ?_ | (apply WP.regionE; (with_unfolding_all (simp +decide (disch := first | decide | omega) only [go_sem, *]; rfl))) | (apply WP.regionV1 mixed; with_unfolding_all rfl; with_unfolding_all rfl; (with_unfolding_all (simp +decide (disch := first | decide | omega) only [go_sem, *]; rfl))))
        refine WP.condB (by simp +decide (disch := first | decide | omega) only [go_sem, *]; rfl) (fun hb => ?_) (fun hb => ?_)
        · simp at hb
        · repeat' (with_reducible first | refine WP.seq ?_ | refine WP.skip ?_ | refine WP.label ?_ | refine WP.block ?_ | refine WP.exit ?_ | refine WP.ret ?_ | refine seqK_normal ?_ | refine seqK_exit ?_ | refine seqK_ret ?_ | refine loopK_exit ?_ | refine loopK_ret ?_ | refine blockK_normal ?_ | refine blockK_here ?_ | refine blockK_there (by decide) ?_ | refine blockK_ret ?_ | (apply WP.regionE; (with_unfolding_all (simp +decide (disch := first | decide | omega) only [go_sem, *]; rfl))) | (apply WP.regionV1 mixed; with_unfolding_all rfl; with_unfolding_all rfl; (with_unfolding_all (simp +decide (disch := first | decide | omega) only [go_sem, *]; rfl))))
          apply loopK_normal
          refine ⟨?_, ?_, rfl, k + 1, ?_, ?_, ?_⟩
          · simp +decide (disch := first | decide | omega) only [go_sem, *]
          · simp +decide (disch := first | decide | omega) only [go_sem, *]
          · simp +decide (disch := first | decide | omega) only [go_sem, *]; rfl
          · omega
          · intro j hj
            by_cases hjk : j = k
            · subst hjk; simp [winName, hgd, hbd]
            · exact hpre j (by omega)
          · simp +decide (disch := first | decide | omega) only [go_sem, *]; omega
  · have hkn : n < (k : Int) + 1 := by simpa using hb
    repeat' (with_reducible first | refine WP.seq ?_ | refine WP.skip ?_ | refine WP.label ?_ | refine WP.block ?_ | refine WP.exit ?_ | refine WP.ret ?_ | refine seqK_normal ?_ | refine seqK_exit ?_ | refine seqK_ret ?_ | refine loopK_exit ?_ | refine loopK_ret ?_ | refine blockK_normal ?_ | refine blockK_here ?_ | refine blockK_there (by decide) ?_ | refine blockK_ret ?_ | (apply WP.regionE; (with_unfolding_all (simp +decide (disch := first | decide | omega) only [go_sem, *]; rfl))) | (apply WP.regionV1 mixed; with_unfolding_all rfl; with_unfolding_all rfl; (with_unfolding_all (simp +decide (disch := first | decide | omega) only [go_sem, *]; rfl))))
    refine fnPost_pure 0 (by first | exact .inl rfl | exact .inr rfl) (by simp +decide (disch := first | decide | omega) only [go_sem, *]; rfl) (by simp +decide (disch := first | decide | omega) only [go_sem, *]; rfl) ?_
    have : wins n l = false := by
      simp only [wins, Bool.and_eq_false_iff]
      right
      simp only [List.any_eq_false, List.mem_range]
      intro j hj
      rw [hpre j (by omega)]
      simp
    rw [this]

end Go.Proofs.Ythfobbfechdoaaa
