/-
  Chapter 17: the law RecordRenames, walked.
-/
import Derived.Test.YthfobbfechdoaaaLaw
namespace Go.Proofs.Ythfobbfechdoaaa
open Go.HL

def ren (to : List Int) (x : Int) : Int := if 1 ≤ x ∧ x ≤ to.length then to.getD (x - 1).toNat 0 else x

theorem law_renamed (f g : Bool) (l to : List Int) (hl : l.length ≤ 1000000) : CallsP pg 24 [.sl f (ints l), .sl g (ints to)] (fun v => v = .sl false (ints (l.map (ren to)))) := by
  refine CallsP.of_wpW [] 46 fn24 rfl rfl ?_
  refine WP.abs (fun s => s 0 = .sl f (ints l) ∧ s 1 = .sl g (ints to)) ⟨rfl, rfl⟩ ?_
  rintro s ⟨h0, h1⟩
  refine WP.slLen h1 fun hlen => ?_
  rw [ints_length, maxLen] at hlen
  repeat' (with_reducible first | refine WP.seq ?_ | refine WP.skip ?_ | refine WP.label ?_ | refine WP.block ?_ | refine WP.exit ?_ | refine WP.ret ?_ | refine seqK_normal ?_ | refine seqK_exit ?_ | refine seqK_ret ?_ | refine loopK_exit ?_ | refine loopK_ret ?_ | refine blockK_normal ?_ | refine blockK_here ?_ | refine blockK_there (by decide) ?_ | refine blockK_ret ?_ | (apply WP.regionE; (with_unfolding_all (simp +decide (disch := first | decide | omega) only [go_sem, *]; rfl))) | (apply WP.regionV1 mixed; with_unfolding_all rfl; with_unfolding_all rfl; (with_unfolding_all (simp +decide (disch := first | decide | omega) only [go_sem, *]; rfl))))
  refine WP.loop (fun s h => s 0 = .sl f (ints l) ∧ s 1 = .sl g (ints to) ∧ ∃ i : Nat, s 6 = .int .i64 i ∧ i ≤ l.length ∧ OwnsL h [(s 5, 3, ints ((l.take i).map (ren to)))]) (fun s _ => l.length - (s 6).toInt.toNat) ⟨?_, ?_, 0, ?_, ?_, ?_⟩ ?_
  · simp +decide (disch := first | decide | omega) only [go_sem, *]
  · simp +decide (disch := first | decide | omega) only [go_sem, *]
  · simp +decide (disch := first | decide | omega) only [go_sem, *]; rfl
  · omega
  · simp +decide (disch := first | decide | omega) only [go_sem, *]
    exact ⟨by simp [ints, OwnAt], by simp⟩
  clear h0 h1 s
  rintro s h ⟨h0, h1, i, h6, hi, hL⟩
  repeat' (with_reducible first | refine WP.seq ?_ | refine WP.skip ?_ | refine WP.label ?_ | refine WP.block ?_ | refine WP.exit ?_ | refine WP.ret ?_ | refine seqK_normal ?_ | refine seqK_exit ?_ | refine seqK_ret ?_ | refine loopK_exit ?_ | refine loopK_ret ?_ | refine blockK_normal ?_ | refine blockK_here ?_ | refine blockK_there (by decide) ?_ | refine blockK_ret ?_ | (apply WP.regionE; (with_unfolding_all (simp +decide (disch := first | decide | omega) only [go_sem, *]; rfl))) | (apply WP.regionV1 mixed; with_unfolding_all rfl; with_unfolding_all rfl; (with_unfolding_all (simp +decide (disch := first | decide | omega) only [go_sem, *]; rfl))))
  refine WP.condB (by simp +decide (disch := first | decide | omega) only [go_sem, *]; rfl) (fun hb => ?_) (fun hb => ?_)
  · have hlt : i < l.length := by simpa using hb
    have hg := ints_get hlt
    have ht : (l.take (i + 1)).map (ren to) = (l.take i).map (ren to) ++ [ren to l[i]] := by rw [List.take_succ_eq_append_getElem hlt]; simp only [List.map_append, List.map_cons, List.map_nil]
    obtain ⟨q, hq, hL1⟩ := owns_int hL 0 rfl (y := .sl true [[.int .i64 (ren to l[i])]]) (ys := [ren to l[i]]) rfl (by simp; omega)
    by_cases c1 : 1 ≤ l[i]
    · by_cases c2 : l[i] ≤ (to.length : Int)
      · have hlt2 : (l[i] - 1).toNat < to.length := by omega
        have hg2 := ints_get hlt2
        have hr : ren to l[i] = to[(l[i] - 1).toNat] := by simp only [ren]; rw [if_pos ⟨c1, c2⟩, List.getD_eq_getElem?_getD, List.getElem?_eq_getElem hlt2]; rfl
        rw [hr] at hq
        have c3 : 0 ≤ l[i] - 1 := by omega
        have c4 : l[i] - 1 < (to.length : Int) := by omega
        have c5 : (l[i] - 1).toNat < to.length := by omega
        clear hr
        repeat' (with_reducible first | refine WP.seq ?_ | refine WP.skip ?_ | refine WP.label ?_ | refine WP.block ?_ | refine WP.exit ?_ | refine WP.ret ?_ | refine seqK_normal ?_ | refine seqK_exit ?_ | refine seqK_ret ?_ | refine loopK_exit ?_ | refine loopK_ret ?_ | refine blockK_normal ?_ | refine blockK_here ?_ | refine blockK_there (by decide) ?_ | refine blockK_ret ?_ | (apply WP.regionE; (with_unfolding_all (simp +decide (disch := first | decide | omega) only [go_sem, *]; rfl))) | (apply WP.regionV1 mixed; with_unfolding_all rfl; with_unfolding_all rfl; (with_unfolding_all (simp +decide (disch := first | decide | omega) only [go_sem, *]; rfl))))
        refine WP.condB (by simp +decide (disch := first | decide | omega) only [go_sem, *]; rfl) (fun hb => ?_) (fun hb => ?_)
        · repeat' (with_reducible first | refine WP.seq ?_ | refine WP.skip ?_ | refine WP.label ?_ | refine WP.block ?_ | refine WP.exit ?_ | refine WP.ret ?_ | refine seqK_normal ?_ | refine seqK_exit ?_ | refine seqK_ret ?_ | refine loopK_exit ?_ | refine loopK_ret ?_ | refine blockK_normal ?_ | refine blockK_here ?_ | refine blockK_there (by decide) ?_ | refine blockK_ret ?_ | (apply WP.regionE; (with_unfolding_all (simp +decide (disch := first | decide | omega) only [go_sem, *]; rfl))) | (apply WP.regionV1 mixed; with_unfolding_all rfl; with_unfolding_all rfl; (with_unfolding_all (simp +decide (disch := first | decide | omega) only [go_sem, *]; rfl))))
          refine loopK_normal ⟨?_, ?_, i + 1, ?_, ?_, ?_⟩ ?_
          · simp +decide (disch := first | decide | omega) only [go_sem, *]
          · simp +decide (disch := first | decide | omega) only [go_sem, *]
          · simp +decide (disch := first | decide | omega) only [go_sem, *]; rfl
          · omega
          · rw [ht]
            simp +decide (disch := first | decide | omega) only [go_sem, *]
            exact hL1
          · simp +decide (disch := first | decide | omega) only [go_sem, *]; omega
        · simp at hb
      · have hr : ren to l[i] = l[i] := by simp [ren, c2]
        rw [hr] at hq
        clear hr
        repeat' (with_reducible first | refine WP.seq ?_ | refine WP.skip ?_ | refine WP.label ?_ | refine WP.block ?_ | refine WP.exit ?_ | refine WP.ret ?_ | refine seqK_normal ?_ | refine seqK_exit ?_ | refine seqK_ret ?_ | refine loopK_exit ?_ | refine loopK_ret ?_ | refine blockK_normal ?_ | refine blockK_here ?_ | refine blockK_there (by decide) ?_ | refine blockK_ret ?_ | (apply WP.regionE; (with_unfolding_all (simp +decide (disch := first | decide | omega) only [go_sem, *]; rfl))) | (apply WP.regionV1 mixed; with_unfolding_all rfl; with_unfolding_all rfl; (with_unfolding_all (simp +decide (disch := first | decide | omega) only [go_sem, *]; rfl))))
        refine WP.condB (by simp +decide (disch := first | decide | omega) only [go_sem, *]; rfl) (fun hb => ?_) (fun hb => ?_)
        · simp at hb
        · repeat' (with_reducible first | refine WP.seq ?_ | refine WP.skip ?_ | refine WP.label ?_ | refine WP.block ?_ | refine WP.exit ?_ | refine WP.ret ?_ | refine seqK_normal ?_ | refine seqK_exit ?_ | refine seqK_ret ?_ | refine loopK_exit ?_ | refine loopK_ret ?_ | refine blockK_normal ?_ | refine blockK_here ?_ | refine blockK_there (by decide) ?_ | refine blockK_ret ?_ | (apply WP.regionE; (with_unfolding_all (simp +decide (disch := first | decide | omega) only [go_sem, *]; rfl))) | (apply WP.regionV1 mixed; with_unfolding_all rfl; with_unfolding_all rfl; (with_unfolding_all (simp +decide (disch := first | decide | omega) only [go_sem, *]; rfl))))
          refine loopK_normal ⟨?_, ?_, i + 1, ?_, ?_, ?_⟩ ?_
          · simp +decide (disch := first | decide | omega) only [go_sem, *]
          · simp +decide (disch := first | decide | omega) only [go_sem, *]
          · simp +decide (disch := first | decide | omega) only [go_sem, *]; rfl
          · omega
          · rw [ht]
            simp +decide (disch := first | decide | omega) only [go_sem, *]
            exact hL1
          · simp +decide (disch := first | decide | omega) only [go_sem, *]; omega
    · have hr : ren to l[i] = l[i] := by simp [ren, c1]
      rw [hr] at hq
      clear hr
      repeat' (with_reducible first | refine WP.seq ?_ | refine WP.skip ?_ | refine WP.label ?_ | refine WP.block ?_ | refine WP.exit ?_ | refine WP.ret ?_ | refine seqK_normal ?_ | refine seqK_exit ?_ | refine seqK_ret ?_ | refine loopK_exit ?_ | refine loopK_ret ?_ | refine blockK_normal ?_ | refine blockK_here ?_ | refine blockK_there (by decide) ?_ | refine blockK_ret ?_ | (apply WP.regionE; (with_unfolding_all (simp +decide (disch := first | decide | omega) only [go_sem, *]; rfl))) | (apply WP.regionV1 mixed; with_unfolding_all rfl; with_unfolding_all rfl; (with_unfolding_all (simp +decide (disch := first | decide | omega) only [go_sem, *]; rfl))))
      refine WP.condB (by simp +decide (disch := first | decide | omega) only [go_sem, *]; rfl) (fun hb => ?_) (fun hb => ?_)
      · simp at hb
      · repeat' (with_reducible first | refine WP.seq ?_ | refine WP.skip ?_ | refine WP.label ?_ | refine WP.block ?_ | refine WP.exit ?_ | refine WP.ret ?_ | refine seqK_normal ?_ | refine seqK_exit ?_ | refine seqK_ret ?_ | refine loopK_exit ?_ | refine loopK_ret ?_ | refine blockK_normal ?_ | refine blockK_here ?_ | refine blockK_there (by decide) ?_ | refine blockK_ret ?_ | (apply WP.regionE; (with_unfolding_all (simp +decide (disch := first | decide | omega) only [go_sem, *]; rfl))) | (apply WP.regionV1 mixed; with_unfolding_all rfl; with_unfolding_all rfl; (with_unfolding_all (simp +decide (disch := first | decide | omega) only [go_sem, *]; rfl))))
        refine loopK_normal ⟨?_, ?_, i + 1, ?_, ?_, ?_⟩ ?_
        · simp +decide (disch := first | decide | omega) only [go_sem, *]
        · simp +decide (disch := first | decide | omega) only [go_sem, *]
        · simp +decide (disch := first | decide | omega) only [go_sem, *]; rfl
        · omega
        · rw [ht]
          simp +decide (disch := first | decide | omega) only [go_sem, *]
          exact hL1
        · simp +decide (disch := first | decide | omega) only [go_sem, *]; omega
  · have hge : l.length ≤ i := by simpa using hb
    rw [List.take_of_length_le hge] at hL
    obtain ⟨fl, hrd⟩ := hL.read 0 rfl (ints_free _)
    repeat' (with_reducible first | refine WP.seq ?_ | refine WP.skip ?_ | refine WP.label ?_ | refine WP.block ?_ | refine WP.exit ?_ | refine WP.ret ?_ | refine seqK_normal ?_ | refine seqK_exit ?_ | refine seqK_ret ?_ | refine loopK_exit ?_ | refine loopK_ret ?_ | refine blockK_normal ?_ | refine blockK_here ?_ | refine blockK_there (by decide) ?_ | refine blockK_ret ?_ | (apply WP.regionE; (with_unfolding_all (simp +decide (disch := first | decide | omega) only [go_sem, *]; rfl))) | (apply WP.regionV1 mixed; with_unfolding_all rfl; with_unfolding_all rfl; (with_unfolding_all (simp +decide (disch := first | decide | omega) only [go_sem, *]; rfl))))
    refine fnPost_pure 1 (by first | exact .inl rfl | exact .inr rfl) (by simp +decide (disch := first | decide | omega) only [go_sem, *]; rfl) (by simp +decide (disch := first | decide | omega) only [go_sem, *]; rfl) ?_
    simp [wkV, wk1]

section
variable {to : List Int} (hv : valid to to.length = true)
include hv

theorem to_in {i : Nat} (h : i < to.length) : 1 ≤ to[i] ∧ to[i] ≤ (to.length : Int) := valid_get hv h

omit hv in
theorem ren_at {x : Int} (h : 1 ≤ x ∧ x ≤ (to.length : Int)) : ∃ (i : Nat) (hi : i < to.length), x = (i : Int) + 1 ∧ ren to x = to[i] := by
  refine ⟨(x - 1).toNat, by omega, by omega, ?_⟩
  simp only [ren]
  rw [if_pos h, List.getD_eq_getElem?_getD, List.getElem?_eq_getElem (by omega)]
  rfl

theorem ren_in {x : Int} : (1 ≤ ren to x ∧ ren to x ≤ (to.length : Int)) ↔ (1 ≤ x ∧ x ≤ (to.length : Int)) := by
  by_cases h : 1 ≤ x ∧ x ≤ (to.length : Int)
  · obtain ⟨i, hi, _, e⟩ := ren_at h
    rw [e]
    exact ⟨fun _ => h, fun _ => to_in hv hi⟩
  · simp only [ren]
    rw [if_neg h]

theorem ren_inj {x y : Int} (h : ren to x = ren to y) : x = y := by
  by_cases hx : 1 ≤ x ∧ x ≤ (to.length : Int)
  · have hy : 1 ≤ y ∧ y ≤ (to.length : Int) := by rw [← ren_in hv, ← h, ren_in hv]; exact hx
    obtain ⟨i, hi, e1, e2⟩ := ren_at hx
    obtain ⟨j, hj, e3, e4⟩ := ren_at hy
    rw [e2, e4] at h
    have hn : to.Nodup := by simp only [valid, decide_eq_true_eq] at hv; exact hv.2.2.2.2
    have := (List.getElem_inj hn).1 h
    omega
  · have hy : ¬ (1 ≤ y ∧ y ≤ (to.length : Int)) := by rw [← ren_in hv, ← h, ren_in hv]; exact hx
    simp only [ren] at h
    rwa [if_neg hx, if_neg hy] at h

theorem ren_mem {x : Int} {l : List Int} : ren to x ∈ l.map (ren to) ↔ x ∈ l := by
  rw [List.mem_map]
  exact ⟨fun ⟨y, hy, e⟩ => ren_inj hv e ▸ hy, fun h => ⟨x, h, rfl⟩⟩

theorem ren_surj {y : Int} (h : 1 ≤ y ∧ y ≤ (to.length : Int)) : ∃ x, (1 ≤ x ∧ x ≤ (to.length : Int)) ∧ ren to x = y := by
  have hv' := hv
  simp only [valid, decide_eq_true_eq] at hv'
  have hp : to.Perm (startL to.length) := perm_of hv'.2.2.2.2 (fun x hx => (startL_mem hv'.2.1).2 (hv'.2.2.2.1 x hx)) (by rw [startL_length hv'.2.1]; simp)
  have hm : y ∈ to := hp.mem_iff.2 ((startL_mem hv'.2.1).2 h)
  obtain ⟨i, hi, rfl⟩ := List.getElem_of_mem hm
  refine ⟨(i : Int) + 1, by omega, ?_⟩
  obtain ⟨j, hj, e1, e2⟩ := ren_at (to := to) (x := (i : Int) + 1) (by omega)
  have : i = j := by omega
  subst this
  exact e2

def evR (to : List Int) (e : Ev) : Ev := ⟨e.good.map (ren to), e.bad.map (ren to), false, false⟩

theorem prio_ren (e : Ev) : ∀ r : List Int, prio (evR to e) (r.map (ren to)) = prio e r
  | [] => rfl
  | x :: r => by
    simp only [List.map_cons, prio, evR, ren_mem hv]
    have := prio_ren e r
    simp only [evR] at this
    rw [this]

theorem front_ren (e : Ev) (r : List Int) : front (evR to e) (r.map (ren to)) = (front e r).map (ren to) := by
  simp only [front, List.filter_map]
  congr 1
  apply List.filter_congr
  intro x _
  have := ren_mem hv (x := x) (l := e.bad)
  simp only [Function.comp, evR]
  by_cases h : x ∈ e.bad
  · simp [h, this.2 h]
  · have h2 : ¬ ren to x ∈ e.bad.map (ren to) := fun hm => h (this.1 hm)
    rw [List.contains_eq_mem, List.contains_eq_mem, decide_eq_false h, decide_eq_false h2]

theorem back_ren (e : Ev) (r : List Int) : back (evR to e) (r.map (ren to)) = (back e r).map (ren to) := by
  simp only [back, List.filter_map]
  congr 1
  apply List.filter_congr
  intro x _
  have := ren_mem hv (x := x) (l := e.bad)
  simp only [Function.comp, evR]
  by_cases h : x ∈ e.bad
  · simp [h, this.2 h]
  · have h2 : ¬ ren to x ∈ e.bad.map (ren to) := fun hm => h (this.1 hm)
    rw [List.contains_eq_mem, List.contains_eq_mem, decide_eq_false h, decide_eq_false h2]

theorem valid_ren {r : List Int} (hr : r.length = to.length) (h : valid r r.length = true) : valid (r.map (ren to)) r.length = true := by
  simp only [valid, decide_eq_true_eq] at h ⊢
  refine ⟨h.1, h.2.1, by simp, fun x hx => ?_, ?_⟩
  · obtain ⟨y, hy, rfl⟩ := List.mem_map.1 hx
    rw [hr]
    exact (ren_in hv).2 (hr ▸ h.2.2.2.1 y hy)
  · exact (List.pairwise_map.2 (h.2.2.2.2.imp fun hne e => hne (ren_inj hv e)))

theorem step_ren {r : List Int} (e : Ev) (hr : r.length = to.length) (h : valid r r.length = true) : stepF (r.map (ren to)) (evR to e) = ((front e r ++ back e r).map (ren to), prio e r) := by
  unfold stepF
  rw [List.length_map, valid_ren hv hr h, if_pos rfl, prio_ren hv, front_ren hv, back_ren hv, List.map_append]

theorem wins_ren (l : List Ev) : wins to.length (l.map (evR to)) = wins to.length l := by
  have hg : ∀ x, gd (l.map (evR to)) (ren to x) = gd l x := fun x => by
    simp only [gd, List.any_map, Function.comp_def]
    congr 1
    funext e
    rw [List.contains_eq_mem, List.contains_eq_mem]
    exact decide_eq_decide.2 (ren_mem hv)
  have hb : ∀ x, bd (l.map (evR to)) (ren to x) = bd l x := fun x => by
    simp only [bd, List.any_map, Function.comp_def]
    congr 1
    funext e
    rw [List.contains_eq_mem, List.contains_eq_mem]
    exact decide_eq_decide.2 (ren_mem hv)
  have key : ∀ m : List Ev, wins to.length m = true ↔ (to.length : Int) ≤ 6000 ∧ ∃ x, (1 ≤ x ∧ x ≤ (to.length : Int)) ∧ winName m x = true := fun m => by
    simp only [wins, Bool.and_eq_true, decide_eq_true_eq, List.any_eq_true, List.mem_range]
    constructor
    · rintro ⟨h1, i, hi, h2⟩
      exact ⟨h1.2, _, by omega, h2⟩
    · rintro ⟨h1, x, hx, h2⟩
      exact ⟨by omega, (x - 1).toNat, by omega, by rw [show ((x - 1).toNat : Int) + 1 = x by omega]; exact h2⟩
  apply Bool.eq_iff_iff.2
  rw [key, key]
  constructor
  · rintro ⟨h1, y, hy, h2⟩
    obtain ⟨x, hx, rfl⟩ := ren_surj hv hy
    exact ⟨h1, x, hx, by rw [winName, hg, hb] at h2; exact h2⟩
  · rintro ⟨h1, x, hx, h2⟩
    exact ⟨h1, ren to x, (ren_in hv).2 hx, by rw [winName, hg, hb]; exact h2⟩

end

end Go.Proofs.Ythfobbfechdoaaa
