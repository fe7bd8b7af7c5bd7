/-
  Chapter 17: what the reference's functions compute.
-/
import Derived.Test.YthfobbfechdoaaaFacts
namespace Go.Proofs.Ythfobbfechdoaaa
open Go.HL



theorem ref_In (full : Bool) (l : List Int) (n : Int) : CallsP pg 22 [.sl full (ints l), .int .i64 n] (fun r => r = .bool (l.contains n)) := by
  refine CallsP.of_wpN [] 18 fn22 rfl rfl ?_
  refine WP.abs (fun e => e 0 = .sl full (ints l) ∧ e 1 = .int .i64 n) ⟨rfl, rfl⟩ ?_
  rintro e ⟨h0, h1⟩
  refine WP.slLen h0 fun hlen => ?_
  rw [ints_length, maxLen] at hlen
  repeat' (with_reducible first | refine WP.seq ?_ | refine WP.skip ?_ | refine WP.label ?_ | refine WP.block ?_ | refine WP.exit ?_ | refine WP.ret ?_ | refine seqK_normal ?_ | refine seqK_exit ?_ | refine seqK_ret ?_ | refine loopK_exit ?_ | refine loopK_ret ?_ | refine blockK_normal ?_ | refine blockK_here ?_ | refine blockK_there (by decide) ?_ | refine blockK_ret ?_ | (apply WP.regionE; (with_unfolding_all (simp +decide (disch := first | decide | omega) only [go_sem, *]; rfl))) | (apply WP.regionV1 mixed; with_unfolding_all rfl; with_unfolding_all rfl; (with_unfolding_all (simp +decide (disch := first | decide | omega) only [go_sem, *]; rfl))))
  refine WP.loop (fun e h => e 0 = .sl full (ints l) ∧ e 1 = .int .i64 n ∧ h = [] ∧ ∃ i : Nat, e 5 = .int .i64 i ∧ i ≤ l.length ∧ ∀ j, j < i → l[j]? ≠ some n) (fun e _ => l.length - (e 5).toInt.toNat) ⟨?_, ?_, rfl, 0, ?_, ?_, ?_⟩ ?_
  · simp +decide (disch := first | decide | omega) only [go_sem, *]
  · simp +decide (disch := first | decide | omega) only [go_sem, *]
  · simp +decide (disch := first | decide | omega) only [go_sem, *]; rfl
  · omega
  · intro j hj; omega
  clear h0 h1 e
  rintro e h ⟨h0, h1, rfl, i, h5, hi, hpre⟩
  repeat' (with_reducible first | refine WP.seq ?_ | refine WP.skip ?_ | refine WP.label ?_ | refine WP.block ?_ | refine WP.exit ?_ | refine WP.ret ?_ | refine seqK_normal ?_ | refine seqK_exit ?_ | refine seqK_ret ?_ | refine loopK_exit ?_ | refine loopK_ret ?_ | refine blockK_normal ?_ | refine blockK_here ?_ | refine blockK_there (by decide) ?_ | refine blockK_ret ?_ | (apply WP.regionE; (with_unfolding_all (simp +decide (disch := first | decide | omega) only [go_sem, *]; rfl))) | (apply WP.regionV1 mixed; with_unfolding_all rfl; with_unfolding_all rfl; (with_unfolding_all (simp +decide (disch := first | decide | omega) only [go_sem, *]; rfl))))
  refine WP.condB (by simp +decide (disch := first | decide | omega) only [go_sem, *]; rfl) (fun hb => ?_) (fun hb => ?_)
  · have hlt : i < l.length := by simpa using hb
    have hg := ints_get hlt
    repeat' (with_reducible first | refine WP.seq ?_ | refine WP.skip ?_ | refine WP.label ?_ | refine WP.block ?_ | refine WP.exit ?_ | refine WP.ret ?_ | refine seqK_normal ?_ | refine seqK_exit ?_ | refine seqK_ret ?_ | refine loopK_exit ?_ | refine loopK_ret ?_ | refine blockK_normal ?_ | refine blockK_here ?_ | refine blockK_there (by decide) ?_ | refine blockK_ret ?_ | (apply WP.regionE; (with_unfolding_all (simp +decide (disch := first | decide | omega) only [go_sem, *]; rfl))) | (apply WP.regionV1 mixed; with_unfolding_all rfl; with_unfolding_all rfl; (with_unfolding_all (simp +decide (disch := first | decide | omega) only [go_sem, *]; rfl))))
    refine WP.condB (by simp +decide (disch := first | decide | omega) only [go_sem, *]; rfl) (fun hb => ?_) (fun hb => ?_)
    · have e1 : l[i] = n := by simpa using hb
      repeat' (with_reducible first | refine WP.seq ?_ | refine WP.skip ?_ | refine WP.label ?_ | refine WP.block ?_ | refine WP.exit ?_ | refine WP.ret ?_ | refine seqK_normal ?_ | refine seqK_exit ?_ | refine seqK_ret ?_ | refine loopK_exit ?_ | refine loopK_ret ?_ | refine blockK_normal ?_ | refine blockK_here ?_ | refine blockK_there (by decide) ?_ | refine blockK_ret ?_ | (apply WP.regionE; (with_unfolding_all (simp +decide (disch := first | decide | omega) only [go_sem, *]; rfl))) | (apply WP.regionV1 mixed; with_unfolding_all rfl; with_unfolding_all rfl; (with_unfolding_all (simp +decide (disch := first | decide | omega) only [go_sem, *]; rfl))))
      refine fnPost_pure 0 (by first | exact .inl rfl | exact .inr rfl) (by simp +decide (disch := first | decide | omega) only [go_sem, *]; rfl) (by simp +decide (disch := first | decide | omega) only [go_sem, *]; rfl) ?_
      simp [← e1]
    · repeat' (with_reducible first | refine WP.seq ?_ | refine WP.skip ?_ | refine WP.label ?_ | refine WP.block ?_ | refine WP.exit ?_ | refine WP.ret ?_ | refine seqK_normal ?_ | refine seqK_exit ?_ | refine seqK_ret ?_ | refine loopK_exit ?_ | refine loopK_ret ?_ | refine blockK_normal ?_ | refine blockK_here ?_ | refine blockK_there (by decide) ?_ | refine blockK_ret ?_ | (apply WP.regionE; (with_unfolding_all (simp +decide (disch := first | decide | omega) only [go_sem, *]; rfl))) | (apply WP.regionV1 mixed; with_unfolding_all rfl; with_unfolding_all rfl; (with_unfolding_all (simp +decide (disch := first | decide | omega) only [go_sem, *]; rfl))))
      refine loopK_normal ⟨?_, ?_, rfl, i + 1, ?_, ?_, ?_⟩ ?_
      · simp +decide (disch := first | decide | omega) only [go_sem, *]
      · simp +decide (disch := first | decide | omega) only [go_sem, *]
      · simp +decide (disch := first | decide | omega) only [go_sem, *]; rfl
      · omega
      · intro j hj
        by_cases hji : j = i
        · subst hji; simpa [hlt] using hb
        · exact hpre j (by omega)
      · simp +decide (disch := first | decide | omega) only [go_sem, *]; omega
  · have hge : l.length ≤ i := by simpa using hb
    repeat' (with_reducible first | refine WP.seq ?_ | refine WP.skip ?_ | refine WP.label ?_ | refine WP.block ?_ | refine WP.exit ?_ | refine WP.ret ?_ | refine seqK_normal ?_ | refine seqK_exit ?_ | refine seqK_ret ?_ | refine loopK_exit ?_ | refine loopK_ret ?_ | refine blockK_normal ?_ | refine blockK_here ?_ | refine blockK_there (by decide) ?_ | refine blockK_ret ?_ | (apply WP.regionE; (with_unfolding_all (simp +decide (disch := first | decide | omega) only [go_sem, *]; rfl))) | (apply WP.regionV1 mixed; with_unfolding_all rfl; with_unfolding_all rfl; (with_unfolding_all (simp +decide (disch := first | decide | omega) only [go_sem, *]; rfl))))
    refine fnPost_pure 0 (by first | exact .inl rfl | exact .inr rfl) (by simp +decide (disch := first | decide | omega) only [go_sem, *]; rfl) (by simp +decide (disch := first | decide | omega) only [go_sem, *]; rfl) ?_
    congr 1
    symm
    rw [List.contains_eq_mem, decide_eq_false_iff_not]
    intro hm
    obtain ⟨j, hj, e⟩ := List.getElem_of_mem hm
    exact hpre j (by omega) (by rw [List.getElem?_eq_getElem hj, e])

/-- An event, with what is known of its slices' capacities. -/
structure Ev where
  good : List Int
  bad : List Int
  f : Bool
  g : Bool

def evC (e : Ev) : List HV := [.sl e.f (ints e.good), .sl e.g (ints e.bad)]

theorem evC_length (e : Ev) : (evC e).length = 2 := rfl
theorem evC_one (e : Ev) : (evC e).all HV.one = true := rfl
theorem evC_drop0 (e : Ev) : (evC e).drop 0 = evC e := rfl
theorem evC_drop1 (e : Ev) : (evC e).drop 1 = [.sl e.g (ints e.bad)] := rfl
theorem evC_0 (e : Ev) : (evC e)[0]? = some (.sl e.f (ints e.good)) := rfl
theorem evC_1 (e : Ev) : (evC e)[1]? = some (.sl e.g (ints e.bad)) := rfl
attribute [go_sem] evC_length evC_one evC_0 evC_1

def short (e : Ev) : Bool := decide (e.good.length ≤ 40) && decide (e.bad.length ≤ 40)

theorem ref_Short (e : Ev) : CallsP pg 10 [.agg (evC e)] (fun r => r = .bool (short e)) := by
  refine CallsP.of_wpN [] 13 fn10 rfl rfl ?_
  refine WP.abs (fun s => s 0 = .agg (evC e)) rfl ?_
  rintro s h0
  by_cases hg : (e.good.length : Int) ≤ 40
  · repeat' (with_reducible first | refine WP.seq ?_ | refine WP.skip ?_ | refine WP.label ?_ | refine WP.block ?_ | refine WP.exit ?_ | refine WP.ret ?_ | refine seqK_normal ?_ | refine seqK_exit ?_ | refine seqK_ret ?_ | refine loopK_exit ?_ | refine loopK_ret ?_ | refine blockK_normal ?_ | refine blockK_here ?_ | refine blockK_there (by decide) ?_ | refine blockK_ret ?_ | (apply WP.regionE; (with_unfolding_all (simp +decide (disch := first | decide | omega) only [go_sem, *]; rfl))) | (apply WP.regionV1 mixed; with_unfolding_all rfl; with_unfolding_all rfl; (with_unfolding_all (simp +decide (disch := first | decide | omega) only [go_sem, *]; rfl))))
    refine fnPost_pure 0 (by first | exact .inl rfl | exact .inr rfl) (by simp +decide (disch := first | decide | omega) only [go_sem, *]; rfl) (by simp +decide (disch := first | decide | omega) only [go_sem, *]; rfl) ?_
    have : e.good.length ≤ 40 := by omega
    simp [short, this]
    omega
  · repeat' (with_reducible first | refine WP.seq ?_ | refine WP.skip ?_ | refine WP.label ?_ | refine WP.block ?_ | refine WP.exit ?_ | refine WP.ret ?_ | refine seqK_normal ?_ | refine seqK_exit ?_ | refine seqK_ret ?_ | refine loopK_exit ?_ | refine loopK_ret ?_ | refine blockK_normal ?_ | refine blockK_here ?_ | refine blockK_there (by decide) ?_ | refine blockK_ret ?_ | (apply WP.regionE; (with_unfolding_all (simp +decide (disch := first | decide | omega) only [go_sem, *]; rfl))) | (apply WP.regionV1 mixed; with_unfolding_all rfl; with_unfolding_all rfl; (with_unfolding_all (simp +decide (disch := first | decide | omega) only [go_sem, *]; rfl))))
    refine fnPost_pure 0 (by first | exact .inl rfl | exact .inr rfl) (by simp +decide (disch := first | decide | omega) only [go_sem, *]; rfl) (by simp +decide (disch := first | decide | omega) only [go_sem, *]; rfl) ?_
    have : ¬ e.good.length ≤ 40 := by omega
    simp [short, this]

def evs (l : List Ev) : List (List HV) := l.map evC

theorem evs_length (l : List Ev) : (evs l).length = l.length := by simp [evs]
theorem evs_get {l : List Ev} {i : Nat} (h : i < l.length) : (evs l)[i]? = some (evC l[i]) := by simp [evs, h]
theorem evC_free (e : Ev) : HV.freeL (evC e) = true := by simp [evC, HV.freeL, HV.free, ints_free]
theorem evs_free (l : List Ev) : HV.freeLL (evs l) = true := by
  rw [freeLL_all]
  simp only [evs, List.all_map, List.all_eq_true]
  intro e _
  have := evC_free e
  rw [freeL_all] at this
  simpa using this
theorem evC_take (e : Ev) : (evC e).take 2 = evC e := rfl
attribute [go_sem] evs_length evC_free evs_free evC_take

theorem ref_AllShort (full : Bool) (l : List Ev) : CallsP pg 11 [.sl full (evs l)] (fun r => r = .bool (decide (l.length ≤ 20) && l.all short)) := by
  refine CallsP.of_wpN [] 21 fn11 rfl rfl ?_
  refine WP.abs (fun s => s 0 = .sl full (evs l)) rfl ?_
  rintro s h0
  refine WP.slLen h0 fun hlen => ?_
  rw [evs_length, maxLen] at hlen
  repeat' (with_reducible first | refine WP.seq ?_ | refine WP.skip ?_ | refine WP.label ?_ | refine WP.block ?_ | refine WP.exit ?_ | refine WP.ret ?_ | refine seqK_normal ?_ | refine seqK_exit ?_ | refine seqK_ret ?_ | refine loopK_exit ?_ | refine loopK_ret ?_ | refine blockK_normal ?_ | refine blockK_here ?_ | refine blockK_there (by decide) ?_ | refine blockK_ret ?_ | (apply WP.regionE; (with_unfolding_all (simp +decide (disch := first | decide | omega) only [go_sem, *]; rfl))) | (apply WP.regionV1 mixed; with_unfolding_all rfl; with_unfolding_all rfl; (with_unfolding_all (simp +decide (disch := first | decide | omega) only [go_sem, *]; rfl))))
  refine WP.condB (by simp +decide (disch := first | decide | omega) only [go_sem, *]; rfl) (fun hb => ?_) (fun hb => ?_)
  · repeat' (with_reducible first | refine WP.seq ?_ | refine WP.skip ?_ | refine WP.label ?_ | refine WP.block ?_ | refine WP.exit ?_ | refine WP.ret ?_ | refine seqK_normal ?_ | refine seqK_exit ?_ | refine seqK_ret ?_ | refine loopK_exit ?_ | refine loopK_ret ?_ | refine blockK_normal ?_ | refine blockK_here ?_ | refine blockK_there (by decide) ?_ | refine blockK_ret ?_ | (apply WP.regionE; (with_unfolding_all (simp +decide (disch := first | decide | omega) only [go_sem, *]; rfl))) | (apply WP.regionV1 mixed; with_unfolding_all rfl; with_unfolding_all rfl; (with_unfolding_all (simp +decide (disch := first | decide | omega) only [go_sem, *]; rfl))))
    refine fnPost_pure 0 (by first | exact .inl rfl | exact .inr rfl) (by simp +decide (disch := first | decide | omega) only [go_sem, *]; rfl) (by simp +decide (disch := first | decide | omega) only [go_sem, *]; rfl) ?_
    have : ¬ l.length ≤ 20 := by simp at hb; omega
    simp [this]
  repeat' (with_reducible first | refine WP.seq ?_ | refine WP.skip ?_ | refine WP.label ?_ | refine WP.block ?_ | refine WP.exit ?_ | refine WP.ret ?_ | refine seqK_normal ?_ | refine seqK_exit ?_ | refine seqK_ret ?_ | refine loopK_exit ?_ | refine loopK_ret ?_ | refine blockK_normal ?_ | refine blockK_here ?_ | refine blockK_there (by decide) ?_ | refine blockK_ret ?_ | (apply WP.regionE; (with_unfolding_all (simp +decide (disch := first | decide | omega) only [go_sem, *]; rfl))) | (apply WP.regionV1 mixed; with_unfolding_all rfl; with_unfolding_all rfl; (with_unfolding_all (simp +decide (disch := first | decide | omega) only [go_sem, *]; rfl))))
  refine WP.loop (fun e h => e 0 = .sl full (evs l) ∧ h = [] ∧ ∃ i : Nat, e 3 = .int .i64 i ∧ i ≤ l.length ∧ (l.take i).all short = true) (fun e _ => l.length - (e 3).toInt.toNat) ⟨?_, rfl, 0, ?_, ?_, ?_⟩ ?_
  · simp +decide (disch := first | decide | omega) only [go_sem, *]
  · simp +decide (disch := first | decide | omega) only [go_sem, *]; rfl
  · omega
  · rfl
  have hl20 : l.length ≤ 20 := by simp at hb; omega
  clear h0 s hb
  rintro s h ⟨h0, rfl, i, h3, hi, hpre⟩
  repeat' (with_reducible first | refine WP.seq ?_ | refine WP.skip ?_ | refine WP.label ?_ | refine WP.block ?_ | refine WP.exit ?_ | refine WP.ret ?_ | refine seqK_normal ?_ | refine seqK_exit ?_ | refine seqK_ret ?_ | refine loopK_exit ?_ | refine loopK_ret ?_ | refine blockK_normal ?_ | refine blockK_here ?_ | refine blockK_there (by decide) ?_ | refine blockK_ret ?_ | (apply WP.regionE; (with_unfolding_all (simp +decide (disch := first | decide | omega) only [go_sem, *]; rfl))) | (apply WP.regionV1 mixed; with_unfolding_all rfl; with_unfolding_all rfl; (with_unfolding_all (simp +decide (disch := first | decide | omega) only [go_sem, *]; rfl))))
  refine WP.condB (by simp +decide (disch := first | decide | omega) only [go_sem, *]; rfl) (fun hb => ?_) (fun hb => ?_)
  · have hlt : i < l.length := by simpa using hb
    have hg := evs_get hlt
    repeat' (with_reducible first | refine WP.seq ?_ | refine WP.skip ?_ | refine WP.label ?_ | refine WP.block ?_ | refine WP.exit ?_ | refine WP.ret ?_ | refine seqK_normal ?_ | refine seqK_exit ?_ | refine seqK_ret ?_ | refine loopK_exit ?_ | refine loopK_ret ?_ | refine blockK_normal ?_ | refine blockK_here ?_ | refine blockK_there (by decide) ?_ | refine blockK_ret ?_ | (apply WP.regionE; (with_unfolding_all (simp +decide (disch := first | decide | omega) only [go_sem, *]; rfl))) | (apply WP.regionV1 mixed; with_unfolding_all rfl; with_unfolding_all rfl; (with_unfolding_all (simp +decide (disch := first | decide | omega) only [go_sem, *]; rfl))) | (apply WP.regionX; with_unfolding_all rfl; (with_unfolding_all (simp +decide (disch := first | decide | omega) only [go_sem, *]; rfl))) | (apply WP.regionVX mixed; with_unfolding_all rfl; with_unfolding_all rfl; with_unfolding_all rfl; (with_unfolding_all (simp +decide (disch := first | decide | omega) only [go_sem, *]; rfl))) | (apply opsT.skipG; (focus (simp +decide (disch := first | decide | omega) only [go_sem, *]; done))) | (apply opsT.call; (with_unfolding_all (simp +decide (disch := first | decide | omega) only [go_sem, *]; rfl)); (focus (simp +decide (disch := first | decide | omega) only [go_sem, *]; done)); (with_unfolding_all (simp +decide (disch := first | decide | omega) only [go_sem, *]; rfl))) | (apply opsT.callG; (focus (simp +decide (disch := first | decide | omega) only [go_sem, *]; done)); (with_unfolding_all (simp +decide (disch := first | decide | omega) only [go_sem, *]; rfl)); (focus (simp +decide (disch := first | decide | omega) only [go_sem, *]; done)); (with_unfolding_all (simp +decide (disch := first | decide | omega) only [go_sem, *]; rfl))) | (apply opsT.moreX; with_unfolding_all rfl; (with_unfolding_all (simp +decide (disch := first | decide | omega) only [go_sem, *]; rfl))) | (apply opsT.fin; (with_unfolding_all (simp +decide (disch := first | decide | omega) only [go_sem, *]; rfl))) | (apply opsV.skipG; (focus (simp +decide (disch := first | decide | omega) only [go_sem, *]; done))) | (apply opsV.call; (with_unfolding_all (simp +decide (disch := first | decide | omega) only [go_sem, *]; rfl)); (focus (simp +decide (disch := first | decide | omega) only [go_sem, *]; done)); (with_unfolding_all (simp +decide (disch := first | decide | omega) only [go_sem, *]; rfl)); exact (ref_Short ..); (focus (simp +decide (disch := first | decide | omega) only [go_sem, *]; done))) | (apply opsV.callG; (focus (simp +decide (disch := first | decide | omega) only [go_sem, *]; done)); (with_unfolding_all (simp +decide (disch := first | decide | omega) only [go_sem, *]; rfl)); (focus (simp +decide (disch := first | decide | omega) only [go_sem, *]; done)); (with_unfolding_all (simp +decide (disch := first | decide | omega) only [go_sem, *]; rfl)); exact (ref_Short ..); (focus (simp +decide (disch := first | decide | omega) only [go_sem, *]; done))) | (apply opsV.moreX; with_unfolding_all rfl; with_unfolding_all rfl; (with_unfolding_all (simp +decide (disch := first | decide | omega) only [go_sem, *]; rfl))) | (apply opsV.fin; with_unfolding_all rfl; (with_unfolding_all (simp +decide (disch := first | decide | omega) only [go_sem, *]; rfl))) | (apply CallsP.eq (ref_Short ..); (focus (simp +decide (disch := first | decide | omega) only [go_sem, *]; done))))
    cases hs : short l[i] with
    | true =>
      refine WP.condB (by simp +decide (disch := first | decide | omega) only [go_sem, *]; rfl) (fun hb => ?_) (fun hb => ?_)
      · simp at hb
      · repeat' (with_reducible first | refine WP.seq ?_ | refine WP.skip ?_ | refine WP.label ?_ | refine WP.block ?_ | refine WP.exit ?_ | refine WP.ret ?_ | refine seqK_normal ?_ | refine seqK_exit ?_ | refine seqK_ret ?_ | refine loopK_exit ?_ | refine loopK_ret ?_ | refine blockK_normal ?_ | refine blockK_here ?_ | refine blockK_there (by decide) ?_ | refine blockK_ret ?_ | (apply WP.regionE; (with_unfolding_all (simp +decide (disch := first | decide | omega) only [go_sem, *]; rfl))) | (apply WP.regionV1 mixed; with_unfolding_all rfl; with_unfolding_all rfl; (with_unfolding_all (simp +decide (disch := first | decide | omega) only [go_sem, *]; rfl))))
        refine loopK_normal ⟨?_, rfl, i + 1, ?_, ?_, ?_⟩ ?_
        · simp +decide (disch := first | decide | omega) only [go_sem, *]
        · simp +decide (disch := first | decide | omega) only [go_sem, *]; rfl
        · omega
        · rw [List.take_succ_eq_append_getElem hlt, List.all_append, hpre]; simp [hs]
        · simp +decide (disch := first | decide | omega) only [go_sem, *]; omega
    | false =>
      refine WP.condB (by simp +decide (disch := first | decide | omega) only [go_sem, *]; rfl) (fun hb => ?_) (fun hb => ?_)
      · repeat' (with_reducible first | refine WP.seq ?_ | refine WP.skip ?_ | refine WP.label ?_ | refine WP.block ?_ | refine WP.exit ?_ | refine WP.ret ?_ | refine seqK_normal ?_ | refine seqK_exit ?_ | refine seqK_ret ?_ | refine loopK_exit ?_ | refine loopK_ret ?_ | refine blockK_normal ?_ | refine blockK_here ?_ | refine blockK_there (by decide) ?_ | refine blockK_ret ?_ | (apply WP.regionE; (with_unfolding_all (simp +decide (disch := first | decide | omega) only [go_sem, *]; rfl))) | (apply WP.regionV1 mixed; with_unfolding_all rfl; with_unfolding_all rfl; (with_unfolding_all (simp +decide (disch := first | decide | omega) only [go_sem, *]; rfl))))
        refine fnPost_pure 0 (by first | exact .inl rfl | exact .inr rfl) (by simp +decide (disch := first | decide | omega) only [go_sem, *]; rfl) (by simp +decide (disch := first | decide | omega) only [go_sem, *]; rfl) ?_
        have : l.all short = false := by
          rw [List.all_eq_false]
          exact ⟨l[i], List.getElem_mem hlt, by simp [hs]⟩
        simp [this]
      · simp at hb
  · have hge : l.length ≤ i := by simpa using hb
    repeat' (with_reducible first | refine WP.seq ?_ | refine WP.skip ?_ | refine WP.label ?_ | refine WP.block ?_ | refine WP.exit ?_ | refine WP.ret ?_ | refine seqK_normal ?_ | refine seqK_exit ?_ | refine seqK_ret ?_ | refine loopK_exit ?_ | refine loopK_ret ?_ | refine blockK_normal ?_ | refine blockK_here ?_ | refine blockK_there (by decide) ?_ | refine blockK_ret ?_ | (apply WP.regionE; (with_unfolding_all (simp +decide (disch := first | decide | omega) only [go_sem, *]; rfl))) | (apply WP.regionV1 mixed; with_unfolding_all rfl; with_unfolding_all rfl; (with_unfolding_all (simp +decide (disch := first | decide | omega) only [go_sem, *]; rfl))))
    refine fnPost_pure 0 (by first | exact .inl rfl | exact .inr rfl) (by simp +decide (disch := first | decide | omega) only [go_sem, *]; rfl) (by simp +decide (disch := first | decide | omega) only [go_sem, *]; rfl) ?_
    rw [List.take_of_length_le hge] at hpre
    simp [hpre, hl20]

theorem ref_Ints (f g : Bool) (a b : List Int) : CallsP pg 14 [.sl f (ints a), .sl g (ints b)] (fun r => r = .bool (decide (a = b))) := by
  refine CallsP.of_wpN [] 26 fn14 rfl rfl ?_
  refine WP.abs (fun s => s 0 = .sl f (ints a) ∧ s 1 = .sl g (ints b)) ⟨rfl, rfl⟩ ?_
  rintro s ⟨h0, h1⟩
  refine WP.slLen h0 fun hlen => ?_
  rw [ints_length, maxLen] at hlen
  repeat' (with_reducible first | refine WP.seq ?_ | refine WP.skip ?_ | refine WP.label ?_ | refine WP.block ?_ | refine WP.exit ?_ | refine WP.ret ?_ | refine seqK_normal ?_ | refine seqK_exit ?_ | refine seqK_ret ?_ | refine loopK_exit ?_ | refine loopK_ret ?_ | refine blockK_normal ?_ | refine blockK_here ?_ | refine blockK_there (by decide) ?_ | refine blockK_ret ?_ | (apply WP.regionE; (with_unfolding_all (simp +decide (disch := first | decide | omega) only [go_sem, *]; rfl))) | (apply WP.regionV1 mixed; with_unfolding_all rfl; with_unfolding_all rfl; (with_unfolding_all (simp +decide (disch := first | decide | omega) only [go_sem, *]; rfl))))
  refine WP.condB (by simp +decide (disch := first | decide | omega) only [go_sem, *]; rfl) (fun hb => ?_) (fun hb => ?_)
  · repeat' (with_reducible first | refine WP.seq ?_ | refine WP.skip ?_ | refine WP.label ?_ | refine WP.block ?_ | refine WP.exit ?_ | refine WP.ret ?_ | refine seqK_normal ?_ | refine seqK_exit ?_ | refine seqK_ret ?_ | refine loopK_exit ?_ | refine loopK_ret ?_ | refine blockK_normal ?_ | refine blockK_here ?_ | refine blockK_there (by decide) ?_ | refine blockK_ret ?_ | (apply WP.regionE; (with_unfolding_all (simp +decide (disch := first | decide | omega) only [go_sem, *]; rfl))) | (apply WP.regionV1 mixed; with_unfolding_all rfl; with_unfolding_all rfl; (with_unfolding_all (simp +decide (disch := first | decide | omega) only [go_sem, *]; rfl))))
    refine fnPost_pure 0 (by first | exact .inl rfl | exact .inr rfl) (by simp +decide (disch := first | decide | omega) only [go_sem, *]; rfl) (by simp +decide (disch := first | decide | omega) only [go_sem, *]; rfl) ?_
    have : a ≠ b := fun e => by subst e; simp at hb
    simp [this]
  have hab : a.length = b.length := by simp at hb; omega
  repeat' (with_reducible first | refine WP.seq ?_ | refine WP.skip ?_ | refine WP.label ?_ | refine WP.block ?_ | refine WP.exit ?_ | refine WP.ret ?_ | refine seqK_normal ?_ | refine seqK_exit ?_ | refine seqK_ret ?_ | refine loopK_exit ?_ | refine loopK_ret ?_ | refine blockK_normal ?_ | refine blockK_here ?_ | refine blockK_there (by decide) ?_ | refine blockK_ret ?_ | (apply WP.regionE; (with_unfolding_all (simp +decide (disch := first | decide | omega) only [go_sem, *]; rfl))) | (apply WP.regionV1 mixed; with_unfolding_all rfl; with_unfolding_all rfl; (with_unfolding_all (simp +decide (disch := first | decide | omega) only [go_sem, *]; rfl))))
  refine WP.loop (fun e h => e 0 = .sl f (ints a) ∧ e 1 = .sl g (ints b) ∧ h = [] ∧ ∃ i : Nat, e 5 = .int .i64 i ∧ i ≤ a.length ∧ ∀ j, j < i → a[j]? = b[j]?) (fun e _ => a.length - (e 5).toInt.toNat) ⟨?_, ?_, rfl, 0, ?_, ?_, ?_⟩ ?_
  · simp +decide (disch := first | decide | omega) only [go_sem, *]
  · simp +decide (disch := first | decide | omega) only [go_sem, *]
  · simp +decide (disch := first | decide | omega) only [go_sem, *]; rfl
  · omega
  · intro j hj; omega
  clear h0 h1 s hb
  rintro s h ⟨h0, h1, rfl, i, h5, hi, hpre⟩
  repeat' (with_reducible first | refine WP.seq ?_ | refine WP.skip ?_ | refine WP.label ?_ | refine WP.block ?_ | refine WP.exit ?_ | refine WP.ret ?_ | refine seqK_normal ?_ | refine seqK_exit ?_ | refine seqK_ret ?_ | refine loopK_exit ?_ | refine loopK_ret ?_ | refine blockK_normal ?_ | refine blockK_here ?_ | refine blockK_there (by decide) ?_ | refine blockK_ret ?_ | (apply WP.regionE; (with_unfolding_all (simp +decide (disch := first | decide | omega) only [go_sem, *]; rfl))) | (apply WP.regionV1 mixed; with_unfolding_all rfl; with_unfolding_all rfl; (with_unfolding_all (simp +decide (disch := first | decide | omega) only [go_sem, *]; rfl))))
  refine WP.condB (by simp +decide (disch := first | decide | omega) only [go_sem, *]; rfl) (fun hb => ?_) (fun hb => ?_)
  · have hlt' : i < b.length := by simpa using hb
    have hlt : i < a.length := by omega
    have hga := ints_get hlt
    have hgb := ints_get hlt'
    repeat' (with_reducible first | refine WP.seq ?_ | refine WP.skip ?_ | refine WP.label ?_ | refine WP.block ?_ | refine WP.exit ?_ | refine WP.ret ?_ | refine seqK_normal ?_ | refine seqK_exit ?_ | refine seqK_ret ?_ | refine loopK_exit ?_ | refine loopK_ret ?_ | refine blockK_normal ?_ | refine blockK_here ?_ | refine blockK_there (by decide) ?_ | refine blockK_ret ?_ | (apply WP.regionE; (with_unfolding_all (simp +decide (disch := first | decide | omega) only [go_sem, *]; rfl))) | (apply WP.regionV1 mixed; with_unfolding_all rfl; with_unfolding_all rfl; (with_unfolding_all (simp +decide (disch := first | decide | omega) only [go_sem, *]; rfl))))
    refine WP.condB (by simp +decide (disch := first | decide | omega) only [go_sem, *]; rfl) (fun hb => ?_) (fun hb => ?_)
    · repeat' (with_reducible first | refine WP.seq ?_ | refine WP.skip ?_ | refine WP.label ?_ | refine WP.block ?_ | refine WP.exit ?_ | refine WP.ret ?_ | refine seqK_normal ?_ | refine seqK_exit ?_ | refine seqK_ret ?_ | refine loopK_exit ?_ | refine loopK_ret ?_ | refine blockK_normal ?_ | refine blockK_here ?_ | refine blockK_there (by decide) ?_ | refine blockK_ret ?_ | (apply WP.regionE; (with_unfolding_all (simp +decide (disch := first | decide | omega) only [go_sem, *]; rfl))) | (apply WP.regionV1 mixed; with_unfolding_all rfl; with_unfolding_all rfl; (with_unfolding_all (simp +decide (disch := first | decide | omega) only [go_sem, *]; rfl))))
      refine fnPost_pure 0 (by first | exact .inl rfl | exact .inr rfl) (by simp +decide (disch := first | decide | omega) only [go_sem, *]; rfl) (by simp +decide (disch := first | decide | omega) only [go_sem, *]; rfl) ?_
      have : a ≠ b := fun e => by subst e; simp at hb
      simp [this]
    · have heq : a[i] = b[i] := by simpa using hb
      repeat' (with_reducible first | refine WP.seq ?_ | refine WP.skip ?_ | refine WP.label ?_ | refine WP.block ?_ | refine WP.exit ?_ | refine WP.ret ?_ | refine seqK_normal ?_ | refine seqK_exit ?_ | refine seqK_ret ?_ | refine loopK_exit ?_ | refine loopK_ret ?_ | refine blockK_normal ?_ | refine blockK_here ?_ | refine blockK_there (by decide) ?_ | refine blockK_ret ?_ | (apply WP.regionE; (with_unfolding_all (simp +decide (disch := first | decide | omega) only [go_sem, *]; rfl))) | (apply WP.regionV1 mixed; with_unfolding_all rfl; with_unfolding_all rfl; (with_unfolding_all (simp +decide (disch := first | decide | omega) only [go_sem, *]; rfl))))
      refine loopK_normal ⟨?_, ?_, rfl, i + 1, ?_, ?_, ?_⟩ ?_
      · simp +decide (disch := first | decide | omega) only [go_sem, *]
      · simp +decide (disch := first | decide | omega) only [go_sem, *]
      · simp +decide (disch := first | decide | omega) only [go_sem, *]; rfl
      · omega
      · intro j hj
        by_cases hji : j = i
        · subst hji; simp [hlt, hlt', heq]
        · exact hpre j (by omega)
      · simp +decide (disch := first | decide | omega) only [go_sem, *]; omega
  · have hge : b.length ≤ i := by simpa using hb
    repeat' (with_reducible first | refine WP.seq ?_ | refine WP.skip ?_ | refine WP.label ?_ | refine WP.block ?_ | refine WP.exit ?_ | refine WP.ret ?_ | refine seqK_normal ?_ | refine seqK_exit ?_ | refine seqK_ret ?_ | refine loopK_exit ?_ | refine loopK_ret ?_ | refine blockK_normal ?_ | refine blockK_here ?_ | refine blockK_there (by decide) ?_ | refine blockK_ret ?_ | (apply WP.regionE; (with_unfolding_all (simp +decide (disch := first | decide | omega) only [go_sem, *]; rfl))) | (apply WP.regionV1 mixed; with_unfolding_all rfl; with_unfolding_all rfl; (with_unfolding_all (simp +decide (disch := first | decide | omega) only [go_sem, *]; rfl))))
    refine fnPost_pure 0 (by first | exact .inl rfl | exact .inr rfl) (by simp +decide (disch := first | decide | omega) only [go_sem, *]; rfl) (by simp +decide (disch := first | decide | omega) only [go_sem, *]; rfl) ?_
    have : a = b := by
      apply List.ext_getElem?
      intro j
      by_cases hj : j < i
      · exact hpre j hj
      · rw [List.getElem?_eq_none (by omega), List.getElem?_eq_none (by omega)]
    simp [this]

def startL (n : Int) : List Int := if n ≤ 6000 then (List.range n.toNat).map fun i : Nat => (i : Int) + 1 else []

theorem ref_Start (n : Int) : CallsP pg 16 [.int .i64 n] (fun r => r = .sl false (ints (startL n))) := by
  refine CallsP.of_wpW [] 19 fn16 rfl rfl ?_
  refine WP.abs (fun s => s 0 = .int .i64 n) rfl ?_
  rintro s h0
  repeat' (with_reducible first | refine WP.seq ?_ | refine WP.skip ?_ | refine WP.label ?_ | refine WP.block ?_ | refine WP.exit ?_ | refine WP.ret ?_ | refine seqK_normal ?_ | refine seqK_exit ?_ | refine seqK_ret ?_ | refine loopK_exit ?_ | refine loopK_ret ?_ | refine blockK_normal ?_ | refine blockK_here ?_ | refine blockK_there (by decide) ?_ | refine blockK_ret ?_ | (apply WP.regionE; (with_unfolding_all (simp +decide (disch := first | decide | omega) only [go_sem, *]; rfl))) | (apply WP.regionV1 mixed; with_unfolding_all rfl; with_unfolding_all rfl; (with_unfolding_all (simp +decide (disch := first | decide | omega) only [go_sem, *]; rfl))))
  refine WP.loop (fun e h => e 0 = .int .i64 n ∧ ∃ i : Nat, e 4 = .int .i64 ((i : Int) + 1) ∧ OwnAt h (e 3) 3 (ints ((List.range i).map fun i : Nat => (i : Int) + 1)) ∧ (0 < i → (i : Int) ≤ n ∧ n ≤ 6000)) (fun e _ => 6001 - (e 4).toInt.toNat) ⟨?_, 0, ?_, ?_, ?_⟩ ?_
  · simp +decide (disch := first | decide | omega) only [go_sem, *]
  · simp +decide (disch := first | decide | omega) only [go_sem, *]; rfl
  · simp +decide (disch := first | decide | omega) only [go_sem, *]; exact .nil
  · intro h; omega
  clear h0 s
  rintro s h ⟨h0, i, h4, h3, hi⟩
  by_cases hc : (i : Int) + 1 ≤ n
  · by_cases hn : n ≤ 6000
    · repeat' (with_reducible first | refine WP.seq ?_ | refine WP.skip ?_ | refine WP.label ?_ | refine WP.block ?_ | refine WP.exit ?_ | refine WP.ret ?_ | refine seqK_normal ?_ | refine seqK_exit ?_ | refine seqK_ret ?_ | refine loopK_exit ?_ | refine loopK_ret ?_ | refine blockK_normal ?_ | refine blockK_here ?_ | refine blockK_there (by decide) ?_ | refine blockK_ret ?_ | (apply WP.regionE; (with_unfolding_all (simp +decide (disch := first | decide | omega) only [go_sem, *]; rfl))) | (apply WP.regionV1 mixed; with_unfolding_all rfl; with_unfolding_all rfl; (with_unfolding_all (simp +decide (disch := first | decide | omega) only [go_sem, *]; rfl))))
      refine WP.condB (by simp +decide (disch := first | decide | omega) only [go_sem, *]; rfl) (fun hb => ?_) (fun hb => ?_)
      · obtain ⟨r, hr, hown, hlen, hfr⟩ := h3.append (P := pg.P) (T := 22) (y := .sl true [[.int .i64 ((i : Int) + 1)]]) el22 sz3 ze3 by3 (by decide) rfl rfl rfl (by simp [HV.one]) (by simp [ints]; omega)
        repeat' (with_reducible first | refine WP.seq ?_ | refine WP.skip ?_ | refine WP.label ?_ | refine WP.block ?_ | refine WP.exit ?_ | refine WP.ret ?_ | refine seqK_normal ?_ | refine seqK_exit ?_ | refine seqK_ret ?_ | refine loopK_exit ?_ | refine loopK_ret ?_ | refine blockK_normal ?_ | refine blockK_here ?_ | refine blockK_there (by decide) ?_ | refine blockK_ret ?_ | (apply WP.regionE; (with_unfolding_all (simp +decide (disch := first | decide | omega) only [go_sem, *]; rfl))) | (apply WP.regionV1 mixed; with_unfolding_all rfl; with_unfolding_all rfl; (with_unfolding_all (simp +decide (disch := first | decide | omega) only [go_sem, *]; rfl))))
        refine loopK_normal ⟨?_, i + 1, ?_, ?_, ?_⟩ ?_
        · simp +decide (disch := first | decide | omega) only [go_sem, *]
        · simp +decide (disch := first | decide | omega) only [go_sem, *]; rfl
        · simp +decide (disch := first | decide | omega) only [go_sem, *]
          simpa [ints, List.range_succ] using hown
        · intro _; omega
        · simp +decide (disch := first | decide | omega) only [go_sem, *]; omega
      · simp at hb
    · have h0' : i = 0 := by
        by_cases h : 0 < i
        · have := hi h; omega
        · omega
      subst h0'
      obtain ⟨f, hrd⟩ := h3.read (ints_free _)
      repeat' (with_reducible first | refine WP.seq ?_ | refine WP.skip ?_ | refine WP.label ?_ | refine WP.block ?_ | refine WP.exit ?_ | refine WP.ret ?_ | refine seqK_normal ?_ | refine seqK_exit ?_ | refine seqK_ret ?_ | refine loopK_exit ?_ | refine loopK_ret ?_ | refine blockK_normal ?_ | refine blockK_here ?_ | refine blockK_there (by decide) ?_ | refine blockK_ret ?_ | (apply WP.regionE; (with_unfolding_all (simp +decide (disch := first | decide | omega) only [go_sem, *]; rfl))) | (apply WP.regionV1 mixed; with_unfolding_all rfl; with_unfolding_all rfl; (with_unfolding_all (simp +decide (disch := first | decide | omega) only [go_sem, *]; rfl))))
      refine WP.condB (by simp +decide (disch := first | decide | omega) only [go_sem, *]; rfl) (fun hb => ?_) (fun hb => ?_)
      · simp at hb
      · repeat' (with_reducible first | refine WP.seq ?_ | refine WP.skip ?_ | refine WP.label ?_ | refine WP.block ?_ | refine WP.exit ?_ | refine WP.ret ?_ | refine seqK_normal ?_ | refine seqK_exit ?_ | refine seqK_ret ?_ | refine loopK_exit ?_ | refine loopK_ret ?_ | refine blockK_normal ?_ | refine blockK_here ?_ | refine blockK_there (by decide) ?_ | refine blockK_ret ?_ | (apply WP.regionE; (with_unfolding_all (simp +decide (disch := first | decide | omega) only [go_sem, *]; rfl))) | (apply WP.regionV1 mixed; with_unfolding_all rfl; with_unfolding_all rfl; (with_unfolding_all (simp +decide (disch := first | decide | omega) only [go_sem, *]; rfl))))
        refine fnPost_pure 1 (by first | exact .inl rfl | exact .inr rfl) (by simp +decide (disch := first | decide | omega) only [go_sem, *]; rfl) (by simp +decide (disch := first | decide | omega) only [go_sem, *]; rfl) ?_
        simp [wkV, wk1, startL, hn]
  · obtain ⟨f, hrd⟩ := h3.read (ints_free _)
    repeat' (with_reducible first | refine WP.seq ?_ | refine WP.skip ?_ | refine WP.label ?_ | refine WP.block ?_ | refine WP.exit ?_ | refine WP.ret ?_ | refine seqK_normal ?_ | refine seqK_exit ?_ | refine seqK_ret ?_ | refine loopK_exit ?_ | refine loopK_ret ?_ | refine blockK_normal ?_ | refine blockK_here ?_ | refine blockK_there (by decide) ?_ | refine blockK_ret ?_ | (apply WP.regionE; (with_unfolding_all (simp +decide (disch := first | decide | omega) only [go_sem, *]; rfl))) | (apply WP.regionV1 mixed; with_unfolding_all rfl; with_unfolding_all rfl; (with_unfolding_all (simp +decide (disch := first | decide | omega) only [go_sem, *]; rfl))))
    refine WP.condB (by simp +decide (disch := first | decide | omega) only [go_sem, *]; rfl) (fun hb => ?_) (fun hb => ?_)
    · simp at hb
    · repeat' (with_reducible first | refine WP.seq ?_ | refine WP.skip ?_ | refine WP.label ?_ | refine WP.block ?_ | refine WP.exit ?_ | refine WP.ret ?_ | refine seqK_normal ?_ | refine seqK_exit ?_ | refine seqK_ret ?_ | refine loopK_exit ?_ | refine loopK_ret ?_ | refine blockK_normal ?_ | refine blockK_here ?_ | refine blockK_there (by decide) ?_ | refine blockK_ret ?_ | (apply WP.regionE; (with_unfolding_all (simp +decide (disch := first | decide | omega) only [go_sem, *]; rfl))) | (apply WP.regionV1 mixed; with_unfolding_all rfl; with_unfolding_all rfl; (with_unfolding_all (simp +decide (disch := first | decide | omega) only [go_sem, *]; rfl))))
      refine fnPost_pure 1 (by first | exact .inl rfl | exact .inr rfl) (by simp +decide (disch := first | decide | omega) only [go_sem, *]; rfl) (by simp +decide (disch := first | decide | omega) only [go_sem, *]; rfl) ?_
      have hin : n.toNat = i ∨ (6000 < n ∧ i = 0) ∨ (n < 0 ∧ i = 0) := by
        by_cases h : 0 < i
        · have := hi h; omega
        · omega
      rcases hin with rfl | ⟨h6, rfl⟩ | ⟨h6, rfl⟩
      · by_cases h6 : n ≤ 6000
        · simp [wkV, wk1, startL, h6]
        · have : n.toNat = 0 := by
            by_cases h : 0 < n.toNat
            · have := hi h; omega
            · omega
          simp [wkV, wk1, startL, h6, this]
      · simp [wkV, wk1, startL, show ¬ n ≤ 6000 from by omega]
      · simp [wkV, wk1, startL, show n.toNat = 0 from by omega]


def valid (r : List Int) (n : Int) : Bool := decide (0 ≤ n ∧ n ≤ 6000 ∧ (r.length : Int) = n ∧ (∀ x ∈ r, 1 ≤ x ∧ x ≤ n) ∧ r.Nodup)

/-- Behind i rounds of the reference's Valid. -/
structure VI (r : List Int) (i : Nat) (sn : List Bool) : Prop where
  len : sn.length = r.length + 1
  inr : ∀ x ∈ r.take i, 1 ≤ x ∧ x ≤ (r.length : Int)
  nodup : (r.take i).Nodup
  seen : ∀ v (hv : v < sn.length), sn[v] = true ↔ (v : Int) ∈ r.take i

theorem VI.start (r : List Int) : VI r 0 (List.replicate (r.length + 1) false) := ⟨by simp, by simp, by simp, by simp⟩

theorem valid_get {r : List Int} (h : valid r r.length = true) {i : Nat} (hi : i < r.length) : 1 ≤ r[i] ∧ r[i] ≤ (r.length : Int) := by
  simp only [valid, decide_eq_true_eq] at h
  exact h.2.2.2.1 _ (List.getElem_mem hi)

theorem VI.twice {r : List Int} {i : Nat} {sn : List Bool} (h : VI r i sn) (hi : i < r.length) (h1 : 1 ≤ r[i]) (hx : r[i].toNat < sn.length) (hs : sn[r[i].toNat] = true) : valid r r.length = false := by
  have := (h.seen _ hx).1 hs
  rw [Int.toNat_of_nonneg (by omega)] at this
  simp only [valid, decide_eq_false_iff_not]
  rintro ⟨_, _, _, _, hn⟩
  obtain ⟨j, hj, e⟩ := List.getElem_of_mem this
  simp only [List.length_take] at hj
  rw [List.getElem_take] at e
  have := (List.getElem_inj hn).1 e
  omega

theorem VI.done {r : List Int} {i : Nat} {sn : List Bool} (h : VI r i sn) (h6 : r.length ≤ 6000) (hi : r.length ≤ i) : valid r r.length = true := by
  have h1 := h.inr
  have h2 := h.nodup
  rw [List.take_of_length_le hi] at h1 h2
  simp only [valid, decide_eq_true_eq]
  exact ⟨by omega, by omega, by simp, h1, h2⟩

theorem VI.next {r : List Int} {i : Nat} {sn : List Bool} (h : VI r i sn) (hi : i < r.length) (h1 : 1 ≤ r[i]) (h2 : r[i] ≤ (r.length : Int)) (hx : r[i].toNat < sn.length) (hs : sn[r[i].toNat] = false) : VI r (i + 1) (sn.set r[i].toNat true) := by
  have hnot : ¬ r[i] ∈ r.take i := fun hm => by
    have := (h.seen _ hx).2 (by rw [Int.toNat_of_nonneg (by omega)]; exact hm)
    rw [hs] at this; cases this
  refine ⟨by simpa using h.len, fun x hm => ?_, ?_, fun v hv => ?_⟩
  · rw [List.take_succ_eq_append_getElem hi] at hm
    rcases List.mem_append.1 hm with hm | hm
    · exact h.inr x hm
    · simp at hm; subst hm; exact ⟨h1, h2⟩
  · rw [List.take_succ_eq_append_getElem hi, List.nodup_append]
    refine ⟨h.nodup, by simp, fun a ha b hb => ?_⟩
    simp at hb; subst hb
    exact fun e => hnot (e ▸ ha)
  · rw [List.take_succ_eq_append_getElem hi, List.mem_append, List.mem_singleton]
    have hv' : v < sn.length := by simpa using hv
    rw [List.getElem_set]
    split
    · rename_i e
      constructor
      · intro _; right; omega
      · intro _; rfl
    · rename_i e
      rw [h.seen v hv']
      constructor
      · exact .inl
      · rintro (hm | hm)
        · exact hm
        · omega

theorem ref_Valid (full : Bool) (r : List Int) (n : Int) : CallsP pg 18 [.sl full (ints r), .int .i64 n] (fun v => v = .bool (valid r n)) := by
  refine CallsP.of_wpN [] 55 fn18 rfl rfl ?_
  refine WP.abs (fun s => s 0 = .sl full (ints r) ∧ s 1 = .int .i64 n) ⟨rfl, rfl⟩ ?_
  rintro s ⟨h0, h1⟩
  refine WP.slLen h0 fun hlen => ?_
  rw [ints_length, maxLen] at hlen
  by_cases c1 : n < 0
  · repeat' (with_reducible first | refine WP.seq ?_ | refine WP.skip ?_ | refine WP.label ?_ | refine WP.block ?_ | refine WP.exit ?_ | refine WP.ret ?_ | refine seqK_normal ?_ | refine seqK_exit ?_ | refine seqK_ret ?_ | refine loopK_exit ?_ | refine loopK_ret ?_ | refine blockK_normal ?_ | refine blockK_here ?_ | refine blockK_there (by decide) ?_ | refine blockK_ret ?_ | (apply WP.regionE; (with_unfolding_all (simp +decide (disch := first | decide | omega) only [go_sem, *]; rfl))) | (apply WP.regionV1 mixed; with_unfolding_all rfl; with_unfolding_all rfl; (with_unfolding_all (simp +decide (disch := first | decide | omega) only [go_sem, *]; rfl))))
    refine WP.condB (by simp +decide (disch := first | decide | omega) only [go_sem, *]; rfl) (fun hb => ?_) (fun hb => ?_)
    · repeat' (with_reducible first | refine WP.seq ?_ | refine WP.skip ?_ | refine WP.label ?_ | refine WP.block ?_ | refine WP.exit ?_ | refine WP.ret ?_ | refine seqK_normal ?_ | refine seqK_exit ?_ | refine seqK_ret ?_ | refine loopK_exit ?_ | refine loopK_ret ?_ | refine blockK_normal ?_ | refine blockK_here ?_ | refine blockK_there (by decide) ?_ | refine blockK_ret ?_ | (apply WP.regionE; (with_unfolding_all (simp +decide (disch := first | decide | omega) only [go_sem, *]; rfl))) | (apply WP.regionV1 mixed; with_unfolding_all rfl; with_unfolding_all rfl; (with_unfolding_all (simp +decide (disch := first | decide | omega) only [go_sem, *]; rfl))))
      refine fnPost_pure 0 (by first | exact .inl rfl | exact .inr rfl) (by simp +decide (disch := first | decide | omega) only [go_sem, *]; rfl) (by simp +decide (disch := first | decide | omega) only [go_sem, *]; rfl) ?_
      simp [valid]; omega
    · simp at hb
  by_cases c2 : 6000 < n
  · repeat' (with_reducible first | refine WP.seq ?_ | refine WP.skip ?_ | refine WP.label ?_ | refine WP.block ?_ | refine WP.exit ?_ | refine WP.ret ?_ | refine seqK_normal ?_ | refine seqK_exit ?_ | refine seqK_ret ?_ | refine loopK_exit ?_ | refine loopK_ret ?_ | refine blockK_normal ?_ | refine blockK_here ?_ | refine blockK_there (by decide) ?_ | refine blockK_ret ?_ | (apply WP.regionE; (with_unfolding_all (simp +decide (disch := first | decide | omega) only [go_sem, *]; rfl))) | (apply WP.regionV1 mixed; with_unfolding_all rfl; with_unfolding_all rfl; (with_unfolding_all (simp +decide (disch := first | decide | omega) only [go_sem, *]; rfl))))
    refine WP.condB (by simp +decide (disch := first | decide | omega) only [go_sem, *]; rfl) (fun hb => ?_) (fun hb => ?_)
    · repeat' (with_reducible first | refine WP.seq ?_ | refine WP.skip ?_ | refine WP.label ?_ | refine WP.block ?_ | refine WP.exit ?_ | refine WP.ret ?_ | refine seqK_normal ?_ | refine seqK_exit ?_ | refine seqK_ret ?_ | refine loopK_exit ?_ | refine loopK_ret ?_ | refine blockK_normal ?_ | refine blockK_here ?_ | refine blockK_there (by decide) ?_ | refine blockK_ret ?_ | (apply WP.regionE; (with_unfolding_all (simp +decide (disch := first | decide | omega) only [go_sem, *]; rfl))) | (apply WP.regionV1 mixed; with_unfolding_all rfl; with_unfolding_all rfl; (with_unfolding_all (simp +decide (disch := first | decide | omega) only [go_sem, *]; rfl))))
      refine fnPost_pure 0 (by first | exact .inl rfl | exact .inr rfl) (by simp +decide (disch := first | decide | omega) only [go_sem, *]; rfl) (by simp +decide (disch := first | decide | omega) only [go_sem, *]; rfl) ?_
      simp [valid]; omega
    · simp at hb
  by_cases c3 : (r.length : Int) = n
  · have hn : n = (r.length : Int) := c3.symm
    subst hn
    have hr6 : r.length ≤ 6000 := by omega
    repeat' (with_reducible first | refine WP.seq ?_ | refine WP.skip ?_ | refine WP.label ?_ | refine WP.block ?_ | refine WP.exit ?_ | refine WP.ret ?_ | refine seqK_normal ?_ | refine seqK_exit ?_ | refine seqK_ret ?_ | refine loopK_exit ?_ | refine loopK_ret ?_ | refine blockK_normal ?_ | refine blockK_here ?_ | refine blockK_there (by decide) ?_ | refine blockK_ret ?_ | (apply WP.regionE; (with_unfolding_all (simp +decide (disch := first | decide | omega) only [go_sem, *]; rfl))) | (apply WP.regionV1 mixed; with_unfolding_all rfl; with_unfolding_all rfl; (with_unfolding_all (simp +decide (disch := first | decide | omega) only [go_sem, *]; rfl))))
    refine WP.condB (by simp +decide (disch := first | decide | omega) only [go_sem, *]; rfl) (fun hb => ?_) (fun hb => ?_)
    · simp at hb
    clear c1 c2 c3 hb
    have e0 : ((r.length : Int) + 1).toNat = r.length + 1 := by omega
    repeat' (with_reducible first | refine WP.seq ?_ | refine WP.skip ?_ | refine WP.label ?_ | refine WP.block ?_ | refine WP.exit ?_ | refine WP.ret ?_ | refine seqK_normal ?_ | refine seqK_exit ?_ | refine seqK_ret ?_ | refine loopK_exit ?_ | refine loopK_ret ?_ | refine blockK_normal ?_ | refine blockK_here ?_ | refine blockK_there (by decide) ?_ | refine blockK_ret ?_ | (apply WP.regionE; (with_unfolding_all (simp +decide (disch := first | decide | omega) only [go_sem, *]; rfl))) | (apply WP.regionV1 mixed; with_unfolding_all rfl; with_unfolding_all rfl; (with_unfolding_all (simp +decide (disch := first | decide | omega) only [go_sem, *]; rfl))))
    refine WP.loop (fun e h => e 0 = .sl full (ints r) ∧ e 1 = .int .i64 r.length ∧ e 5 = .ow 0 0 (r.length + 1) ∧ ∃ i : Nat, e 6 = .int .i64 i ∧ i ≤ r.length ∧ ∃ sn, h = [.row 4 (boolsH sn)] ∧ VI r i sn) (fun e _ => r.length - (e 6).toInt.toNat) ⟨?_, ?_, ?_, 0, ?_, ?_, List.replicate (r.length + 1) false, ?_, VI.start r⟩ ?_
    · simp +decide (disch := first | decide | omega) only [go_sem, *]
    · simp +decide (disch := first | decide | omega) only [go_sem, *]
    · simp +decide (disch := first | decide | omega) only [go_sem, *]
    · simp +decide (disch := first | decide | omega) only [go_sem, *]; rfl
    · omega
    · simp +decide (disch := first | decide | omega) only [go_sem, *]
      simp [boolsH]
    clear h0 h1 s
    rintro s h ⟨h0, h1, h5, i, h6, hi, sn, rfl, hv⟩
    have hsl := hv.len
    repeat' (with_reducible first | refine WP.seq ?_ | refine WP.skip ?_ | refine WP.label ?_ | refine WP.block ?_ | refine WP.exit ?_ | refine WP.ret ?_ | refine seqK_normal ?_ | refine seqK_exit ?_ | refine seqK_ret ?_ | refine loopK_exit ?_ | refine loopK_ret ?_ | refine blockK_normal ?_ | refine blockK_here ?_ | refine blockK_there (by decide) ?_ | refine blockK_ret ?_ | (apply WP.regionE; (with_unfolding_all (simp +decide (disch := first | decide | omega) only [go_sem, *]; rfl))) | (apply WP.regionV1 mixed; with_unfolding_all rfl; with_unfolding_all rfl; (with_unfolding_all (simp +decide (disch := first | decide | omega) only [go_sem, *]; rfl))))
    refine WP.condB (by simp +decide (disch := first | decide | omega) only [go_sem, *]; rfl) (fun hb => ?_) (fun hb => ?_)
    · have hlt : i < r.length := by simpa using hb
      have hg := ints_get hlt
      by_cases a1 : r[i] < 1
      · repeat' (with_reducible first | refine WP.seq ?_ | refine WP.skip ?_ | refine WP.label ?_ | refine WP.block ?_ | refine WP.exit ?_ | refine WP.ret ?_ | refine seqK_normal ?_ | refine seqK_exit ?_ | refine seqK_ret ?_ | refine loopK_exit ?_ | refine loopK_ret ?_ | refine blockK_normal ?_ | refine blockK_here ?_ | refine blockK_there (by decide) ?_ | refine blockK_ret ?_ | (apply WP.regionE; (with_unfolding_all (simp +decide (disch := first | decide | omega) only [go_sem, *]; rfl))) | (apply WP.regionV1 mixed; with_unfolding_all rfl; with_unfolding_all rfl; (with_unfolding_all (simp +decide (disch := first | decide | omega) only [go_sem, *]; rfl))))
        refine WP.condB (by simp +decide (disch := first | decide | omega) only [go_sem, *]; rfl) (fun hb => ?_) (fun hb => ?_)
        · repeat' (with_reducible first | refine WP.seq ?_ | refine WP.skip ?_ | refine WP.label ?_ | refine WP.block ?_ | refine WP.exit ?_ | refine WP.ret ?_ | refine seqK_normal ?_ | refine seqK_exit ?_ | refine seqK_ret ?_ | refine loopK_exit ?_ | refine loopK_ret ?_ | refine blockK_normal ?_ | refine blockK_here ?_ | refine blockK_there (by decide) ?_ | refine blockK_ret ?_ | (apply WP.regionE; (with_unfolding_all (simp +decide (disch := first | decide | omega) only [go_sem, *]; rfl))) | (apply WP.regionV1 mixed; with_unfolding_all rfl; with_unfolding_all rfl; (with_unfolding_all (simp +decide (disch := first | decide | omega) only [go_sem, *]; rfl))))
          refine fnPost_pure 0 (by first | exact .inl rfl | exact .inr rfl) (by simp +decide (disch := first | decide | omega) only [go_sem, *]; rfl) (by simp +decide (disch := first | decide | omega) only [go_sem, *]; rfl) ?_
          cases hvv : valid r r.length with
          | false => rfl
          | true => exact absurd (valid_get hvv hlt) (by omega)
        · simp at hb
      by_cases a2 : (r.length : Int) < r[i]
      · repeat' (with_reducible first | refine WP.seq ?_ | refine WP.skip ?_ | refine WP.label ?_ | refine WP.block ?_ | refine WP.exit ?_ | refine WP.ret ?_ | refine seqK_normal ?_ | refine seqK_exit ?_ | refine seqK_ret ?_ | refine loopK_exit ?_ | refine loopK_ret ?_ | refine blockK_normal ?_ | refine blockK_here ?_ | refine blockK_there (by decide) ?_ | refine blockK_ret ?_ | (apply WP.regionE; (with_unfolding_all (simp +decide (disch := first | decide | omega) only [go_sem, *]; rfl))) | (apply WP.regionV1 mixed; with_unfolding_all rfl; with_unfolding_all rfl; (with_unfolding_all (simp +decide (disch := first | decide | omega) only [go_sem, *]; rfl))))
        refine WP.condB (by simp +decide (disch := first | decide | omega) only [go_sem, *]; rfl) (fun hb => ?_) (fun hb => ?_)
        · repeat' (with_reducible first | refine WP.seq ?_ | refine WP.skip ?_ | refine WP.label ?_ | refine WP.block ?_ | refine WP.exit ?_ | refine WP.ret ?_ | refine seqK_normal ?_ | refine seqK_exit ?_ | refine seqK_ret ?_ | refine loopK_exit ?_ | refine loopK_ret ?_ | refine blockK_normal ?_ | refine blockK_here ?_ | refine blockK_there (by decide) ?_ | refine blockK_ret ?_ | (apply WP.regionE; (with_unfolding_all (simp +decide (disch := first | decide | omega) only [go_sem, *]; rfl))) | (apply WP.regionV1 mixed; with_unfolding_all rfl; with_unfolding_all rfl; (with_unfolding_all (simp +decide (disch := first | decide | omega) only [go_sem, *]; rfl))))
          refine fnPost_pure 0 (by first | exact .inl rfl | exact .inr rfl) (by simp +decide (disch := first | decide | omega) only [go_sem, *]; rfl) (by simp +decide (disch := first | decide | omega) only [go_sem, *]; rfl) ?_
          cases hvv : valid r r.length with
          | false => rfl
          | true => exact absurd (valid_get hvv hlt) (by omega)
        · simp at hb
      have hx : r[i].toNat < sn.length := by omega
      have hgs := boolsH_get hx
      cases hsv : sn[r[i].toNat] with
      | true =>
        rw [hsv] at hgs
        repeat' (with_reducible first | refine WP.seq ?_ | refine WP.skip ?_ | refine WP.label ?_ | refine WP.block ?_ | refine WP.exit ?_ | refine WP.ret ?_ | refine seqK_normal ?_ | refine seqK_exit ?_ | refine seqK_ret ?_ | refine loopK_exit ?_ | refine loopK_ret ?_ | refine blockK_normal ?_ | refine blockK_here ?_ | refine blockK_there (by decide) ?_ | refine blockK_ret ?_ | (apply WP.regionE; (with_unfolding_all (simp +decide (disch := first | decide | omega) only [go_sem, *]; rfl))) | (apply WP.regionV1 mixed; with_unfolding_all rfl; with_unfolding_all rfl; (with_unfolding_all (simp +decide (disch := first | decide | omega) only [go_sem, *]; rfl))))
        refine WP.condB (by simp +decide (disch := first | decide | omega) only [go_sem, *]; rfl) (fun hb => ?_) (fun hb => ?_)
        · repeat' (with_reducible first | refine WP.seq ?_ | refine WP.skip ?_ | refine WP.label ?_ | refine WP.block ?_ | refine WP.exit ?_ | refine WP.ret ?_ | refine seqK_normal ?_ | refine seqK_exit ?_ | refine seqK_ret ?_ | refine loopK_exit ?_ | refine loopK_ret ?_ | refine blockK_normal ?_ | refine blockK_here ?_ | refine blockK_there (by decide) ?_ | refine blockK_ret ?_ | (apply WP.regionE; (with_unfolding_all (simp +decide (disch := first | decide | omega) only [go_sem, *]; rfl))) | (apply WP.regionV1 mixed; with_unfolding_all rfl; with_unfolding_all rfl; (with_unfolding_all (simp +decide (disch := first | decide | omega) only [go_sem, *]; rfl))))
          refine fnPost_pure 0 (by first | exact .inl rfl | exact .inr rfl) (by simp +decide (disch := first | decide | omega) only [go_sem, *]; rfl) (by simp +decide (disch := first | decide | omega) only [go_sem, *]; rfl) ?_
          rw [hv.twice hlt (by omega) hx hsv]
        · simp at hb
      | false =>
        rw [hsv] at hgs
        repeat' (with_reducible first | refine WP.seq ?_ | refine WP.skip ?_ | refine WP.label ?_ | refine WP.block ?_ | refine WP.exit ?_ | refine WP.ret ?_ | refine seqK_normal ?_ | refine seqK_exit ?_ | refine seqK_ret ?_ | refine loopK_exit ?_ | refine loopK_ret ?_ | refine blockK_normal ?_ | refine blockK_here ?_ | refine blockK_there (by decide) ?_ | refine blockK_ret ?_ | (apply WP.regionE; (with_unfolding_all (simp +decide (disch := first | decide | omega) only [go_sem, *]; rfl))) | (apply WP.regionV1 mixed; with_unfolding_all rfl; with_unfolding_all rfl; (with_unfolding_all (simp +decide (disch := first | decide | omega) only [go_sem, *]; rfl))))
        refine WP.condB (by simp +decide (disch := first | decide | omega) only [go_sem, *]; rfl) (fun hb => ?_) (fun hb => ?_)
        · simp at hb
        repeat' (with_reducible first | refine WP.seq ?_ | refine WP.skip ?_ | refine WP.label ?_ | refine WP.block ?_ | refine WP.exit ?_ | refine WP.ret ?_ | refine seqK_normal ?_ | refine seqK_exit ?_ | refine seqK_ret ?_ | refine loopK_exit ?_ | refine loopK_ret ?_ | refine blockK_normal ?_ | refine blockK_here ?_ | refine blockK_there (by decide) ?_ | refine blockK_ret ?_ | (apply WP.regionE; (with_unfolding_all (simp +decide (disch := first | decide | omega) only [go_sem, *]; rfl))) | (apply WP.regionV1 mixed; with_unfolding_all rfl; with_unfolding_all rfl; (with_unfolding_all (simp +decide (disch := first | decide | omega) only [go_sem, *]; rfl))))
        refine loopK_normal ⟨?_, ?_, ?_, i + 1, ?_, ?_, sn.set r[i].toNat true, ?_, hv.next hlt (by omega) (by omega) hx hsv⟩ ?_
        · simp +decide (disch := first | decide | omega) only [go_sem, *]
        · simp +decide (disch := first | decide | omega) only [go_sem, *]
        · simp +decide (disch := first | decide | omega) only [go_sem, *]
        · simp +decide (disch := first | decide | omega) only [go_sem, *]; rfl
        · omega
        · simp only [List.set_cons_zero]
        · simp +decide (disch := first | decide | omega) only [go_sem, *]; omega
    · have hge : r.length ≤ i := by simpa using hb
      repeat' (with_reducible first | refine WP.seq ?_ | refine WP.skip ?_ | refine WP.label ?_ | refine WP.block ?_ | refine WP.exit ?_ | refine WP.ret ?_ | refine seqK_normal ?_ | refine seqK_exit ?_ | refine seqK_ret ?_ | refine loopK_exit ?_ | refine loopK_ret ?_ | refine blockK_normal ?_ | refine blockK_here ?_ | refine blockK_there (by decide) ?_ | refine blockK_ret ?_ | (apply WP.regionE; (with_unfolding_all (simp +decide (disch := first | decide | omega) only [go_sem, *]; rfl))) | (apply WP.regionV1 mixed; with_unfolding_all rfl; with_unfolding_all rfl; (with_unfolding_all (simp +decide (disch := first | decide | omega) only [go_sem, *]; rfl))))
      refine fnPost_pure 0 (by first | exact .inl rfl | exact .inr rfl) (by simp +decide (disch := first | decide | omega) only [go_sem, *]; rfl) (by simp +decide (disch := first | decide | omega) only [go_sem, *]; rfl) ?_
      rw [hv.done hr6 hge]
  · repeat' (with_reducible first | refine WP.seq ?_ | refine WP.skip ?_ | refine WP.label ?_ | refine WP.block ?_ | refine WP.exit ?_ | refine WP.ret ?_ | refine seqK_normal ?_ | refine seqK_exit ?_ | refine seqK_ret ?_ | refine loopK_exit ?_ | refine loopK_ret ?_ | refine blockK_normal ?_ | refine blockK_here ?_ | refine blockK_there (by decide) ?_ | refine blockK_ret ?_ | (apply WP.regionE; (with_unfolding_all (simp +decide (disch := first | decide | omega) only [go_sem, *]; rfl))) | (apply WP.regionV1 mixed; with_unfolding_all rfl; with_unfolding_all rfl; (with_unfolding_all (simp +decide (disch := first | decide | omega) only [go_sem, *]; rfl))))
    refine WP.condB (by simp +decide (disch := first | decide | omega) only [go_sem, *]; rfl) (fun hb => ?_) (fun hb => ?_)
    · repeat' (with_reducible first | refine WP.seq ?_ | refine WP.skip ?_ | refine WP.label ?_ | refine WP.block ?_ | refine WP.exit ?_ | refine WP.ret ?_ | refine seqK_normal ?_ | refine seqK_exit ?_ | refine seqK_ret ?_ | refine loopK_exit ?_ | refine loopK_ret ?_ | refine blockK_normal ?_ | refine blockK_here ?_ | refine blockK_there (by decide) ?_ | refine blockK_ret ?_ | (apply WP.regionE; (with_unfolding_all (simp +decide (disch := first | decide | omega) only [go_sem, *]; rfl))) | (apply WP.regionV1 mixed; with_unfolding_all rfl; with_unfolding_all rfl; (with_unfolding_all (simp +decide (disch := first | decide | omega) only [go_sem, *]; rfl))))
      refine fnPost_pure 0 (by first | exact .inl rfl | exact .inr rfl) (by simp +decide (disch := first | decide | omega) only [go_sem, *]; rfl) (by simp +decide (disch := first | decide | omega) only [go_sem, *]; rfl) ?_
      simp [valid, c3]
    · simp at hb

end Go.Proofs.Ythfobbfechdoaaa
