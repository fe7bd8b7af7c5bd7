/-
  Chapter 16: the reference's small functions, third part: events; small automata.
-/
import Derived.Test.YtonhbeapffiibaaRefB
namespace Go.Proofs.Ytonhbeapffiibaa
open Go.HL

/-- An event. -/
structure Evn where
  good : List Int
  bad : List Int
deriving DecidableEq

def evnC (e : Evn) : List HV := [.sl false (ints e.good), .sl false (ints e.bad)]

theorem evnC_length (e : Evn) : (evnC e).length = 2 := rfl
theorem evnC_one (e : Evn) : (evnC e).all HV.one = true := rfl
theorem evnC_drop0 (e : Evn) : (evnC e).drop 0 = evnC e := rfl
theorem evnC_drop1 (e : Evn) : (evnC e).drop 1 = [.sl false (ints e.bad)] := rfl
theorem evnC_0 (e : Evn) : (evnC e)[0]? = some (.sl false (ints e.good)) := rfl
theorem evnC_1 (e : Evn) : (evnC e)[1]? = some (.sl false (ints e.bad)) := rfl
theorem evnC_take (e : Evn) : (evnC e).take 2 = evnC e := rfl
theorem evnC_free (e : Evn) : HV.freeL (evnC e) = true := by simp [evnC, HV.freeL, HV.free, ints_free]
theorem buC_length (b : Bu) : (buC b).length = 3 := rfl
theorem buC_one (b : Bu) : (buC b).all HV.one = true := rfl
theorem buC_drop0 (b : Bu) : (buC b).drop 0 = buC b := rfl
theorem buC_drop1 (b : Bu) : (buC b).drop 1 = [.sl false (ints b.start), .sl false (mats b.next)] := rfl
theorem buC_drop2 (b : Bu) : (buC b).drop 2 = [.sl false (mats b.next)] := rfl
theorem buC_0 (b : Bu) : (buC b)[0]? = some (.int .i64 b.letters) := rfl
theorem buC_1 (b : Bu) : (buC b)[1]? = some (.sl false (ints b.start)) := rfl
theorem buC_2 (b : Bu) : (buC b)[2]? = some (.sl false (mats b.next)) := rfl
theorem buC_take (b : Bu) : (buC b).take 3 = buC b := rfl
theorem buC_take1 (b : Bu) : (buC b).take 1 = [.int .i64 b.letters] := rfl
theorem mvs_free (l : List Mv) : HV.freeLL (mvs l) = true := by
  rw [freeLL_all, List.all_eq_true]
  intro cs h
  simp only [mvs, List.mem_map] at h
  obtain ⟨x, _, rfl⟩ := h
  have := mvC_free x
  rw [freeL_all] at this
  simpa using this
theorem rows_free (l : List (List Mv)) : HV.freeLL (rows l) = true := by
  rw [freeLL_all, List.all_eq_true]
  intro cs h
  simp only [rows, List.mem_map] at h
  obtain ⟨x, _, rfl⟩ := h
  simp [HV.free, mvs_free]
theorem mats_free (l : List (List (List Mv))) : HV.freeLL (mats l) = true := by
  rw [freeLL_all, List.all_eq_true]
  intro cs h
  simp only [mats, List.mem_map] at h
  obtain ⟨x, _, rfl⟩ := h
  simp [HV.free, rows_free]
theorem buC_free (b : Bu) : HV.freeL (buC b) = true := by simp [buC, HV.freeL, HV.free, ints_free, mats_free]
attribute [go_sem] evnC_length evnC_one evnC_drop0 evnC_drop1 evnC_0 evnC_1 evnC_take evnC_free buC_length buC_one buC_drop0 buC_drop1 buC_drop2 buC_0 buC_1 buC_2 buC_take buC_take1 mvs_free rows_free mats_free buC_free

set_option maxRecDepth 8000 in
theorem ref_SameEvent (a b : Evn) : CallsP pg 21 [.agg (evnC a), .agg (evnC b)] (fun r => r = .bool (decide (a = b))) := by
  refine CallsP.of_wpN [] 17 fn21 rfl rfl ?_
  refine WP.abs (fun s => s 0 = .agg (evnC a) ∧ s 1 = .agg (evnC b)) ⟨rfl, rfl⟩ ?_
  rintro s ⟨h0, h1⟩
  have hx : a = b ↔ a.good = b.good ∧ a.bad = b.bad := by cases a; cases b; simp
  by_cases c1 : a.good = b.good
  · by_cases c2 : a.bad = b.bad
    · have : a = b := hx.2 ⟨c1, c2⟩
      subst this
      clear hx c1 c2
      repeat' (with_reducible first | refine WP.seq ?_ | refine WP.ret ?_ | refine seqK_normal ?_ | (apply WP.regionE; (with_unfolding_all (simp +decide (disch := first | decide | omega) only [go_sem, *]; rfl))) | (apply WP.regionX; with_unfolding_all rfl; (with_unfolding_all (simp +decide (disch := first | decide | omega) only [go_sem, *]; rfl))) | (apply opsT.call; (with_unfolding_all (simp +decide (disch := first | decide | omega) only [go_sem, *]; rfl)); (focus (simp +decide (disch := first | decide | omega) only [go_sem, *]; done)); (with_unfolding_all (simp +decide (disch := first | decide | omega) only [go_sem, *]; rfl))) | (apply opsT.callG; (focus (simp +decide (disch := first | decide | omega) only [go_sem, *]; done)); (with_unfolding_all (simp +decide (disch := first | decide | omega) only [go_sem, *]; rfl)); (focus (simp +decide (disch := first | decide | omega) only [go_sem, *]; done)); (with_unfolding_all (simp +decide (disch := first | decide | omega) only [go_sem, *]; rfl))) | (apply opsT.moreX; with_unfolding_all rfl; (with_unfolding_all (simp +decide (disch := first | decide | omega) only [go_sem, *]; rfl))) | (apply opsT.fin; (with_unfolding_all (simp +decide (disch := first | decide | omega) only [go_sem, *]; rfl))) | (apply CallsP.eq (ref_Ints ..); (focus (simp +decide (disch := first | decide | omega) only [go_sem, *]; done))))
      refine fnPost_pure 0 (by first | exact .inl rfl | exact .inr rfl) (by simp +decide (disch := first | decide | omega) only [go_sem, *]; rfl) (by simp +decide (disch := first | decide | omega) only [go_sem, *]; rfl) ?_
      simp
    · have : a ≠ b := fun e => c2 (hx.1 e).2
      clear hx
      repeat' (with_reducible first | refine WP.seq ?_ | refine WP.ret ?_ | refine seqK_normal ?_ | (apply WP.regionE; (with_unfolding_all (simp +decide (disch := first | decide | omega) only [go_sem, *]; rfl))) | (apply WP.regionX; with_unfolding_all rfl; (with_unfolding_all (simp +decide (disch := first | decide | omega) only [go_sem, *]; rfl))) | (apply opsT.call; (with_unfolding_all (simp +decide (disch := first | decide | omega) only [go_sem, *]; rfl)); (focus (simp +decide (disch := first | decide | omega) only [go_sem, *]; done)); (with_unfolding_all (simp +decide (disch := first | decide | omega) only [go_sem, *]; rfl))) | (apply opsT.callG; (focus (simp +decide (disch := first | decide | omega) only [go_sem, *]; done)); (with_unfolding_all (simp +decide (disch := first | decide | omega) only [go_sem, *]; rfl)); (focus (simp +decide (disch := first | decide | omega) only [go_sem, *]; done)); (with_unfolding_all (simp +decide (disch := first | decide | omega) only [go_sem, *]; rfl))) | (apply opsT.moreX; with_unfolding_all rfl; (with_unfolding_all (simp +decide (disch := first | decide | omega) only [go_sem, *]; rfl))) | (apply opsT.fin; (with_unfolding_all (simp +decide (disch := first | decide | omega) only [go_sem, *]; rfl))) | (apply CallsP.eq (ref_Ints ..); (focus (simp +decide (disch := first | decide | omega) only [go_sem, *]; done))))
      refine fnPost_pure 0 (by first | exact .inl rfl | exact .inr rfl) (by simp +decide (disch := first | decide | omega) only [go_sem, *]; rfl) (by simp +decide (disch := first | decide | omega) only [go_sem, *]; rfl) ?_
      simp [this]
  · have : a ≠ b := fun e => c1 (hx.1 e).1
    clear hx
    repeat' (with_reducible first | refine WP.seq ?_ | refine WP.ret ?_ | refine seqK_normal ?_ | (apply WP.regionE; (with_unfolding_all (simp +decide (disch := first | decide | omega) only [go_sem, *]; rfl))) | (apply WP.regionX; with_unfolding_all rfl; (with_unfolding_all (simp +decide (disch := first | decide | omega) only [go_sem, *]; rfl))) | (apply opsT.skipG; (focus (simp +decide (disch := first | decide | omega) only [go_sem, *]; done))) | (apply opsT.call; (with_unfolding_all (simp +decide (disch := first | decide | omega) only [go_sem, *]; rfl)); (focus (simp +decide (disch := first | decide | omega) only [go_sem, *]; done)); (with_unfolding_all (simp +decide (disch := first | decide | omega) only [go_sem, *]; rfl))) | (apply opsT.moreX; with_unfolding_all rfl; (with_unfolding_all (simp +decide (disch := first | decide | omega) only [go_sem, *]; rfl))) | (apply opsT.fin; (with_unfolding_all (simp +decide (disch := first | decide | omega) only [go_sem, *]; rfl))) | (apply CallsP.eq (ref_Ints ..); (focus (simp +decide (disch := first | decide | omega) only [go_sem, *]; done))))
    refine fnPost_pure 0 (by first | exact .inl rfl | exact .inr rfl) (by simp +decide (disch := first | decide | omega) only [go_sem, *]; rfl) (by simp +decide (disch := first | decide | omega) only [go_sem, *]; rfl) ?_
    simp [this]

def fewRow (m : List (List Mv)) : Bool := decide (m.length ≤ 20) && m.all fun r => decide (r.length ≤ 20)

/-- At most 20 letters, 20 states at the beginning, 10 states, 20 moves at a place. -/
def few (b : Bu) : Bool := decide (b.letters ≤ 20 ∧ b.start.length ≤ 20 ∧ b.next.length ≤ 10) && b.next.all fewRow

theorem few_no {b : Bu} {i : Nat} (hi : i < b.next.length) (h : fewRow b.next[i] = false) : few b = false := by
  have : b.next.all fewRow = false := by
    rw [List.all_eq_false]
    exact ⟨_, List.getElem_mem hi, by simp [h]⟩
  simp [few, this]

set_option maxRecDepth 8000 in
theorem ref_Few (b : Bu) : CallsP pg 10 [.agg (buC b)] (fun r => r = .bool (few b)) := by
  refine CallsP.of_wpN [] 54 fn10 rfl rfl ?_
  refine WP.abs (fun s => s 0 = .agg (buC b)) rfl ?_
  rintro s h0
  by_cases c1 : 20 < b.letters
  · have : few b = false := by simp [few]; omega
    repeat' (with_reducible first | refine WP.seq ?_ | refine seqK_normal ?_ | (apply WP.regionE; (with_unfolding_all (simp +decide (disch := first | decide | omega) only [go_sem, *]; rfl))))
    refine WP.condB (by simp +decide (disch := first | decide | omega) only [go_sem, *]; rfl) (fun hb => ?_) (fun hb => ?_)
    · repeat' (with_reducible first | refine WP.seq ?_ | refine WP.ret ?_ | refine seqK_normal ?_ | refine seqK_ret ?_ | (apply WP.regionE; (with_unfolding_all (simp +decide (disch := first | decide | omega) only [go_sem, *]; rfl))))
      refine fnPost_pure 0 (by first | exact .inl rfl | exact .inr rfl) (by simp +decide (disch := first | decide | omega) only [go_sem, *]; rfl) (by simp +decide (disch := first | decide | omega) only [go_sem, *]; rfl) ?_
      simp [this]
    · simp at hb
  by_cases c2 : (20 : Int) < b.start.length
  · have : few b = false := by simp [few]; omega
    repeat' (with_reducible first | refine WP.seq ?_ | refine seqK_normal ?_ | (apply WP.regionE; (with_unfolding_all (simp +decide (disch := first | decide | omega) only [go_sem, *]; rfl))))
    refine WP.condB (by simp +decide (disch := first | decide | omega) only [go_sem, *]; rfl) (fun hb => ?_) (fun hb => ?_)
    · repeat' (with_reducible first | refine WP.seq ?_ | refine WP.ret ?_ | refine seqK_normal ?_ | refine seqK_ret ?_ | (apply WP.regionE; (with_unfolding_all (simp +decide (disch := first | decide | omega) only [go_sem, *]; rfl))))
      refine fnPost_pure 0 (by first | exact .inl rfl | exact .inr rfl) (by simp +decide (disch := first | decide | omega) only [go_sem, *]; rfl) (by simp +decide (disch := first | decide | omega) only [go_sem, *]; rfl) ?_
      simp [this]
    · simp at hb
  by_cases c3 : (10 : Int) < b.next.length
  · have : few b = false := by simp [few]; omega
    repeat' (with_reducible first | refine WP.seq ?_ | refine seqK_normal ?_ | (apply WP.regionE; (with_unfolding_all (simp +decide (disch := first | decide | omega) only [go_sem, *]; rfl))))
    refine WP.condB (by simp +decide (disch := first | decide | omega) only [go_sem, *]; rfl) (fun hb => ?_) (fun hb => ?_)
    · repeat' (with_reducible first | refine WP.seq ?_ | refine WP.ret ?_ | refine seqK_normal ?_ | refine seqK_ret ?_ | (apply WP.regionE; (with_unfolding_all (simp +decide (disch := first | decide | omega) only [go_sem, *]; rfl))))
      refine fnPost_pure 0 (by first | exact .inl rfl | exact .inr rfl) (by simp +decide (disch := first | decide | omega) only [go_sem, *]; rfl) (by simp +decide (disch := first | decide | omega) only [go_sem, *]; rfl) ?_
      simp [this]
    · simp at hb
  repeat' (with_reducible first | refine WP.seq ?_ | refine seqK_normal ?_ | (apply WP.regionE; (with_unfolding_all (simp +decide (disch := first | decide | omega) only [go_sem, *]; rfl))))
  refine WP.condB (by simp +decide (disch := first | decide | omega) only [go_sem, *]; rfl) (fun hb => ?_) (fun hb => ?_)
  · simp at hb
  clear hb
  repeat' (with_reducible first | refine WP.seq ?_ | refine WP.skip ?_ | refine WP.block ?_ | refine seqK_normal ?_ | (apply WP.regionE; (with_unfolding_all (simp +decide (disch := first | decide | omega) only [go_sem, *]; rfl))))
  refine WP.loop (fun s h => s 1 = .ep 0 0 0 ∧ h = [.row 25 [buC b]] ∧ ∃ i : Nat, s 3 = .int .i64 i ∧ i ≤ b.next.length ∧ (b.next.take i).all fewRow = true) (fun s _ => b.next.length - (s 3).toInt.toNat) ⟨?_, rfl, 0, ?_, ?_, ?_⟩ ?_
  · simp +decide (disch := first | decide | omega) only [go_sem, *]
  · simp +decide (disch := first | decide | omega) only [go_sem, *]; rfl
  · omega
  · rfl
  clear h0 s
  rintro s h ⟨h1, rfl, i, h3, hi, hpre⟩
  repeat' (with_reducible first | refine WP.seq ?_ | refine seqK_normal ?_ | (apply WP.regionE; (with_unfolding_all (simp +decide (disch := first | decide | omega) only [go_sem, *]; rfl))))
  refine WP.condB (by simp +decide (disch := first | decide | omega) only [go_sem, *]; rfl) (fun hb => ?_) (fun hb => ?_)
  · have hlt : i < b.next.length := by simpa using hb
    have hg := mats_get hlt
    clear hb
    by_cases c4 : (20 : Int) < b.next[i].length
    · have hf := few_no hlt (by simp [fewRow]; omega)
      clear hpre
      repeat' (with_reducible first | refine WP.seq ?_ | refine WP.skip ?_ | refine WP.block ?_ | refine seqK_normal ?_ | (apply WP.regionE; (with_unfolding_all (simp +decide (disch := first | decide | omega) only [go_sem, *]; rfl))))
      refine WP.condB (by simp +decide (disch := first | decide | omega) only [go_sem, *]; rfl) (fun hb => ?_) (fun hb => ?_)
      · repeat' (with_reducible first | refine WP.seq ?_ | refine WP.ret ?_ | refine seqK_normal ?_ | refine seqK_ret ?_ | refine loopK_ret ?_ | refine blockK_ret ?_ | (apply WP.regionE; (with_unfolding_all (simp +decide (disch := first | decide | omega) only [go_sem, *]; rfl))))
        refine fnPost_pure 0 (by first | exact .inl rfl | exact .inr rfl) (by simp +decide (disch := first | decide | omega) only [go_sem, *]; rfl) (by simp +decide (disch := first | decide | omega) only [go_sem, *]; rfl) ?_
        simp [hf]
      · simp at hb
    repeat' (with_reducible first | refine WP.seq ?_ | refine WP.skip ?_ | refine WP.block ?_ | refine seqK_normal ?_ | (apply WP.regionE; (with_unfolding_all (simp +decide (disch := first | decide | omega) only [go_sem, *]; rfl))))
    refine WP.condB (by simp +decide (disch := first | decide | omega) only [go_sem, *]; rfl) (fun hb => ?_) (fun hb => ?_)
    · simp at hb
    clear hb
    repeat' (with_reducible first | refine WP.seq ?_ | refine WP.skip ?_ | refine WP.block ?_ | refine seqK_normal ?_ | (apply WP.regionE; (with_unfolding_all (simp +decide (disch := first | decide | omega) only [go_sem, *]; rfl))))
    refine WP.loop (fun s h => s 1 = .ep 0 0 0 ∧ s 3 = .int .i64 i ∧ h = [.row 25 [buC b]] ∧ ∃ j : Nat, s 4 = .int .i64 j ∧ j ≤ b.next[i].length ∧ (b.next[i].take j).all (fun r => decide (r.length ≤ 20)) = true) (fun s _ => b.next[i].length - (s 4).toInt.toNat) ⟨?_, ?_, rfl, 0, ?_, ?_, ?_⟩ ?_
    · simp +decide (disch := first | decide | omega) only [go_sem, *]
    · simp +decide (disch := first | decide | omega) only [go_sem, *]
    · simp +decide (disch := first | decide | omega) only [go_sem, *]; rfl
    · omega
    · rfl
    clear h1
    rintro s' h ⟨h1, h3', rfl, j, h4, hj, hpre2⟩
    repeat' (with_reducible first | refine WP.seq ?_ | refine seqK_normal ?_ | (apply WP.regionE; (with_unfolding_all (simp +decide (disch := first | decide | omega) only [go_sem, *]; rfl))))
    refine WP.condB (by simp +decide (disch := first | decide | omega) only [go_sem, *]; rfl) (fun hb => ?_) (fun hb => ?_)
    · have hlt2 : j < b.next[i].length := by simpa using hb
      have hg2 := rows_get hlt2
      clear hb
      by_cases c5 : (20 : Int) < b.next[i][j].length
      · have hf := few_no hlt (by
          have : (b.next[i].all fun r => decide (r.length ≤ 20)) = false := by
            rw [List.all_eq_false]
            exact ⟨_, List.getElem_mem hlt2, by simp; omega⟩
          simp only [fewRow, this, Bool.and_false])
        clear hpre hpre2
        repeat' (with_reducible first | refine WP.seq ?_ | refine WP.skip ?_ | refine WP.block ?_ | refine seqK_normal ?_ | (apply WP.regionE; (with_unfolding_all (simp +decide (disch := first | decide | omega) only [go_sem, *]; rfl))))
        refine WP.condB (by simp +decide (disch := first | decide | omega) only [go_sem, *]; rfl) (fun hb => ?_) (fun hb => ?_)
        · repeat' (with_reducible first | refine WP.seq ?_ | refine WP.ret ?_ | refine seqK_normal ?_ | refine seqK_ret ?_ | refine loopK_ret ?_ | refine blockK_ret ?_ | (apply WP.regionE; (with_unfolding_all (simp +decide (disch := first | decide | omega) only [go_sem, *]; rfl))))
          refine fnPost_pure 0 (by first | exact .inl rfl | exact .inr rfl) (by simp +decide (disch := first | decide | omega) only [go_sem, *]; rfl) (by simp +decide (disch := first | decide | omega) only [go_sem, *]; rfl) ?_
          simp [hf]
        · simp at hb
      · have hn : (b.next[i].take (j + 1)).all (fun r => decide (r.length ≤ 20)) = true := by
          rw [List.take_succ_eq_append_getElem hlt2, List.all_append, hpre2]
          simp; omega
        clear hpre hpre2
        repeat' (with_reducible first | refine WP.seq ?_ | refine WP.skip ?_ | refine WP.block ?_ | refine seqK_normal ?_ | (apply WP.regionE; (with_unfolding_all (simp +decide (disch := first | decide | omega) only [go_sem, *]; rfl))))
        refine WP.condB (by simp +decide (disch := first | decide | omega) only [go_sem, *]; rfl) (fun hb => ?_) (fun hb => ?_)
        · simp at hb
        · repeat' (with_reducible first | refine WP.skip ?_ | refine seqK_normal ?_ | refine blockK_normal ?_ | (apply WP.regionE; (with_unfolding_all (simp +decide (disch := first | decide | omega) only [go_sem, *]; rfl))))
          refine loopK_normal ⟨?_, ?_, rfl, j + 1, ?_, ?_, hn⟩ ?_
          · simp +decide (disch := first | decide | omega) only [go_sem, *]
          · simp +decide (disch := first | decide | omega) only [go_sem, *]
          · simp +decide (disch := first | decide | omega) only [go_sem, *]; rfl
          · omega
          · simp +decide (disch := first | decide | omega) only [go_sem, *]; omega
    · have hge : b.next[i].length ≤ j := by simpa using hb
      rw [List.take_of_length_le hge] at hpre2
      have hn : (b.next.take (i + 1)).all fewRow = true := by
        rw [List.take_succ_eq_append_getElem hlt, List.all_append, hpre]
        simp only [List.all_cons, List.all_nil, fewRow, hpre2]
        simp; omega
      clear hpre hpre2 hb
      repeat' (with_reducible first | refine WP.exit ?_ | refine seqK_normal ?_ | refine seqK_exit ?_ | refine loopK_exit ?_ | refine blockK_normal ?_ | refine blockK_here ?_ | (apply WP.regionE; (with_unfolding_all (simp +decide (disch := first | decide | omega) only [go_sem, *]; rfl))))
      refine loopK_normal ⟨?_, rfl, i + 1, ?_, ?_, hn⟩ ?_
      · simp +decide (disch := first | decide | omega) only [go_sem, *]
      · simp +decide (disch := first | decide | omega) only [go_sem, *]; rfl
      · omega
      · simp +decide (disch := first | decide | omega) only [go_sem, *]; omega
  · have hge : b.next.length ≤ i := by simpa using hb
    rw [List.take_of_length_le hge] at hpre
    have hf : few b = true := by simp only [few, hpre, Bool.and_true, decide_eq_true_eq]; omega
    clear hpre hb
    repeat' (with_reducible first | refine WP.seq ?_ | refine WP.exit ?_ | refine WP.ret ?_ | refine seqK_normal ?_ | refine seqK_exit ?_ | refine loopK_exit ?_ | refine blockK_here ?_ | (apply WP.regionE; (with_unfolding_all (simp +decide (disch := first | decide | omega) only [go_sem, *]; rfl))))
    refine fnPost_pure 0 (by first | exact .inl rfl | exact .inr rfl) (by simp +decide (disch := first | decide | omega) only [go_sem, *]; rfl) (by simp +decide (disch := first | decide | omega) only [go_sem, *]; rfl) ?_
    simp [hf]

end Go.Proofs.Ytonhbeapffiibaa

