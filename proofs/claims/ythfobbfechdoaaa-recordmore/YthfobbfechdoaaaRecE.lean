/-
  Chapter 17: package record: Wins.
-/
import Derived.Test.YthfobbfechdoaaaRecD
namespace Go.Proofs.Ythfobbfechdoaaa
open Go.HL

def tr : HV → Bool
  | .bool b => b
  | _ => false

def pk (pre : List KV) (n : Int) : Bool := pre.any fun y => sameH (.int .i64 n) y.1
def pt (pre : List KV) (n : Int) : Bool := pre.any fun y => sameH (.int .i64 n) y.1 && tr y.2.1

/-- The marks of events, and of some names of one more. -/
def mergeM (es : List Ev) (pre : List KV) : HV → Option HV
  | .int _ n => if gd es n || bd es n || pk pre n then some (.bool (bd es n || pt pre n)) else none
  | _ => none

theorem pt_pk {pre : List KV} {n : Int} (h : pt pre n = true) : pk pre n = true := by
  simp only [pt, List.any_eq_true, Bool.and_eq_true] at h
  simp only [pk, List.any_eq_true]
  obtain ⟨y, h1, h2, _⟩ := h
  exact ⟨y, h1, h2⟩

theorem pk_snoc (pre : List KV) (x : KV) (n : Int) : pk (pre ++ [x]) n = (pk pre n || sameH (.int .i64 n) x.1) := by simp [pk]
theorem pt_snoc (pre : List KV) (x : KV) (n : Int) : pt (pre ++ [x]) n = (pt pre n || (sameH (.int .i64 n) x.1 && tr x.2.1)) := by simp [pt]

theorem pk_nil (n : Int) : pk [] n = false := rfl
theorem pt_nil (n : Int) : pt [] n = false := rfl

theorem mergeM_look (es : List Ev) (pre : List KV) (n : Int) : lookR false (.bool false) (mergeM es pre (.int .i64 n)) = .bool (bd es n || pt pre n) := by
  simp only [mergeM]
  split
  · rfl
  · rename_i h
    simp only [Bool.or_eq_true, not_or, Bool.not_eq_true] at h
    have h1 : pt pre n = false := by
      cases hp : pt pre n with
      | false => rfl
      | true => rw [pt_pk hp] at h; simp at h
    simp [lookR, h.1.2, h1]

theorem mergeM_put (es : List Ev) (pre : List KV) (m : Int) (b : Bool) (s : Nat) (k : HV) (hk : isKeyH (.int .i64) k = true) :
    (if sameH (.int .i64 m) k = true then some (.bool ((bd es m || pt pre m) || b)) else mergeM es pre k) = mergeM es (pre ++ [(.int .i64 m, .bool b, s)]) k := by
  obtain ⟨n, rfl⟩ := keyInt hk
  simp only [sameH, mergeM, pk_snoc, pt_snoc, tr, decide_eq_true_eq]
  by_cases h : m = n
  · subst h
    simp [Bool.or_assoc]
  · have : ¬ n = m := fun e => h e.symm
    simp [h, this]

theorem mergeM_end {es : List Ev} {e : Ev} {pre : List KV} (h1 : ∀ k v, isKeyH (.int .i64) k = true → markM e.good e.bad k = some v → ∃ s, (k, v, s) ∈ pre) (h2 : ∀ y ∈ pre, markM e.good e.bad y.1 = some y.2.1) (k : HV) (hk : isKeyH (.int .i64) k = true) : mergeM es pre k = mergeM (es ++ [e]) [] k := by
  obtain ⟨n, rfl⟩ := keyInt hk
  have e1 : pk pre n = (e.good.contains n || e.bad.contains n) := by
    apply Bool.eq_iff_iff.2
    simp only [pk, List.any_eq_true, Bool.or_eq_true, List.contains_iff_mem]
    constructor
    · rintro ⟨y, hy, hs⟩
      have := h2 y hy
      obtain ⟨a, b, c⟩ := y
      cases a <;> simp [sameH] at hs
      subst hs
      simp only [markM] at this
      split at this
      · exact .inr (by assumption)
      · split at this
        · exact .inl (by assumption)
        · cases this
    · intro h
      by_cases hb : n ∈ e.bad
      · obtain ⟨s, hs⟩ := h1 (.int .i64 n) (.bool true) rfl (by simp [markM, hb])
        exact ⟨_, hs, by simp [sameH]⟩
      · obtain ⟨s, hs⟩ := h1 (.int .i64 n) (.bool false) rfl (by simp [markM, hb, h.resolve_right hb])
        exact ⟨_, hs, by simp [sameH]⟩
  have e2 : pt pre n = e.bad.contains n := by
    apply Bool.eq_iff_iff.2
    simp only [pt, List.any_eq_true, Bool.and_eq_true, List.contains_iff_mem]
    constructor
    · rintro ⟨y, hy, hs, ht⟩
      have := h2 y hy
      obtain ⟨a, b, c⟩ := y
      cases a <;> simp [sameH] at hs
      subst hs
      simp only [markM] at this
      split at this
      · assumption
      · split at this
        · simp only [Option.some.injEq] at this
          rw [← this] at ht; simp [tr] at ht
        · cases this
    · intro h
      obtain ⟨s, hs⟩ := h1 (.int .i64 n) (.bool true) rfl (by simp [markM, h])
      exact ⟨_, hs, by simp [sameH], rfl⟩
  simp only [mergeM, e1, e2, gd_snoc, bd_snoc, pk_nil, pt_nil, Bool.or_false]
  congr 1
  cases gd es n <;> cases bd es n <;> cases e.good.contains n <;> cases e.bad.contains n <;> rfl

theorem evC_load (e : Ev) : ((evC e).drop 0).take 2 = evC e := rfl

theorem rec_Wins (f g : Bool) (n : Int) (st l : List Ev) : CallsP pg 19 [.int .i64 n, .sl f (evs st), .sl g (evs l)] (fun v => v = .bool (wins n l)) := by
  refine CallsP.of_wpN [] 62 fn19 rfl rfl ?_
  refine WP.abs (fun s => s 0 = .int .i64 n ∧ s 2 = .sl g (evs l)) ⟨rfl, rfl⟩ ?_
  rintro s ⟨h0, h2⟩
  refine WP.slLen h2 fun hlen => ?_
  rw [evs_length, maxLen] at hlen
  by_cases c1 : n < 0
  · repeat' (with_reducible first | refine WP.seq ?_ | refine WP.skip ?_ | refine WP.label ?_ | refine WP.block ?_ | refine WP.exit ?_ | refine WP.ret ?_ | refine seqK_normal ?_ | refine seqK_exit ?_ | refine seqK_ret ?_ | refine loopK_exit ?_ | refine loopK_ret ?_ | refine blockK_normal ?_ | refine blockK_here ?_ | refine blockK_there (by decide) ?_ | refine blockK_ret ?_ | (apply WP.regionE; (with_unfolding_all (simp +decide (disch := first | decide | omega) only [go_sem, *]; rfl))) | (apply WP.regionV1 mixed; with_unfolding_all rfl; with_unfolding_all rfl; (with_unfolding_all (simp +decide (disch := first | decide | omega) only [go_sem, *]; rfl))))
    refine WP.condB (by simp +decide (disch := first | decide | omega) only [go_sem, *]; rfl) (fun hb => ?_) (fun hb => ?_)
    · repeat' (with_reducible first | refine WP.seq ?_ | refine WP.skip ?_ | refine WP.label ?_ | refine WP.block ?_ | refine WP.exit ?_ | refine WP.ret ?_ | refine seqK_normal ?_ | refine seqK_exit ?_ | refine seqK_ret ?_ | refine loopK_exit ?_ | refine loopK_ret ?_ | refine blockK_normal ?_ | refine blockK_here ?_ | refine blockK_there (by decide) ?_ | refine blockK_ret ?_ | (apply WP.regionE; (with_unfolding_all (simp +decide (disch := first | decide | omega) only [go_sem, *]; rfl))) | (apply WP.regionV1 mixed; with_unfolding_all rfl; with_unfolding_all rfl; (with_unfolding_all (simp +decide (disch := first | decide | omega) only [go_sem, *]; rfl))))
      refine fnPost_pure 0 (by first | exact .inl rfl | exact .inr rfl) (by simp +decide (disch := first | decide | omega) only [go_sem, *]; rfl) (by simp +decide (disch := first | decide | omega) only [go_sem, *]; rfl) ?_
      simp [wins]; omega
    · simp at hb
  by_cases c2 : 6000 < n
  · repeat' (with_reducible first | refine WP.seq ?_ | refine WP.skip ?_ | refine WP.label ?_ | refine WP.block ?_ | refine WP.exit ?_ | refine WP.ret ?_ | refine seqK_normal ?_ | refine seqK_exit ?_ | refine seqK_ret ?_ | refine loopK_exit ?_ | refine loopK_ret ?_ | refine blockK_normal ?_ | refine blockK_here ?_ | refine blockK_there (by decide) ?_ | refine blockK_ret ?_ | (apply WP.regionE; (with_unfolding_all (simp +decide (disch := first | decide | omega) only [go_sem, *]; rfl))) | (apply WP.regionV1 mixed; with_unfolding_all rfl; with_unfolding_all rfl; (with_unfolding_all (simp +decide (disch := first | decide | omega) only [go_sem, *]; rfl))))
    refine WP.condB (by simp +decide (disch := first | decide | omega) only [go_sem, *]; rfl) (fun hb => ?_) (fun hb => ?_)
    · repeat' (with_reducible first | refine WP.seq ?_ | refine WP.skip ?_ | refine WP.label ?_ | refine WP.block ?_ | refine WP.exit ?_ | refine WP.ret ?_ | refine seqK_normal ?_ | refine seqK_exit ?_ | refine seqK_ret ?_ | refine loopK_exit ?_ | refine loopK_ret ?_ | refine blockK_normal ?_ | refine blockK_here ?_ | refine blockK_there (by decide) ?_ | refine blockK_ret ?_ | (apply WP.regionE; (with_unfolding_all (simp +decide (disch := first | decide | omega) only [go_sem, *]; rfl))) | (apply WP.regionV1 mixed; with_unfolding_all rfl; with_unfolding_all rfl; (with_unfolding_all (simp +decide (disch := first | decide | omega) only [go_sem, *]; rfl))))
      refine fnPost_pure 0 (by first | exact .inl rfl | exact .inr rfl) (by simp +decide (disch := first | decide | omega) only [go_sem, *]; rfl) (by simp +decide (disch := first | decide | omega) only [go_sem, *]; rfl) ?_
      simp [wins]; omega
    · simp at hb
  repeat' (with_reducible first | refine WP.seq ?_ | refine WP.skip ?_ | refine WP.label ?_ | refine WP.block ?_ | refine WP.exit ?_ | refine WP.ret ?_ | refine seqK_normal ?_ | refine seqK_exit ?_ | refine seqK_ret ?_ | refine loopK_exit ?_ | refine loopK_ret ?_ | refine blockK_normal ?_ | refine blockK_here ?_ | refine blockK_there (by decide) ?_ | refine blockK_ret ?_ | (apply WP.regionE; (with_unfolding_all (simp +decide (disch := first | decide | omega) only [go_sem, *]; rfl))) | (apply WP.regionV1 mixed; with_unfolding_all rfl; with_unfolding_all rfl; (with_unfolding_all (simp +decide (disch := first | decide | omega) only [go_sem, *]; rfl))))
  refine WP.condB (by simp +decide (disch := first | decide | omega) only [go_sem, *]; rfl) (fun hb => ?_) (fun hb => ?_)
  · simp at hb
  repeat' (with_reducible first | refine WP.seq ?_ | refine WP.skip ?_ | refine WP.label ?_ | refine WP.block ?_ | refine WP.exit ?_ | refine WP.ret ?_ | refine seqK_normal ?_ | refine seqK_exit ?_ | refine seqK_ret ?_ | refine loopK_exit ?_ | refine loopK_ret ?_ | refine blockK_normal ?_ | refine blockK_here ?_ | refine blockK_there (by decide) ?_ | refine blockK_ret ?_ | (apply WP.regionE; (with_unfolding_all (simp +decide (disch := first | decide | omega) only [go_sem, *]; rfl))) | (apply WP.regionV1 mixed; with_unfolding_all rfl; with_unfolding_all rfl; (with_unfolding_all (simp +decide (disch := first | decide | omega) only [go_sem, *]; rfl))))
  refine WP.loop (fun s h => s 0 = .int .i64 n ∧ s 7 = .mp 0 ∧ s 21 = .sl g (evs l) ∧ s 22 = .int .i64 l.length ∧ ∃ i : Nat, s 23 = .int .i64 i ∧ i ≤ l.length ∧ MapAt h 0 (.int .i64) (mergeM (l.take i) [])) (fun s _ => l.length - (s 23).toInt.toNat) ⟨?_, ?_, ?_, ?_, 0, ?_, ?_, ?_⟩ ?_
  · simp +decide (disch := first | decide | omega) only [go_sem, *]
  · simp +decide (disch := first | decide | omega) only [go_sem, *]
  · simp +decide (disch := first | decide | omega) only [go_sem, *]
  · simp +decide (disch := first | decide | omega) only [go_sem, *]
  · simp +decide (disch := first | decide | omega) only [go_sem, *]; rfl
  · omega
  · refine MapAt.congr (m := fun _ => none) ⟨[], 0, by simp, .nil _ _⟩ fun k hk => ?_
    obtain ⟨n, rfl⟩ := keyInt hk
    simp [mergeM, gd, bd, pk]
  clear h0 h2 s hb
  rintro s h ⟨h0, h7, h21, h22, i, h23, hi, hmap⟩
  repeat' (with_reducible first | refine WP.seq ?_ | refine WP.skip ?_ | refine WP.label ?_ | refine WP.block ?_ | refine WP.exit ?_ | refine WP.ret ?_ | refine seqK_normal ?_ | refine seqK_exit ?_ | refine seqK_ret ?_ | refine loopK_exit ?_ | refine loopK_ret ?_ | refine blockK_normal ?_ | refine blockK_here ?_ | refine blockK_there (by decide) ?_ | refine blockK_ret ?_ | (apply WP.regionE; (with_unfolding_all (simp +decide (disch := first | decide | omega) only [go_sem, *]; rfl))) | (apply WP.regionV1 mixed; with_unfolding_all rfl; with_unfolding_all rfl; (with_unfolding_all (simp +decide (disch := first | decide | omega) only [go_sem, *]; rfl))))
  refine WP.condB (by simp +decide (disch := first | decide | omega) only [go_sem, *]; rfl) (fun hb => ?_) (fun hb => ?_)
  · have hlt : i < l.length := by simpa using hb
    have hg := evs_get hlt
    have hmu : l.length - (s 23).toInt.toNat = l.length - i := by rw [h23, HV.toInt]; omega
    rw [hmu]
    clear hmu
    repeat' (with_reducible first | refine WP.seq ?_ | refine WP.skip ?_ | refine WP.label ?_ | refine WP.block ?_ | refine WP.exit ?_ | refine WP.ret ?_ | refine seqK_normal ?_ | refine seqK_exit ?_ | refine seqK_ret ?_ | refine loopK_exit ?_ | refine loopK_ret ?_ | refine blockK_normal ?_ | refine blockK_here ?_ | refine blockK_there (by decide) ?_ | refine blockK_ret ?_ | (apply WP.regionE; (with_unfolding_all (simp +decide (disch := first | decide | omega) only [go_sem, *]; rfl))) | (apply WP.regionV1 mixed; with_unfolding_all rfl; with_unfolding_all rfl; (with_unfolding_all (simp +decide (disch := first | decide | omega) only [go_sem, *]; rfl))) | (apply WP.regionX; with_unfolding_all rfl; (with_unfolding_all (simp +decide (disch := first | decide | omega) only [go_sem, *]; rfl))) | (apply WP.regionVX mixed; with_unfolding_all rfl; with_unfolding_all rfl; with_unfolding_all rfl; (with_unfolding_all (simp +decide (disch := first | decide | omega) only [go_sem, *]; rfl))) | (apply opsT.skipG; (focus (simp +decide (disch := first | decide | omega) only [go_sem, *]; done))) | (apply opsT.call; (with_unfolding_all (simp +decide (disch := first | decide | omega) only [go_sem, *]; rfl)); (focus (simp +decide (disch := first | decide | omega) only [go_sem, *]; done)); (with_unfolding_all (simp +decide (disch := first | decide | omega) only [go_sem, *]; rfl))) | (apply opsT.callG; (focus (simp +decide (disch := first | decide | omega) only [go_sem, *]; done)); (with_unfolding_all (simp +decide (disch := first | decide | omega) only [go_sem, *]; rfl)); (focus (simp +decide (disch := first | decide | omega) only [go_sem, *]; done)); (with_unfolding_all (simp +decide (disch := first | decide | omega) only [go_sem, *]; rfl))) | (apply opsT.moreX; with_unfolding_all rfl; (with_unfolding_all (simp +decide (disch := first | decide | omega) only [go_sem, *]; rfl))) | (apply opsT.fin; (with_unfolding_all (simp +decide (disch := first | decide | omega) only [go_sem, *]; rfl))) | (apply opsV.skipG; (focus (simp +decide (disch := first | decide | omega) only [go_sem, *]; done))) | (apply opsV.moreX; with_unfolding_all rfl; with_unfolding_all rfl; (with_unfolding_all (simp +decide (disch := first | decide | omega) only [go_sem, *]; rfl))) | (apply opsV.fin; with_unfolding_all rfl; (with_unfolding_all (simp +decide (disch := first | decide | omega) only [go_sem, *]; rfl))))
    have hm0 : MapAt (h ++ [.row 24 [evC l[i]]]) 0 (.int .i64) (mergeM (l.take i) []) := hmap.keep (List.getElem?_append_left hmap.lt)
    refine (rec_mark l[i] _).mono ?_
    rintro m h3 ⟨mid, rfl, hid, hmap3, hlen3, hfr3⟩
    have hm1 : MapAt h3 0 (.int .i64) (mergeM (l.take i) []) := hm0.keep (hfr3 0 hm0.lt)
    have h0mid : 0 < mid := Nat.lt_of_lt_of_le hm0.lt hid
    obtain ⟨kvs, clock, hk1, hk2⟩ := hmap3
    clear hm0 hfr3 hmap hlen3 hid hg
    repeat' (with_reducible first | refine WP.seq ?_ | refine WP.skip ?_ | refine WP.label ?_ | refine WP.block ?_ | refine WP.exit ?_ | refine WP.ret ?_ | refine seqK_normal ?_ | refine seqK_exit ?_ | refine seqK_ret ?_ | refine loopK_exit ?_ | refine loopK_ret ?_ | refine blockK_normal ?_ | refine blockK_here ?_ | refine blockK_there (by decide) ?_ | refine blockK_ret ?_ | (apply WP.regionE; (with_unfolding_all (simp +decide (disch := first | decide | omega) only [go_sem, *]; rfl))) | (apply WP.regionV1 mixed; with_unfolding_all rfl; with_unfolding_all rfl; (with_unfolding_all (simp +decide (disch := first | decide | omega) only [go_sem, *]; rfl))) | (apply WP.regionX; with_unfolding_all rfl; (with_unfolding_all (simp +decide (disch := first | decide | omega) only [go_sem, *]; rfl))) | (apply WP.regionVX mixed; with_unfolding_all rfl; with_unfolding_all rfl; with_unfolding_all rfl; (with_unfolding_all (simp +decide (disch := first | decide | omega) only [go_sem, *]; rfl))) | (apply opsT.skipG; (focus (simp +decide (disch := first | decide | omega) only [go_sem, *]; done))) | (apply opsT.call; (with_unfolding_all (simp +decide (disch := first | decide | omega) only [go_sem, *]; rfl)); (focus (simp +decide (disch := first | decide | omega) only [go_sem, *]; done)); (with_unfolding_all (simp +decide (disch := first | decide | omega) only [go_sem, *]; rfl))) | (apply opsT.callG; (focus (simp +decide (disch := first | decide | omega) only [go_sem, *]; done)); (with_unfolding_all (simp +decide (disch := first | decide | omega) only [go_sem, *]; rfl)); (focus (simp +decide (disch := first | decide | omega) only [go_sem, *]; done)); (with_unfolding_all (simp +decide (disch := first | decide | omega) only [go_sem, *]; rfl))) | (apply opsT.moreX; with_unfolding_all rfl; (with_unfolding_all (simp +decide (disch := first | decide | omega) only [go_sem, *]; rfl))) | (apply opsT.fin; (with_unfolding_all (simp +decide (disch := first | decide | omega) only [go_sem, *]; rfl))) | (apply opsV.skipG; (focus (simp +decide (disch := first | decide | omega) only [go_sem, *]; done))) | (apply opsV.moreX; with_unfolding_all rfl; with_unfolding_all rfl; (with_unfolding_all (simp +decide (disch := first | decide | omega) only [go_sem, *]; rfl))) | (apply opsV.fin; with_unfolding_all rfl; (with_unfolding_all (simp +decide (disch := first | decide | omega) only [go_sem, *]; rfl))))
    refine WP.loop (fun s h => s 0 = .int .i64 n ∧ s 7 = .mp 0 ∧ s 21 = .sl g (evs l) ∧ s 22 = .int .i64 l.length ∧ s 23 = .int .i64 i ∧ s 29 = .it h3.length ∧ mid < h3.length ∧
      ∃ pre, Rng h h3.length mid (.int .i64) (markM l[i].good l[i].bad) pre ∧ MapAt h 0 (.int .i64) (mergeM (l.take i) pre)) (fun _ h => leftN h h3.length) ⟨?_, ?_, ?_, ?_, ?_, ?_, ?_, [], ?_, ?_⟩ ?_
    · simp +decide (disch := first | decide | omega) only [go_sem, *]
    · simp +decide (disch := first | decide | omega) only [go_sem, *]
    · simp +decide (disch := first | decide | omega) only [go_sem, *]
    · simp +decide (disch := first | decide | omega) only [go_sem, *]
    · simp +decide (disch := first | decide | omega) only [go_sem, *]
    · simp +decide (disch := first | decide | omega) only [go_sem, *]
    · exact (List.getElem?_eq_some_iff.1 hk1).1
    · exact Rng.start (by simp) (by rw [List.getElem?_append_left (List.getElem?_eq_some_iff.1 hk1).1]; exact hk1) hk2
    · exact hm1.keep (List.getElem?_append_left hm1.lt)
    clear h0 h7 h21 h22 h23 hk1 hk2 hm1 hb s
    rintro s h4 ⟨h0, h7, h21, h22, h23, h29, hmid, pre, hR, hmap⟩
    repeat' (with_reducible first | refine WP.seq ?_ | refine WP.skip ?_ | refine WP.label ?_ | refine WP.block ?_ | refine WP.exit ?_ | refine WP.ret ?_ | refine seqK_normal ?_ | refine seqK_exit ?_ | refine seqK_ret ?_ | refine loopK_exit ?_ | refine loopK_ret ?_ | refine blockK_normal ?_ | refine blockK_here ?_ | refine blockK_there (by decide) ?_ | refine blockK_ret ?_ | (apply WP.regionE; (with_unfolding_all (simp +decide (disch := first | decide | omega) only [go_sem, *]; rfl))) | (apply WP.regionV1 mixed; with_unfolding_all rfl; with_unfolding_all rfl; (with_unfolding_all (simp +decide (disch := first | decide | omega) only [go_sem, *]; rfl))))
    refine WP.region ?_
    refine opsT.nextM (it := h3.length) (mid := mid) (pre := pre) (by simp +decide (disch := first | decide | omega) only [go_sem, *]) hR (by omega) (fun hall => ?_) (fun x h5 hkx hmx hR5 hlt5 hlen5 hfr5 => ?_)
    · have hmap1 : MapAt h4 0 (.int .i64) (mergeM (l.take (i + 1)) []) := hmap.congr fun k hk => by
        rw [List.take_succ_eq_append_getElem hlt]
        exact mergeM_end hall (fun y hy => (hR.mem hy).2) k hk
      repeat' (with_reducible first | refine WP.seq ?_ | refine WP.skip ?_ | refine WP.label ?_ | refine WP.block ?_ | refine WP.exit ?_ | refine WP.ret ?_ | refine seqK_normal ?_ | refine seqK_exit ?_ | refine seqK_ret ?_ | refine loopK_exit ?_ | refine loopK_ret ?_ | refine blockK_normal ?_ | refine blockK_here ?_ | refine blockK_there (by decide) ?_ | refine blockK_ret ?_ | (apply WP.regionE; (with_unfolding_all (simp +decide (disch := first | decide | omega) only [go_sem, *]; rfl))) | (apply WP.regionV1 mixed; with_unfolding_all rfl; with_unfolding_all rfl; (with_unfolding_all (simp +decide (disch := first | decide | omega) only [go_sem, *]; rfl))) | (apply WP.regionX; with_unfolding_all rfl; (with_unfolding_all (simp +decide (disch := first | decide | omega) only [go_sem, *]; rfl))) | (apply WP.regionVX mixed; with_unfolding_all rfl; with_unfolding_all rfl; with_unfolding_all rfl; (with_unfolding_all (simp +decide (disch := first | decide | omega) only [go_sem, *]; rfl))) | (apply opsT.skipG; (focus (simp +decide (disch := first | decide | omega) only [go_sem, *]; done))) | (apply opsT.call; (with_unfolding_all (simp +decide (disch := first | decide | omega) only [go_sem, *]; rfl)); (focus (simp +decide (disch := first | decide | omega) only [go_sem, *]; done)); (with_unfolding_all (simp +decide (disch := first | decide | omega) only [go_sem, *]; rfl))) | (apply opsT.callG; (focus (simp +decide (disch := first | decide | omega) only [go_sem, *]; done)); (with_unfolding_all (simp +decide (disch := first | decide | omega) only [go_sem, *]; rfl)); (focus (simp +decide (disch := first | decide | omega) only [go_sem, *]; done)); (with_unfolding_all (simp +decide (disch := first | decide | omega) only [go_sem, *]; rfl))) | (apply opsT.moreX; with_unfolding_all rfl; (with_unfolding_all (simp +decide (disch := first | decide | omega) only [go_sem, *]; rfl))) | (apply opsT.fin; (with_unfolding_all (simp +decide (disch := first | decide | omega) only [go_sem, *]; rfl))) | (apply opsV.skipG; (focus (simp +decide (disch := first | decide | omega) only [go_sem, *]; done))) | (apply opsV.moreX; with_unfolding_all rfl; with_unfolding_all rfl; (with_unfolding_all (simp +decide (disch := first | decide | omega) only [go_sem, *]; rfl))) | (apply opsV.fin; with_unfolding_all rfl; (with_unfolding_all (simp +decide (disch := first | decide | omega) only [go_sem, *]; rfl))))
      refine WP.condB (by simp +decide (disch := first | decide | omega) only [go_sem, *]; rfl) (fun hb => ?_) (fun hb => ?_)
      · simp at hb
      · repeat' (with_reducible first | refine WP.seq ?_ | refine WP.skip ?_ | refine WP.label ?_ | refine WP.block ?_ | refine WP.exit ?_ | refine WP.ret ?_ | refine seqK_normal ?_ | refine seqK_exit ?_ | refine seqK_ret ?_ | refine loopK_exit ?_ | refine loopK_ret ?_ | refine blockK_normal ?_ | refine blockK_here ?_ | refine blockK_there (by decide) ?_ | refine blockK_ret ?_ | (apply WP.regionE; (with_unfolding_all (simp +decide (disch := first | decide | omega) only [go_sem, *]; rfl))) | (apply WP.regionV1 mixed; with_unfolding_all rfl; with_unfolding_all rfl; (with_unfolding_all (simp +decide (disch := first | decide | omega) only [go_sem, *]; rfl))))
        refine loopK_normal ⟨?_, ?_, ?_, ?_, i + 1, ?_, ?_, ?_⟩ ?_
        · simp +decide (disch := first | decide | omega) only [go_sem, *]
        · simp +decide (disch := first | decide | omega) only [go_sem, *]
        · simp +decide (disch := first | decide | omega) only [go_sem, *]
        · simp +decide (disch := first | decide | omega) only [go_sem, *]
        · simp +decide (disch := first | decide | omega) only [go_sem, *]; rfl
        · omega
        · exact hmap1
        · simp +decide (disch := first | decide | omega) only [go_sem, *]; omega
    · have hmap5 := hmap.keep (hfr5 0 (by omega))
      have hent := hR5.entry
      obtain ⟨k, v, sx⟩ := x
      obtain ⟨m, rfl⟩ := keyInt hkx
      obtain ⟨b, rfl⟩ : ∃ b, v = .bool b := by
        simp only [markM] at hmx
        split at hmx
        · exact ⟨_, (Option.some.inj hmx).symm⟩
        · split at hmx
          · exact ⟨_, (Option.some.inj hmx).symm⟩
          · cases hmx
      have hlook := hmap5.look (P := pg.P) (k := .int .i64 m) (ok := false) ma45 ze4 rfl
      rw [mergeM_look] at hlook
      obtain ⟨o, hu, hput⟩ := hmap5.put (P := pg.P) (k := .int .i64 m) (v := .bool ((bd (l.take i) m || pt pre m) || b)) ma45 rfl
      have hput' := (hput (h5.set 0 o) (List.getElem?_set_self hmap5.lt)).congr fun k hk => mergeM_put (l.take i) pre m b sx k hk
      obtain ⟨hR6, hl6⟩ := hR5.keep (h' := h5.set 0 o) (List.getElem?_set_ne (by omega)) (List.getElem?_set_ne (by omega))
      clear hput hR hmap hmap5 hkx hmx hfr5 hlen5
      generalize (bd (l.take i) m || pt pre m) = old at *
      cases old <;> simp only [Bool.true_or, Bool.false_or] at hu hlook
      all_goals
        repeat' (with_reducible first | refine WP.seq ?_ | refine WP.skip ?_ | refine WP.label ?_ | refine WP.block ?_ | refine WP.exit ?_ | refine WP.ret ?_ | refine seqK_normal ?_ | refine seqK_exit ?_ | refine seqK_ret ?_ | refine loopK_exit ?_ | refine loopK_ret ?_ | refine blockK_normal ?_ | refine blockK_here ?_ | refine blockK_there (by decide) ?_ | refine blockK_ret ?_ | (apply WP.regionE; (with_unfolding_all (simp +decide (disch := first | decide | omega) only [go_sem, *]; rfl))) | (apply WP.regionV1 mixed; with_unfolding_all rfl; with_unfolding_all rfl; (with_unfolding_all (simp +decide (disch := first | decide | omega) only [go_sem, *]; rfl))) | (apply WP.regionX; with_unfolding_all rfl; (with_unfolding_all (simp +decide (disch := first | decide | omega) only [go_sem, *]; rfl))) | (apply WP.regionVX mixed; with_unfolding_all rfl; with_unfolding_all rfl; with_unfolding_all rfl; (with_unfolding_all (simp +decide (disch := first | decide | omega) only [go_sem, *]; rfl))) | (apply opsT.skipG; (focus (simp +decide (disch := first | decide | omega) only [go_sem, *]; done))) | (apply opsT.call; (with_unfolding_all (simp +decide (disch := first | decide | omega) only [go_sem, *]; rfl)); (focus (simp +decide (disch := first | decide | omega) only [go_sem, *]; done)); (with_unfolding_all (simp +decide (disch := first | decide | omega) only [go_sem, *]; rfl))) | (apply opsT.callG; (focus (simp +decide (disch := first | decide | omega) only [go_sem, *]; done)); (with_unfolding_all (simp +decide (disch := first | decide | omega) only [go_sem, *]; rfl)); (focus (simp +decide (disch := first | decide | omega) only [go_sem, *]; done)); (with_unfolding_all (simp +decide (disch := first | decide | omega) only [go_sem, *]; rfl))) | (apply opsT.moreX; with_unfolding_all rfl; (with_unfolding_all (simp +decide (disch := first | decide | omega) only [go_sem, *]; rfl))) | (apply opsT.fin; (with_unfolding_all (simp +decide (disch := first | decide | omega) only [go_sem, *]; rfl))) | (apply opsV.skipG; (focus (simp +decide (disch := first | decide | omega) only [go_sem, *]; done))) | (apply opsV.moreX; with_unfolding_all rfl; with_unfolding_all rfl; (with_unfolding_all (simp +decide (disch := first | decide | omega) only [go_sem, *]; rfl))) | (apply opsV.fin; with_unfolding_all rfl; (with_unfolding_all (simp +decide (disch := first | decide | omega) only [go_sem, *]; rfl))))
        refine WP.condB (by simp +decide (disch := first | decide | omega) only [go_sem, *]; rfl) (fun hb => ?_) (fun hb => ?_)
        · repeat' (with_reducible first | refine WP.seq ?_ | refine WP.skip ?_ | refine WP.label ?_ | refine WP.block ?_ | refine WP.exit ?_ | refine WP.ret ?_ | refine seqK_normal ?_ | refine seqK_exit ?_ | refine seqK_ret ?_ | refine loopK_exit ?_ | refine loopK_ret ?_ | refine blockK_normal ?_ | refine blockK_here ?_ | refine blockK_there (by decide) ?_ | refine blockK_ret ?_ | (apply WP.regionE; (with_unfolding_all (simp +decide (disch := first | decide | omega) only [go_sem, *]; rfl))) | (apply WP.regionV1 mixed; with_unfolding_all rfl; with_unfolding_all rfl; (with_unfolding_all (simp +decide (disch := first | decide | omega) only [go_sem, *]; rfl))))
          refine loopK_normal ⟨?_, ?_, ?_, ?_, ?_, ?_, hmid, _, hR6, hput'⟩ ?_
          · simp +decide (disch := first | decide | omega) only [go_sem, *]
          · simp +decide (disch := first | decide | omega) only [go_sem, *]
          · simp +decide (disch := first | decide | omega) only [go_sem, *]
          · simp +decide (disch := first | decide | omega) only [go_sem, *]
          · simp +decide (disch := first | decide | omega) only [go_sem, *]
          · simp +decide (disch := first | decide | omega) only [go_sem, *]
          · show leftN (h5.set 0 o) h3.length < _
            rw [hl6]; exact hlt5
        · simp at hb
  · have hge : l.length ≤ i := by simpa using hb
    rw [List.take_of_length_le hge] at hmap
    obtain ⟨kvs, clock, hk1, hk2⟩ := hmap
    repeat' (with_reducible first | refine WP.seq ?_ | refine WP.skip ?_ | refine WP.label ?_ | refine WP.block ?_ | refine WP.exit ?_ | refine WP.ret ?_ | refine seqK_normal ?_ | refine seqK_exit ?_ | refine seqK_ret ?_ | refine loopK_exit ?_ | refine loopK_ret ?_ | refine blockK_normal ?_ | refine blockK_here ?_ | refine blockK_there (by decide) ?_ | refine blockK_ret ?_ | (apply WP.regionE; (with_unfolding_all (simp +decide (disch := first | decide | omega) only [go_sem, *]; rfl))) | (apply WP.regionV1 mixed; with_unfolding_all rfl; with_unfolding_all rfl; (with_unfolding_all (simp +decide (disch := first | decide | omega) only [go_sem, *]; rfl))))
    refine WP.loop (fun s h' => s 0 = .int .i64 n ∧ s 45 = .it h.length ∧ 0 < h.length ∧ ∃ pre, Rng h' h.length 0 (.int .i64) (mergeM l []) pre ∧ ∀ y ∈ pre, ∀ m, y.1 = .int .i64 m → 1 ≤ m → m ≤ n → y.2.1 = .bool true) (fun _ h' => leftN h' h.length) ⟨?_, ?_, ?_, [], ?_, ?_⟩ ?_
    · simp +decide (disch := first | decide | omega) only [go_sem, *]
    · simp +decide (disch := first | decide | omega) only [go_sem, *]
    · exact (List.getElem?_eq_some_iff.1 hk1).1
    · exact Rng.start (by simp) (by rw [List.getElem?_append_left (List.getElem?_eq_some_iff.1 hk1).1]; exact hk1) hk2
    · intro y hy; simp at hy
    clear h0 h7 h21 h22 h23 hk1 hk2 hb s
    rintro s h4 ⟨h0, h45, hpos, pre, hR, hpre⟩
    repeat' (with_reducible first | refine WP.seq ?_ | refine WP.skip ?_ | refine WP.label ?_ | refine WP.block ?_ | refine WP.exit ?_ | refine WP.ret ?_ | refine seqK_normal ?_ | refine seqK_exit ?_ | refine seqK_ret ?_ | refine loopK_exit ?_ | refine loopK_ret ?_ | refine blockK_normal ?_ | refine blockK_here ?_ | refine blockK_there (by decide) ?_ | refine blockK_ret ?_ | (apply WP.regionE; (with_unfolding_all (simp +decide (disch := first | decide | omega) only [go_sem, *]; rfl))) | (apply WP.regionV1 mixed; with_unfolding_all rfl; with_unfolding_all rfl; (with_unfolding_all (simp +decide (disch := first | decide | omega) only [go_sem, *]; rfl))))
    refine WP.region ?_
    refine opsT.nextM (it := h.length) (mid := 0) (pre := pre) (by simp +decide (disch := first | decide | omega) only [go_sem, *]) hR (by omega) (fun hall => ?_) (fun x h5 hkx hmx hR5 hlt5 hlen5 hfr5 => ?_)
    · repeat' (with_reducible first | refine WP.seq ?_ | refine WP.skip ?_ | refine WP.label ?_ | refine WP.block ?_ | refine WP.exit ?_ | refine WP.ret ?_ | refine seqK_normal ?_ | refine seqK_exit ?_ | refine seqK_ret ?_ | refine loopK_exit ?_ | refine loopK_ret ?_ | refine blockK_normal ?_ | refine blockK_here ?_ | refine blockK_there (by decide) ?_ | refine blockK_ret ?_ | (apply WP.regionE; (with_unfolding_all (simp +decide (disch := first | decide | omega) only [go_sem, *]; rfl))) | (apply WP.regionV1 mixed; with_unfolding_all rfl; with_unfolding_all rfl; (with_unfolding_all (simp +decide (disch := first | decide | omega) only [go_sem, *]; rfl))) | (apply WP.regionX; with_unfolding_all rfl; (with_unfolding_all (simp +decide (disch := first | decide | omega) only [go_sem, *]; rfl))) | (apply WP.regionVX mixed; with_unfolding_all rfl; with_unfolding_all rfl; with_unfolding_all rfl; (with_unfolding_all (simp +decide (disch := first | decide | omega) only [go_sem, *]; rfl))) | (apply opsT.skipG; (focus (simp +decide (disch := first | decide | omega) only [go_sem, *]; done))) | (apply opsT.call; (with_unfolding_all (simp +decide (disch := first | decide | omega) only [go_sem, *]; rfl)); (focus (simp +decide (disch := first | decide | omega) only [go_sem, *]; done)); (with_unfolding_all (simp +decide (disch := first | decide | omega) only [go_sem, *]; rfl))) | (apply opsT.callG; (focus (simp +decide (disch := first | decide | omega) only [go_sem, *]; done)); (with_unfolding_all (simp +decide (disch := first | decide | omega) only [go_sem, *]; rfl)); (focus (simp +decide (disch := first | decide | omega) only [go_sem, *]; done)); (with_unfolding_all (simp +decide (disch := first | decide | omega) only [go_sem, *]; rfl))) | (apply opsT.moreX; with_unfolding_all rfl; (with_unfolding_all (simp +decide (disch := first | decide | omega) only [go_sem, *]; rfl))) | (apply opsT.fin; (with_unfolding_all (simp +decide (disch := first | decide | omega) only [go_sem, *]; rfl))) | (apply opsV.skipG; (focus (simp +decide (disch := first | decide | omega) only [go_sem, *]; done))) | (apply opsV.moreX; with_unfolding_all rfl; with_unfolding_all rfl; (with_unfolding_all (simp +decide (disch := first | decide | omega) only [go_sem, *]; rfl))) | (apply opsV.fin; with_unfolding_all rfl; (with_unfolding_all (simp +decide (disch := first | decide | omega) only [go_sem, *]; rfl))))
      refine WP.condB (by simp +decide (disch := first | decide | omega) only [go_sem, *]; rfl) (fun hb => ?_) (fun hb => ?_)
      · simp at hb
      · repeat' (with_reducible first | refine WP.seq ?_ | refine WP.skip ?_ | refine WP.label ?_ | refine WP.block ?_ | refine WP.exit ?_ | refine WP.ret ?_ | refine seqK_normal ?_ | refine seqK_exit ?_ | refine seqK_ret ?_ | refine loopK_exit ?_ | refine loopK_ret ?_ | refine blockK_normal ?_ | refine blockK_here ?_ | refine blockK_there (by decide) ?_ | refine blockK_ret ?_ | (apply WP.regionE; (with_unfolding_all (simp +decide (disch := first | decide | omega) only [go_sem, *]; rfl))) | (apply WP.regionV1 mixed; with_unfolding_all rfl; with_unfolding_all rfl; (with_unfolding_all (simp +decide (disch := first | decide | omega) only [go_sem, *]; rfl))))
        refine fnPost_pure 0 (by first | exact .inl rfl | exact .inr rfl) (by simp +decide (disch := first | decide | omega) only [go_sem, *]; rfl) (by simp +decide (disch := first | decide | omega) only [go_sem, *]; rfl) ?_
        have : wins n l = false := by
          simp only [wins, Bool.and_eq_false_iff]
          right
          rw [List.any_eq_false]
          intro j hj
          rw [List.mem_range] at hj
          intro hw
          simp only [winName, Bool.and_eq_true, Bool.not_eq_true'] at hw
          obtain ⟨sx, hs⟩ := hall (.int .i64 ((j : Int) + 1)) (.bool false) rfl (by simp [mergeM, hw.1, hw.2, pt])
          have := hpre _ hs _ rfl (by omega) (by omega)
          simp at this
        rw [this]
    · have hent := hR5.entry
      obtain ⟨k, v, sx⟩ := x
      obtain ⟨m, rfl⟩ := keyInt hkx
      obtain ⟨b, rfl, hbg, hbd⟩ : ∃ b, v = .bool b ∧ (gd l m || bd l m) = true ∧ bd l m = b := by
        simp only [mergeM, pk_nil, pt_nil, Bool.or_false] at hmx
        split at hmx
        · exact ⟨_, (Option.some.inj hmx).symm, by assumption, rfl⟩
        · cases hmx
      have hpre5 : (1 ≤ m → m ≤ n → b = true) → ∀ y ∈ pre ++ [(HV.int .i64 m, HV.bool b, sx)], ∀ m, y.1 = .int .i64 m → 1 ≤ m → m ≤ n → y.2.1 = .bool true := fun hmb y hy m' hm' g1 g2 => by
        rcases List.mem_append.1 hy with hy | hy
        · exact hpre y hy m' hm' g1 g2
        · simp only [List.mem_singleton] at hy
          subst hy
          have : m = m' := by simpa using hm'
          subst this
          rw [hmb g1 g2]
      clear hR hfr5 hlen5 hmx hkx
      by_cases c3 : 1 ≤ m
      · by_cases c4 : m ≤ n
        · cases b with
          | true =>
            repeat' (with_reducible first | refine WP.seq ?_ | refine WP.skip ?_ | refine WP.label ?_ | refine WP.block ?_ | refine WP.exit ?_ | refine WP.ret ?_ | refine seqK_normal ?_ | refine seqK_exit ?_ | refine seqK_ret ?_ | refine loopK_exit ?_ | refine loopK_ret ?_ | refine blockK_normal ?_ | refine blockK_here ?_ | refine blockK_there (by decide) ?_ | refine blockK_ret ?_ | (apply WP.regionE; (with_unfolding_all (simp +decide (disch := first | decide | omega) only [go_sem, *]; rfl))) | (apply WP.regionV1 mixed; with_unfolding_all rfl; with_unfolding_all rfl; (with_unfolding_all (simp +decide (disch := first | decide | omega) only [go_sem, *]; rfl))) | (apply WP.regionX; with_unfolding_all rfl; (with_unfolding_all (simp +decide (disch := first | decide | omega) only [go_sem, *]; rfl))) | (apply WP.regionVX mixed; with_unfolding_all rfl; with_unfolding_all rfl; with_unfolding_all rfl; (with_unfolding_all (simp +decide (disch := first | decide | omega) only [go_sem, *]; rfl))) | (apply opsT.skipG; (focus (simp +decide (disch := first | decide | omega) only [go_sem, *]; done))) | (apply opsT.call; (with_unfolding_all (simp +decide (disch := first | decide | omega) only [go_sem, *]; rfl)); (focus (simp +decide (disch := first | decide | omega) only [go_sem, *]; done)); (with_unfolding_all (simp +decide (disch := first | decide | omega) only [go_sem, *]; rfl))) | (apply opsT.callG; (focus (simp +decide (disch := first | decide | omega) only [go_sem, *]; done)); (with_unfolding_all (simp +decide (disch := first | decide | omega) only [go_sem, *]; rfl)); (focus (simp +decide (disch := first | decide | omega) only [go_sem, *]; done)); (with_unfolding_all (simp +decide (disch := first | decide | omega) only [go_sem, *]; rfl))) | (apply opsT.moreX; with_unfolding_all rfl; (with_unfolding_all (simp +decide (disch := first | decide | omega) only [go_sem, *]; rfl))) | (apply opsT.fin; (with_unfolding_all (simp +decide (disch := first | decide | omega) only [go_sem, *]; rfl))) | (apply opsV.skipG; (focus (simp +decide (disch := first | decide | omega) only [go_sem, *]; done))) | (apply opsV.moreX; with_unfolding_all rfl; with_unfolding_all rfl; (with_unfolding_all (simp +decide (disch := first | decide | omega) only [go_sem, *]; rfl))) | (apply opsV.fin; with_unfolding_all rfl; (with_unfolding_all (simp +decide (disch := first | decide | omega) only [go_sem, *]; rfl))))
            refine WP.condB (by simp +decide (disch := first | decide | omega) only [go_sem, *]; rfl) (fun hb => ?_) (fun hb => ?_)
            · repeat' (with_reducible first | refine WP.seq ?_ | refine WP.skip ?_ | refine WP.label ?_ | refine WP.block ?_ | refine WP.exit ?_ | refine WP.ret ?_ | refine seqK_normal ?_ | refine seqK_exit ?_ | refine seqK_ret ?_ | refine loopK_exit ?_ | refine loopK_ret ?_ | refine blockK_normal ?_ | refine blockK_here ?_ | refine blockK_there (by decide) ?_ | refine blockK_ret ?_ | (apply WP.regionE; (with_unfolding_all (simp +decide (disch := first | decide | omega) only [go_sem, *]; rfl))) | (apply WP.regionV1 mixed; with_unfolding_all rfl; with_unfolding_all rfl; (with_unfolding_all (simp +decide (disch := first | decide | omega) only [go_sem, *]; rfl))))
              refine WP.condB (by simp +decide (disch := first | decide | omega) only [go_sem, *]; rfl) (fun hb => ?_) (fun hb => ?_)
              · simp at hb
              · repeat' (with_reducible first | refine WP.seq ?_ | refine WP.skip ?_ | refine WP.label ?_ | refine WP.block ?_ | refine WP.exit ?_ | refine WP.ret ?_ | refine seqK_normal ?_ | refine seqK_exit ?_ | refine seqK_ret ?_ | refine loopK_exit ?_ | refine loopK_ret ?_ | refine blockK_normal ?_ | refine blockK_here ?_ | refine blockK_there (by decide) ?_ | refine blockK_ret ?_ | (apply WP.regionE; (with_unfolding_all (simp +decide (disch := first | decide | omega) only [go_sem, *]; rfl))) | (apply WP.regionV1 mixed; with_unfolding_all rfl; with_unfolding_all rfl; (with_unfolding_all (simp +decide (disch := first | decide | omega) only [go_sem, *]; rfl))))
                refine loopK_normal ⟨?_, ?_, hpos, _, hR5, hpre5 fun _ _ => rfl⟩ hlt5
                · simp +decide (disch := first | decide | omega) only [go_sem, *]
                · simp +decide (disch := first | decide | omega) only [go_sem, *]
            · simp at hb
          | false =>
            repeat' (with_reducible first | refine WP.seq ?_ | refine WP.skip ?_ | refine WP.label ?_ | refine WP.block ?_ | refine WP.exit ?_ | refine WP.ret ?_ | refine seqK_normal ?_ | refine seqK_exit ?_ | refine seqK_ret ?_ | refine loopK_exit ?_ | refine loopK_ret ?_ | refine blockK_normal ?_ | refine blockK_here ?_ | refine blockK_there (by decide) ?_ | refine blockK_ret ?_ | (apply WP.regionE; (with_unfolding_all (simp +decide (disch := first | decide | omega) only [go_sem, *]; rfl))) | (apply WP.regionV1 mixed; with_unfolding_all rfl; with_unfolding_all rfl; (with_unfolding_all (simp +decide (disch := first | decide | omega) only [go_sem, *]; rfl))) | (apply WP.regionX; with_unfolding_all rfl; (with_unfolding_all (simp +decide (disch := first | decide | omega) only [go_sem, *]; rfl))) | (apply WP.regionVX mixed; with_unfolding_all rfl; with_unfolding_all rfl; with_unfolding_all rfl; (with_unfolding_all (simp +decide (disch := first | decide | omega) only [go_sem, *]; rfl))) | (apply opsT.skipG; (focus (simp +decide (disch := first | decide | omega) only [go_sem, *]; done))) | (apply opsT.call; (with_unfolding_all (simp +decide (disch := first | decide | omega) only [go_sem, *]; rfl)); (focus (simp +decide (disch := first | decide | omega) only [go_sem, *]; done)); (with_unfolding_all (simp +decide (disch := first | decide | omega) only [go_sem, *]; rfl))) | (apply opsT.callG; (focus (simp +decide (disch := first | decide | omega) only [go_sem, *]; done)); (with_unfolding_all (simp +decide (disch := first | decide | omega) only [go_sem, *]; rfl)); (focus (simp +decide (disch := first | decide | omega) only [go_sem, *]; done)); (with_unfolding_all (simp +decide (disch := first | decide | omega) only [go_sem, *]; rfl))) | (apply opsT.moreX; with_unfolding_all rfl; (with_unfolding_all (simp +decide (disch := first | decide | omega) only [go_sem, *]; rfl))) | (apply opsT.fin; (with_unfolding_all (simp +decide (disch := first | decide | omega) only [go_sem, *]; rfl))) | (apply opsV.skipG; (focus (simp +decide (disch := first | decide | omega) only [go_sem, *]; done))) | (apply opsV.moreX; with_unfolding_all rfl; with_unfolding_all rfl; (with_unfolding_all (simp +decide (disch := first | decide | omega) only [go_sem, *]; rfl))) | (apply opsV.fin; with_unfolding_all rfl; (with_unfolding_all (simp +decide (disch := first | decide | omega) only [go_sem, *]; rfl))))
            refine WP.condB (by simp +decide (disch := first | decide | omega) only [go_sem, *]; rfl) (fun hb => ?_) (fun hb => ?_)
            · repeat' (with_reducible first | refine WP.seq ?_ | refine WP.skip ?_ | refine WP.label ?_ | refine WP.block ?_ | refine WP.exit ?_ | refine WP.ret ?_ | refine seqK_normal ?_ | refine seqK_exit ?_ | refine seqK_ret ?_ | refine loopK_exit ?_ | refine loopK_ret ?_ | refine blockK_normal ?_ | refine blockK_here ?_ | refine blockK_there (by decide) ?_ | refine blockK_ret ?_ | (apply WP.regionE; (with_unfolding_all (simp +decide (disch := first | decide | omega) only [go_sem, *]; rfl))) | (apply WP.regionV1 mixed; with_unfolding_all rfl; with_unfolding_all rfl; (with_unfolding_all (simp +decide (disch := first | decide | omega) only [go_sem, *]; rfl))))
              refine WP.condB (by simp +decide (disch := first | decide | omega) only [go_sem, *]; rfl) (fun hb => ?_) (fun hb => ?_)
              · repeat' (with_reducible first | refine WP.seq ?_ | refine WP.skip ?_ | refine WP.label ?_ | refine WP.block ?_ | refine WP.exit ?_ | refine WP.ret ?_ | refine seqK_normal ?_ | refine seqK_exit ?_ | refine seqK_ret ?_ | refine loopK_exit ?_ | refine loopK_ret ?_ | refine blockK_normal ?_ | refine blockK_here ?_ | refine blockK_there (by decide) ?_ | refine blockK_ret ?_ | (apply WP.regionE; (with_unfolding_all (simp +decide (disch := first | decide | omega) only [go_sem, *]; rfl))) | (apply WP.regionV1 mixed; with_unfolding_all rfl; with_unfolding_all rfl; (with_unfolding_all (simp +decide (disch := first | decide | omega) only [go_sem, *]; rfl))))
                refine fnPost_pure 0 (by first | exact .inl rfl | exact .inr rfl) (by simp +decide (disch := first | decide | omega) only [go_sem, *]; rfl) (by simp +decide (disch := first | decide | omega) only [go_sem, *]; rfl) ?_
                have : wins n l = true := by
                  rw [hbd, Bool.or_false] at hbg
                  simp only [wins, Bool.and_eq_true, decide_eq_true_eq, List.any_eq_true, List.mem_range]
                  exact ⟨by omega, (m - 1).toNat, by omega, by rw [show ((m - 1).toNat : Int) + 1 = m by omega]; simp [winName, hbg, hbd]⟩
                rw [this]
              · simp at hb
            · simp at hb
        · repeat' (with_reducible first | refine WP.seq ?_ | refine WP.skip ?_ | refine WP.label ?_ | refine WP.block ?_ | refine WP.exit ?_ | refine WP.ret ?_ | refine seqK_normal ?_ | refine seqK_exit ?_ | refine seqK_ret ?_ | refine loopK_exit ?_ | refine loopK_ret ?_ | refine blockK_normal ?_ | refine blockK_here ?_ | refine blockK_there (by decide) ?_ | refine blockK_ret ?_ | (apply WP.regionE; (with_unfolding_all (simp +decide (disch := first | decide | omega) only [go_sem, *]; rfl))) | (apply WP.regionV1 mixed; with_unfolding_all rfl; with_unfolding_all rfl; (with_unfolding_all (simp +decide (disch := first | decide | omega) only [go_sem, *]; rfl))) | (apply WP.regionX; with_unfolding_all rfl; (with_unfolding_all (simp +decide (disch := first | decide | omega) only [go_sem, *]; rfl))) | (apply WP.regionVX mixed; with_unfolding_all rfl; with_unfolding_all rfl; with_unfolding_all rfl; (with_unfolding_all (simp +decide (disch := first | decide | omega) only [go_sem, *]; rfl))) | (apply opsT.skipG; (focus (simp +decide (disch := first | decide | omega) only [go_sem, *]; done))) | (apply opsT.call; (with_unfolding_all (simp +decide (disch := first | decide | omega) only [go_sem, *]; rfl)); (focus (simp +decide (disch := first | decide | omega) only [go_sem, *]; done)); (with_unfolding_all (simp +decide (disch := first | decide | omega) only [go_sem, *]; rfl))) | (apply opsT.callG; (focus (simp +decide (disch := first | decide | omega) only [go_sem, *]; done)); (with_unfolding_all (simp +decide (disch := first | decide | omega) only [go_sem, *]; rfl)); (focus (simp +decide (disch := first | decide | omega) only [go_sem, *]; done)); (with_unfolding_all (simp +decide (disch := first | decide | omega) only [go_sem, *]; rfl))) | (apply opsT.moreX; with_unfolding_all rfl; (with_unfolding_all (simp +decide (disch := first | decide | omega) only [go_sem, *]; rfl))) | (apply opsT.fin; (with_unfolding_all (simp +decide (disch := first | decide | omega) only [go_sem, *]; rfl))) | (apply opsV.skipG; (focus (simp +decide (disch := first | decide | omega) only [go_sem, *]; done))) | (apply opsV.moreX; with_unfolding_all rfl; with_unfolding_all rfl; (with_unfolding_all (simp +decide (disch := first | decide | omega) only [go_sem, *]; rfl))) | (apply opsV.fin; with_unfolding_all rfl; (with_unfolding_all (simp +decide (disch := first | decide | omega) only [go_sem, *]; rfl))))
          refine WP.condB (by simp +decide (disch := first | decide | omega) only [go_sem, *]; rfl) (fun hb => ?_) (fun hb => ?_)
          · repeat' (with_reducible first | refine WP.seq ?_ | refine WP.skip ?_ | refine WP.label ?_ | refine WP.block ?_ | refine WP.exit ?_ | refine WP.ret ?_ | refine seqK_normal ?_ | refine seqK_exit ?_ | refine seqK_ret ?_ | refine loopK_exit ?_ | refine loopK_ret ?_ | refine blockK_normal ?_ | refine blockK_here ?_ | refine blockK_there (by decide) ?_ | refine blockK_ret ?_ | (apply WP.regionE; (with_unfolding_all (simp +decide (disch := first | decide | omega) only [go_sem, *]; rfl))) | (apply WP.regionV1 mixed; with_unfolding_all rfl; with_unfolding_all rfl; (with_unfolding_all (simp +decide (disch := first | decide | omega) only [go_sem, *]; rfl))))
            refine WP.condB (by simp +decide (disch := first | decide | omega) only [go_sem, *]; rfl) (fun hb => ?_) (fun hb => ?_)
            · simp at hb
            · repeat' (with_reducible first | refine WP.seq ?_ | refine WP.skip ?_ | refine WP.label ?_ | refine WP.block ?_ | refine WP.exit ?_ | refine WP.ret ?_ | refine seqK_normal ?_ | refine seqK_exit ?_ | refine seqK_ret ?_ | refine loopK_exit ?_ | refine loopK_ret ?_ | refine blockK_normal ?_ | refine blockK_here ?_ | refine blockK_there (by decide) ?_ | refine blockK_ret ?_ | (apply WP.regionE; (with_unfolding_all (simp +decide (disch := first | decide | omega) only [go_sem, *]; rfl))) | (apply WP.regionV1 mixed; with_unfolding_all rfl; with_unfolding_all rfl; (with_unfolding_all (simp +decide (disch := first | decide | omega) only [go_sem, *]; rfl))))
              refine loopK_normal ⟨?_, ?_, hpos, _, hR5, hpre5 fun _ h => absurd h c4⟩ hlt5
              · simp +decide (disch := first | decide | omega) only [go_sem, *]
              · simp +decide (disch := first | decide | omega) only [go_sem, *]
          · simp at hb
      · repeat' (with_reducible first | refine WP.seq ?_ | refine WP.skip ?_ | refine WP.label ?_ | refine WP.block ?_ | refine WP.exit ?_ | refine WP.ret ?_ | refine seqK_normal ?_ | refine seqK_exit ?_ | refine seqK_ret ?_ | refine loopK_exit ?_ | refine loopK_ret ?_ | refine blockK_normal ?_ | refine blockK_here ?_ | refine blockK_there (by decide) ?_ | refine blockK_ret ?_ | (apply WP.regionE; (with_unfolding_all (simp +decide (disch := first | decide | omega) only [go_sem, *]; rfl))) | (apply WP.regionV1 mixed; with_unfolding_all rfl; with_unfolding_all rfl; (with_unfolding_all (simp +decide (disch := first | decide | omega) only [go_sem, *]; rfl))) | (apply WP.regionX; with_unfolding_all rfl; (with_unfolding_all (simp +decide (disch := first | decide | omega) only [go_sem, *]; rfl))) | (apply WP.regionVX mixed; with_unfolding_all rfl; with_unfolding_all rfl; with_unfolding_all rfl; (with_unfolding_all (simp +decide (disch := first | decide | omega) only [go_sem, *]; rfl))) | (apply opsT.skipG; (focus (simp +decide (disch := first | decide | omega) only [go_sem, *]; done))) | (apply opsT.call; (with_unfolding_all (simp +decide (disch := first | decide | omega) only [go_sem, *]; rfl)); (focus (simp +decide (disch := first | decide | omega) only [go_sem, *]; done)); (with_unfolding_all (simp +decide (disch := first | decide | omega) only [go_sem, *]; rfl))) | (apply opsT.callG; (focus (simp +decide (disch := first | decide | omega) only [go_sem, *]; done)); (with_unfolding_all (simp +decide (disch := first | decide | omega) only [go_sem, *]; rfl)); (focus (simp +decide (disch := first | decide | omega) only [go_sem, *]; done)); (with_unfolding_all (simp +decide (disch := first | decide | omega) only [go_sem, *]; rfl))) | (apply opsT.moreX; with_unfolding_all rfl; (with_unfolding_all (simp +decide (disch := first | decide | omega) only [go_sem, *]; rfl))) | (apply opsT.fin; (with_unfolding_all (simp +decide (disch := first | decide | omega) only [go_sem, *]; rfl))) | (apply opsV.skipG; (focus (simp +decide (disch := first | decide | omega) only [go_sem, *]; done))) | (apply opsV.moreX; with_unfolding_all rfl; with_unfolding_all rfl; (with_unfolding_all (simp +decide (disch := first | decide | omega) only [go_sem, *]; rfl))) | (apply opsV.fin; with_unfolding_all rfl; (with_unfolding_all (simp +decide (disch := first | decide | omega) only [go_sem, *]; rfl))))
        refine WP.condB (by simp +decide (disch := first | decide | omega) only [go_sem, *]; rfl) (fun hb => ?_) (fun hb => ?_)
        · repeat' (with_reducible first | refine WP.seq ?_ | refine WP.skip ?_ | refine WP.label ?_ | refine WP.block ?_ | refine WP.exit ?_ | refine WP.ret ?_ | refine seqK_normal ?_ | refine seqK_exit ?_ | refine seqK_ret ?_ | refine loopK_exit ?_ | refine loopK_ret ?_ | refine blockK_normal ?_ | refine blockK_here ?_ | refine blockK_there (by decide) ?_ | refine blockK_ret ?_ | (apply WP.regionE; (with_unfolding_all (simp +decide (disch := first | decide | omega) only [go_sem, *]; rfl))) | (apply WP.regionV1 mixed; with_unfolding_all rfl; with_unfolding_all rfl; (with_unfolding_all (simp +decide (disch := first | decide | omega) only [go_sem, *]; rfl))))
          refine WP.condB (by simp +decide (disch := first | decide | omega) only [go_sem, *]; rfl) (fun hb => ?_) (fun hb => ?_)
          · simp at hb
          · repeat' (with_reducible first | refine WP.seq ?_ | refine WP.skip ?_ | refine WP.label ?_ | refine WP.block ?_ | refine WP.exit ?_ | refine WP.ret ?_ | refine seqK_normal ?_ | refine seqK_exit ?_ | refine seqK_ret ?_ | refine loopK_exit ?_ | refine loopK_ret ?_ | refine blockK_normal ?_ | refine blockK_here ?_ | refine blockK_there (by decide) ?_ | refine blockK_ret ?_ | (apply WP.regionE; (with_unfolding_all (simp +decide (disch := first | decide | omega) only [go_sem, *]; rfl))) | (apply WP.regionV1 mixed; with_unfolding_all rfl; with_unfolding_all rfl; (with_unfolding_all (simp +decide (disch := first | decide | omega) only [go_sem, *]; rfl))))
            refine loopK_normal ⟨?_, ?_, hpos, _, hR5, hpre5 fun h _ => absurd h c3⟩ hlt5
            · simp +decide (disch := first | decide | omega) only [go_sem, *]
            · simp +decide (disch := first | decide | omega) only [go_sem, *]
        · simp at hb

end Go.Proofs.Ythfobbfechdoaaa
