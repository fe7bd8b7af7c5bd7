/-
  Chapter 16: the states that are reached by a word, and those with a good move on the way.
-/
import Derived.Test.YtonhbeapffiibaaLawALawB
import Derived.Test.YtonhbeapffiibaaHlM4
import Derived.Test.YtonhbeapffiibaaLawPLawNLawS
namespace Go.Proofs.Ytonhbeapffiibaa
open Go.HL

theorem own_push2 {h0 h : Hp} {T t : TypeId} {k bt : Nat} {z x y : HV} {es ys : List (List HV)} (ho : OwnAt h x t es) (hb : ∀ id n, x = .ow id 0 n → h0.length ≤ id) (hp : Pre h0 h) (he : elemH pg.P T = some t) (hk : szH pg.P t = some k) (hz : zeroH pg.P t = some z) (hbt : bytesH pg.P t = some bt)
    (h1 : 0 < bt) (h2 : z.cells.length = k) (h3 : z.cells.all HV.one = true) (hy : elemsH h y = some ys) (hys : ∀ cs ∈ ys, cs.length = k ∧ cs.all HV.one = true) (hlen : (es.length + ys.length) * bt ≤ 140737488355328) :
    ∃ r, appendH pg.P h h.length T x y = some r ∧ OwnAt (setAll (h ++ r.ns) r.ws) r.x t (es ++ ys) ∧ Pre h0 (setAll (h ++ r.ns) r.ws) ∧ (∀ id n, r.x = .ow id 0 n → h.length ≤ id) ∧ (∀ j, j < h.length → ¬ j ∈ idsOf x → (setAll (h ++ r.ns) r.ws)[j]? = h[j]?) ∧ h.length < (setAll (h ++ r.ns) r.ws).length := by
  obtain ⟨r, r1, r2, r3, r4⟩ := ho.append (P := pg.P) (T := T) (y := y) he hk hz hbt h1 h2 h3 hy hys hlen
  obtain ⟨f1, f2, f3, f4⟩ := ho.append_frame he hy r1
  refine ⟨r, r1, r2, ?_, fun id n e => by rw [f2] at e; injection e with e; omega, f3, by omega⟩
  refine pre_of hp (by omega) fun j o hj hlt => ?_
  refine r4 j o hj fun l e => ?_
  have := hb j l e
  omega

/-- The numbers of a list and those of the first k of another one. -/
def addTo (more g : List Int) : Nat → List Int
  | 0 => g
  | k + 1 => if (addTo more g k).contains (nth more k) then addTo more g k else addTo more g k ++ [nth more k]

theorem mem_addTo {more g : List Int} {q : Int} : ∀ {k : Nat}, k ≤ more.length → (q ∈ addTo more g k ↔ q ∈ g ∨ ∃ j, j < k ∧ nth more j = q)
  | 0, _ => by simp [addTo]
  | k + 1, h => by
    have ih := mem_addTo (more := more) (g := g) (q := q) (k := k) (by omega)
    rw [addTo]
    split
    · rename_i hc
      rw [ih]
      constructor
      · rintro (h | ⟨j, h1, h2⟩)
        · exact .inl h
        · exact .inr ⟨j, by omega, h2⟩
      · rintro (h | ⟨j, h1, h2⟩)
        · exact .inl h
        · by_cases e : j = k
          · subst e
            rw [List.contains_iff_mem, h2] at hc
            exact ih.1 hc
          · exact .inr ⟨j, by omega, h2⟩
    · rw [List.mem_append, ih, List.mem_singleton]
      constructor
      · rintro ((h | ⟨j, h1, h2⟩) | h)
        · exact .inl h
        · exact .inr ⟨j, by omega, h2⟩
        · exact .inr ⟨k, by omega, h.symm⟩
      · rintro (h | ⟨j, h1, h2⟩)
        · exact .inl (.inl h)
        · by_cases e : j = k
          · subst e; exact .inr h2.symm
          · exact .inl (.inr ⟨j, by omega, h2⟩)

theorem addTo_len (more g : List Int) : ∀ k, (addTo more g k).length ≤ g.length + k
  | 0 => by simp [addTo]
  | k + 1 => by
    have := addTo_len more g k
    rw [addTo]
    split
    · omega
    · simp; omega

def mvStep (b : Bu) (s : List Int × List Int) (a : Int) : List Int × List Int := (reach b s.1 a false, addTo (reach b s.1 a true) (reach b s.2 a false) (reach b s.1 a true).length)
/-- The states that are reached by a word, and those with a good move on the way. -/
def mv (b : Bu) (set w : List Int) : List Int × List Int := w.foldl (mvStep b) (set, [])

theorem mv_snoc (b : Bu) (set w : List Int) (a : Int) : mv b set (w ++ [a]) = mvStep b (mv b set w) a := by simp [mv, List.foldl_append]

theorem reach_len {b : Bu} {set : List Int} {a : Int} {w : Bool} : (reach b set a w).length ≤ b.next.length := by
  have h1 := filter_le (hits b set a w) (states b)
  have h2 : (states b).length = b.next.length := by simp [states]
  simp only [reach]; omega

theorem mem_good_step {b : Bu} {s : List Int × List Int} {a q : Int} : q ∈ (mvStep b s a).2 ↔ q ∈ reach b s.2 a false ∨ q ∈ reach b s.1 a true := by
  simp only [mvStep]
  rw [mem_addTo (Nat.le_refl _)]
  constructor
  · rintro (h | ⟨j, h1, h2⟩)
    · exact .inl h
    · exact .inr (h2 ▸ nth_mem h1)
  · rintro (h | h)
    · exact .inl h
    · obtain ⟨j, hj, e⟩ := List.getElem_of_mem h
      exact .inr ⟨j, hj, by rw [nth_eq hj]; exact e⟩

theorem mv_in {b : Bu} {set : List Int} (hset : ∀ i, i < set.length → 0 ≤ nth set i ∧ nth set i < b.next.length) (w : List Int) : ∀ n, n ≤ w.length → (∀ q ∈ (mv b set (w.take n)).1, 0 ≤ q ∧ q < b.next.length) ∧ ∀ q ∈ (mv b set (w.take n)).2, 0 ≤ q ∧ q < b.next.length
  | 0, _ => by
    refine ⟨fun q hq => ?_, fun q hq => by simp [mv] at hq⟩
    simp only [List.take_zero, mv, List.foldl_nil] at hq
    obtain ⟨i, hi, rfl⟩ := List.getElem_of_mem hq
    have := hset i hi
    rwa [nth_eq hi] at this
  | n + 1, h => by
    rw [take_nth (by omega), mv_snoc]
    refine ⟨fun q hq => reach_lt hq, fun q hq => ?_⟩
    rcases mem_good_step.1 hq with h | h <;> exact reach_lt h

theorem nth_of {l : List Int} {n : Nat} (h : ∀ q ∈ l, 0 ≤ q ∧ q < (n : Int)) : ∀ i, i < l.length → 0 ≤ nth l i ∧ nth l i < n := fun i hi => h _ (nth_mem hi)

set_option maxHeartbeats 4000000 in
set_option maxRecDepth 8000 in
theorem law_moved (b : Bu) (set w : List Int) (hv : validB b = true) (hset : ∀ i, i < set.length → 0 ≤ nth set i ∧ nth set i < b.next.length) (hw : ∀ i, i < w.length → 0 ≤ nth w i ∧ nth w i < b.letters) (hwl : w.length ≤ 1000) :
    CallsP pg 27 [.agg (buC b), .sl false (ints set), .sl false (ints w)] (fun v => v = .tup [.sl false (ints (mv b set w).1), .sl false (ints (mv b set w).2)]) := by
  have hvl := (validB_iff.1 hv).1
  refine CallsP.of_wpN [] 62 fn27 rfl rfl ?_
  refine WP.abs (fun s => s 0 = .agg (buC b) ∧ s 1 = .sl false (ints set) ∧ s 2 = .sl false (ints w)) ⟨rfl, rfl, rfl⟩ ?_
  rintro s ⟨h0, h1, h2⟩
  repeat' (with_reducible first | refine WP.seq ?_ | refine WP.block ?_ | refine seqK_normal ?_ | (apply WP.regionE; (with_unfolding_all (simp +decide (disch := first | decide | omega) only [go_sem, *]; rfl))))
  refine WP.dimSlot 8 (x := .sl false (ints [])) (by first | rfl | (simp +decide (disch := first | decide | omega) only [go_sem, *]; done) | (simp +decide (disch := first | decide | omega) only [go_sem, *]; rfl)) ?_
  refine WP.loop (fun s h => s 2 = .sl false (ints w) ∧ s 3 = .ep 0 0 0 ∧ h[0]? = some (.row 25 [buC b]) ∧ ∃ i : Nat, s 9 = .int .i64 i ∧ i ≤ w.length ∧ s 1 = .sl false (ints (mv b set (w.take i)).1) ∧ s 8 = .sl false (ints (mv b set (w.take i)).2)) (fun s _ => w.length - (s 9).toInt.toNat)
    ⟨by ((simp +decide (disch := first | decide | omega) only [go_sem, *]; done)), by (rfl), rfl, 0, by simp +decide (disch := first | decide | omega) only [go_sem, *]; rfl, by omega, by first | simp +decide (disch := first | decide | omega) only [go_sem, *]; done | (simp +decide (disch := first | decide | omega) only [go_sem, *]; simp [mv]), by first | simp +decide (disch := first | decide | omega) only [go_sem, *]; done | (simp +decide (disch := first | decide | omega) only [go_sem, *]; simp [mv])⟩ ?_
  clear h0 h1 h2 s
  rintro s h ⟨h2, h3, hr0, i, h9, hi, h1, h8⟩
  obtain ⟨m1, m2⟩ := mv_in hset w i hi
  have h0l : 0 < h.length := (List.getElem?_eq_some_iff.1 hr0).1
  by_cases hlt : i < w.length
  · have ha := hw i hlt
    have hsn : mv b set (w.take (i + 1)) = mvStep b (mv b set (w.take i)) (nth w i) := by rw [take_nth hlt, mv_snoc]
    obtain ⟨S, hS⟩ : ∃ S, (mv b set (w.take i)).1 = S := ⟨_, rfl⟩
    obtain ⟨G, hG⟩ : ∃ G, (mv b set (w.take i)).2 = G := ⟨_, rfl⟩
    rw [hS] at h1 m1
    rw [hG] at h8 m2
    have c5 := ref_Reached b S (nth w i) true hv ha (nth_of m1)
    have c12 := ref_Reached b S (nth w i) false hv ha (nth_of m1)
    have c6 : FreshCall pg 24 [.agg (buC b), .sl false (ints G), .int .i64 (nth w i), .bool false] 3 (ints (reach b G (nth w i) false)) := FreshCall.of sz3 (by simp [HV.freeL, HV.free, buC_free, ints_free]) (ints_free _) ((ref_ReachedH b G (nth w i) false [] hv ha (nth_of m2)).mono fun r h' hh => hh.2.1)
    have hml := reach_len (b := b) (set := S) (a := nth w i) (w := true)
    have hgl := reach_len (b := b) (set := G) (a := nth w i) (w := false)
    repeat' (with_reducible first | refine WP.seq ?_ | refine WP.skip ?_ | refine WP.block ?_ | refine WP.exit ?_ | refine WP.ret ?_ | refine seqK_normal ?_ | refine seqK_exit ?_ | refine loopK_exit ?_ | refine blockK_here ?_ | (apply WP.regionE; (with_unfolding_all (simp +decide (disch := first | decide | omega) only [go_sem, *]; rfl))) | (apply WP.condB; (simp +decide (disch := first | decide | omega) only [go_sem, *]; rfl); all_goals (intro hb; (first | rw [dlt_t] at hb | rw [dlt_f] at hb | rw [dle_t] at hb | rw [dle_f] at hb | rw [Bool.not_eq_true'] at hb | rw [Bool.not_eq_false'] at hb | skip))))
    · refine joinR (fun s' h' => h' = h ∧ s' 1 = .sl false (ints S) ∧ s' 2 = .sl false (ints w) ∧ s' 3 = .ep 0 0 0 ∧ s' 8 = .sl false (ints G) ∧ s' 9 = .int .i64 i ∧ s' 10 = .sl false (ints (reach b S (nth w i) true))) ?_ ?_
      · repeat' (with_reducible first | (apply WP.regionVX mixed; with_unfolding_all rfl; with_unfolding_all rfl; with_unfolding_all rfl; (with_unfolding_all (simp +decide (disch := first | decide | omega) only [go_sem, *]; rfl))) | (apply opsV.call; (with_unfolding_all (simp +decide (disch := first | decide | omega) only [go_sem, *]; rfl)); (focus (simp +decide (disch := first | decide | omega) only [go_sem, *]; done)); (with_unfolding_all (simp +decide (disch := first | decide | omega) only [go_sem, *]; rfl)); exact (c5); (focus (simp +decide (disch := first | decide | omega) only [go_sem, *]; done))) | (apply opsV.fin; with_unfolding_all rfl; (with_unfolding_all (simp +decide (disch := first | decide | omega) only [go_sem, *]; rfl))))
        exact ⟨rfl, rfl, by ((simp +decide (disch := first | decide | omega) only [go_sem, *]; done)), by ((simp +decide (disch := first | decide | omega) only [go_sem, *]; done)), by ((simp +decide (disch := first | decide | omega) only [go_sem, *]; done)), by ((simp +decide (disch := first | decide | omega) only [go_sem, *]; done)), by ((simp +decide (disch := first | decide | omega) only [go_sem, *]; done)), by (rfl)⟩
      rintro s' h' ⟨rfl, k1, k2, k3, k8, k9, k10⟩
      clear h1 h2 h3 h8 c5
      obtain ⟨M, hM⟩ : ∃ M, reach b S (nth w i) true = M := ⟨_, rfl⟩
      obtain ⟨G2, hG2⟩ : ∃ G2, reach b G (nth w i) false = G2 := ⟨_, rfl⟩
      rw [hM] at k10 hml
      rw [hG2] at hgl c6
      repeat' (with_reducible first | refine WP.seq ?_ | refine seqK_normal ?_)
      refine WP.regionFresh 6 mixed (by with_unfolding_all rfl) (by with_unfolding_all rfl) (by with_unfolding_all rfl) (by with_unfolding_all rfl) (by (with_unfolding_all (simp +decide (disch := first | decide | omega) only [go_sem, *]; rfl))) (by simp +decide (disch := first | decide | omega) only [go_sem, *]) en24 (by (rfl)) c6 (by (with_unfolding_all (simp +decide (disch := first | decide | omega) only [go_sem, *]; rfl))) (fun _ => ?_)
      clear c6
      repeat' (with_reducible first | refine WP.seq ?_ | refine WP.block ?_ | refine seqK_normal ?_ | (apply WP.regionE; (with_unfolding_all (simp +decide (disch := first | decide | omega) only [go_sem, *]; rfl))))
      refine WP.loop (fun s'' h'' => s'' 1 = .sl false (ints S) ∧ s'' 2 = .sl false (ints w) ∧ s'' 3 = .ep 0 0 0 ∧ s'' 9 = .int .i64 i ∧ s'' 10 = .sl false (ints M) ∧ ∃ k : Nat, s'' 11 = .int .i64 k ∧ k ≤ M.length ∧ ∃ id, s'' 8 = .ow id 0 (addTo M G2 k).length ∧ h''[id]? = some (.row 3 (ints (addTo M G2 k))) ∧ Pre h' h'' ∧ h'.length ≤ id) (fun s'' _ => M.length - (s'' 11).toInt.toNat)
        ⟨by ((simp +decide (disch := first | decide | omega) only [go_sem, *]; done)), by ((simp +decide (disch := first | decide | omega) only [go_sem, *]; done)), by ((simp +decide (disch := first | decide | omega) only [go_sem, *]; done)), by ((simp +decide (disch := first | decide | omega) only [go_sem, *]; done)), by ((simp +decide (disch := first | decide | omega) only [go_sem, *]; done)), 0, by simp +decide (disch := first | decide | omega) only [go_sem, *]; rfl, by omega, h'.length, by (rfl), by simp [addTo], ⟨_, rfl⟩, Nat.le_refl _⟩ ?_
      clear k1 k2 k3 k8 k9 k10 s'
      rintro s' h'' ⟨k1, k2, k3, k9, k10, k, k11, hk, id, k8, hrow, hpre, hid⟩
      have hal := addTo_len M G2 k
      by_cases hkl : k < M.length
      · have hstep : addTo M G2 (k + 1) = if (addTo M G2 k).contains (nth M k) then addTo M G2 k else addTo M G2 k ++ [nth M k] := rfl
        obtain ⟨r, hr, q1, q2, q3, q4, q5⟩ := own_push2 (OwnAt.of_row hrow) (fun id' n e => by injection e with e; omega) hpre (T := 22) (y := .sl true [[.int .i64 (nth M k)]]) (ys := ints [nth M k]) el22 sz3 ze3 by3 (by decide) rfl rfl rfl (ints_ok _) (by rw [ints_length, ints_length]; simp; omega)
        rw [ints_length] at hr
        have hrd : rdV h'' 1 (.ow id 0 (addTo M G2 k).length) = some (.sl false (ints (addTo M G2 k))) := rdV_row (m := 0) hrow (ints_length _) (ints_free _)
        repeat' (with_reducible first | refine WP.seq ?_ | refine WP.skip ?_ | refine WP.block ?_ | refine WP.exit ?_ | refine seqK_normal ?_ | refine seqK_exit ?_ | refine loopK_exit ?_ | refine blockK_here ?_ | (apply WP.regionE; (with_unfolding_all (simp +decide (disch := first | decide | omega) only [go_sem, *]; rfl))) | (apply WP.regionX; with_unfolding_all rfl; (with_unfolding_all (simp +decide (disch := first | decide | omega) only [go_sem, *]; rfl))) | (apply opsT.call; (with_unfolding_all (simp +decide (disch := first | decide | omega) only [go_sem, *]; rfl)); (focus (simp +decide (disch := first | decide | omega) only [go_sem, *]; done)); (with_unfolding_all (simp +decide (disch := first | decide | omega) only [go_sem, *]; rfl))) | (apply WP.condB; (simp +decide (disch := first | decide | omega) only [go_sem, *]; rfl); all_goals (intro hb; (first | rw [dlt_t] at hb | rw [dlt_f] at hb | rw [dle_t] at hb | rw [dle_f] at hb | rw [Bool.not_eq_true'] at hb | rw [Bool.not_eq_false'] at hb | skip))))
        · refine CallsP.lend (ref_In (addTo M G2 k) (nth M k)) 1 (rdL_cons hrd (rdL_cons (rdV_free 1 _ rfl) rdL_nil)) (fun r hr => by subst hr; rfl) ?_
          rintro _ rfl
          cases hc : (addTo M G2 k).contains (nth M k) with
          | true =>
            rw [hc, if_pos rfl] at hstep
            repeat' (with_reducible first | refine WP.skip ?_ | refine seqK_normal ?_ | refine blockK_normal ?_ | (apply WP.regionE; (with_unfolding_all (simp +decide (disch := first | decide | omega) only [go_sem, *]; rfl))) | (apply opsT.fin; (with_unfolding_all (simp +decide (disch := first | decide | omega) only [go_sem, *]; rfl))) | (apply WP.condF; (focus (simp +decide (disch := first | decide | omega) only [go_sem, *]; done))))
            refine loopK_normal ⟨by ((simp +decide (disch := first | decide | omega) only [go_sem, *]; done)), by ((simp +decide (disch := first | decide | omega) only [go_sem, *]; done)), by ((simp +decide (disch := first | decide | omega) only [go_sem, *]; done)), by ((simp +decide (disch := first | decide | omega) only [go_sem, *]; done)), by ((simp +decide (disch := first | decide | omega) only [go_sem, *]; done)), k + 1, by simp +decide (disch := first | decide | omega) only [go_sem, *]; rfl, by omega, id, ?_, ?_, hpre, hid⟩ (by simp +decide (disch := first | decide | omega) only [go_sem, *]; omega)
            · rw [hstep]; simp +decide (disch := first | decide | omega) only [go_sem, *]
            · rw [hstep]; exact hrow
          | false =>
            rw [hc, if_neg (by simp)] at hstep
            rw [ints_append, ← hstep] at q1
            rcases q1 with ⟨_, e⟩ | ⟨rid, e, hrr⟩
            · rw [hstep] at e; simp [ints] at e
            rw [ints_length] at e
            have hge := q3 rid _ e
            repeat' (with_reducible first | refine seqK_normal ?_ | refine blockK_normal ?_ | (apply WP.regionE; (with_unfolding_all (simp +decide (disch := first | decide | omega) only [go_sem, *]; rfl))) | (apply opsT.fin; (with_unfolding_all (simp +decide (disch := first | decide | omega) only [go_sem, *]; rfl))) | (apply WP.condT; (focus (simp +decide (disch := first | decide | omega) only [go_sem, *]; done))))
            refine loopK_normal ⟨by ((simp +decide (disch := first | decide | omega) only [go_sem, *]; done)), by ((simp +decide (disch := first | decide | omega) only [go_sem, *]; done)), by ((simp +decide (disch := first | decide | omega) only [go_sem, *]; done)), by ((simp +decide (disch := first | decide | omega) only [go_sem, *]; done)), by ((simp +decide (disch := first | decide | omega) only [go_sem, *]; done)), k + 1, by simp +decide (disch := first | decide | omega) only [go_sem, *]; rfl, by omega, rid, ?_, hrr, q2, by have := hpre.len; omega⟩ (by simp +decide (disch := first | decide | omega) only [go_sem, *]; omega)
            first | (simp +decide (disch := first | decide | omega) only [go_sem, *]; done) | (simp +decide (disch := first | decide | omega) only [go_sem, *]; rfl)
        · omega
      · obtain rfl : k = M.length := by omega
        have hfin : mv b set (w.take (i + 1)) = (reach b S (nth w i) false, addTo M G2 M.length) := by rw [hsn, mvStep, hS, hG, hM, hG2]
        generalize addTo M G2 M.length = A at *
        repeat' (with_reducible first | refine WP.seq ?_ | refine WP.skip ?_ | refine WP.block ?_ | refine WP.exit ?_ | refine seqK_normal ?_ | refine seqK_exit ?_ | refine loopK_exit ?_ | refine blockK_here ?_ | (apply WP.regionE; (with_unfolding_all (simp +decide (disch := first | decide | omega) only [go_sem, *]; rfl))) | (apply WP.condB; (simp +decide (disch := first | decide | omega) only [go_sem, *]; rfl); all_goals (intro hb; (first | rw [dlt_t] at hb | rw [dlt_f] at hb | rw [dle_t] at hb | rw [dle_f] at hb | rw [Bool.not_eq_true'] at hb | rw [Bool.not_eq_false'] at hb | skip))))
        any_goals omega
        refine WP.freezeRow 8 (t := 3) (es := ints A) (id := id) (by rw [ints_length]; first | (simp +decide (disch := first | decide | omega) only [go_sem, *]; done) | (simpa [upd] using k8)) hrow (ints_free _) ?_
        have hr2 : (h''.set id .gone)[0]? = some (.row 25 [buC b]) := by rw [List.getElem?_set_ne (by omega), hpre.at (by omega)]; exact hr0
        generalize h''.set id .gone = h3 at *
        clear hrow
        repeat' (with_reducible first | refine seqK_normal ?_ | refine blockK_normal ?_ | (apply WP.regionE; (with_unfolding_all (simp +decide (disch := first | decide | omega) only [go_sem, *]; rfl))) | (apply WP.regionVX mixed; with_unfolding_all rfl; with_unfolding_all rfl; with_unfolding_all rfl; (with_unfolding_all (simp +decide (disch := first | decide | omega) only [go_sem, *]; rfl))) | (apply opsV.call; (with_unfolding_all (simp +decide (disch := first | decide | omega) only [go_sem, *]; rfl)); (focus (simp +decide (disch := first | decide | omega) only [go_sem, *]; done)); (with_unfolding_all (simp +decide (disch := first | decide | omega) only [go_sem, *]; rfl)); exact (c12); (focus (simp +decide (disch := first | decide | omega) only [go_sem, *]; done))) | (apply opsV.fin; with_unfolding_all rfl; (with_unfolding_all (simp +decide (disch := first | decide | omega) only [go_sem, *]; rfl))))
        refine loopK_normal ⟨by ((simp +decide (disch := first | decide | omega) only [go_sem, *]; done)), by ((simp +decide (disch := first | decide | omega) only [go_sem, *]; done)), hr2, i + 1, by simp +decide (disch := first | decide | omega) only [go_sem, *]; rfl, by omega, ?_, ?_⟩ (by simp +decide (disch := first | decide | omega) only [go_sem, *]; omega)
        · rw [hfin]; simp +decide (disch := first | decide | omega) only [go_sem, *]
        · rw [hfin]; simp +decide (disch := first | decide | omega) only [go_sem, *]
    · omega
  · obtain rfl : i = w.length := by omega
    rw [List.take_length] at h1 h8
    repeat' (with_reducible first | refine WP.seq ?_ | refine WP.skip ?_ | refine WP.block ?_ | refine WP.exit ?_ | refine WP.ret ?_ | refine seqK_normal ?_ | refine seqK_exit ?_ | refine loopK_exit ?_ | refine blockK_here ?_ | (apply WP.regionE; (with_unfolding_all (simp +decide (disch := first | decide | omega) only [go_sem, *]; rfl))) | (apply WP.regionVX mixed; with_unfolding_all rfl; with_unfolding_all rfl; with_unfolding_all rfl; (with_unfolding_all (simp +decide (disch := first | decide | omega) only [go_sem, *]; rfl))) | (apply WP.condB; (simp +decide (disch := first | decide | omega) only [go_sem, *]; rfl); all_goals (intro hb; (first | rw [dlt_t] at hb | rw [dlt_f] at hb | rw [dle_t] at hb | rw [dle_f] at hb | rw [Bool.not_eq_true'] at hb | rw [Bool.not_eq_false'] at hb | skip))) | (apply fnPost_pure 0; (first | exact .inl rfl | exact .inr rfl); (simp +decide (disch := first | decide | omega) only [go_sem, *]; rfl); (simp +decide (disch := first | decide | omega) only [go_sem, *]; rfl)))
    · omega
    · rfl

end Go.Proofs.Ytonhbeapffiibaa

/-
  Chapter 16: the runs behind good names: the plain laws.
-/
namespace Go.Proofs.Ytonhbeapffiibaa
open Go.HL

/-- What is known of a node since its name was good: its states are reached, those of its children with a good move on the way. -/
def Since (b : Bu) (t : List Nd) (p : Nat) (S w : List Int) : Prop := (∀ q ∈ (nth t p).set, q ∈ (mv b S w).1) ∧ ∀ c, c < t.length → (nth t c).par = p → ∀ q ∈ (nth t c).set, q ∈ (mv b S w).2

section
variable {b : Bu} {t : List Nd} {a : Int}

theorem reach_mono {S T : List Int} {w : Bool} (h : ∀ q ∈ S, q ∈ T) {q : Int} (hq : q ∈ reach b S a w) : q ∈ reach b T a w := by
  rw [mem_reach] at hq ⊢
  obtain ⟨h1, p, hp, h2⟩ := hq
  exact ⟨h1, p, h p hp, h2⟩

theorem reach_hits {S : List Int} {w : Bool} {q : Int} (hin : 0 ≤ q ∧ q < b.next.length) (hq : hits b S a w q = true) : q ∈ reach b S a w := by
  rw [reach, List.mem_filter]
  exact ⟨mem_states.2 hin, hq⟩

/-- Where a child's states come from. -/
theorem child_from (hv : validT b t = true) (ha : 0 ≤ a ∧ a < b.letters) {S w : List Int} {p : Nat} (hp : p < t.length) (hs : Since b t p S w) {j : Nat} (hj : j < 2 * t.length) (hu0 : 0 ≤ (nth (grown b t a) j).up) (hu : (nth (grown b t a) j).up.toNat = p) {q : Int} (hq : (nth (trimS b t a) j).st q = true) : q ∈ (mv b S (w ++ [a])).2 := by
  have hin := (st_in hv ha hj).1 q hq
  have hg := trimTo_sub (A := grown b t a) q (2 * t.length) (by rw [grown_length]; omega) j (by rw [grown_length]; exact hj) hq
  rw [mv_snoc, mem_good_step]
  by_cases h : j < t.length
  · rw [grown_old h] at hg hu hu0
    simp only at hg hu hu0
    left
    exact reach_mono (fun x hx => hs.2 j h (by omega) x hx) (reach_hits hin hg)
  · obtain ⟨k, rfl⟩ : ∃ k, j = t.length + k := ⟨j - t.length, by omega⟩
    rw [grown_new (by omega)] at hg hu
    simp only [Int.toNat_natCast] at hg hu
    subst hu
    right
    exact reach_mono hs.1 (reach_hits hin hg)

/-- The next tree: what was known is known of the longer word. -/
theorem since_step (hv : validT b t = true) (ha : 0 ≤ a ∧ a < b.letters) {S w : List Int} {p : Nat} (hp : p < t.length) (hs : Since b t p S w) (hk : p ∈ keptS b t a) : Since b (outS b t a) (pos b t a p) S (w ++ [a]) := by
  obtain ⟨p1, p2⟩ := pos_at hk
  refine ⟨fun q hq => ?_, fun c hc hcp q hq => ?_⟩
  · rw [mem_x hv ha p1, p2] at hq
    have hin := (st_in hv ha (keptS_lt hk)).1 q hq
    have hg := trimTo_sub (A := grown b t a) q (2 * t.length) (by rw [grown_length]; omega) p (by rw [grown_length]; omega) hq
    rw [grown_old hp] at hg
    rw [mv_snoc]
    exact reach_mono hs.1 (reach_hits hin hg)
  · rw [out_len] at hc
    rw [mem_x hv ha hc] at hq
    rw [x_par hv hc] at hcp
    split at hcp
    · omega
    · rename_i hu
      have hmc := nth_mem hc
      obtain ⟨p3, p4⟩ := pos_at ((kept_facts hv hmc).2 (by omega)).1
      have e' : pos b t a (nth (grown b t a) (nth (keptS b t a) c)).up.toNat = pos b t a p := by omega
      rw [e', p2] at p4
      exact child_from hv ha hp hs (keptS_lt hmc) (by omega) p4.symm hq

/-- A node whose name is good: its children had all of its states. -/
theorem good_full {p : Nat} (hp : p < t.length) (hg : goodAt b (flashTo b (trimTo (grown b t a) (2 * t.length)) p) p = true) : p ∈ keptS b t a ∧ cnt b (nth (trimS b t a) p).ch = cnt b (nth (trimS b t a) p).st := by
  refine ⟨goodAt_kept (by omega) hg, ?_⟩
  simp only [goodAt, Bool.and_eq_true, decide_eq_true_eq] at hg
  have h := flashTo_same b (trimTo (grown b t a) (2 * t.length)) p p (by rw [trimTo_length, grown_length]; omega)
  rw [h.2.2.1, h.2.2.2] at hg
  exact hg.2

theorem full_mem (hv : validT b t = true) (ha : 0 ≤ a ∧ a < b.letters) {p : Nat} (hp : p < 2 * t.length) (hc : cnt b (nth (trimS b t a) p).ch = cnt b (nth (trimS b t a) p).st) {q : Int} (hq : (nth (trimS b t a) p).st q = true) : (nth (trimS b t a) p).ch q = true := by
  obtain ⟨i1, i2⟩ := st_in hv ha hp
  cases hch : (nth (trimS b t a) p).ch q with
  | true => rfl
  | false =>
    exfalso
    have hsub : ∀ x ∈ elems b (nth (trimS b t a) p).ch, x ∈ elems b (nth (trimS b t a) p).st := fun x hx => by
      rw [mem_elems i2] at hx
      rw [mem_elems i1]
      obtain ⟨j, hj, h1, h2, h3⟩ := trimTo_ch (grown_ups hv) grown_ch x (2 * t.length) (by rw [grown_length]; omega) p (by rw [grown_length]; exact hp) hx
      rw [← h2]
      exact st_up hv hj h1 h3
    have hnd : (q :: elems b (nth (trimS b t a) p).ch).Nodup := List.nodup_cons.2 ⟨fun hm => (by rw [mem_elems i2, hch] at hm; cases hm), elems_nodup b _⟩
    have := nodup_le (m := elems b (nth (trimS b t a) p).st) hnd fun x hx => by
      rcases List.mem_cons.1 hx with rfl | hx
      · exact (mem_elems i1).2 hq
      · exact hsub x hx
    simp only [List.length_cons] at this
    unfold cnt at hc
    omega

/-- Each state of a node whose name is good is reached with a good move on the way. -/
theorem good_runs (hv : validT b t = true) (ha : 0 ≤ a ∧ a < b.letters) {S w : List Int} {p : Nat} (hp : p < t.length) (hs : Since b t p S w) (hg : goodAt b (flashTo b (trimTo (grown b t a) (2 * t.length)) p) p = true) : ∀ q ∈ (nth (outS b t a) (pos b t a p)).set, q ∈ (mv b S (w ++ [a])).2 := by
  obtain ⟨hk, hc⟩ := good_full hp hg
  obtain ⟨p1, p2⟩ := pos_at hk
  intro q hq
  rw [mem_x hv ha p1, p2] at hq
  have hch := full_mem hv ha (by omega) hc hq
  obtain ⟨j, hj, h1, h2, h3⟩ := trimTo_ch (grown_ups hv) grown_ch q (2 * t.length) (by rw [grown_length]; omega) p (by rw [grown_length]; omega) hch
  exact child_from hv ha hp hs hj h1 h2 h3

/-- It has no children any more. -/
theorem good_fresh (hv : validT b t = true) (ha : 0 ≤ a ∧ a < b.letters) {p : Nat} (hp : p < t.length) (hg : goodAt b (flashTo b (trimTo (grown b t a) (2 * t.length)) p) p = true) : Since b (outS b t a) (pos b t a p) (nth (outS b t a) (pos b t a p)).set [] := by
  obtain ⟨hk, hc⟩ := good_full hp hg
  obtain ⟨p1, p2⟩ := pos_at hk
  refine ⟨fun q hq => hq, fun c hc' hcp => ?_⟩
  exfalso
  rw [out_len] at hc'
  rw [x_par hv hc'] at hcp
  split at hcp
  · omega
  · rename_i hu
    have hmc := nth_mem hc'
    obtain ⟨c3, c4⟩ := (kept_facts hv hmc).2 (by omega)
    obtain ⟨p3, p4⟩ := pos_at c3
    have e' : pos b t a (nth (grown b t a) (nth (keptS b t a) c)).up.toNat = pos b t a p := by omega
    rw [e', p2] at p4
    rw [← p4] at c4
    exact c4 hc

end

def seg (w : List Int) (s e : Nat) : List Int := (w.drop s).take (e - s)
theorem seg_snoc {w : List Int} {s i : Nat} (h : s ≤ i) (hi : i < w.length) : seg w s (i + 1) = seg w s i ++ [nth w i] := by
  unfold seg
  rw [show i + 1 - s = (i - s) + 1 by omega, take_nth (by simp; omega)]
  congr 1
  rw [nth_eq (by simp; omega), nth_eq hi]
  simp
  congr 1; omega
theorem seg_nil (w : List Int) (i : Nat) : seg w i i = [] := by simp [seg]

/-- What the statement's two tables hold after i letters. -/
def RunInv (b : Bu) (w : List Int) (i : Nat) (t : List Nd) (th : List (List Int)) (si : List Int) : Prop :=
  th.length = 2 * b.next.length + 1 ∧ si.length = 2 * b.next.length + 1 ∧ (∀ n, n < th.length → nth th n ≠ [] → ∃ (p s : Nat), p < t.length ∧ (nth t p).name = n ∧ nth si n = s ∧ s ≤ i ∧ (∀ q ∈ nth th n, 0 ≤ q ∧ q < b.next.length) ∧ Since b t p (nth th n) (seg w s i))

def dropN (th : List (List Int)) (l : List Int) : List (List Int) := l.foldl (fun th n => th.set n.toNat []) th
def setOf (x : List Nd) (n : Int) : List Int := (nth x (place x n).toNat).set
def keepN (x : List Nd) (i : Nat) (s : List (List Int) × List Int) (l : List Int) : List (List Int) × List Int := l.foldl (fun s n => (s.1.set n.toNat (setOf x n), s.2.set n.toNat ((i : Int) + 1))) s

theorem dropN_len (th : List (List Int)) : ∀ l, (dropN th l).length = th.length := fun l => by
  induction l generalizing th with
  | nil => rfl
  | cons x l ih =>
    show (dropN (th.set x.toNat []) l).length = _
    rw [ih]; simp
theorem dropN_snoc (th : List (List Int)) (l : List Int) (n : Int) : dropN th (l ++ [n]) = (dropN th l).set n.toNat [] := by simp [dropN, List.foldl_append]
theorem keepN_snoc (x : List Nd) (i : Nat) (s : List (List Int) × List Int) (l : List Int) (n : Int) : keepN x i s (l ++ [n]) = ((keepN x i s l).1.set n.toNat (setOf x n), (keepN x i s l).2.set n.toNat ((i : Int) + 1)) := by simp [keepN, List.foldl_append]

theorem dropN_nth (th : List (List Int)) (m : Nat) (hm : m < th.length) : ∀ k (l : List Int), k ≤ l.length → nth (dropN th (l.take k)) m ≠ [] → nth (dropN th (l.take k)) m = nth th m ∧ ∀ j, j < k → (nth l j).toNat ≠ m
  | 0, l, _, _ => ⟨by simp [dropN], fun j hj => by omega⟩
  | k + 1, l, h, hne => by
    rw [take_nth h, dropN_snoc] at hne ⊢
    rw [nth_set (by rw [dropN_len]; exact hm)] at hne ⊢
    split at hne
    · exact absurd rfl hne
    · rename_i e
      rw [if_neg e]
      obtain ⟨h1, h2⟩ := dropN_nth th m hm k l (by omega) hne
      refine ⟨h1, fun j hj => ?_⟩
      by_cases ej : j = k
      · subst ej; exact e
      · exact h2 j (by omega)

theorem keepN_len (x : List Nd) (i : Nat) (s : List (List Int) × List Int) : ∀ (l : List Int) k, k ≤ l.length → (keepN x i s (l.take k)).1.length = s.1.length ∧ (keepN x i s (l.take k)).2.length = s.2.length
  | l, 0, _ => by simp [keepN]
  | l, k + 1, h => by
    rw [take_nth h, keepN_snoc]
    have := keepN_len x i s l k (by omega)
    simpa using this

theorem keepN_nth (x : List Nd) (i : Nat) (s : List (List Int) × List Int) (m : Nat) (h1 : m < s.1.length) (h2 : m < s.2.length) (l : List Int) : ∀ k, k ≤ l.length →
    ((∀ j, j < k → (nth l j).toNat ≠ m) → nth (keepN x i s (l.take k)).1 m = nth s.1 m ∧ nth (keepN x i s (l.take k)).2 m = nth s.2 m) ∧
    ((∃ j, j < k ∧ (nth l j).toNat = m) → ∃ j, j < k ∧ (nth l j).toNat = m ∧ nth (keepN x i s (l.take k)).1 m = setOf x (nth l j) ∧ nth (keepN x i s (l.take k)).2 m = (i : Int) + 1)
  | 0, _ => ⟨fun _ => by simp [keepN], fun ⟨j, hj, _⟩ => by omega⟩
  | k + 1, h => by
    obtain ⟨ih1, ih2⟩ := keepN_nth x i s m h1 h2 l k (by omega)
    obtain ⟨l1, l2⟩ := keepN_len x i s l k (by omega)
    rw [take_nth h, keepN_snoc]
    simp only
    rw [nth_set (by rw [l1]; exact h1), nth_set (by rw [l2]; exact h2)]
    constructor
    · intro hn
      rw [if_neg (hn k (by omega)), if_neg (hn k (by omega))]
      exact ih1 fun j hj => hn j (by omega)
    · rintro ⟨j, hj, hjm⟩
      by_cases e : (nth l k).toNat = m
      · rw [if_pos e, if_pos e]
        exact ⟨k, by omega, e, rfl, rfl⟩
      · rw [if_neg e, if_neg e]
        have hjk : j ≠ k := fun e' => e (e' ▸ hjm)
        obtain ⟨j', q1, q2⟩ := ih2 ⟨j, by omega, hjm⟩
        exact ⟨j', by omega, q2⟩

section
variable {b : Bu} {t : List Nd} {a : Int}

theorem bad_range (hv : validT b t = true) {n : Int} (hn : n ∈ (evS b t a).bad) : 1 ≤ n ∧ n ≤ 2 * b.next.length := by
  obtain ⟨j, hj, _, rfl⟩ := mem_bad.1 hn
  rw [flashed_name hj]
  exact valid_name hv hj

theorem good_range (hv : validT b t = true) {n : Int} (hn : n ∈ (evS b t a).good) : 1 ≤ n ∧ n ≤ 2 * b.next.length := by
  obtain ⟨j, hj, _, rfl⟩ := (good_iff hv).1 hn
  exact valid_name hv hj

theorem good_pos (hv : validT b t = true) {p : Nat} (hp : p < t.length) (hk : p ∈ keptS b t a) : place (outS b t a) (nth t p).name = pos b t a p := by
  rw [place_out hv hp, (mem_keptI.1 hk).2]
  rfl

/-- What the check of a good name looks at. -/
theorem run_check {w : List Int} {i : Nat} {th : List (List Int)} {si : List Int} (hv : validT b t = true) (hi : i < w.length) (ha : 0 ≤ nth w i ∧ nth w i < b.letters) (hI : RunInv b w i t th si) {n : Int} (hn : n ∈ (evS b t (nth w i)).good) (hne : nth (dropN th (evS b t (nth w i)).bad) n.toNat ≠ []) :
    nth (dropN th (evS b t (nth w i)).bad) n.toNat = nth th n.toNat ∧ (∀ q ∈ nth th n.toNat, 0 ≤ q ∧ q < b.next.length) ∧ ∃ s : Nat, nth si n.toNat = s ∧ s ≤ i ∧ ∀ q ∈ setOf (outS b t (nth w i)) n, q ∈ (mv b (nth th n.toNat) (seg w s (i + 1))).2 := by
  obtain ⟨h1, h2, h3⟩ := hI
  have hr := good_range hv hn
  have hlt : n.toNat < th.length := by omega
  have hd := dropN_nth th n.toNat hlt _ _ (Nat.le_refl _) (by rw [List.take_length]; exact hne)
  rw [List.take_length] at hd
  obtain ⟨p, s, q1, q2, q3, q4, q5, q6⟩ := h3 n.toNat hlt (by rw [← hd.1]; exact hne)
  refine ⟨hd.1, q5, s, q3, q4, ?_⟩
  obtain ⟨j, hj, hg, hjn⟩ := (good_iff hv).1 hn
  have hpj : p = j := valid_diff hv q1 hj (by rw [q2, hjn]; omega)
  subst hpj
  obtain ⟨hk, _⟩ := good_full q1 hg
  rw [seg_snoc q4 hi]
  have hso : setOf (outS b t (nth w i)) n = (nth (outS b t (nth w i)) (pos b t (nth w i) p)).set := by
    unfold setOf; rw [← hjn, good_pos hv q1 hk]; rfl
  rw [hso]
  exact good_runs hv ha q1 q6 hg

/-- What the tables hold after the step. -/
theorem run_next {w : List Int} {i : Nat} {th : List (List Int)} {si : List Int} (hv : validT b t = true) (hi : i < w.length) (ha : 0 ≤ nth w i ∧ nth w i < b.letters) (hI : RunInv b w i t th si) :
    RunInv b w (i + 1) (outS b t (nth w i)) (keepN (outS b t (nth w i)) i (dropN th (evS b t (nth w i)).bad, si) (evS b t (nth w i)).good).1 (keepN (outS b t (nth w i)) i (dropN th (evS b t (nth w i)).bad, si) (evS b t (nth w i)).good).2 := by
  obtain ⟨h1, h2, h3⟩ := hI
  obtain ⟨l1, l2⟩ := keepN_len (outS b t (nth w i)) i (dropN th (evS b t (nth w i)).bad, si) (evS b t (nth w i)).good _ (Nat.le_refl _)
  rw [List.take_length] at l1 l2
  simp only [dropN_len] at l1 l2
  refine ⟨by omega, by omega, fun n hn hne => ?_⟩
  obtain ⟨k1, k2⟩ := keepN_nth (outS b t (nth w i)) i (dropN th (evS b t (nth w i)).bad, si) n (by rw [dropN_len]; omega) (by simp only; omega) (evS b t (nth w i)).good _ (Nat.le_refl _)
  rw [List.take_length] at k1 k2
  by_cases hex : ∃ j, j < (evS b t (nth w i)).good.length ∧ (nth (evS b t (nth w i)).good j).toNat = n
  · obtain ⟨j, hj, hjn, e1, e2⟩ := k2 hex
    have hm := nth_mem hj
    obtain ⟨p, hp, hg, hpn⟩ := (good_iff hv).1 hm
    obtain ⟨hk, _⟩ := good_full hp hg
    obtain ⟨p1, p2⟩ := pos_at hk
    have hr := good_range hv hm
    have hse : setOf (outS b t (nth w i)) (nth (evS b t (nth w i)).good j) = (nth (outS b t (nth w i)) (pos b t (nth w i) p)).set := by
      unfold setOf; rw [← hpn, good_pos hv hp hk]; rfl
    rw [e1, e2, hse]
    refine ⟨pos b t (nth w i) p, i + 1, by rw [out_len]; exact p1, ?_, by omega, Nat.le_refl _, fun q hq => ?_, ?_⟩
    · rw [x_name p1, p2, named_old hv hp, hpn]; omega
    · rw [mem_x hv ha p1, p2] at hq
      exact (st_in hv ha (keptS_lt hk)).1 q hq
    · rw [seg_nil]; exact good_fresh hv ha hp hg
  · have hno : ∀ j, j < (evS b t (nth w i)).good.length → (nth (evS b t (nth w i)).good j).toNat ≠ n := fun j hj e => hex ⟨j, hj, e⟩
    obtain ⟨e1, e2⟩ := k1 hno
    rw [e1] at hne ⊢
    rw [e2]
    simp only at hne ⊢
    have hlt : n < th.length := by omega
    have hd := dropN_nth th n hlt _ _ (Nat.le_refl _) (by rw [List.take_length]; exact hne)
    rw [List.take_length] at hd
    rw [hd.1] at hne ⊢
    obtain ⟨p, s, q1, q2, q3, q4, q5, q6⟩ := h3 n hlt hne
    have hk : p ∈ keptS b t (nth w i) := by
      refine mem_keptI.2 ⟨by omega, ?_⟩
      cases hg : (nth (flashed b t (nth w i)) p).gone with
      | false => rfl
      | true =>
        have hb := mem_bad.2 ⟨p, q1, hg, rfl⟩
        rw [flashed_name q1] at hb
        obtain ⟨j, hj, e⟩ := List.getElem_of_mem hb
        have := hd.2 j hj
        rw [nth_eq hj, e, q2] at this
        exact absurd (Int.toNat_natCast n) this
    obtain ⟨p1, p2⟩ := pos_at hk
    refine ⟨pos b t (nth w i) p, s, by rw [out_len]; exact p1, ?_, q3, by omega, q5, ?_⟩
    · rw [x_name p1, p2, named_old hv q1, q2]
    · rw [seg_snoc q4 hi]
      exact since_step hv ha q1 q6 hk
end

end Go.Proofs.Ytonhbeapffiibaa

