/-
  Chapter 16: the statement on the moves' order: moves that are not good are left out where there is a good one to the same state.
-/
import Derived.Test.YtonhbeapffiibaaLawNW
import Derived.Test.YtonhbeapffiibaaLawOP
import Derived.Test.YtonhbeapffiibaaHlM4
namespace Go.Proofs.Ytonhbeapffiibaa
open Go.HL

theorem own_push {h0 h : Hp} {T t : TypeId} {k bt : Nat} {z x y : HV} {es ys : List (List HV)} (ho : OwnAt h x t es) (hb : ∀ id n, x = .ow id 0 n → h0.length ≤ id) (hp : Pre h0 h) (he : elemH pg.P T = some t) (hk : szH pg.P t = some k) (hz : zeroH pg.P t = some z) (hbt : bytesH pg.P t = some bt)
    (h1 : 0 < bt) (h2 : z.cells.length = k) (h3 : z.cells.all HV.one = true) (hy : elemsH h y = some ys) (hys : ∀ cs ∈ ys, cs.length = k ∧ cs.all HV.one = true) (hlen : (es.length + ys.length) * bt ≤ 140737488355328) :
    ∃ r, appendH pg.P h h.length T x y = some r ∧ OwnAt (setAll (h ++ r.ns) r.ws) r.x t (es ++ ys) ∧ Pre h0 (setAll (h ++ r.ns) r.ws) ∧ (∀ id n, r.x = .ow id 0 n → h.length ≤ id) ∧ (∀ j, j < h.length → ¬ j ∈ idsOf x → (setAll (h ++ r.ns) r.ws)[j]? = h[j]?) ∧ h.length < (setAll (h ++ r.ns) r.ws).length := by
  obtain ⟨r, r1, r2, r3, r4⟩ := ho.append (P := pg.P) (T := T) (y := y) he hk hz hbt h1 h2 h3 hy hys hlen
  obtain ⟨f1, f2, f3, f4⟩ := ho.append_frame he hy r1
  refine ⟨r, r1, r2, ?_, fun id n e => by rw [f2] at e; injection e with e; omega, f3, by omega⟩
  refine pre_of hp (by omega) fun j o hj hlt => ?_
  refine r4 j o hj fun l e => ?_
  have := hb j l e
  omega

theorem few_iff {b : Bu} (h : few b = true) : b.letters ≤ 20 ∧ b.start.length ≤ 20 ∧ b.next.length ≤ 10 ∧ ∀ i, i < b.next.length → (nth b.next i).length ≤ 20 ∧ ∀ k, k < (nth b.next i).length → (nth (nth b.next i) k).length ≤ 20 := by
  simp only [few, fewRow, Bool.and_eq_true, decide_eq_true_eq, List.all_eq_true] at h
  obtain ⟨⟨h1, h2, h3⟩, h4⟩ := h
  exact ⟨h1, h2, h3, fun i hi => ⟨(h4 _ (nth_mem hi)).1, fun k hk => (h4 _ (nth_mem hi)).2 _ (nth_mem hk)⟩⟩

theorem own_one {h : Hp} {x : HV} {t : TypeId} {es : List (List HV)} (ho : OwnAt h x t es) : HV.one x = true := by
  rcases ho with ⟨rfl, _⟩ | ⟨id, rfl, _⟩ <;> rfl

theorem mvs_append (l m : List Mv) : mvs l ++ mvs m = mvs (l ++ m) := by simp [mvs]
theorem rows_append (l m : List (List Mv)) : rows l ++ rows m = rows (l ++ m) := by simp [rows]
theorem mats_append (l m : List (List (List Mv))) : mats l ++ mats m = mats (l ++ m) := by simp [mats]

set_option maxHeartbeats 4000000 in
set_option maxRecDepth 8000 in
theorem law_order (b : Bu) (t : List Nd) (a : Int) : CallsP pg 7 [.agg (buC b), .sl false (nds t), .int .i64 a] (fun v => v = .bool true) := by
  have c9 := law_head
  have c10 := ref_Few b
  have c11 := ref_Small t
  cases hsm : small t with
  | false =>
    rw [hsm] at c11
    refine CallsP.of_wpN [] 144 fn7 rfl rfl ?_
    refine WP.abs (fun s => s 0 = .agg (buC b) ∧ s 1 = .sl false (nds t) ∧ s 2 = .int .i64 a) ⟨rfl, rfl, rfl⟩ ?_
    rintro s ⟨h0, h1, h2⟩
    repeat' (with_reducible first | refine WP.seq ?_ | refine WP.ret ?_ | refine seqK_normal ?_ | refine seqK_ret ?_ | (apply WP.regionE; (with_unfolding_all (simp +decide (disch := first | decide | omega) only [go_sem, *]; rfl))) | (apply WP.regionX; with_unfolding_all rfl; (with_unfolding_all (simp +decide (disch := first | decide | omega) only [go_sem, *]; rfl))) | (apply opsT.skipG; (focus (simp +decide (disch := first | decide | omega) only [go_sem, *]; done))) | (apply opsT.call; (with_unfolding_all (simp +decide (disch := first | decide | omega) only [go_sem, *]; rfl)); (focus (simp +decide (disch := first | decide | omega) only [go_sem, *]; done)); (with_unfolding_all (simp +decide (disch := first | decide | omega) only [go_sem, *]; rfl))) | (apply opsT.callG; (focus (simp +decide (disch := first | decide | omega) only [go_sem, *]; done)); (with_unfolding_all (simp +decide (disch := first | decide | omega) only [go_sem, *]; rfl)); (focus (simp +decide (disch := first | decide | omega) only [go_sem, *]; done)); (with_unfolding_all (simp +decide (disch := first | decide | omega) only [go_sem, *]; rfl))) | (apply opsT.moreX; with_unfolding_all rfl; (with_unfolding_all (simp +decide (disch := first | decide | omega) only [go_sem, *]; rfl))) | (apply opsT.fin; (with_unfolding_all (simp +decide (disch := first | decide | omega) only [go_sem, *]; rfl))) | (apply CallsP.eq (c9); (focus (simp +decide (disch := first | decide | omega) only [go_sem, *]; done))) | (apply CallsP.eq (c10); (focus (simp +decide (disch := first | decide | omega) only [go_sem, *]; done))) | (apply CallsP.eq (c11); (focus (simp +decide (disch := first | decide | omega) only [go_sem, *]; done))) | (apply WP.condT; (focus (simp +decide (disch := first | decide | omega) only [go_sem, *]; done))) | (apply fnPost_pure 0; (first | exact .inl rfl | exact .inr rfl); (simp +decide (disch := first | decide | omega) only [go_sem, *]; rfl); (simp +decide (disch := first | decide | omega) only [go_sem, *]; rfl)) | (apply opsT.guardB 0; with_unfolding_all rfl; (with_unfolding_all (simp +decide (disch := first | decide | omega) only [go_sem, *]; rfl)); (simp +decide (disch := first | decide | omega) only [go_sem, *]; rfl); all_goals (intro hb; (fail_if_success (exact absurd hb (by decide))); (first | rw [dlt_t] at hb | rw [dlt_f] at hb | rw [dle_t] at hb | rw [dle_f] at hb | rw [Bool.not_eq_true'] at hb | rw [Bool.not_eq_false'] at hb | skip))))
    all_goals rfl
  | true =>
  rw [hsm] at c11
  have c20 := ref_Valid b t (small_kids hsm)
  have hlen := small_len hsm
  cases hfw : few b with
  | false =>
    rw [hfw] at c10
    refine CallsP.of_wpN [] 144 fn7 rfl rfl ?_
    refine WP.abs (fun s => s 0 = .agg (buC b) ∧ s 1 = .sl false (nds t) ∧ s 2 = .int .i64 a) ⟨rfl, rfl, rfl⟩ ?_
    rintro s ⟨h0, h1, h2⟩
    repeat' (with_reducible first | refine WP.seq ?_ | refine WP.ret ?_ | refine seqK_normal ?_ | refine seqK_ret ?_ | (apply WP.regionE; (with_unfolding_all (simp +decide (disch := first | decide | omega) only [go_sem, *]; rfl))) | (apply WP.regionX; with_unfolding_all rfl; (with_unfolding_all (simp +decide (disch := first | decide | omega) only [go_sem, *]; rfl))) | (apply opsT.skipG; (focus (simp +decide (disch := first | decide | omega) only [go_sem, *]; done))) | (apply opsT.call; (with_unfolding_all (simp +decide (disch := first | decide | omega) only [go_sem, *]; rfl)); (focus (simp +decide (disch := first | decide | omega) only [go_sem, *]; done)); (with_unfolding_all (simp +decide (disch := first | decide | omega) only [go_sem, *]; rfl))) | (apply opsT.moreX; with_unfolding_all rfl; (with_unfolding_all (simp +decide (disch := first | decide | omega) only [go_sem, *]; rfl))) | (apply opsT.fin; (with_unfolding_all (simp +decide (disch := first | decide | omega) only [go_sem, *]; rfl))) | (apply CallsP.eq (c9); (focus (simp +decide (disch := first | decide | omega) only [go_sem, *]; done))) | (apply CallsP.eq (c10); (focus (simp +decide (disch := first | decide | omega) only [go_sem, *]; done))) | (apply WP.condT; (focus (simp +decide (disch := first | decide | omega) only [go_sem, *]; done))) | (apply fnPost_pure 0; (first | exact .inl rfl | exact .inr rfl); (simp +decide (disch := first | decide | omega) only [go_sem, *]; rfl); (simp +decide (disch := first | decide | omega) only [go_sem, *]; rfl)))
    all_goals rfl
  | true =>
  rw [hfw] at c10
  by_cases hok : okStep b t a
  · have c12 := law_step b t a (by omega)
    obtain ⟨hv, ha1, ha2⟩ := id hok
    rw [hv] at c20
    obtain ⟨w1, w2, w3, w4⟩ := few_iff hfw
    refine CallsP.of_wpN [] 144 fn7 rfl rfl ?_
    refine WP.abs (fun s => s 0 = .agg (buC b) ∧ s 1 = .sl false (nds t) ∧ s 2 = .int .i64 a) ⟨rfl, rfl, rfl⟩ ?_
    rintro s ⟨h0, h1, h2⟩
    repeat' (with_reducible first | refine WP.seq ?_ | refine WP.skip ?_ | refine WP.block ?_ | refine WP.ret ?_ | refine seqK_normal ?_ | refine seqK_ret ?_ | (apply WP.regionE; (with_unfolding_all (simp +decide (disch := first | decide | omega) only [go_sem, *]; rfl))) | (apply WP.regionX; with_unfolding_all rfl; (with_unfolding_all (simp +decide (disch := first | decide | omega) only [go_sem, *]; rfl))) | (apply opsT.call; (with_unfolding_all (simp +decide (disch := first | decide | omega) only [go_sem, *]; rfl)); (focus (simp +decide (disch := first | decide | omega) only [go_sem, *]; done)); (with_unfolding_all (simp +decide (disch := first | decide | omega) only [go_sem, *]; rfl))) | (apply opsT.callG; (focus (simp +decide (disch := first | decide | omega) only [go_sem, *]; done)); (with_unfolding_all (simp +decide (disch := first | decide | omega) only [go_sem, *]; rfl)); (focus (simp +decide (disch := first | decide | omega) only [go_sem, *]; done)); (with_unfolding_all (simp +decide (disch := first | decide | omega) only [go_sem, *]; rfl))) | (apply opsT.moreX; with_unfolding_all rfl; (with_unfolding_all (simp +decide (disch := first | decide | omega) only [go_sem, *]; rfl))) | (apply opsT.fin; (with_unfolding_all (simp +decide (disch := first | decide | omega) only [go_sem, *]; rfl))) | (apply CallsP.eq (c9); (focus (simp +decide (disch := first | decide | omega) only [go_sem, *]; done))) | (apply CallsP.eq (c10); (focus (simp +decide (disch := first | decide | omega) only [go_sem, *]; done))) | (apply CallsP.eq (c11); (focus (simp +decide (disch := first | decide | omega) only [go_sem, *]; done))) | (apply CallsP.eq (c20); (focus (simp +decide (disch := first | decide | omega) only [go_sem, *]; done))) | (apply WP.condT; (focus (simp +decide (disch := first | decide | omega) only [go_sem, *]; done))) | (apply WP.condB; (simp +decide (disch := first | decide | omega) only [go_sem, *]; rfl); all_goals (intro hb; (first | rw [dlt_t] at hb | rw [dlt_f] at hb | rw [dle_t] at hb | rw [dle_f] at hb | rw [Bool.not_eq_true'] at hb | rw [Bool.not_eq_false'] at hb | skip))) | (apply fnPost_pure 0; (first | exact .inl rfl | exact .inr rfl); (simp +decide (disch := first | decide | omega) only [go_sem, *]; rfl); (simp +decide (disch := first | decide | omega) only [go_sem, *]; rfl)) | (apply opsT.guardB 2; with_unfolding_all rfl; (with_unfolding_all (simp +decide (disch := first | decide | omega) only [go_sem, *]; rfl)); (simp +decide (disch := first | decide | omega) only [go_sem, *]; rfl); all_goals (intro hb; (fail_if_success (exact absurd hb (by decide))); (first | rw [dlt_t] at hb | rw [dlt_f] at hb | rw [dle_t] at hb | rw [dle_f] at hb | rw [Bool.not_eq_true'] at hb | rw [Bool.not_eq_false'] at hb | skip))))
    any_goals first
      | rfl
      | omega
    clear c9 c10 c11 c20
    have c12t := law_step (thinB b) t a (by omega)
    rw [thinB_step hok] at c12t
    have c16 := ref_Same (stepT b t a).1 (stepT b t a).1
    have c21 := ref_SameEvent (stepT b t a).2 (stepT b t a).2
    rw [decide_eq_true (rfl : (stepT b t a).1 = (stepT b t a).1)] at c16
    rw [decide_eq_true (rfl : (stepT b t a).2 = (stepT b t a).2)] at c21
    generalize (stepT b t a).1 = Y at *
    generalize (stepT b t a).2 = E at *
    refine WP.loop (fun s h => s 1 = .sl false (nds t) ∧ s 2 = .int .i64 a ∧ s 3 = .ep 0 0 0 ∧ s 7 = .bool true ∧ s 8 = .ep 1 0 0 ∧ ∃ i : Nat, s 9 = .int .i64 i ∧ i ≤ b.next.length ∧ ∃ x, h[0]? = some (.row 25 [buC b]) ∧ h[1]? = some (.row 25 [[.int .i64 b.letters, .sl false (ints b.start), x]]) ∧ OwnAt h x 51 (mats ((b.next.take i).map fun r => r.map thin)) ∧ ∀ id n, x = .ow id 0 n → 2 ≤ id) (fun s _ => b.next.length - (s 9).toInt.toNat)
      ⟨by ((simp +decide (disch := first | decide | omega) only [go_sem, *]; done)), by ((simp +decide (disch := first | decide | omega) only [go_sem, *]; done)), by (rfl), by (rfl), by (rfl), 0, by simp +decide (disch := first | decide | omega) only [go_sem, *]; rfl, by omega, .sl true [], rfl, by simp +decide (disch := first | decide | omega) only [go_sem, *], .inl ⟨rfl, rfl⟩, fun id n e => by cases e⟩ ?_
    clear h0 h1 h2 s
    rintro s h ⟨h1, h2, h3, h7, h8, i, h9, hi, x, hr0, hr1, hox, hxe⟩
    have h2l : 1 < h.length := (List.getElem?_eq_some_iff.1 hr1).1
    by_cases hlt : i < b.next.length
    · obtain ⟨w5, w6⟩ := w4 i hlt
      obtain ⟨R, hR⟩ : ∃ R, nth b.next i = R := ⟨_, rfl⟩
      rw [hR] at w5 w6
      have hgR := mats_nth (l := b.next) (k := i) hlt
      rw [hR] at hgR
      repeat' (with_reducible first | refine WP.seq ?_ | refine WP.skip ?_ | refine WP.block ?_ | refine WP.exit ?_ | refine seqK_normal ?_ | refine seqK_exit ?_ | refine loopK_exit ?_ | refine blockK_here ?_ | (apply WP.regionE; (with_unfolding_all (simp +decide (disch := first | decide | omega) only [go_sem, *]; rfl))) | (apply WP.regionX; with_unfolding_all rfl; (with_unfolding_all (simp +decide (disch := first | decide | omega) only [go_sem, *]; rfl))) | (apply opsT.call; (with_unfolding_all (simp +decide (disch := first | decide | omega) only [go_sem, *]; rfl)); (focus (simp +decide (disch := first | decide | omega) only [go_sem, *]; done)); (with_unfolding_all (simp +decide (disch := first | decide | omega) only [go_sem, *]; rfl))) | (apply WP.condB; (simp +decide (disch := first | decide | omega) only [go_sem, *]; rfl); all_goals (intro hb; (first | rw [dlt_t] at hb | rw [dlt_f] at hb | rw [dle_t] at hb | rw [dle_f] at hb | rw [Bool.not_eq_true'] at hb | rw [Bool.not_eq_false'] at hb | skip))))
      · refine WP.loop (fun s' h' => s' 1 = .sl false (nds t) ∧ s' 2 = .int .i64 a ∧ s' 3 = .ep 0 0 0 ∧ s' 7 = .bool true ∧ s' 8 = .ep 1 0 0 ∧ s' 9 = .int .i64 i ∧ ∃ k : Nat, s' 11 = .int .i64 k ∧ k ≤ R.length ∧ Pre h h' ∧ OwnAt h' (s' 10) 52 (rows ((R.take k).map thin)) ∧ ∀ id n, s' 10 = .ow id 0 n → h.length ≤ id) (fun s' _ => R.length - (s' 11).toInt.toNat)
          ⟨by ((simp +decide (disch := first | decide | omega) only [go_sem, *]; done)), by ((simp +decide (disch := first | decide | omega) only [go_sem, *]; done)), by ((simp +decide (disch := first | decide | omega) only [go_sem, *]; done)), by ((simp +decide (disch := first | decide | omega) only [go_sem, *]; done)), by ((simp +decide (disch := first | decide | omega) only [go_sem, *]; done)), by ((simp +decide (disch := first | decide | omega) only [go_sem, *]; done)), 0, by simp +decide (disch := first | decide | omega) only [go_sem, *]; rfl, by omega, .refl _, .inl ⟨by (rfl), rfl⟩, fun id n e => by simp [upd] at e⟩ ?_
        rintro s' h' ⟨k1, k2, k3, k7, k8, k9, k, k11, hk, hpre, ho10, hge10⟩
        have g0 : h'[0]? = some (.row 25 [buC b]) := by rw [hpre.at (by omega)]; exact hr0
        have g1 : h'[1]? = some (.row 25 [[.int .i64 b.letters, .sl false (ints b.start), x]]) := by rw [hpre.at (by omega)]; exact hr1
        clear h1 h2 h3 h7 h8
        by_cases hkl : k < R.length
        · have w7 := w6 k hkl
          obtain ⟨l, hl⟩ : ∃ l, nth R k = l := ⟨_, rfl⟩
          rw [hl] at w7
          have hgl := rows_nth (l := R) (k := k) hkl
          rw [hl] at hgl
          repeat' (with_reducible first | refine WP.seq ?_ | refine WP.skip ?_ | refine WP.block ?_ | refine WP.exit ?_ | refine seqK_normal ?_ | refine seqK_exit ?_ | refine loopK_exit ?_ | refine blockK_here ?_ | (apply WP.regionE; (with_unfolding_all (simp +decide (disch := first | decide | omega) only [go_sem, *]; rfl))) | (apply WP.condB; (simp +decide (disch := first | decide | omega) only [go_sem, *]; rfl); all_goals (intro hb; (first | rw [dlt_t] at hb | rw [dlt_f] at hb | rw [dle_t] at hb | rw [dle_f] at hb | rw [Bool.not_eq_true'] at hb | rw [Bool.not_eq_false'] at hb | skip))))
          · refine WP.loop (fun s'' h'' => s'' 1 = .sl false (nds t) ∧ s'' 2 = .int .i64 a ∧ s'' 3 = .ep 0 0 0 ∧ s'' 7 = .bool true ∧ s'' 8 = .ep 1 0 0 ∧ s'' 9 = .int .i64 i ∧ s'' 10 = s' 10 ∧ s'' 11 = .int .i64 k ∧ s'' 12 = .sl false (mvs l) ∧ ∃ j : Nat, s'' 14 = .int .i64 j ∧ j ≤ l.length ∧ Pre h' h'' ∧ OwnAt h'' (s'' 13) 54 (mvs (thinTo l j)) ∧ ∀ id n, s'' 13 = .ow id 0 n → h'.length ≤ id) (fun s'' _ => l.length - (s'' 14).toInt.toNat)
              ⟨by ((simp +decide (disch := first | decide | omega) only [go_sem, *]; done)), by ((simp +decide (disch := first | decide | omega) only [go_sem, *]; done)), by ((simp +decide (disch := first | decide | omega) only [go_sem, *]; done)), by ((simp +decide (disch := first | decide | omega) only [go_sem, *]; done)), by ((simp +decide (disch := first | decide | omega) only [go_sem, *]; done)), by ((simp +decide (disch := first | decide | omega) only [go_sem, *]; done)), by (rfl), by ((simp +decide (disch := first | decide | omega) only [go_sem, *]; done)), by (rfl), 0, by simp +decide (disch := first | decide | omega) only [go_sem, *]; rfl, by omega, .refl _, .inl ⟨by (rfl), rfl⟩, fun id n e => by simp [upd] at e⟩ ?_
            clear k1 k2 k3 k7 k8 k9 g0 g1 hgl
            rintro s'' h'' ⟨k1, k2, k3, k7, k8, k9, k10, k11', k12, j, k14, hj, hpre2, ho13, hge13⟩
            by_cases hjl : j < l.length
            · have htl := thinTo_len l j
              obtain ⟨r, hr, q1, q2, q3, q4, q5⟩ := own_push ho13 hge13 hpre2 (T := 52) (y := .sl true [mvC (nth l j)]) (ys := [mvC (nth l j)]) el52 sz54 ze54 by54 (by decide) rfl rfl rfl (fun cs hc => by simp at hc; subst hc; exact ⟨rfl, rfl⟩) (by rw [mvs_length]; simp; omega)
              have hgj := mvs_nth (l := l) (k := j) hjl
              have hgj1 := mvs_nth (l := l) (k := j + 1)
              have hstep : thinTo l (j + 1) = thinTo l j ++ if thinK l j then [nth l j] else [] := rfl
              by_cases hj1 : j + 1 < l.length
              · have hgj1 := hgj1 hj1
                cases hd : decide ((nth l (j + 1)).to = (nth l j).to) with
                | true =>
                  have hk : thinK l j = false := by simp [thinK, hj1, hd]
                  rw [hk, if_neg (by simp), List.append_nil] at hstep
                  clear hr q1 q2 q3 q4 q5
                  clear r
                  repeat' (with_reducible first | refine WP.seq ?_ | refine WP.skip ?_ | refine WP.block ?_ | refine WP.exit ?_ | refine seqK_normal ?_ | refine seqK_exit ?_ | refine loopK_exit ?_ | refine blockK_here ?_ | (apply WP.regionE; (with_unfolding_all (simp +decide (disch := first | decide | omega) only [go_sem, *]; rfl))) | (apply WP.regionV1 mixed; with_unfolding_all rfl; with_unfolding_all rfl; (with_unfolding_all (simp +decide (disch := first | decide | omega) only [go_sem, *]; rfl))) | (apply WP.condT; (focus (simp +decide (disch := first | decide | omega) only [go_sem, *]; done))) | (apply WP.condB; (simp +decide (disch := first | decide | omega) only [go_sem, *]; rfl); all_goals (intro hb; (first | rw [dlt_t] at hb | rw [dlt_f] at hb | rw [dle_t] at hb | rw [dle_f] at hb | rw [Bool.not_eq_true'] at hb | rw [Bool.not_eq_false'] at hb | skip))) | (apply WP.guardB 0; with_unfolding_all rfl; (with_unfolding_all (simp +decide (disch := first | decide | omega) only [go_sem, *]; rfl)); (simp +decide (disch := first | decide | omega) only [go_sem, *]; rfl); all_goals (intro hb; (fail_if_success (exact absurd hb (by decide))); (first | rw [dlt_t] at hb | rw [dlt_f] at hb | rw [dle_t] at hb | rw [dle_f] at hb | rw [Bool.not_eq_true'] at hb | rw [Bool.not_eq_false'] at hb | skip))))
                  · refine loopK_normal ⟨by ((simp +decide (disch := first | decide | omega) only [go_sem, *]; done)), by ((simp +decide (disch := first | decide | omega) only [go_sem, *]; done)), by ((simp +decide (disch := first | decide | omega) only [go_sem, *]; done)), by ((simp +decide (disch := first | decide | omega) only [go_sem, *]; done)), by ((simp +decide (disch := first | decide | omega) only [go_sem, *]; done)), by ((simp +decide (disch := first | decide | omega) only [go_sem, *]; done)), by ((simp +decide (disch := first | decide | omega) only [go_sem, *]; done)), by ((simp +decide (disch := first | decide | omega) only [go_sem, *]; done)), by ((simp +decide (disch := first | decide | omega) only [go_sem, *]; done)), j + 1, by simp +decide (disch := first | decide | omega) only [go_sem, *]; rfl, by omega, hpre2, ?_, ?_⟩ (by simp +decide (disch := first | decide | omega) only [go_sem, *]; omega)
                    · rw [hstep]; simpa [upd] using ho13
                    · intro id n e
                      exact hge13 id n (by simpa [upd] using e)
                  all_goals omega
                | false =>
                  have hk : thinK l j = true := by simp [thinK, hj1, hd]
                  rw [hk, if_pos rfl] at hstep
                  repeat' (with_reducible first | refine WP.seq ?_ | refine WP.skip ?_ | refine WP.block ?_ | refine WP.exit ?_ | refine seqK_normal ?_ | refine seqK_exit ?_ | refine loopK_exit ?_ | refine blockK_normal ?_ | refine blockK_here ?_ | (apply WP.regionE; (with_unfolding_all (simp +decide (disch := first | decide | omega) only [go_sem, *]; rfl))) | (apply WP.regionV1 mixed; with_unfolding_all rfl; with_unfolding_all rfl; (with_unfolding_all (simp +decide (disch := first | decide | omega) only [go_sem, *]; rfl))) | (apply WP.condF; (focus (simp +decide (disch := first | decide | omega) only [go_sem, *]; done))) | (apply WP.condB; (simp +decide (disch := first | decide | omega) only [go_sem, *]; rfl); all_goals (intro hb; (first | rw [dlt_t] at hb | rw [dlt_f] at hb | rw [dle_t] at hb | rw [dle_f] at hb | rw [Bool.not_eq_true'] at hb | rw [Bool.not_eq_false'] at hb | skip))) | (apply WP.guardB 0; with_unfolding_all rfl; (with_unfolding_all (simp +decide (disch := first | decide | omega) only [go_sem, *]; rfl)); (simp +decide (disch := first | decide | omega) only [go_sem, *]; rfl); all_goals (intro hb; (fail_if_success (exact absurd hb (by decide))); (first | rw [dlt_t] at hb | rw [dlt_f] at hb | rw [dle_t] at hb | rw [dle_f] at hb | rw [Bool.not_eq_true'] at hb | rw [Bool.not_eq_false'] at hb | skip))))
                  · refine loopK_normal ⟨by ((simp +decide (disch := first | decide | omega) only [go_sem, *]; done)), by ((simp +decide (disch := first | decide | omega) only [go_sem, *]; done)), by ((simp +decide (disch := first | decide | omega) only [go_sem, *]; done)), by ((simp +decide (disch := first | decide | omega) only [go_sem, *]; done)), by ((simp +decide (disch := first | decide | omega) only [go_sem, *]; done)), by ((simp +decide (disch := first | decide | omega) only [go_sem, *]; done)), by ((simp +decide (disch := first | decide | omega) only [go_sem, *]; done)), by ((simp +decide (disch := first | decide | omega) only [go_sem, *]; done)), by ((simp +decide (disch := first | decide | omega) only [go_sem, *]; done)), j + 1, by simp +decide (disch := first | decide | omega) only [go_sem, *]; rfl, by omega, q2, ?_, ?_⟩ (by simp +decide (disch := first | decide | omega) only [go_sem, *]; omega)
                    · rw [hstep, ← mvs_append]; simpa [upd, mvs] using q1
                    · intro id n e
                      have := q3 id n (by simpa [upd] using e)
                      have := hpre2.len
                      omega
                  all_goals omega
              · have hk : thinK l j = true := by simp [thinK, hj1]
                rw [hk, if_pos rfl] at hstep
                clear hgj1
                have hd1 : decide ((j : Int) + 1 < (l.length : Int)) = false := decide_eq_false (by omega)
                repeat' (with_reducible first | refine WP.seq ?_ | refine WP.skip ?_ | refine WP.block ?_ | refine WP.exit ?_ | refine seqK_normal ?_ | refine seqK_exit ?_ | refine loopK_exit ?_ | refine blockK_normal ?_ | refine blockK_here ?_ | (apply WP.regionE; (with_unfolding_all (simp +decide (disch := first | decide | omega) only [go_sem, *]; rfl))) | (apply WP.regionV1 mixed; with_unfolding_all rfl; with_unfolding_all rfl; (with_unfolding_all (simp +decide (disch := first | decide | omega) only [go_sem, *]; rfl))) | (apply WP.condF; (focus (simp +decide (disch := first | decide | omega) only [go_sem, *]; done))) | (apply WP.condB; (simp +decide (disch := first | decide | omega) only [go_sem, *]; rfl); all_goals (intro hb; (first | rw [dlt_t] at hb | rw [dlt_f] at hb | rw [dle_t] at hb | rw [dle_f] at hb | rw [Bool.not_eq_true'] at hb | rw [Bool.not_eq_false'] at hb | skip))))
                · refine loopK_normal ⟨by ((simp +decide (disch := first | decide | omega) only [go_sem, *]; done)), by ((simp +decide (disch := first | decide | omega) only [go_sem, *]; done)), by ((simp +decide (disch := first | decide | omega) only [go_sem, *]; done)), by ((simp +decide (disch := first | decide | omega) only [go_sem, *]; done)), by ((simp +decide (disch := first | decide | omega) only [go_sem, *]; done)), by ((simp +decide (disch := first | decide | omega) only [go_sem, *]; done)), by ((simp +decide (disch := first | decide | omega) only [go_sem, *]; done)), by ((simp +decide (disch := first | decide | omega) only [go_sem, *]; done)), by ((simp +decide (disch := first | decide | omega) only [go_sem, *]; done)), j + 1, by simp +decide (disch := first | decide | omega) only [go_sem, *]; rfl, by omega, q2, ?_, ?_⟩ (by simp +decide (disch := first | decide | omega) only [go_sem, *]; omega)
                  · rw [hstep, ← mvs_append]; simpa [upd, mvs] using q1
                  · intro id n e
                    have := q3 id n (by simpa [upd] using e)
                    have := hpre2.len
                    omega
                all_goals omega
            · obtain rfl : j = l.length := by omega
              repeat' (with_reducible first | refine WP.seq ?_ | refine WP.skip ?_ | refine WP.block ?_ | refine WP.exit ?_ | refine seqK_normal ?_ | refine seqK_exit ?_ | refine loopK_exit ?_ | refine blockK_here ?_ | (apply WP.regionE; (with_unfolding_all (simp +decide (disch := first | decide | omega) only [go_sem, *]; rfl))) | (apply WP.regionV1 mixed; with_unfolding_all rfl; with_unfolding_all rfl; (with_unfolding_all (simp +decide (disch := first | decide | omega) only [go_sem, *]; rfl))) | (apply WP.condB; (simp +decide (disch := first | decide | omega) only [go_sem, *]; rfl); all_goals (intro hb; (first | rw [dlt_t] at hb | rw [dlt_f] at hb | rw [dle_t] at hb | rw [dle_f] at hb | rw [Bool.not_eq_true'] at hb | rw [Bool.not_eq_false'] at hb | skip))) | (apply WP.guardB 0; with_unfolding_all rfl; (with_unfolding_all (simp +decide (disch := first | decide | omega) only [go_sem, *]; rfl)); (simp +decide (disch := first | decide | omega) only [go_sem, *]; rfl); all_goals (intro hb; (fail_if_success (exact absurd hb (by decide))); (first | rw [dlt_t] at hb | rw [dlt_f] at hb | rw [dle_t] at hb | rw [dle_f] at hb | rw [Bool.not_eq_true'] at hb | rw [Bool.not_eq_false'] at hb | skip))))
              any_goals omega
              refine WP.freezeOwn 13 (t := 54) (es := mvs (thin l)) (by simpa [upd, thin] using ho13) (mvs_free _) ?_
              rintro h3 hh3
              have hp3 : Pre h' h3 := by
                rcases hh3 with rfl | ⟨id, n, e, rfl⟩
                · exact hpre2
                · exact hpre2.set (hge13 id n (by simpa [upd] using e)) _
              obtain ⟨r, hr, q1, q2, q3, q4, q5⟩ := own_push (own_pre ho10 hp3) hge10 (hpre.trans hp3) (T := 51) (y := .sl true [[.sl false (mvs (thin l))]]) (ys := rows [thin l]) el51 sz52 ze52 by52 (by decide) rfl rfl rfl (fun cs hc => by simp [rows] at hc; subst hc; exact ⟨rfl, rfl⟩) (by rw [rows_length, rows_length]; simp; omega)
              clear hh3 ho13 hge13
              have htk : (R.take (k + 1)).map thin = (R.take k).map thin ++ [thin l] := by rw [take_nth hkl, hl]; simp
              repeat' (with_reducible first | refine seqK_normal ?_ | refine blockK_normal ?_ | (apply WP.regionE; (with_unfolding_all (simp +decide (disch := first | decide | omega) only [go_sem, *]; rfl))))
              refine loopK_normal ⟨by ((simp +decide (disch := first | decide | omega) only [go_sem, *]; done)), by ((simp +decide (disch := first | decide | omega) only [go_sem, *]; done)), by ((simp +decide (disch := first | decide | omega) only [go_sem, *]; done)), by ((simp +decide (disch := first | decide | omega) only [go_sem, *]; done)), by ((simp +decide (disch := first | decide | omega) only [go_sem, *]; done)), by ((simp +decide (disch := first | decide | omega) only [go_sem, *]; done)), k + 1, by simp +decide (disch := first | decide | omega) only [go_sem, *]; rfl, by omega, q2, ?_, ?_⟩ (by simp +decide (disch := first | decide | omega) only [go_sem, *]; omega)
              · rw [htk, ← rows_append]; simpa [upd, rows] using q1
              · intro id n e
                have := q3 id n (by simpa [upd] using e)
                have := (hpre.trans hp3).len
                omega
          · omega
        · obtain rfl : k = R.length := by omega
          repeat' (with_reducible first | refine WP.seq ?_ | refine WP.skip ?_ | refine WP.block ?_ | refine WP.exit ?_ | refine seqK_normal ?_ | refine seqK_exit ?_ | refine loopK_exit ?_ | refine blockK_here ?_ | (apply WP.regionE; (with_unfolding_all (simp +decide (disch := first | decide | omega) only [go_sem, *]; rfl))) | (apply WP.condB; (simp +decide (disch := first | decide | omega) only [go_sem, *]; rfl); all_goals (intro hb; (first | rw [dlt_t] at hb | rw [dlt_f] at hb | rw [dle_t] at hb | rw [dle_f] at hb | rw [Bool.not_eq_true'] at hb | rw [Bool.not_eq_false'] at hb | skip))))
          any_goals omega
          rw [List.take_length] at ho10
          refine WP.freezeOwn 10 (t := 52) (es := rows (R.map thin)) (by simpa [upd] using ho10) (rows_free _) ?_
          rintro h4 hh4
          have hp4 : Pre h h4 := by
            rcases hh4 with rfl | ⟨id, n, e, rfl⟩
            · exact hpre
            · exact hpre.set (hge10 id n (by simpa [upd] using e)) _
          have f0 : h4[0]? = some (.row 25 [buC b]) := by rw [hp4.at (by omega)]; exact hr0
          have f1 : h4[1]? = some (.row 25 [[.int .i64 b.letters, .sl false (ints b.start), x]]) := by rw [hp4.at (by omega)]; exact hr1
          have hl4 := hp4.len
          obtain ⟨r, hr, q1, q2, q3, q4, q5⟩ := own_push (h0 := h4.take 2) (own_pre hox hp4) (fun id n e => by have := hxe id n e; simp; omega) ⟨h4.drop 2, (List.take_append_drop 2 h4).symm⟩ (T := 23) (y := .sl true [[.sl false (rows (R.map thin))]]) (ys := mats [R.map thin]) el23 sz51 ze51 by51 (by decide) rfl rfl rfl (fun cs hc => by simp [mats] at hc; subst hc; exact ⟨rfl, rfl⟩) (by rw [mats_length, mats_length]; simp; omega)
          have hnx : ∀ j, j < 2 → ¬ j ∈ idsOf x := fun j hj hm => by
            rcases hox with ⟨e, _⟩ | ⟨id, e, _⟩
            · rw [e] at hm; simp [idsOf] at hm
            · have := hxe id _ e
              rw [e] at hm; simp [idsOf] at hm; omega
          have p0 : (setAll (h4 ++ r.ns) r.ws)[0]? = some (.row 25 [buC b]) := by rw [q4 0 (by omega) (hnx 0 (by omega))]; exact f0
          have p1 : (setAll (h4 ++ r.ns) r.ws)[1]? = some (.row 25 [[.int .i64 b.letters, .sl false (ints b.start), x]]) := by rw [q4 1 (by omega) (hnx 1 (by omega))]; exact f1
          have hti : (b.next.take (i + 1)).map (fun r => r.map thin) = (b.next.take i).map (fun r => r.map thin) ++ [R.map thin] := by rw [take_nth hlt, hR]; simp
          have hxo := own_one hox
          have hro := own_one q1
          clear hh4 ho10 hge10
          obtain ⟨rx, rws, rns⟩ := r
          simp only at hr q1 q2 q3 q4 q5 p0 p1
          rcases q1 with ⟨_, e⟩ | ⟨rid, rfl, hrr⟩
          · simp [mats] at e
          have q3 := q3 rid _ rfl
          obtain ⟨rn, hrn⟩ : ∃ rn, (mats ((b.next.take i).map (fun r => r.map thin)) ++ mats [R.map thin]).length = rn := ⟨_, rfl⟩
          rw [hrn] at hr
          have hfin : OwnAt ((setAll (h4 ++ rns) rws).set 1 (.row 25 [[.int .i64 b.letters, .sl false (ints b.start), HV.ow rid 0 rn]])) (.ow rid 0 rn) 51 (mats ((b.next.take (i + 1)).map fun r => r.map thin)) := .inr ⟨rid, by rw [← hrn, hti, ← mats_append], by rw [List.getElem?_set_ne (by omega), hti, ← mats_append]; exact hrr⟩
          clear hrr hti hrn
          obtain ⟨xn, hxn⟩ : ∃ xn, (mats ((b.next.take i).map (fun r => r.map thin))).length = xn := ⟨_, rfl⟩
          rcases hox with ⟨rfl, _⟩ | ⟨xid, rfl, _⟩
          all_goals
            try rw [hxn] at *
            clear hxn
            repeat' (with_reducible first | refine seqK_normal ?_ | refine blockK_normal ?_ | (apply WP.regionE; (with_unfolding_all (simp +decide (disch := first | decide | omega) only [go_sem, *]; rfl))))
            refine loopK_normal ⟨by ((simp +decide (disch := first | decide | omega) only [go_sem, *]; done)), by ((simp +decide (disch := first | decide | omega) only [go_sem, *]; done)), by ((simp +decide (disch := first | decide | omega) only [go_sem, *]; done)), by ((simp +decide (disch := first | decide | omega) only [go_sem, *]; done)), by ((simp +decide (disch := first | decide | omega) only [go_sem, *]; done)), i + 1, by simp +decide (disch := first | decide | omega) only [go_sem, *]; rfl, by omega, _, ?_, List.getElem?_set_self (by omega), hfin, ?_⟩ (by simp +decide (disch := first | decide | omega) only [go_sem, *]; omega)
            · rw [List.getElem?_set_ne (by omega)]; exact p0
            · intro id n e
              injection e with e
              omega
      · omega
    · obtain rfl : i = b.next.length := by omega
      rw [List.take_length] at hox
      have hmf := mats_free (b.next.map fun r => r.map thin)
      have hxa : ∀ c, (h ++ [HO.row 31 [evnC E]])[1]? = some c ↔ h[1]? = some c := fun c => by rw [List.getElem?_append_left h2l]
      have hr1' := (hxa _).2 hr1
      clear hxa
      obtain ⟨xn, hxn⟩ : ∃ xn, (mats (b.next.map (fun r => r.map thin))).length = xn := ⟨_, rfl⟩
      rcases hox with ⟨rfl, hxr⟩ | ⟨xid, rfl, hxr⟩
      · have cx : CallsP pg 12 [.agg [.int .i64 b.letters, .sl false (ints b.start), .sl true []], .sl false (nds t), .int .i64 a] (fun v => v = .tup [.sl false (nds Y), .agg (evnC E)]) := CallsP.dimA c12t (by
          simp only [buC, thinB, List.map_cons, List.map_nil, HV.dim, HV.dimL, HV.dimLL, dim_ints, dim_nds, hxr])
        clear hxr hxn
        have hev1 : (h ++ [HO.row 31 [evnC E]] ++ [HO.row 31 [evnC E]])[h.length]? = some (.row 31 [evnC E]) := by rw [List.getElem?_append_left (by simp)]; simp
        have hev2 : (h ++ [HO.row 31 [evnC E]] ++ [HO.row 31 [evnC E]])[h.length + 1]? = some (.row 31 [evnC E]) := by rw [List.getElem?_append_right (by simp)]; simp
        repeat' (with_reducible first | refine WP.seq ?_ | refine WP.skip ?_ | refine WP.block ?_ | refine WP.exit ?_ | refine WP.ret ?_ | refine seqK_normal ?_ | refine seqK_exit ?_ | refine loopK_exit ?_ | refine blockK_here ?_ | (apply WP.regionE; (with_unfolding_all (simp +decide (disch := first | decide | omega) only [go_sem, *]; rfl))) | (apply WP.regionX; with_unfolding_all rfl; (with_unfolding_all (simp +decide (disch := first | decide | omega) only [go_sem, *]; rfl))) | (apply opsT.call; (with_unfolding_all (simp +decide (disch := first | decide | omega) only [go_sem, *]; rfl)); (focus (simp +decide (disch := first | decide | omega) only [go_sem, *]; done)); (with_unfolding_all (simp +decide (disch := first | decide | omega) only [go_sem, *]; rfl))) | (apply opsT.callG; (focus (simp +decide (disch := first | decide | omega) only [go_sem, *]; done)); (with_unfolding_all (simp +decide (disch := first | decide | omega) only [go_sem, *]; rfl)); (focus (simp +decide (disch := first | decide | omega) only [go_sem, *]; done)); (with_unfolding_all (simp +decide (disch := first | decide | omega) only [go_sem, *]; rfl))) | (apply opsT.moreX; with_unfolding_all rfl; (with_unfolding_all (simp +decide (disch := first | decide | omega) only [go_sem, *]; rfl))) | (apply opsT.fin; (with_unfolding_all (simp +decide (disch := first | decide | omega) only [go_sem, *]; rfl))) | (apply CallsP.eq (c12); (focus (simp +decide (disch := first | decide | omega) only [go_sem, *]; done))) | (apply CallsP.eq (cx); (focus (simp +decide (disch := first | decide | omega) only [go_sem, *]; done))) | (apply CallsP.eq (c16); (focus (simp +decide (disch := first | decide | omega) only [go_sem, *]; done))) | (apply CallsP.eq (c21); (focus (simp +decide (disch := first | decide | omega) only [go_sem, *]; done))) | (apply WP.condB; (simp +decide (disch := first | decide | omega) only [go_sem, *]; rfl); all_goals (intro hb; (first | rw [dlt_t] at hb | rw [dlt_f] at hb | rw [dle_t] at hb | rw [dle_f] at hb | rw [Bool.not_eq_true'] at hb | rw [Bool.not_eq_false'] at hb | skip))) | (apply fnPost_pure 0; (first | exact .inl rfl | exact .inr rfl); (simp +decide (disch := first | decide | omega) only [go_sem, *]; rfl); (simp +decide (disch := first | decide | omega) only [go_sem, *]; rfl)))
        any_goals first
          | omega
          | rfl
        all_goals trace_state
      · rw [hxn] at hr1 hr1' hxe
        have hxe2 := hxe xid xn rfl
        have hxl : xid < h.length := (List.getElem?_eq_some_iff.1 hxr).1
        repeat' (with_reducible first | refine WP.seq ?_ | refine WP.skip ?_ | refine WP.block ?_ | refine WP.exit ?_ | refine seqK_normal ?_ | refine seqK_exit ?_ | refine loopK_exit ?_ | refine blockK_here ?_ | (apply WP.regionE; (with_unfolding_all (simp +decide (disch := first | decide | omega) only [go_sem, *]; rfl))) | (apply WP.regionX; with_unfolding_all rfl; (with_unfolding_all (simp +decide (disch := first | decide | omega) only [go_sem, *]; rfl))) | (apply opsT.call; (with_unfolding_all (simp +decide (disch := first | decide | omega) only [go_sem, *]; rfl)); (focus (simp +decide (disch := first | decide | omega) only [go_sem, *]; done)); (with_unfolding_all (simp +decide (disch := first | decide | omega) only [go_sem, *]; rfl))) | (apply opsT.fin; (with_unfolding_all (simp +decide (disch := first | decide | omega) only [go_sem, *]; rfl))) | (apply CallsP.eq (c12); (focus (simp +decide (disch := first | decide | omega) only [go_sem, *]; done))) | (apply WP.condB; (simp +decide (disch := first | decide | omega) only [go_sem, *]; rfl); all_goals (intro hb; (first | rw [dlt_t] at hb | rw [dlt_f] at hb | rw [dle_t] at hb | rw [dle_f] at hb | rw [Bool.not_eq_true'] at hb | rw [Bool.not_eq_false'] at hb | skip))))
        any_goals omega
        have hrow : rdV (keepF [xid] (h ++ [HO.row 31 [evnC E]])) 1 (.ow xid 0 xn) = some (.sl false (mats (b.next.map fun r => r.map thin))) := rdV_row (m := 0) (keep_at (by simp) (by rw [List.getElem?_append_left hxl]; exact hxr)) hxn hmf
        refine CallsP.call c12t [xid] 2 ?_ ?_
        · refine rdL_cons (y := .agg (buC (thinB b))) ?_ (rdL_cons (rdV_free 2 _ (by simp [HV.free, nds_free])) (rdL_cons (rdV_free 2 _ rfl) rdL_nil))
          have h3 := rdL_cons (x := .int .i64 b.letters) (rdV_free 1 _ rfl) (rdL_cons (x := .sl false (ints b.start)) (rdV_free 1 _ (by simp [HV.free, ints_free])) (rdL_cons hrow rdL_nil))
          simp only [rdV, h3]
          rfl
        · rintro _ rfl
          rw [goneF_one]
          have hev : ((h ++ [HO.row 31 [evnC E]]).set xid .gone)[h.length]? = some (.row 31 [evnC E]) := by rw [List.getElem?_set_ne (by omega)]; simp
          have hel : h.length < ((h ++ [HO.row 31 [evnC E]]).set xid .gone).length := by simp
          generalize (h ++ [HO.row 31 [evnC E]]).set xid .gone = H2 at *
          have hev3 : (H2 ++ [HO.row 31 [evnC E]])[h.length]? = some (.row 31 [evnC E]) := by rw [List.getElem?_append_left hel]; exact hev
          have hev4 : (H2 ++ [HO.row 31 [evnC E]])[H2.length]? = some (.row 31 [evnC E]) := by simp
          repeat' (with_reducible first | refine WP.seq ?_ | refine WP.ret ?_ | refine seqK_normal ?_ | (apply WP.regionX; with_unfolding_all rfl; (with_unfolding_all (simp +decide (disch := first | decide | omega) only [go_sem, *]; rfl))) | (apply opsT.callG; (focus (simp +decide (disch := first | decide | omega) only [go_sem, *]; done)); (with_unfolding_all (simp +decide (disch := first | decide | omega) only [go_sem, *]; rfl)); (focus (simp +decide (disch := first | decide | omega) only [go_sem, *]; done)); (with_unfolding_all (simp +decide (disch := first | decide | omega) only [go_sem, *]; rfl))) | (apply opsT.moreX; with_unfolding_all rfl; (with_unfolding_all (simp +decide (disch := first | decide | omega) only [go_sem, *]; rfl))) | (apply opsT.fin; (with_unfolding_all (simp +decide (disch := first | decide | omega) only [go_sem, *]; rfl))) | (apply CallsP.eq (c16); (focus (simp +decide (disch := first | decide | omega) only [go_sem, *]; done))) | (apply CallsP.eq (c21); (focus (simp +decide (disch := first | decide | omega) only [go_sem, *]; done))) | (apply fnPost_pure 0; (first | exact .inl rfl | exact .inr rfl); (simp +decide (disch := first | decide | omega) only [go_sem, *]; rfl); (simp +decide (disch := first | decide | omega) only [go_sem, *]; rfl)))
          any_goals rfl
          all_goals trace_state
          all_goals sorry
  · refine CallsP.of_wpN [] 144 fn7 rfl rfl ?_
    refine WP.abs (fun s => s 0 = .agg (buC b) ∧ s 1 = .sl false (nds t) ∧ s 2 = .int .i64 a) ⟨rfl, rfl, rfl⟩ ?_
    rintro s ⟨h0, h1, h2⟩
    repeat' (with_reducible first | refine WP.seq ?_ | refine WP.skip ?_ | refine WP.block ?_ | refine WP.ret ?_ | refine seqK_normal ?_ | refine seqK_ret ?_ | (apply WP.regionE; (with_unfolding_all (simp +decide (disch := first | decide | omega) only [go_sem, *]; rfl))) | (apply WP.regionX; with_unfolding_all rfl; (with_unfolding_all (simp +decide (disch := first | decide | omega) only [go_sem, *]; rfl))) | (apply opsT.call; (with_unfolding_all (simp +decide (disch := first | decide | omega) only [go_sem, *]; rfl)); (focus (simp +decide (disch := first | decide | omega) only [go_sem, *]; done)); (with_unfolding_all (simp +decide (disch := first | decide | omega) only [go_sem, *]; rfl))) | (apply opsT.callG; (focus (simp +decide (disch := first | decide | omega) only [go_sem, *]; done)); (with_unfolding_all (simp +decide (disch := first | decide | omega) only [go_sem, *]; rfl)); (focus (simp +decide (disch := first | decide | omega) only [go_sem, *]; done)); (with_unfolding_all (simp +decide (disch := first | decide | omega) only [go_sem, *]; rfl))) | (apply opsT.moreX; with_unfolding_all rfl; (with_unfolding_all (simp +decide (disch := first | decide | omega) only [go_sem, *]; rfl))) | (apply opsT.fin; (with_unfolding_all (simp +decide (disch := first | decide | omega) only [go_sem, *]; rfl))) | (apply CallsP.eq (c9); (focus (simp +decide (disch := first | decide | omega) only [go_sem, *]; done))) | (apply CallsP.eq (c10); (focus (simp +decide (disch := first | decide | omega) only [go_sem, *]; done))) | (apply CallsP.eq (c11); (focus (simp +decide (disch := first | decide | omega) only [go_sem, *]; done))) | (apply CallsP.eq (c20); (focus (simp +decide (disch := first | decide | omega) only [go_sem, *]; done))) | (apply WP.condT; (focus (simp +decide (disch := first | decide | omega) only [go_sem, *]; done))) | (apply WP.condB; (simp +decide (disch := first | decide | omega) only [go_sem, *]; rfl); all_goals (intro hb; (first | rw [dlt_t] at hb | rw [dlt_f] at hb | rw [dle_t] at hb | rw [dle_f] at hb | rw [Bool.not_eq_true'] at hb | rw [Bool.not_eq_false'] at hb | skip))) | (apply fnPost_pure 0; (first | exact .inl rfl | exact .inr rfl); (simp +decide (disch := first | decide | omega) only [go_sem, *]; rfl); (simp +decide (disch := first | decide | omega) only [go_sem, *]; rfl)) | (apply opsT.guardB 1; with_unfolding_all rfl; (with_unfolding_all (simp +decide (disch := first | decide | omega) only [go_sem, *]; rfl)); (simp +decide (disch := first | decide | omega) only [go_sem, *]; rfl); all_goals (intro hb; (fail_if_success (exact absurd hb (by decide))); (first | rw [dlt_t] at hb | rw [dlt_f] at hb | rw [dle_t] at hb | rw [dle_f] at hb | rw [Bool.not_eq_true'] at hb | rw [Bool.not_eq_false'] at hb | skip))) | (apply opsT.guardB 2; with_unfolding_all rfl; (with_unfolding_all (simp +decide (disch := first | decide | omega) only [go_sem, *]; rfl)); (simp +decide (disch := first | decide | omega) only [go_sem, *]; rfl); all_goals (intro hb; (fail_if_success (exact absurd hb (by decide))); (first | rw [dlt_t] at hb | rw [dlt_f] at hb | rw [dle_t] at hb | rw [dle_f] at hb | rw [Bool.not_eq_true'] at hb | rw [Bool.not_eq_false'] at hb | skip))))
    all_goals first
      | rfl
      | (exfalso; exact hok ⟨by assumption, by omega, by omega⟩)

end Go.Proofs.Ytonhbeapffiibaa
