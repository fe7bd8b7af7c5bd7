/-
  Chapter 16: the reference's small functions, second part.
-/
import Derived.Test.YtonhbeapffiibaaRef
namespace Go.Proofs.Ytonhbeapffiibaa
open Go.HL

/-- Appending to a list of numbers. -/
theorem owns_int {h : Hp} {x y : HV} {es ys : List Int} {L : List (HV × TypeId × List (List HV))} (hL : OwnsL h L) (i : Nat) (hi : L[i]? = some (x, 3, ints es)) (hy : elemsH h y = some (ints ys)) (hlen : es.length + ys.length ≤ 17592186044416) :
    ∃ r, appendH pg.P h h.length 22 x y = some r ∧ OwnsL (setAll (h ++ r.ns) r.ws) (L.set i (r.x, 3, ints (es ++ ys))) := by
  obtain ⟨r, h1, h2⟩ := hL.append (P := pg.P) (T := 22) (y := y) i hi el22 sz3 ze3 by3 (by decide) rfl rfl hy (ints_ok ys) (by simp only [ints_length]; omega)
  exact ⟨r, h1, by rw [← ints_append]; exact h2⟩

def bef (a b : Mv) : Bool := decide (a.to < b.to) || (decide (a.to = b.to) && !a.good && b.good)

theorem mvC_0 (x : Mv) : (mvC x)[0]? = some (.int .i64 x.to) := rfl
theorem mvC_1 (x : Mv) : (mvC x)[1]? = some (.bool x.good) := rfl
theorem mvC_drop0 (x : Mv) : (mvC x).drop 0 = mvC x := rfl
theorem mvC_drop1 (x : Mv) : (mvC x).drop 1 = [.bool x.good] := rfl
theorem mvC_take (x : Mv) : (mvC x).take 2 = mvC x := rfl
theorem mvC_length (x : Mv) : (mvC x).length = 2 := rfl
theorem mvC_one (x : Mv) : (mvC x).all HV.one = true := rfl
theorem mvC_free (x : Mv) : HV.freeL (mvC x) = true := by simp [mvC, HV.freeL, HV.free]
attribute [go_sem] mvC_0 mvC_1 mvC_drop0 mvC_drop1 mvC_take mvC_length mvC_one mvC_free

theorem ref_before (a b : Mv) : CallsP pg 53 [.agg (mvC a), .agg (mvC b)] (fun r => r = .bool (bef a b)) := by
  refine CallsP.of_wpN [] 26 fn53 rfl rfl ?_
  refine WP.abs (fun s => s 0 = .agg (mvC a) ∧ s 1 = .agg (mvC b)) ⟨rfl, rfl⟩ ?_
  rintro s ⟨h0, h1⟩
  by_cases c1 : a.to < b.to
  · repeat' (with_reducible first | refine WP.seq ?_ | refine WP.ret ?_ | refine seqK_normal ?_ | (apply WP.regionE; (with_unfolding_all (simp +decide (disch := first | decide | omega) only [go_sem, *]; rfl))))
    refine fnPost_pure 0 (by first | exact .inl rfl | exact .inr rfl) (by simp +decide (disch := first | decide | omega) only [go_sem, *]; rfl) (by simp +decide (disch := first | decide | omega) only [go_sem, *]; rfl) ?_
    simp [bef, c1]
  by_cases c2 : a.to = b.to
  · have c4 : ¬ b.to < b.to := by omega
    clear c1
    cases c3 : a.good with
    | true =>
      repeat' (with_reducible first | refine WP.seq ?_ | refine WP.ret ?_ | refine seqK_normal ?_ | (apply WP.regionE; (with_unfolding_all (simp +decide (disch := first | decide | omega) only [go_sem, *]; rfl))))
      refine fnPost_pure 0 (by first | exact .inl rfl | exact .inr rfl) (by simp +decide (disch := first | decide | omega) only [go_sem, *]; rfl) (by simp +decide (disch := first | decide | omega) only [go_sem, *]; rfl) ?_
      simp [bef, c2, c3]
    | false =>
      repeat' (with_reducible first | refine WP.seq ?_ | refine WP.ret ?_ | refine seqK_normal ?_ | (apply WP.regionE; (with_unfolding_all (simp +decide (disch := first | decide | omega) only [go_sem, *]; rfl))))
      refine fnPost_pure 0 (by first | exact .inl rfl | exact .inr rfl) (by simp +decide (disch := first | decide | omega) only [go_sem, *]; rfl) (by simp +decide (disch := first | decide | omega) only [go_sem, *]; rfl) ?_
      simp [bef, c2, c3]
  · repeat' (with_reducible first | refine WP.seq ?_ | refine WP.ret ?_ | refine seqK_normal ?_ | (apply WP.regionE; (with_unfolding_all (simp +decide (disch := first | decide | omega) only [go_sem, *]; rfl))))
    refine fnPost_pure 0 (by first | exact .inl rfl | exact .inr rfl) (by simp +decide (disch := first | decide | omega) only [go_sem, *]; rfl) (by simp +decide (disch := first | decide | omega) only [go_sem, *]; rfl) ?_
    simp [bef, c1, c2]

theorem ref_names (l : List Nd) (hl : l.length ≤ 1000000) : CallsP pg 62 [.sl false (nds l)] (fun v => v = .sl false (ints (l.map (·.name)))) := by
  refine CallsP.of_wpW [] 21 fn62 rfl rfl ?_
  refine WP.abs (fun s => s 0 = .sl false (nds l)) rfl ?_
  rintro s h0
  refine WP.slLen h0 fun hlen => ?_
  rw [nds_length, maxLen] at hlen
  repeat' (with_reducible first | refine WP.seq ?_ | refine WP.block ?_ | refine seqK_normal ?_ | (apply WP.regionE; (with_unfolding_all (simp +decide (disch := first | decide | omega) only [go_sem, *]; rfl))))
  refine WP.loop (fun s h => s 0 = .sl false (nds l) ∧ ∃ i : Nat, s 4 = .int .i64 i ∧ i ≤ l.length ∧ OwnsL h [(s 3, 3, ints ((l.take i).map (·.name)))]) (fun s _ => l.length - (s 4).toInt.toNat) ⟨?_, 0, ?_, ?_, ?_⟩ ?_
  · simp +decide (disch := first | decide | omega) only [go_sem, *]
  · simp +decide (disch := first | decide | omega) only [go_sem, *]; rfl
  · omega
  · simp +decide (disch := first | decide | omega) only [go_sem, *]
    exact ⟨by simp [ints, OwnAt], by simp⟩
  clear h0 s
  rintro s h ⟨h0, i, h4, hi, hL⟩
  repeat' (with_reducible first | refine WP.seq ?_ | refine seqK_normal ?_ | (apply WP.regionE; (with_unfolding_all (simp +decide (disch := first | decide | omega) only [go_sem, *]; rfl))))
  refine WP.condB (by simp +decide (disch := first | decide | omega) only [go_sem, *]; rfl) (fun hb => ?_) (fun hb => ?_)
  · have hlt : i < l.length := by simpa using hb
    have hg := nds_get hlt
    have ht : (l.take (i + 1)).map (·.name) = (l.take i).map (·.name) ++ [l[i].name] := by rw [List.take_succ_eq_append_getElem hlt]; simp only [List.map_append, List.map_cons, List.map_nil]
    obtain ⟨q, hq, hL1⟩ := owns_int hL 0 rfl (y := .sl true [[.int .i64 l[i].name]]) (ys := [l[i].name]) rfl (by simp; omega)
    repeat' (with_reducible first | refine WP.seq ?_ | refine WP.skip ?_ | refine WP.block ?_ | refine seqK_normal ?_ | refine blockK_normal ?_ | (apply WP.regionE; (with_unfolding_all (simp +decide (disch := first | decide | omega) only [go_sem, *]; rfl))))
    refine loopK_normal ⟨?_, i + 1, ?_, ?_, ?_⟩ ?_
    · simp +decide (disch := first | decide | omega) only [go_sem, *]
    · simp +decide (disch := first | decide | omega) only [go_sem, *]; rfl
    · omega
    · rw [ht]
      simp +decide (disch := first | decide | omega) only [go_sem, *]
      exact hL1
    · simp +decide (disch := first | decide | omega) only [go_sem, *]; omega
  · have hge : l.length ≤ i := by simpa using hb
    rw [List.take_of_length_le hge] at hL
    obtain ⟨fl, hrd⟩ := hL.read 0 rfl (ints_free _)
    repeat' (with_reducible first | refine WP.seq ?_ | refine WP.exit ?_ | refine WP.ret ?_ | refine seqK_normal ?_ | refine seqK_exit ?_ | refine loopK_exit ?_ | refine blockK_here ?_ | (apply WP.regionE; (with_unfolding_all (simp +decide (disch := first | decide | omega) only [go_sem, *]; rfl))))
    refine fnPost_pure 1 (by first | exact .inl rfl | exact .inr rfl) (by simp +decide (disch := first | decide | omega) only [go_sem, *]; rfl) (by simp +decide (disch := first | decide | omega) only [go_sem, *]; rfl) ?_
    simp [wkV, wk1]

theorem take_eq {a b : List Nd} {i : Nat} (ha : i < a.length) (hb : i < b.length) (hpre : a.take i = b.take i) (he : a[i] = b[i]) : a.take (i + 1) = b.take (i + 1) := by
  rw [List.take_succ_eq_append_getElem ha, List.take_succ_eq_append_getElem hb, hpre, he]

set_option maxRecDepth 8000 in
theorem ref_Same (a b : List Nd) : CallsP pg 16 [.sl false (nds a), .sl false (nds b)] (fun r => r = .bool (decide (a = b))) := by
  refine CallsP.of_wpN [] 55 fn16 rfl rfl ?_
  refine WP.abs (fun s => s 0 = .sl false (nds a) ∧ s 1 = .sl false (nds b)) ⟨rfl, rfl⟩ ?_
  rintro s ⟨h0, h1⟩
  refine WP.slLen h0 fun hlen => ?_
  rw [nds_length, maxLen] at hlen
  repeat' (with_reducible first | refine WP.seq ?_ | refine seqK_normal ?_ | (apply WP.regionE; (with_unfolding_all (simp +decide (disch := first | decide | omega) only [go_sem, *]; rfl))))
  refine WP.condB (by simp +decide (disch := first | decide | omega) only [go_sem, *]; rfl) (fun hb => ?_) (fun hb => ?_)
  · repeat' (with_reducible first | refine WP.seq ?_ | refine WP.ret ?_ | refine seqK_normal ?_ | refine seqK_ret ?_ | (apply WP.regionE; (with_unfolding_all (simp +decide (disch := first | decide | omega) only [go_sem, *]; rfl))))
    refine fnPost_pure 0 (by first | exact .inl rfl | exact .inr rfl) (by simp +decide (disch := first | decide | omega) only [go_sem, *]; rfl) (by simp +decide (disch := first | decide | omega) only [go_sem, *]; rfl) ?_
    have : a ≠ b := fun e => by subst e; simp at hb
    simp [this]
  have hab : a.length = b.length := by simp at hb; omega
  repeat' (with_reducible first | refine WP.seq ?_ | refine WP.skip ?_ | refine WP.block ?_ | refine seqK_normal ?_ | (apply WP.regionE; (with_unfolding_all (simp +decide (disch := first | decide | omega) only [go_sem, *]; rfl))))
  refine WP.loop (fun e h => e 0 = .sl false (nds a) ∧ e 1 = .sl false (nds b) ∧ h = [] ∧ ∃ i : Nat, e 5 = .int .i64 i ∧ i ≤ a.length ∧ a.take i = b.take i) (fun e _ => a.length - (e 5).toInt.toNat) ⟨?_, ?_, rfl, 0, ?_, ?_, ?_⟩ ?_
  · simp +decide (disch := first | decide | omega) only [go_sem, *]
  · simp +decide (disch := first | decide | omega) only [go_sem, *]
  · simp +decide (disch := first | decide | omega) only [go_sem, *]; rfl
  · omega
  · rfl
  clear h0 h1 s hb
  rintro s h ⟨h0, h1, rfl, i, h5, hi, hpre⟩
  repeat' (with_reducible first | refine WP.seq ?_ | refine seqK_normal ?_ | (apply WP.regionE; (with_unfolding_all (simp +decide (disch := first | decide | omega) only [go_sem, *]; rfl))))
  refine WP.condB (by simp +decide (disch := first | decide | omega) only [go_sem, *]; rfl) (fun hb => ?_) (fun hb => ?_)
  · have hlt' : i < b.length := by simpa using hb
    have hlt : i < a.length := by omega
    have hga := nds_get hlt
    have hgb := nds_get hlt'
    have hne : a[i] ≠ b[i] → a ≠ b := fun h e => h (by subst e; rfl)
    have hx : a[i] = b[i] ↔ a[i].name = b[i].name ∧ a[i].par = b[i].par ∧ a[i].set = b[i].set := by
      cases a[i]; cases b[i]; simp
    clear hb
    by_cases c1 : a[i].name = b[i].name
    case neg =>
      have : a ≠ b := hne fun e => c1 (hx.1 e).1
      clear hx hne hpre
      repeat' (with_reducible first | refine WP.seq ?_ | refine WP.skip ?_ | refine WP.block ?_ | refine seqK_normal ?_ | (apply WP.regionVX mixed; with_unfolding_all rfl; with_unfolding_all rfl; with_unfolding_all rfl; (with_unfolding_all (simp +decide (disch := first | decide | omega) only [go_sem, *]; rfl))) | (apply opsV.skipG; (focus (simp +decide (disch := first | decide | omega) only [go_sem, *]; done))) | (apply opsV.fin; with_unfolding_all rfl; (with_unfolding_all (simp +decide (disch := first | decide | omega) only [go_sem, *]; rfl))))
      refine WP.condB (by simp +decide (disch := first | decide | omega) only [go_sem, *]; rfl) (fun hb => ?_) (fun hb => ?_)
      · repeat' (with_reducible first | refine WP.seq ?_ | refine WP.ret ?_ | refine seqK_normal ?_ | refine seqK_ret ?_ | refine loopK_ret ?_ | refine blockK_ret ?_ | (apply WP.regionE; (with_unfolding_all (simp +decide (disch := first | decide | omega) only [go_sem, *]; rfl))))
        refine fnPost_pure 0 (by first | exact .inl rfl | exact .inr rfl) (by simp +decide (disch := first | decide | omega) only [go_sem, *]; rfl) (by simp +decide (disch := first | decide | omega) only [go_sem, *]; rfl) ?_
        simp [this]
      · simp at hb
    by_cases c2 : a[i].par = b[i].par
    case neg =>
      have : a ≠ b := hne fun e => c2 (hx.1 e).2.1
      clear hx hne hpre
      repeat' (with_reducible first | refine WP.seq ?_ | refine WP.skip ?_ | refine WP.block ?_ | refine seqK_normal ?_ | (apply WP.regionVX mixed; with_unfolding_all rfl; with_unfolding_all rfl; with_unfolding_all rfl; (with_unfolding_all (simp +decide (disch := first | decide | omega) only [go_sem, *]; rfl))) | (apply opsV.skipG; (focus (simp +decide (disch := first | decide | omega) only [go_sem, *]; done))) | (apply opsV.fin; with_unfolding_all rfl; (with_unfolding_all (simp +decide (disch := first | decide | omega) only [go_sem, *]; rfl))))
      refine WP.condB (by simp +decide (disch := first | decide | omega) only [go_sem, *]; rfl) (fun hb => ?_) (fun hb => ?_)
      · repeat' (with_reducible first | refine WP.seq ?_ | refine WP.ret ?_ | refine seqK_normal ?_ | refine seqK_ret ?_ | refine loopK_ret ?_ | refine blockK_ret ?_ | (apply WP.regionE; (with_unfolding_all (simp +decide (disch := first | decide | omega) only [go_sem, *]; rfl))))
        refine fnPost_pure 0 (by first | exact .inl rfl | exact .inr rfl) (by simp +decide (disch := first | decide | omega) only [go_sem, *]; rfl) (by simp +decide (disch := first | decide | omega) only [go_sem, *]; rfl) ?_
        simp [this]
      · simp at hb
    by_cases c3 : a[i].set = b[i].set
    case neg =>
      have : a ≠ b := hne fun e => c3 (hx.1 e).2.2
      clear hx hne hpre
      repeat' (with_reducible first | refine WP.seq ?_ | refine WP.skip ?_ | refine WP.block ?_ | refine seqK_normal ?_ | (apply WP.regionVX mixed; with_unfolding_all rfl; with_unfolding_all rfl; with_unfolding_all rfl; (with_unfolding_all (simp +decide (disch := first | decide | omega) only [go_sem, *]; rfl))) | (apply opsV.callG; (focus (simp +decide (disch := first | decide | omega) only [go_sem, *]; done)); (with_unfolding_all (simp +decide (disch := first | decide | omega) only [go_sem, *]; rfl)); (focus (simp +decide (disch := first | decide | omega) only [go_sem, *]; done)); (with_unfolding_all (simp +decide (disch := first | decide | omega) only [go_sem, *]; rfl)); exact (ref_Ints ..); (focus (simp +decide (disch := first | decide | omega) only [go_sem, *]; done))) | (apply opsV.fin; with_unfolding_all rfl; (with_unfolding_all (simp +decide (disch := first | decide | omega) only [go_sem, *]; rfl))))
      refine WP.condB (by simp +decide (disch := first | decide | omega) only [go_sem, *]; rfl) (fun hb => ?_) (fun hb => ?_)
      · repeat' (with_reducible first | refine WP.seq ?_ | refine WP.ret ?_ | refine seqK_normal ?_ | refine seqK_ret ?_ | refine loopK_ret ?_ | refine blockK_ret ?_ | (apply WP.regionE; (with_unfolding_all (simp +decide (disch := first | decide | omega) only [go_sem, *]; rfl))))
        refine fnPost_pure 0 (by first | exact .inl rfl | exact .inr rfl) (by simp +decide (disch := first | decide | omega) only [go_sem, *]; rfl) (by simp +decide (disch := first | decide | omega) only [go_sem, *]; rfl) ?_
        simp [this]
      · simp at hb
    have hn := take_eq hlt hlt' hpre (hx.2 ⟨c1, c2, c3⟩)
    clear hx hne
    repeat' (with_reducible first | refine WP.seq ?_ | refine WP.skip ?_ | refine WP.block ?_ | refine seqK_normal ?_ | (apply WP.regionVX mixed; with_unfolding_all rfl; with_unfolding_all rfl; with_unfolding_all rfl; (with_unfolding_all (simp +decide (disch := first | decide | omega) only [go_sem, *]; rfl))) | (apply opsV.callG; (focus (simp +decide (disch := first | decide | omega) only [go_sem, *]; done)); (with_unfolding_all (simp +decide (disch := first | decide | omega) only [go_sem, *]; rfl)); (focus (simp +decide (disch := first | decide | omega) only [go_sem, *]; done)); (with_unfolding_all (simp +decide (disch := first | decide | omega) only [go_sem, *]; rfl)); exact (ref_Ints ..); (focus (simp +decide (disch := first | decide | omega) only [go_sem, *]; done))) | (apply opsV.fin; with_unfolding_all rfl; (with_unfolding_all (simp +decide (disch := first | decide | omega) only [go_sem, *]; rfl))))
    refine WP.condB (by simp +decide (disch := first | decide | omega) only [go_sem, *]; rfl) (fun hb => ?_) (fun hb => ?_)
    · simp at hb
    · repeat' (with_reducible first | refine WP.skip ?_ | refine seqK_normal ?_ | refine blockK_normal ?_ | (apply WP.regionE; (with_unfolding_all (simp +decide (disch := first | decide | omega) only [go_sem, *]; rfl))))
      refine loopK_normal ⟨?_, ?_, rfl, i + 1, ?_, ?_, hn⟩ ?_
      · simp +decide (disch := first | decide | omega) only [go_sem, *]
      · simp +decide (disch := first | decide | omega) only [go_sem, *]
      · simp +decide (disch := first | decide | omega) only [go_sem, *]; rfl
      · omega
      · simp +decide (disch := first | decide | omega) only [go_sem, *]; omega
  · have hge : b.length ≤ i := by simpa using hb
    repeat' (with_reducible first | refine WP.seq ?_ | refine WP.exit ?_ | refine WP.ret ?_ | refine seqK_normal ?_ | refine seqK_exit ?_ | refine loopK_exit ?_ | refine blockK_here ?_ | (apply WP.regionE; (with_unfolding_all (simp +decide (disch := first | decide | omega) only [go_sem, *]; rfl))))
    refine fnPost_pure 0 (by first | exact .inl rfl | exact .inr rfl) (by simp +decide (disch := first | decide | omega) only [go_sem, *]; rfl) (by simp +decide (disch := first | decide | omega) only [go_sem, *]; rfl) ?_
    have : a = b := by
      rw [List.take_of_length_le (by omega), List.take_of_length_le (by omega)] at hpre
      exact hpre
    simp [this]

end Go.Proofs.Ytonhbeapffiibaa

