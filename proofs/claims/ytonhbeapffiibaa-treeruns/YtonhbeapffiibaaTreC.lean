/-
  Chapter 16: package tree: list; the library's Clone and IsSorted; Start, Names.
-/
import Derived.Test.YtonhbeapffiibaaTreB
import Derived.Test.YtonhbeapffiibaaShelf
namespace Go.Proofs.Ytonhbeapffiibaa
open Go.HL

theorem sorts : SortsInt pg.P 36 := fun blk off cap zs w h1 h2 h3 => Try.slices_Sort_int blk off cap zs w h1 h2 h3
theorem sorts0 : SortsNone pg.P 36 := fun p cap w => Try.slices_Sort_int_none p cap w

theorem states_sorted (b : Bu) : (states b).Pairwise (· < ·) := by
  simp only [states, List.pairwise_map]
  exact List.pairwise_lt_range.imp fun h => by omega
theorem elems_sorted (b : Bu) (p : Int → Bool) : (elems b p).Pairwise (· < ·) := (states_sorted b).sublist List.filter_sublist
theorem elems_nodup (b : Bu) (p : Int → Bool) : (elems b p).Nodup := (elems_sorted b p).imp fun h => by omega
theorem mem_elems {b : Bu} {p : Int → Bool} (hp : ∀ x, p x = true → 0 ≤ x ∧ x < b.next.length) {x : Int} : x ∈ elems b p ↔ p x = true := by
  simp only [elems, List.mem_filter, mem_states]
  exact ⟨fun h => h.2, fun h => ⟨hp x h, h⟩⟩

theorem sorted_unique : ∀ {l m : List Int}, l.Pairwise (· < ·) → m.Pairwise (· < ·) → (∀ x, x ∈ l ↔ x ∈ m) → l = m
  | [], [], _, _, _ => rfl
  | [], y :: m, _, _, h => by have := (h y).2 (by simp); simp at this
  | x :: l, [], _, _, h => by have := (h x).1 (by simp); simp at this
  | x :: l, y :: m, h1, h2, h => by
    obtain ⟨a1, a2⟩ := List.pairwise_cons.1 h1
    obtain ⟨b1, b2⟩ := List.pairwise_cons.1 h2
    have e : x = y := by
      have hx := (h x).1 (by simp)
      have hy := (h y).2 (by simp)
      rcases List.mem_cons.1 hx with e | hx
      · exact e
      · rcases List.mem_cons.1 hy with e | hy
        · exact e.symm
        · have := a1 y hy; have := b1 x hx; omega
    subst e
    rw [sorted_unique a2 b2 fun z => ?_]
    constructor
    · intro hz
      have := a1 z hz
      rcases List.mem_cons.1 ((h z).1 (List.mem_cons_of_mem _ hz)) with e | e
      · omega
      · exact e
    · intro hz
      have := b1 z hz
      rcases List.mem_cons.1 ((h z).2 (List.mem_cons_of_mem _ hz)) with e | e
      · omega
      · exact e

theorem sort_elems {b : Bu} {p : Int → Bool} (hp : ∀ x, p x = true → 0 ≤ x ∧ x < b.next.length) {l : List Int} (hd : l.Nodup) (hl : ∀ x, x ∈ l ↔ p x = true) : l.mergeSort (fun x y => decide (x ≤ y)) = elems b p := by
  refine sorted_unique ?_ (elems_sorted b p) fun x => ?_
  · have h1 := List.pairwise_mergeSort (le := fun x y : Int => decide (x ≤ y)) (fun a b c => by simp; omega) (fun a b => by simp; omega) l
    have h2 : (l.mergeSort fun x y => decide (x ≤ y)).Nodup := (List.mergeSort_perm l _).nodup_iff.2 hd
    refine (h1.and h2).imp fun {a b} h => ?_
    have := h.1; simp at this
    have := h.2; omega
  · rw [mem_elems hp, ← hl]
    exact (List.mergeSort_perm l _).mem_iff

theorem app_row (h : Hp) (nid id n : Nat) (f : Bool) (l m : List Int) (hr : h[id]? = some (.row 3 (ints l))) (hn : n = l.length) (hl : l.length + m.length ≤ 1000000) : appendH pg.P h nid 22 (.ow id 0 n) (.sl f (ints m)) = some { x := .ow nid 0 (l.length + m.length), ws := [(id, .gone)], ns := [.row 3 (ints (l ++ m))] } := by
  subst hn
  unfold appendH
  simp only [el22, sz3, by3, ze3, elemsH]
  rw [if_pos ⟨by decide, by trivial, by trivial, ints_ok m⟩]
  simp only [hr]
  rw [if_pos ⟨by trivial, by rw [ints_length], by rw [ints_length, ints_length]; omega⟩, ints_length, ints_length, ints_append]

set_option maxHeartbeats 4000000 in
set_option maxRecDepth 8000 in
theorem tree_list (b : Bu) (p : Int → Bool) (h0 : Hp) (id : Nat) (hs : SetAt h0 id p) (hn : b.next.length ≤ 3000) (hp : ∀ x, p x = true → 0 ≤ x ∧ x < b.next.length) : CallsH pg 40 [.mp id] h0 (fun r h' => Pre h0 h' ∧ OwnAt h' r 3 (ints (elems b p)) ∧ ∃ k, r = .ow k 0 (elems b p).length ∧ h0.length ≤ k) := by
  refine CallsH.of_wpN [] 21 fn40 rfl rfl ?_
  refine WP.abs (fun s => s 0 = .mp id) rfl ?_
  rintro s g0
  have hlen := hs.len (elems_nodup b p) (fun x => (mem_elems hp).symm)
  obtain ⟨kvs0, clock0, hk0, _⟩ := hs.rng
  have hkl : kvs0.length = (elems b p).length := by
    simp only [lenH, un68, hk0] at hlen
    injection hlen with hlen; injection hlen with _ hlen; omega
  have hle : (elems b p).length ≤ 3000 := by
    have := filter_le p (states b)
    have h2 : (states b).length = b.next.length := by simp [states]
    simp only [elems]; omega
  obtain ⟨kvs, clock, hr, hR⟩ := (hs.app [.row 3 []]).rng
  have hid := hs.lt
  repeat' (with_reducible first | refine WP.seq ?_ | refine WP.block ?_ | refine seqK_normal ?_ | (apply WP.regionE; (with_unfolding_all (simp +decide (disch := first | decide | omega) only [go_sem, *]; rfl))))
  refine WP.loop (fun s h => s 9 = .it (h0.length + 1) ∧ ∃ k l seen, s 3 = .ow k 0 l.length ∧ h0.length ≤ k ∧ k ≠ h0.length + 1 ∧ h0.length + 2 ≤ h.length ∧ h[k]? = some (.row 3 (ints l)) ∧ Pre h0 h ∧ RngS h (h0.length + 1) id p seen ∧ l.Nodup ∧ (∀ x, x ∈ l ↔ seen x = true) ∧ ∀ x, x ∈ l → p x = true) (fun _ h => leftN h (h0.length + 1))
    ⟨by first | simp +decide (disch := first | decide | omega) only [go_sem, *]; done | (simp +decide (disch := first | decide | omega) only [go_sem, *]; simp; done), h0.length, [], _, by simp +decide (disch := first | decide | omega) only [go_sem, *], by omega, by omega, by first | (simp; done) | (simp +decide (disch := first | decide | omega) only [go_sem, *]; simp; done), ?_, ?_, by simpa using hR, by simp, by simp, by simp⟩ ?_
  · simp [ints]
  · exact ⟨_, by rw [List.append_assoc]⟩
  clear hlen hkl hk0 hr hR g0 s
  rintro s h ⟨g9, k, l, seen, g3, hk1, hk2, hlen, hrow, hpre, hR, hnd, hmem, hsub⟩
  have hle2 : l.length ≤ (elems b p).length := nodup_le hnd fun x hx => (mem_elems hp).2 (hsub x hx)
  repeat' (with_reducible refine WP.seq ?_)
  refine WP.region ?_
  refine opsT.nextS (it := h0.length + 1) (by simp +decide (disch := first | decide | omega) only [go_sem, *]) hR (by omega) (fun hall => ?_) (fun t h' ht hns hR' hent hlt hlen' hfr => ?_)
  · have hl : ∀ x, x ∈ l ↔ p x = true := fun x => ⟨hsub x, fun hx => (hmem x).2 (hall x hx)⟩
    repeat' (with_reducible first | refine WP.seq ?_ | refine WP.exit ?_ | refine seqK_normal ?_ | refine seqK_exit ?_ | refine loopK_exit ?_ | refine blockK_here ?_ | (apply WP.regionX; with_unfolding_all rfl; (with_unfolding_all (simp +decide (disch := first | decide | omega) only [go_sem, *]; rfl))) | (apply opsT.call; (with_unfolding_all (simp +decide (disch := first | decide | omega) only [go_sem, *]; rfl)); (focus (simp +decide (disch := first | decide | omega) only [go_sem, *]; done)); (with_unfolding_all (simp +decide (disch := first | decide | omega) only [go_sem, *]; rfl))) | (apply opsT.fin; (with_unfolding_all (simp +decide (disch := first | decide | omega) only [go_sem, *]; rfl))) | (apply WP.condF; (focus (simp +decide (disch := first | decide | omega) only [go_sem, *]; done))))
    have hc := (CallsH.sortOwn sorts sorts0 sz3 (OwnAt.of_row hrow) (by omega))
    rw [ints_length] at hc
    refine hc.mono ?_
    rintro r h2 ⟨rfl, ho, hlen2, hfr2⟩
    clear hc
    repeat' (with_reducible first | refine WP.seq ?_ | refine WP.ret ?_ | refine seqK_normal ?_ | (apply WP.regionE; (with_unfolding_all (simp +decide (disch := first | decide | omega) only [go_sem, *]; rfl))) | (apply opsT.fin; (with_unfolding_all (simp +decide (disch := first | decide | omega) only [go_sem, *]; rfl))) | (apply fnPost_ret; (simp +decide (disch := first | decide | omega) only [go_sem, *]; rfl)))
    have hll : l.length = (elems b p).length := by
      have h2 := nodup_le (elems_nodup b p) (m := l) fun x hx => (hl x).2 ((mem_elems hp).1 hx)
      omega
    rw [sort_elems hp hnd hl] at ho
    refine ⟨?_, ho, k, by rw [hll], hk1⟩
    obtain ⟨t, rfl⟩ := hpre
    refine ⟨h2.drop h0.length, ?_⟩
    apply List.ext_getElem?
    intro j
    by_cases hj : j < h0.length
    · rw [List.getElem?_append_left hj, hfr2 j (by simp [idsOf]; omega), List.getElem?_append_left hj]
    · rw [List.getElem?_append_right (by omega), List.getElem?_drop]
      congr 1
      omega
  · have hlt2 : k < h.length := (List.getElem?_eq_some_iff.1 hrow).1
    have hrow' : h'[k]? = some (.row 3 (ints l)) := (hfr k hk2).trans hrow
    have ha : appendH pg.P h' h'.length 22 (.ow k 0 l.length) (.sl true [[.int .i64 t]]) = _ := app_row h' h'.length k l.length true l [t] hrow' rfl (by simp; omega)
    have hpre' : Pre h0 h' := by
      obtain ⟨u, rfl⟩ := hpre
      refine ⟨h'.drop h0.length, ?_⟩
      apply List.ext_getElem?
      intro j
      by_cases hj : j < h0.length
      · rw [List.getElem?_append_left hj, hfr j (by omega), List.getElem?_append_left hj]
      · rw [List.getElem?_append_right (by omega), List.getElem?_drop]
        congr 1
        omega
    clear hfr
    have hlen3 := hlen'.symm
    clear hlen'
    repeat' (with_reducible first | refine WP.seq ?_ | refine WP.skip ?_ | refine WP.block ?_ | refine seqK_normal ?_ | refine blockK_normal ?_ | (apply WP.regionE; (with_unfolding_all (simp +decide (disch := first | decide | omega) only [go_sem, *]; rfl))) | (apply opsT.fin; (with_unfolding_all (simp +decide (disch := first | decide | omega) only [go_sem, *]; rfl))) | (apply WP.condT; (focus (simp +decide (disch := first | decide | omega) only [go_sem, *]; done))))
    have hit : k ≠ h0.length + 1 ∧ h0.length + 1 < h'.length := ⟨hk2, by omega⟩
    have hmid : id < h'.length := by omega
    have hkp := hR'.keep (h' := (h' ++ [HO.row 3 (ints (l ++ [t]))]).set k HO.gone) (by rw [List.getElem?_set_ne hk2, List.getElem?_append_left (by omega)]) (by rw [List.getElem?_set_ne (by omega), List.getElem?_append_left (by omega)])
    have hnt : ¬ t ∈ l := fun h => by have := (hmem t).1 h; rw [hns] at this; cases this
    refine loopK_normal ⟨by simp +decide (disch := first | decide | omega) only [go_sem, *], h'.length, l ++ [t], fun u => seen u || decide (u = t), by simp +decide (disch := first | decide | omega) only [go_sem, *]; simp, by omega, by omega, by simp; omega, ?_, (hpre'.app _).set (by omega) _, hkp.1, ?_, ?_, ?_⟩ ?_
    · rw [List.getElem?_set_ne (by omega)]; simp
    · rw [List.nodup_append]
      exact ⟨hnd, by simp, fun a hal b hb e => by simp at hb; subst hb; subst e; exact hnt hal⟩
    · intro x
      simp [hmem x]
    · intro x hx
      simp at hx
      rcases hx with hx | rfl
      · exact hsub x hx
      · exact ht
    · have := hkp.2
      show leftN ((h' ++ [HO.row 3 (ints (l ++ [t]))]).set k HO.gone) (h0.length + 1) < _
      omega

def risesL (l : List Int) : Bool := upto l.length fun i => decide (0 < i → nth l (i - 1) ≤ nth l i)

set_option maxRecDepth 8000 in
theorem go_less (x y : Int) : CallsP pg 71 [.int .i64 x, .int .i64 y] (fun v => v = .bool (decide (x < y))) := by
  have h95 : ∀ x : Int, CallsP pg 95 [.int .i64 x] (fun v => v = .bool false) := fun x => by
    refine CallsP.of_wpN [] 6 fn95 rfl rfl ?_
    refine WP.abs (fun s => s 0 = .int .i64 x) rfl ?_
    rintro s h0
    repeat' (with_reducible first | refine WP.seq ?_ | refine WP.ret ?_ | refine seqK_normal ?_ | (apply WP.regionE; (with_unfolding_all (simp +decide (disch := first | decide | omega) only [go_sem, *]; rfl))) | (apply fnPost_pure 0; (first | exact .inl rfl | exact .inr rfl); (simp +decide (disch := first | decide | omega) only [go_sem, *]; rfl); (simp +decide (disch := first | decide | omega) only [go_sem, *]; rfl)))
    rfl
  refine CallsP.of_wpN [] 17 fn71 rfl rfl ?_
  refine WP.abs (fun s => s 0 = .int .i64 x ∧ s 1 = .int .i64 y) ⟨rfl, rfl⟩ ?_
  rintro s ⟨h0, h1⟩
  repeat' (with_reducible first | refine WP.seq ?_ | refine WP.ret ?_ | refine seqK_normal ?_ | (apply WP.regionE; (with_unfolding_all (simp +decide (disch := first | decide | omega) only [go_sem, *]; rfl))) | (apply WP.regionX; with_unfolding_all rfl; (with_unfolding_all (simp +decide (disch := first | decide | omega) only [go_sem, *]; rfl))) | (apply opsT.skipG; (focus (simp +decide (disch := first | decide | omega) only [go_sem, *]; done))) | (apply opsT.call; (with_unfolding_all (simp +decide (disch := first | decide | omega) only [go_sem, *]; rfl)); (focus (simp +decide (disch := first | decide | omega) only [go_sem, *]; done)); (with_unfolding_all (simp +decide (disch := first | decide | omega) only [go_sem, *]; rfl))) | (apply opsT.moreX; with_unfolding_all rfl; (with_unfolding_all (simp +decide (disch := first | decide | omega) only [go_sem, *]; rfl))) | (apply opsT.fin; (with_unfolding_all (simp +decide (disch := first | decide | omega) only [go_sem, *]; rfl))) | (apply CallsP.eq (h95 _); (focus (simp +decide (disch := first | decide | omega) only [go_sem, *]; done))) | (apply fnPost_pure 0; (first | exact .inl rfl | exact .inr rfl); (simp +decide (disch := first | decide | omega) only [go_sem, *]; rfl); (simp +decide (disch := first | decide | omega) only [go_sem, *]; rfl)))
  rfl

set_option maxHeartbeats 4000000 in
set_option maxRecDepth 8000 in
theorem go_IsSorted (l : List Int) : CallsP pg 50 [.sl false (ints l)] (fun v => v = .bool (risesL l)) := by
  refine CallsP.of_wpN [] 21 fn50 rfl rfl ?_
  refine WP.abs (fun s => s 0 = .sl false (ints l)) rfl ?_
  rintro s h0
  refine WP.slLen h0 fun hlen => ?_
  rw [ints_length, maxLen] at hlen
  repeat' (with_reducible first | refine WP.seq ?_ | refine WP.block ?_ | refine seqK_normal ?_ | (apply WP.regionE; (with_unfolding_all (simp +decide (disch := first | decide | omega) only [go_sem, *]; rfl))))
  refine WP.loop (fun s h => s 0 = .sl false (ints l) ∧ h = [] ∧ ∃ n : Int, s 3 = .int .i64 n ∧ -1 ≤ n ∧ n < l.length ∧ ∀ i : Nat, i < l.length → n < i → (0 < i → nth l (i - 1) ≤ nth l i)) (fun s _ => ((s 3).toInt + 1).toNat) ⟨by simp +decide (disch := first | decide | omega) only [go_sem, *], rfl, (l.length : Int) - 1, by simp +decide (disch := first | decide | omega) only [go_sem, *], by omega, by omega, fun i hi hn => by omega⟩ ?_
  clear h0 s
  rintro s h ⟨h0, rfl, n, h3, hn1, hn2, hpre⟩
  have hsub : (n - 1).toNat = n.toNat - 1 := by omega
  repeat' (with_reducible first | refine WP.seq ?_ | refine WP.skip ?_ | refine WP.block ?_ | refine WP.exit ?_ | refine WP.ret ?_ | refine seqK_normal ?_ | refine seqK_exit ?_ | refine seqK_ret ?_ | refine loopK_exit ?_ | refine loopK_ret ?_ | refine blockK_normal ?_ | refine blockK_here ?_ | refine blockK_ret ?_ | (apply WP.regionE; (with_unfolding_all (simp +decide (disch := first | decide | omega) only [go_sem, *]; rfl))) | (apply WP.regionVX mixed; with_unfolding_all rfl; with_unfolding_all rfl; with_unfolding_all rfl; (with_unfolding_all (simp +decide (disch := first | decide | omega) only [go_sem, *]; rfl))) | (apply opsV.call; (with_unfolding_all (simp +decide (disch := first | decide | omega) only [go_sem, *]; rfl)); (focus (simp +decide (disch := first | decide | omega) only [go_sem, *]; done)); (with_unfolding_all (simp +decide (disch := first | decide | omega) only [go_sem, *]; rfl)); exact (go_less ..); (focus (simp +decide (disch := first | decide | omega) only [go_sem, *]; done))) | (apply opsV.fin; with_unfolding_all rfl; (with_unfolding_all (simp +decide (disch := first | decide | omega) only [go_sem, *]; rfl))) | (apply WP.condB; (simp +decide (disch := first | decide | omega) only [go_sem, *]; rfl); all_goals (intro hb; (first | rw [dlt_t] at hb | rw [dlt_f] at hb | rw [dle_t] at hb | rw [dle_f] at hb | rw [Bool.not_eq_true'] at hb | rw [Bool.not_eq_false'] at hb | skip))) | (apply fnPost_pure 0; (first | exact .inl rfl | exact .inr rfl); (simp +decide (disch := first | decide | omega) only [go_sem, *]; rfl); (simp +decide (disch := first | decide | omega) only [go_sem, *]; rfl)))
  · refine congrArg HV.bool (upto_no n.toNat (by omega) ?_).symm
    simp
    omega
  · refine loopK_normal ⟨by simp +decide (disch := first | decide | omega) only [go_sem, *], rfl, n - 1, by simp +decide (disch := first | decide | omega) only [go_sem, *], by omega, by omega, fun i hi hni hi0 => ?_⟩ (by simp +decide (disch := first | decide | omega) only [go_sem, *]; omega)
    by_cases e : (i : Int) = n
    · have : n.toNat = i := by omega
      rw [this] at hb
      omega
    · exact hpre i hi (by omega) hi0
  · refine congrArg HV.bool (upto_iff.2 fun i hi => ?_).symm
    simp only [decide_eq_true_eq]
    exact fun h0 => hpre i hi (by omega) h0

theorem elems_ok (l : List Int) : elemsH [] (.sl false (ints l)) = some (ints l) := rfl

set_option maxRecDepth 8000 in
/-- What the library's Clone hands back: the same numbers. -/
theorem go_Clone (l : List Int) (hne : l ≠ []) (hl : l.length ≤ 1000000) : CallsP pg 48 [.sl false (ints l)] (fun v => v = .sl false (ints l)) := by
  refine CallsP.of_wpW [] 8 fn48 rfl rfl ?_
  refine WP.abs (fun s => s 0 = .sl false (ints l)) rfl ?_
  rintro s h0
  have hc : cmpH pg.P [] .eql 22 (.sl false (ints l)) (.const (.slice none 0 0)) (.sl true []) = some (.bool false) := by
    cases l with
    | nil => exact absurd rfl hne
    | cons a l => simp only [cmpH, un22, ints, List.map_cons, eqB]
  have ha : appendH pg.P [] 0 22 (.sl true []) (.sl false (ints l)) = some { x := .ow 0 0 l.length, ns := [.row 3 (ints l)] } := by
    unfold appendH
    simp only [el22, sz3, by3, ze3, elemsH]
    rw [if_pos ⟨by decide, by trivial, by trivial, ints_ok l⟩]
    rw [if_pos (by rw [ints_length]; omega), ints_length]
  have hrd : rdV [.row 3 (ints l)] 1 (.ow 0 0 l.length) = some (.sl false (ints l)) := rdV_row rfl (ints_length l) (ints_free _)
  repeat' (with_reducible first | refine WP.seq ?_ | refine WP.skip ?_ | refine WP.ret ?_ | refine seqK_normal ?_ | (apply WP.regionE; (with_unfolding_all (simp +decide (disch := first | decide | omega) only [go_sem, *]; rfl))) | (apply WP.condF; (focus (simp +decide (disch := first | decide | omega) only [go_sem, *]; done))) | (apply fnPost_pure 1; (first | exact .inl rfl | exact .inr rfl); (simp +decide (disch := first | decide | omega) only [go_sem, *]; rfl); (simp +decide (disch := first | decide | omega) only [go_sem, *]; rfl)))
  simp [wkV, wk1]

def startT (b : Bu) : List Nd := if validB b = true ∧ b.start ≠ [] then [⟨1, -1, b.start⟩] else []

theorem start_len {b : Bu} (hv : validB b = true) : b.start.length ≤ b.next.length := by
  obtain ⟨_, v2, _⟩ := validB_iff.1 hv
  have hp : ∀ i j, i < j → j < b.start.length → nth b.start i < nth b.start j := by
    intro i j hij
    induction j with
    | zero => omega
    | succ j ih =>
      intro hj
      have h1 := (okS_iff.1 (v2 (j + 1) hj)).2 (by omega)
      simp only [Nat.add_sub_cancel] at h1
      by_cases e : i = j
      · subst e; exact h1
      · have := ih (by omega) (by omega); omega
  have h := nodup_le (l := b.start) (m := states b) ?_ ?_
  · simpa [states] using h
  · rw [List.Nodup, List.pairwise_iff_getElem]
    intro i j hi hj hij e
    have := hp i j hij hj
    rw [nth_eq hi, nth_eq hj, e] at this
    omega
  · intro x hx
    obtain ⟨i, hi, rfl⟩ := List.getElem_of_mem hx
    have := (okS_iff.1 (v2 i hi)).1
    rw [nth_eq hi] at this
    exact mem_states.2 this

set_option maxRecDepth 8000 in
theorem tree_Start (b : Bu) : CallsP pg 17 [.agg (buC b)] (fun v => v = .sl false (nds (startT b))) := by
  refine CallsP.of_wpW [] 17 fn17 rfl rfl ?_
  refine WP.abs (fun s => s 0 = .agg (buC b)) rfl ?_
  rintro s h0
  by_cases hne : b.start = []
  · have hs : startT b = [] := by simp [startT, hne]
    have hl : b.start.length = 0 := by rw [hne]; rfl
    repeat' (with_reducible first | refine WP.seq ?_ | refine WP.ret ?_ | refine seqK_normal ?_ | refine seqK_ret ?_ | (apply WP.regionE; (with_unfolding_all (simp +decide (disch := first | decide | omega) only [go_sem, *]; rfl))) | (apply WP.regionX; with_unfolding_all rfl; (with_unfolding_all (simp +decide (disch := first | decide | omega) only [go_sem, *]; rfl))) | (apply opsT.call; (with_unfolding_all (simp +decide (disch := first | decide | omega) only [go_sem, *]; rfl)); (focus (simp +decide (disch := first | decide | omega) only [go_sem, *]; done)); (with_unfolding_all (simp +decide (disch := first | decide | omega) only [go_sem, *]; rfl))) | (apply opsT.fin; (with_unfolding_all (simp +decide (disch := first | decide | omega) only [go_sem, *]; rfl))) | (apply CallsP.eq (go_BValid ..); (focus (simp +decide (disch := first | decide | omega) only [go_sem, *]; done))) | (apply WP.condT; (focus (simp +decide (disch := first | decide | omega) only [go_sem, *]; done))) | (apply fnPost_pure 1; (first | exact .inl rfl | exact .inr rfl); (simp +decide (disch := first | decide | omega) only [go_sem, *]; rfl); (simp +decide (disch := first | decide | omega) only [go_sem, *]; rfl)) | (apply opsT.guardB 0; with_unfolding_all rfl; (with_unfolding_all (simp +decide (disch := first | decide | omega) only [go_sem, *]; rfl)); (simp +decide (disch := first | decide | omega) only [go_sem, *]; rfl); all_goals (intro hb; (fail_if_success (exact absurd hb (by decide))); (first | rw [dlt_t] at hb | rw [dlt_f] at hb | rw [dle_t] at hb | rw [dle_f] at hb | rw [Bool.not_eq_true'] at hb | rw [Bool.not_eq_false'] at hb | skip))))
    all_goals first
      | (rw [hs]; simp [wkV, wk1, nds]; done)
      | (simp [hl] at hb)
  · have hl : b.start.length ≠ 0 := fun h => hne (List.eq_nil_of_length_eq_zero h)
    cases hv : validB b with
    | false =>
      have hs : startT b = [] := by simp [startT, hv]
      repeat' (with_reducible first | refine WP.seq ?_ | refine WP.ret ?_ | refine seqK_normal ?_ | refine seqK_ret ?_ | (apply WP.regionE; (with_unfolding_all (simp +decide (disch := first | decide | omega) only [go_sem, *]; rfl))) | (apply WP.regionX; with_unfolding_all rfl; (with_unfolding_all (simp +decide (disch := first | decide | omega) only [go_sem, *]; rfl))) | (apply opsT.call; (with_unfolding_all (simp +decide (disch := first | decide | omega) only [go_sem, *]; rfl)); (focus (simp +decide (disch := first | decide | omega) only [go_sem, *]; done)); (with_unfolding_all (simp +decide (disch := first | decide | omega) only [go_sem, *]; rfl))) | (apply opsT.fin; (with_unfolding_all (simp +decide (disch := first | decide | omega) only [go_sem, *]; rfl))) | (apply CallsP.eq (go_BValid ..); (focus (simp +decide (disch := first | decide | omega) only [go_sem, *]; done))) | (apply WP.condT; (focus (simp +decide (disch := first | decide | omega) only [go_sem, *]; done))) | (apply fnPost_pure 1; (first | exact .inl rfl | exact .inr rfl); (simp +decide (disch := first | decide | omega) only [go_sem, *]; rfl); (simp +decide (disch := first | decide | omega) only [go_sem, *]; rfl)))
      rw [hs]; simp [wkV, wk1, nds]
    | true =>
      have hs : startT b = [⟨1, -1, b.start⟩] := by simp [startT, hv, hne]
      have h3 := start_len hv
      have h4 := (validB_iff.1 hv).1
      have hc := go_Clone b.start hne (by omega)
      repeat' (with_reducible first | refine WP.seq ?_ | refine WP.skip ?_ | refine WP.ret ?_ | refine seqK_normal ?_ | refine seqK_ret ?_ | (apply WP.regionE; (with_unfolding_all (simp +decide (disch := first | decide | omega) only [go_sem, *]; rfl))) | (apply WP.regionX; with_unfolding_all rfl; (with_unfolding_all (simp +decide (disch := first | decide | omega) only [go_sem, *]; rfl))) | (apply opsT.call; (with_unfolding_all (simp +decide (disch := first | decide | omega) only [go_sem, *]; rfl)); (focus (simp +decide (disch := first | decide | omega) only [go_sem, *]; done)); (with_unfolding_all (simp +decide (disch := first | decide | omega) only [go_sem, *]; rfl))) | (apply opsT.fin; (with_unfolding_all (simp +decide (disch := first | decide | omega) only [go_sem, *]; rfl))) | (apply CallsP.eq (go_BValid ..); (focus (simp +decide (disch := first | decide | omega) only [go_sem, *]; done))) | (apply CallsP.eq (hc); (focus (simp +decide (disch := first | decide | omega) only [go_sem, *]; done))) | (apply WP.condB; (simp +decide (disch := first | decide | omega) only [go_sem, *]; rfl); all_goals (intro hb; (first | rw [dlt_t] at hb | rw [dlt_f] at hb | rw [dle_t] at hb | rw [dle_f] at hb | rw [Bool.not_eq_true'] at hb | rw [Bool.not_eq_false'] at hb | skip))) | (apply fnPost_pure 1; (first | exact .inl rfl | exact .inr rfl); (simp +decide (disch := first | decide | omega) only [go_sem, *]; rfl); (simp +decide (disch := first | decide | omega) only [go_sem, *]; rfl)))
      · simp only [decide_eq_true_eq] at hb; omega
      · rw [hs]; simp [wkV, wk1, nds, ndC]

set_option maxRecDepth 8000 in
theorem ref_Start (b : Bu) : CallsP pg 18 [.agg (buC b)] (fun v => v = .sl false (nds (startT b))) := by
  refine CallsP.of_wpW [] 16 fn18 rfl rfl ?_
  refine WP.abs (fun s => s 0 = .agg (buC b)) rfl ?_
  rintro s h0
  by_cases hne : b.start = []
  · have hs : startT b = [] := by simp [startT, hne]
    have hl : b.start.length = 0 := by rw [hne]; rfl
    repeat' (with_reducible first | refine WP.seq ?_ | refine WP.ret ?_ | refine seqK_normal ?_ | refine seqK_ret ?_ | (apply WP.regionE; (with_unfolding_all (simp +decide (disch := first | decide | omega) only [go_sem, *]; rfl))) | (apply WP.regionX; with_unfolding_all rfl; (with_unfolding_all (simp +decide (disch := first | decide | omega) only [go_sem, *]; rfl))) | (apply opsT.call; (with_unfolding_all (simp +decide (disch := first | decide | omega) only [go_sem, *]; rfl)); (focus (simp +decide (disch := first | decide | omega) only [go_sem, *]; done)); (with_unfolding_all (simp +decide (disch := first | decide | omega) only [go_sem, *]; rfl))) | (apply opsT.fin; (with_unfolding_all (simp +decide (disch := first | decide | omega) only [go_sem, *]; rfl))) | (apply CallsP.eq (ref_BValid ..); (focus (simp +decide (disch := first | decide | omega) only [go_sem, *]; done))) | (apply WP.condT; (focus (simp +decide (disch := first | decide | omega) only [go_sem, *]; done))) | (apply fnPost_pure 1; (first | exact .inl rfl | exact .inr rfl); (simp +decide (disch := first | decide | omega) only [go_sem, *]; rfl); (simp +decide (disch := first | decide | omega) only [go_sem, *]; rfl)) | (apply opsT.guardB 0; with_unfolding_all rfl; (with_unfolding_all (simp +decide (disch := first | decide | omega) only [go_sem, *]; rfl)); (simp +decide (disch := first | decide | omega) only [go_sem, *]; rfl); all_goals (intro hb; (fail_if_success (exact absurd hb (by decide))); (first | rw [dlt_t] at hb | rw [dlt_f] at hb | rw [dle_t] at hb | rw [dle_f] at hb | rw [Bool.not_eq_true'] at hb | rw [Bool.not_eq_false'] at hb | skip))))
    all_goals first
      | (rw [hs]; simp [wkV, wk1, nds]; done)
      | (simp [hl] at hb)
  · have hl : b.start.length ≠ 0 := fun h => hne (List.eq_nil_of_length_eq_zero h)
    cases hv : validB b with
    | false =>
      have hs : startT b = [] := by simp [startT, hv]
      repeat' (with_reducible first | refine WP.seq ?_ | refine WP.ret ?_ | refine seqK_normal ?_ | refine seqK_ret ?_ | (apply WP.regionE; (with_unfolding_all (simp +decide (disch := first | decide | omega) only [go_sem, *]; rfl))) | (apply WP.regionX; with_unfolding_all rfl; (with_unfolding_all (simp +decide (disch := first | decide | omega) only [go_sem, *]; rfl))) | (apply opsT.call; (with_unfolding_all (simp +decide (disch := first | decide | omega) only [go_sem, *]; rfl)); (focus (simp +decide (disch := first | decide | omega) only [go_sem, *]; done)); (with_unfolding_all (simp +decide (disch := first | decide | omega) only [go_sem, *]; rfl))) | (apply opsT.fin; (with_unfolding_all (simp +decide (disch := first | decide | omega) only [go_sem, *]; rfl))) | (apply CallsP.eq (ref_BValid ..); (focus (simp +decide (disch := first | decide | omega) only [go_sem, *]; done))) | (apply WP.condT; (focus (simp +decide (disch := first | decide | omega) only [go_sem, *]; done))) | (apply fnPost_pure 1; (first | exact .inl rfl | exact .inr rfl); (simp +decide (disch := first | decide | omega) only [go_sem, *]; rfl); (simp +decide (disch := first | decide | omega) only [go_sem, *]; rfl)))
      rw [hs]; simp [wkV, wk1, nds]
    | true =>
      have hs : startT b = [⟨1, -1, b.start⟩] := by simp [startT, hv, hne]
      repeat' (with_reducible first | refine WP.seq ?_ | refine WP.skip ?_ | refine WP.ret ?_ | refine seqK_normal ?_ | refine seqK_ret ?_ | (apply WP.regionE; (with_unfolding_all (simp +decide (disch := first | decide | omega) only [go_sem, *]; rfl))) | (apply WP.regionX; with_unfolding_all rfl; (with_unfolding_all (simp +decide (disch := first | decide | omega) only [go_sem, *]; rfl))) | (apply opsT.call; (with_unfolding_all (simp +decide (disch := first | decide | omega) only [go_sem, *]; rfl)); (focus (simp +decide (disch := first | decide | omega) only [go_sem, *]; done)); (with_unfolding_all (simp +decide (disch := first | decide | omega) only [go_sem, *]; rfl))) | (apply opsT.fin; (with_unfolding_all (simp +decide (disch := first | decide | omega) only [go_sem, *]; rfl))) | (apply CallsP.eq (ref_BValid ..); (focus (simp +decide (disch := first | decide | omega) only [go_sem, *]; done))) | (apply WP.condB; (simp +decide (disch := first | decide | omega) only [go_sem, *]; rfl); all_goals (intro hb; (first | rw [dlt_t] at hb | rw [dlt_f] at hb | rw [dle_t] at hb | rw [dle_f] at hb | rw [Bool.not_eq_true'] at hb | rw [Bool.not_eq_false'] at hb | skip))) | (apply fnPost_pure 1; (first | exact .inl rfl | exact .inr rfl); (simp +decide (disch := first | decide | omega) only [go_sem, *]; rfl); (simp +decide (disch := first | decide | omega) only [go_sem, *]; rfl)))
      · simp only [decide_eq_true_eq] at hb; omega
      · rw [hs]; simp [wkV, wk1, nds, ndC]

def namesN (b : Bu) : Int := if validB b then 2 * b.next.length else 0

set_option maxRecDepth 8000 in
theorem tree_Names (b : Bu) : CallsP pg 14 [.agg (buC b)] (fun v => v = .int .i64 (namesN b)) := by
  refine CallsP.of_wpN [] 10 fn14 rfl rfl ?_
  refine WP.abs (fun s => s 0 = .agg (buC b)) rfl ?_
  rintro s h0
  cases hv : validB b with
  | false =>
    repeat' (with_reducible first | refine WP.seq ?_ | refine WP.ret ?_ | refine seqK_normal ?_ | refine seqK_ret ?_ | (apply WP.regionE; (with_unfolding_all (simp +decide (disch := first | decide | omega) only [go_sem, *]; rfl))) | (apply WP.regionX; with_unfolding_all rfl; (with_unfolding_all (simp +decide (disch := first | decide | omega) only [go_sem, *]; rfl))) | (apply opsT.call; (with_unfolding_all (simp +decide (disch := first | decide | omega) only [go_sem, *]; rfl)); (focus (simp +decide (disch := first | decide | omega) only [go_sem, *]; done)); (with_unfolding_all (simp +decide (disch := first | decide | omega) only [go_sem, *]; rfl))) | (apply opsT.fin; (with_unfolding_all (simp +decide (disch := first | decide | omega) only [go_sem, *]; rfl))) | (apply CallsP.eq (go_BValid ..); (focus (simp +decide (disch := first | decide | omega) only [go_sem, *]; done))) | (apply WP.condT; (focus (simp +decide (disch := first | decide | omega) only [go_sem, *]; done))) | (apply fnPost_pure 0; (first | exact .inl rfl | exact .inr rfl); (simp +decide (disch := first | decide | omega) only [go_sem, *]; rfl); (simp +decide (disch := first | decide | omega) only [go_sem, *]; rfl)))
    simp [namesN, hv]
  | true =>
    have h4 := (validB_iff.1 hv).1
    repeat' (with_reducible first | refine WP.seq ?_ | refine WP.skip ?_ | refine WP.ret ?_ | refine seqK_normal ?_ | (apply WP.regionE; (with_unfolding_all (simp +decide (disch := first | decide | omega) only [go_sem, *]; rfl))) | (apply WP.regionX; with_unfolding_all rfl; (with_unfolding_all (simp +decide (disch := first | decide | omega) only [go_sem, *]; rfl))) | (apply opsT.call; (with_unfolding_all (simp +decide (disch := first | decide | omega) only [go_sem, *]; rfl)); (focus (simp +decide (disch := first | decide | omega) only [go_sem, *]; done)); (with_unfolding_all (simp +decide (disch := first | decide | omega) only [go_sem, *]; rfl))) | (apply opsT.fin; (with_unfolding_all (simp +decide (disch := first | decide | omega) only [go_sem, *]; rfl))) | (apply CallsP.eq (go_BValid ..); (focus (simp +decide (disch := first | decide | omega) only [go_sem, *]; done))) | (apply WP.condF; (focus (simp +decide (disch := first | decide | omega) only [go_sem, *]; done))) | (apply fnPost_pure 0; (first | exact .inl rfl | exact .inr rfl); (simp +decide (disch := first | decide | omega) only [go_sem, *]; rfl); (simp +decide (disch := first | decide | omega) only [go_sem, *]; rfl)))
    simp [namesN, hv]

set_option maxRecDepth 8000 in
theorem ref_Names (b : Bu) : CallsP pg 15 [.agg (buC b)] (fun v => v = .int .i64 (namesN b)) := by
  refine CallsP.of_wpN [] 10 fn15 rfl rfl ?_
  refine WP.abs (fun s => s 0 = .agg (buC b)) rfl ?_
  rintro s h0
  cases hv : validB b with
  | false =>
    repeat' (with_reducible first | refine WP.seq ?_ | refine WP.ret ?_ | refine seqK_normal ?_ | refine seqK_ret ?_ | (apply WP.regionE; (with_unfolding_all (simp +decide (disch := first | decide | omega) only [go_sem, *]; rfl))) | (apply WP.regionX; with_unfolding_all rfl; (with_unfolding_all (simp +decide (disch := first | decide | omega) only [go_sem, *]; rfl))) | (apply opsT.call; (with_unfolding_all (simp +decide (disch := first | decide | omega) only [go_sem, *]; rfl)); (focus (simp +decide (disch := first | decide | omega) only [go_sem, *]; done)); (with_unfolding_all (simp +decide (disch := first | decide | omega) only [go_sem, *]; rfl))) | (apply opsT.fin; (with_unfolding_all (simp +decide (disch := first | decide | omega) only [go_sem, *]; rfl))) | (apply CallsP.eq (ref_BValid ..); (focus (simp +decide (disch := first | decide | omega) only [go_sem, *]; done))) | (apply WP.condT; (focus (simp +decide (disch := first | decide | omega) only [go_sem, *]; done))) | (apply fnPost_pure 0; (first | exact .inl rfl | exact .inr rfl); (simp +decide (disch := first | decide | omega) only [go_sem, *]; rfl); (simp +decide (disch := first | decide | omega) only [go_sem, *]; rfl)))
    simp [namesN, hv]
  | true =>
    have h4 := (validB_iff.1 hv).1
    repeat' (with_reducible first | refine WP.seq ?_ | refine WP.skip ?_ | refine WP.ret ?_ | refine seqK_normal ?_ | (apply WP.regionE; (with_unfolding_all (simp +decide (disch := first | decide | omega) only [go_sem, *]; rfl))) | (apply WP.regionX; with_unfolding_all rfl; (with_unfolding_all (simp +decide (disch := first | decide | omega) only [go_sem, *]; rfl))) | (apply opsT.call; (with_unfolding_all (simp +decide (disch := first | decide | omega) only [go_sem, *]; rfl)); (focus (simp +decide (disch := first | decide | omega) only [go_sem, *]; done)); (with_unfolding_all (simp +decide (disch := first | decide | omega) only [go_sem, *]; rfl))) | (apply opsT.fin; (with_unfolding_all (simp +decide (disch := first | decide | omega) only [go_sem, *]; rfl))) | (apply CallsP.eq (ref_BValid ..); (focus (simp +decide (disch := first | decide | omega) only [go_sem, *]; done))) | (apply WP.condF; (focus (simp +decide (disch := first | decide | omega) only [go_sem, *]; done))) | (apply fnPost_pure 0; (first | exact .inl rfl | exact .inr rfl); (simp +decide (disch := first | decide | omega) only [go_sem, *]; rfl); (simp +decide (disch := first | decide | omega) only [go_sem, *]; rfl)))
    simp [namesN, hv]

end Go.Proofs.Ytonhbeapffiibaa

