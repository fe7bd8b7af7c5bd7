/-
  Chapter 16: package tree: left, present, name, Index.
-/
import Derived.Test.YtonhbeapffiibaaTreF
import Derived.Test.YtonhbeapffiibaaHlM4
namespace Go.Proofs.Ytonhbeapffiibaa
open Go.HL

theorem tree_present (h : Hp) (L : List Pl) (A : List An) (hN : NodesAt h L A) (j : Nat) (hj : j < L.length) : CallsH pg 38 [.ep (nth L j).id 0 0] h (fun r h' => r = .bool (!(nth A j).gone) ∧ h' = h) := by
  refine CallsH.of_wpN [] 8 fn38 rfl rfl ?_
  refine WP.abs (fun s => s 0 = .ep (nth L j).id 0 0) rfl ?_
  rintro s g0
  have hn := (hN.node j hj).1
  unfold nodeRow at hn
  repeat' (with_reducible first | refine WP.seq ?_ | refine WP.ret ?_ | refine seqK_normal ?_ | (apply WP.regionE; (with_unfolding_all (simp +decide (disch := first | decide | omega) only [go_sem, *]; rfl))) | (apply fnPost_ret; (simp +decide (disch := first | decide | omega) only [go_sem, *]; rfl)))
  exact ⟨rfl, rfl⟩

/-- The numbers of the nodes that are kept. -/
def keptI (A : List An) (n : Nat) : List Nat := (List.range n).filter fun i => !(nth A i).gone

theorem keptI_succ (A : List An) (i : Nat) : keptI A (i + 1) = keptI A i ++ (if (nth A i).gone then [] else [i]) := by
  rw [keptI, List.range_succ, List.filter_append]
  congr 1
  cases h : (nth A i).gone <;> simp [h]
theorem keptI_len (A : List An) (i : Nat) : (keptI A i).length ≤ i := by
  have := List.length_filter_le (fun i => !(nth A i).gone) (List.range i)
  simpa [keptI] using this
theorem mem_keptI {A : List An} {n i : Nat} : i ∈ keptI A n ↔ i < n ∧ (nth A i).gone = false := by
  simp [keptI]
theorem keptI_sorted (A : List An) (n : Nat) : (keptI A n).Pairwise (· < ·) := List.pairwise_lt_range.sublist List.filter_sublist

/-- The places that are kept. -/
def keptTo (L : List Pl) (A : List An) (n : Nat) : List Pl := (keptI A n).map (nth L)
theorem keptTo_len (L : List Pl) (A : List An) (i : Nat) : (keptTo L A i).length ≤ i := by
  have := keptI_len A i
  simpa [keptTo] using this
theorem keptTo_succ (L : List Pl) (A : List An) (i : Nat) : keptTo L A (i + 1) = keptTo L A i ++ (if (nth A i).gone then [] else [nth L i]) := by
  rw [keptTo, keptI_succ, List.map_append, keptTo]
  congr 1
  cases (nth A i).gone <;> simp

set_option maxHeartbeats 4000000 in
set_option maxRecDepth 8000 in
theorem tree_left (L : List Pl) (A : List An) (r : HV) (h0 : Hp) (hN : NodesAt h0 L A) (ho : OwnAt h0 r 66 (eps L)) (hL : L.length ≤ 10000) :
    CallsH pg 37 [r, .fn (.func 38) [] []] h0 (fun r' h' => OwnAt h' r' 66 (eps (keptTo L A L.length)) ∧ Pre h0 h' ∧ ∀ id n, r' = .ow id 0 n → h0.length ≤ id) := by
  refine CallsH.of_wpN [] 23 fn37 rfl rfl ?_
  refine WP.abs (fun s => s 0 = r ∧ s 1 = .fn (.func 38) [] []) ⟨rfl, rfl⟩ ?_
  rintro s ⟨g0, g1⟩
  rcases ho with ⟨rfl, hnil⟩ | ⟨k, rfl, hrow⟩
  · have hL0 : L = [] := by cases L with
      | nil => rfl
      | cons x l => simp [eps] at hnil
    subst hL0
    repeat' (with_reducible first | refine WP.seq ?_ | refine WP.block ?_ | refine seqK_normal ?_ | (apply WP.regionE; (with_unfolding_all (simp +decide (disch := first | decide | omega) only [go_sem, *]; rfl))))
    refine WP.loop (fun s h => s 9 = .int .i64 0 ∧ s 10 = .int .i64 0 ∧ s 5 = .sl true [] ∧ h = h0) (fun _ _ => 0) ⟨by (rfl), by (rfl), by (rfl), rfl⟩ ?_
    clear g0 g1 s
    rintro s h ⟨g7, g8, g3, rfl⟩
    repeat' (with_reducible first | refine WP.seq ?_ | refine WP.exit ?_ | refine WP.ret ?_ | refine seqK_normal ?_ | refine seqK_exit ?_ | refine loopK_exit ?_ | refine blockK_here ?_ | (apply WP.regionE; (with_unfolding_all (simp +decide (disch := first | decide | omega) only [go_sem, *]; rfl))) | (apply WP.condF; (focus (simp +decide (disch := first | decide | omega) only [go_sem, *]; done))) | (apply fnPost_ret; (simp +decide (disch := first | decide | omega) only [go_sem, *]; rfl)))
    exact ⟨.inl ⟨rfl, rfl⟩, .refl _, fun id n e => by cases e⟩
  rw [eps_length] at g0
  repeat' (with_reducible first | refine WP.seq ?_ | refine WP.block ?_ | refine seqK_normal ?_ | (apply WP.regionE; (with_unfolding_all (simp +decide (disch := first | decide | omega) only [go_sem, *]; rfl))))
  refine WP.loop (fun s h => s 1 = .fn (.func 38) [] [] ∧ s 8 = .ow k 0 L.length ∧ s 9 = .int .i64 L.length ∧ ∃ i : Nat, s 10 = .int .i64 i ∧ i ≤ L.length ∧ Pre h0 h ∧ OwnAt h (s 5) 66 (eps (keptTo L A i)) ∧ (∀ id n, s 5 = .ow id 0 n → h0.length ≤ id)) (fun s _ => L.length - (s 10).toInt.toNat)
    ⟨by ((simp +decide (disch := first | decide | omega) only [go_sem, *]; done)), by (rfl), by (rfl), 0, by simp +decide (disch := first | decide | omega) only [go_sem, *]; rfl, by omega, .refl _, .inl ⟨by (rfl), rfl⟩, fun id n e => by simp [upd] at e⟩ ?_
  clear g0 g1 s
  rintro s h ⟨g1, g8, g9, i, g10, hi, hpre, hog, hge⟩
  have hkl := (List.getElem?_eq_some_iff.1 hrow).1
  have hrowk : h[k]? = some (.row 66 (eps L)) := (hpre.at hkl).trans hrow
  have hNh : NodesAt h L A := hN.keep (.pre hpre)
  by_cases hlt : i < L.length
  · have hp := tree_present h L A hNh i hlt
    have hkn := keptTo_len L A i
    obtain ⟨q, hq, ho2, hf2, hid2, hfr2⟩ := ptr_append hog (ys := [nth L i]) (y := .sl true [[.ep (nth L i).id 0 0]]) rfl (by simp; omega)
    repeat' (with_reducible first | refine WP.seq ?_ | refine WP.skip ?_ | refine WP.block ?_ | refine WP.exit ?_ | refine WP.ret ?_ | refine seqK_normal ?_ | refine seqK_exit ?_ | refine loopK_exit ?_ | refine blockK_here ?_ | (apply WP.regionE; (with_unfolding_all (simp +decide (disch := first | decide | omega) only [go_sem, *]; rfl))) | (apply WP.regionX; with_unfolding_all rfl; (with_unfolding_all (simp +decide (disch := first | decide | omega) only [go_sem, *]; rfl))) | (apply opsT.call; (with_unfolding_all (simp +decide (disch := first | decide | omega) only [go_sem, *]; rfl)); (focus (simp +decide (disch := first | decide | omega) only [go_sem, *]; done)); (with_unfolding_all (simp +decide (disch := first | decide | omega) only [go_sem, *]; rfl))) | (apply WP.condB; (simp +decide (disch := first | decide | omega) only [go_sem, *]; rfl); all_goals (intro hb; (first | rw [dlt_t] at hb | rw [dlt_f] at hb | rw [dle_t] at hb | rw [dle_f] at hb | rw [Bool.not_eq_true'] at hb | rw [Bool.not_eq_false'] at hb | skip))))
    · refine hp.mono ?_
      rintro r h' ⟨rfl, rfl⟩
      repeat' (with_reducible first | refine WP.skip ?_ | refine seqK_normal ?_ | refine blockK_normal ?_ | (apply WP.regionE; (with_unfolding_all (simp +decide (disch := first | decide | omega) only [go_sem, *]; rfl))) | (apply opsT.fin; (with_unfolding_all (simp +decide (disch := first | decide | omega) only [go_sem, *]; rfl))) | (apply WP.condB; (simp +decide (disch := first | decide | omega) only [go_sem, *]; rfl); all_goals (intro hb; (first | rw [dlt_t] at hb | rw [dlt_f] at hb | rw [dle_t] at hb | rw [dle_f] at hb | rw [Bool.not_eq_true'] at hb | rw [Bool.not_eq_false'] at hb | skip))))
      · refine loopK_normal ⟨by ((simp +decide (disch := first | decide | omega) only [go_sem, *]; done)), by ((simp +decide (disch := first | decide | omega) only [go_sem, *]; done)), by ((simp +decide (disch := first | decide | omega) only [go_sem, *]; done)), i + 1, by simp +decide (disch := first | decide | omega) only [go_sem, *]; rfl, by omega, ?_, ?_, ?_⟩ (by simp +decide (disch := first | decide | omega) only [go_sem, *]; omega)
        · exact pre_of hpre hf2.1 fun j o ho hj => hfr2 j o ho fun l e => by have := hge j l e; omega
        · rw [keptTo_succ]
          have hg : (nth A i).gone = false := by simpa using hb
          rw [hg]
          simpa [upd] using ho2
        · intro id n e
          simp [upd] at e
          have := hid2 id n e
          have := hpre.len
          omega
      · refine loopK_normal ⟨by ((simp +decide (disch := first | decide | omega) only [go_sem, *]; done)), by ((simp +decide (disch := first | decide | omega) only [go_sem, *]; done)), by ((simp +decide (disch := first | decide | omega) only [go_sem, *]; done)), i + 1, by simp +decide (disch := first | decide | omega) only [go_sem, *]; rfl, by omega, hpre, ?_, ?_⟩ (by simp +decide (disch := first | decide | omega) only [go_sem, *]; omega)
        · rw [keptTo_succ]
          have hg : (nth A i).gone = true := by simpa using hb
          rw [hg]
          simpa [upd] using hog
        · intro id n e
          simp [upd] at e
          exact hge id n e
    · omega
  · repeat' (with_reducible first | refine WP.seq ?_ | refine WP.skip ?_ | refine WP.block ?_ | refine WP.exit ?_ | refine WP.ret ?_ | refine seqK_normal ?_ | refine seqK_exit ?_ | refine loopK_exit ?_ | refine blockK_here ?_ | (apply WP.regionE; (with_unfolding_all (simp +decide (disch := first | decide | omega) only [go_sem, *]; rfl))) | (apply WP.condB; (simp +decide (disch := first | decide | omega) only [go_sem, *]; rfl); all_goals (intro hb; (first | rw [dlt_t] at hb | rw [dlt_f] at hb | rw [dle_t] at hb | rw [dle_f] at hb | rw [Bool.not_eq_true'] at hb | rw [Bool.not_eq_false'] at hb | skip))) | (apply fnPost_ret; (simp +decide (disch := first | decide | omega) only [go_sem, *]; rfl)))
    · omega
    · have hit : i = L.length := by omega
      subst hit
      exact ⟨hog, hpre, hge⟩

/-- The index of a place in a list, or -1. -/
def idxP (K : List Pl) (x : Pl) : Int := idxF K fun y => decide (y.id = x.id)

theorem ptr_eq (h : Hp) (a b : Nat) (ha : rowLive h a = true) (hb : rowLive h b = true) : cmpH pg.P h .eql 66 (.ep a 0 0) (.tmp 15) (.ep b 0 0) = some (.bool (decide (b = a))) := by
  have hu : pg.P.underlying 66 = some (.pointer 70) := by kernel_rfl
  have hc : ((isAggH pg.P 70).isSome && pg.P.cellsOf 70 != 0) = true := by rw [ag70, ce70]; rfl
  simp only [cmpH, hu, hc, eqB, ha, hb, if_true, and_true]
  by_cases e : a = b
  · subst e; simp
  · have e' : ¬ b = a := fun h => e h.symm
    simp [e, e']

theorem node_live {h : Hp} {L : List Pl} {A : List An} (hN : NodesAt h L A) {j : Nat} (hj : j < L.length) : rowLive h (nth L j).id = true := by
  have := (hN.node j hj).1
  unfold nodeRow at this
  simp [rowLive, this]

set_option maxHeartbeats 4000000 in
set_option maxRecDepth 8000 in
theorem go_IndexP (K : List Pl) (x : Pl) (r : HV) (h0 : Hp) (ho : OwnAt h0 r 66 (eps K)) (hK : ∀ y ∈ K, rowLive h0 y.id = true) (hx : rowLive h0 x.id = true) (hL : K.length ≤ 10000) : CallsH pg 41 [r, .ep x.id 0 0] h0 (fun r' h' => r' = .int .i64 (idxP K x) ∧ h' = h0) := by
  refine CallsH.of_wpN [] 19 fn41 rfl rfl ?_
  refine WP.abs (fun s => s 0 = r ∧ s 1 = .ep x.id 0 0) ⟨rfl, rfl⟩ ?_
  rintro s ⟨g0, g1⟩
  rcases ho with ⟨rfl, hnil⟩ | ⟨k, rfl, hrow⟩
  · have hL0 : K = [] := by cases K with
      | nil => rfl
      | cons x l => simp [eps] at hnil
    subst hL0
    repeat' (with_reducible first | refine WP.seq ?_ | refine WP.block ?_ | refine seqK_normal ?_ | (apply WP.regionE; (with_unfolding_all (simp +decide (disch := first | decide | omega) only [go_sem, *]; rfl))))
    refine WP.loop (fun s h => s 7 = .int .i64 0 ∧ s 8 = .int .i64 0 ∧ h = h0) (fun _ _ => 0) ⟨by (rfl), by (rfl), rfl⟩ ?_
    clear g0 g1 s
    rintro s h ⟨g7, g8, rfl⟩
    repeat' (with_reducible first | refine WP.seq ?_ | refine WP.exit ?_ | refine WP.ret ?_ | refine seqK_normal ?_ | refine seqK_exit ?_ | refine loopK_exit ?_ | refine blockK_here ?_ | (apply WP.regionE; (with_unfolding_all (simp +decide (disch := first | decide | omega) only [go_sem, *]; rfl))) | (apply WP.condF; (focus (simp +decide (disch := first | decide | omega) only [go_sem, *]; done))) | (apply fnPost_ret; (simp +decide (disch := first | decide | omega) only [go_sem, *]; rfl)))
    exact ⟨rfl, rfl⟩
  rw [eps_length] at g0
  repeat' (with_reducible first | refine WP.seq ?_ | refine WP.block ?_ | refine seqK_normal ?_ | (apply WP.regionE; (with_unfolding_all (simp +decide (disch := first | decide | omega) only [go_sem, *]; rfl))))
  refine WP.loop (fun s h => s 0 = .ow k 0 K.length ∧ s 1 = .ep x.id 0 0 ∧ s 7 = .int .i64 K.length ∧ h = h0 ∧ ∃ i : Nat, s 8 = .int .i64 i ∧ i ≤ K.length ∧ ∀ j, j < i → decide ((nth K j).id = x.id) = false) (fun s _ => K.length - (s 8).toInt.toNat)
    ⟨by ((simp +decide (disch := first | decide | omega) only [go_sem, *]; done)), by ((simp +decide (disch := first | decide | omega) only [go_sem, *]; done)), by (rfl), rfl, 0, by simp +decide (disch := first | decide | omega) only [go_sem, *]; rfl, by omega, fun j hj => by omega⟩ ?_
  clear g0 g1 s
  rintro s h ⟨g0, g1, g7, rfl, i, g8, hi, hpre⟩
  by_cases hlt : i < K.length
  · have hc := ptr_eq h x.id (nth K i).id hx (hK _ (nth_mem hlt))
    repeat' (with_reducible first | refine WP.seq ?_ | refine WP.skip ?_ | refine WP.block ?_ | refine WP.exit ?_ | refine WP.ret ?_ | refine seqK_normal ?_ | refine seqK_exit ?_ | refine seqK_ret ?_ | refine loopK_exit ?_ | refine loopK_ret ?_ | refine blockK_normal ?_ | refine blockK_here ?_ | refine blockK_ret ?_ | (apply WP.regionE; (with_unfolding_all (simp +decide (disch := first | decide | omega) only [go_sem, *]; rfl))) | (apply WP.condB; (simp +decide (disch := first | decide | omega) only [go_sem, *]; rfl); all_goals (intro hb; (first | rw [dlt_t] at hb | rw [dlt_f] at hb | rw [dle_t] at hb | rw [dle_f] at hb | rw [Bool.not_eq_true'] at hb | rw [Bool.not_eq_false'] at hb | skip))) | (apply fnPost_ret; (simp +decide (disch := first | decide | omega) only [go_sem, *]; rfl)))
    · exact ⟨congrArg (HV.int .i64) (idxF_some hlt hb hpre).symm, rfl⟩
    · refine loopK_normal ⟨by ((simp +decide (disch := first | decide | omega) only [go_sem, *]; done)), by ((simp +decide (disch := first | decide | omega) only [go_sem, *]; done)), by ((simp +decide (disch := first | decide | omega) only [go_sem, *]; done)), rfl, i + 1, by simp +decide (disch := first | decide | omega) only [go_sem, *]; rfl, by omega, fun j hj => ?_⟩ (by simp +decide (disch := first | decide | omega) only [go_sem, *]; omega)
      by_cases e : j = i
      · subst e; exact hb
      · exact hpre j (by omega)
    · omega
  · repeat' (with_reducible first | refine WP.seq ?_ | refine WP.skip ?_ | refine WP.block ?_ | refine WP.exit ?_ | refine WP.ret ?_ | refine seqK_normal ?_ | refine seqK_exit ?_ | refine loopK_exit ?_ | refine blockK_here ?_ | (apply WP.regionE; (with_unfolding_all (simp +decide (disch := first | decide | omega) only [go_sem, *]; rfl))) | (apply WP.condB; (simp +decide (disch := first | decide | omega) only [go_sem, *]; rfl); all_goals (intro hb; (first | rw [dlt_t] at hb | rw [dlt_f] at hb | rw [dle_t] at hb | rw [dle_f] at hb | rw [Bool.not_eq_true'] at hb | rw [Bool.not_eq_false'] at hb | skip))) | (apply fnPost_ret; (simp +decide (disch := first | decide | omega) only [go_sem, *]; rfl)))
    · omega
    · exact ⟨congrArg (HV.int .i64) (idxF_none fun j hj => hpre j (by omega)).symm, rfl⟩

/-- The least number from n on that is not in use. -/
def free (used : Int → Bool) : Nat → Int → Int
  | 0, n => n
  | k + 1, n => if used n then free used k (n + 1) else n

theorem free_ge (used : Int → Bool) : ∀ (k : Nat) (n : Int), n ≤ free used k n
  | 0, n => by simp [free]
  | k + 1, n => by
    rw [free]
    split
    · have := free_ge used k (n + 1); omega
    · omega

theorem free_stop {used : Int → Bool} {M : Int} (hM : ∀ x, used x = true → x ≤ M) : ∀ (k : Nat) (n : Int), M < n + k → used (free used k n) = false
  | 0, n, h => by
    rw [free, Bool.eq_false_iff]
    intro hu
    have := hM _ hu
    omega
  | k + 1, n, h => by
    rw [free]
    split
    · exact free_stop hM k (n + 1) (by omega)
    · rename_i hu; simpa using hu

theorem free_le {used : Int → Bool} {M : Int} (hM : ∀ x, used x = true → x ≤ M) : ∀ (k : Nat) (n : Int), free used k n ≤ max n (M + 1)
  | 0, n => by simp [free]; omega
  | k + 1, n => by
    rw [free]
    split
    · rename_i hu
      have := free_le hM k (n + 1)
      have := hM _ hu
      omega
    · omega

def nameStep (used : Int → Bool) (M : Nat) (s : List An × Int) (i : Nat) : List An × Int :=
  if 0 < (nth s.1 i).name then s else (s.1.set i { nth s.1 i with name := free used (M + 1) s.2 }, free used (M + 1) s.2 + 1)
def nameTo (used : Int → Bool) (M : Nat) (A : List An) (I : List Nat) (k : Nat) : List An × Int := (I.take k).foldl (nameStep used M) (A, 1)

theorem nameTo_succ (used : Int → Bool) (M : Nat) (A : List An) (I : List Nat) {k : Nat} (hk : k < I.length) : nameTo used M A I (k + 1) = nameStep used M (nameTo used M A I k) (nth I k) := by
  rw [nameTo, take_nth hk, List.foldl_append]; rfl

theorem nameTo_length (used : Int → Bool) (M : Nat) (A : List An) (I : List Nat) : ∀ k, k ≤ I.length → (nameTo used M A I k).1.length = A.length
  | 0, _ => by simp [nameTo]
  | k + 1, h => by
    rw [nameTo_succ used M A I (by omega)]
    unfold nameStep
    split
    · exact nameTo_length used M A I k (by omega)
    · simp only [List.length_set]; exact nameTo_length used M A I k (by omega)

theorem nameTo_next {used : Int → Bool} {M : Nat} (hM : ∀ x, used x = true → x ≤ M) (A : List An) (I : List Nat) : ∀ k, k ≤ I.length → 1 ≤ (nameTo used M A I k).2 ∧ (nameTo used M A I k).2 ≤ M + 2 + k
  | 0, _ => by simp [nameTo]; omega
  | k + 1, h => by
    have ih := nameTo_next hM A I k (by omega)
    rw [nameTo_succ used M A I (by omega)]
    unfold nameStep
    split
    · omega
    · have h1 := free_ge used (M + 1) (nameTo used M A I k).2
      have h2 := free_le hM (M + 1) (nameTo used M A I k).2
      simp only
      omega

theorem NodesAt.name {h : Hp} {L : List Pl} {A : List An} (hn : NodesAt h L A) {i : Nat} (hi : i < L.length) (n : Int) :
    NodesAt (h.set (nth L i).id (nodeRow n (upV L (nth A i).up) (nth L i).sid (nth L i).cid (nth A i).gone)) L (A.set i { nth A i with name := n }) := by
  have hl := hn.len
  have hrow := (hn.node i hi).1
  have hlt := (List.getElem?_eq_some_iff.1 hrow).1
  have hset : ∀ id p, SetAt h id p → SetAt (h.set (nth L i).id (nodeRow n (upV L (nth A i).up) (nth L i).sid (nth L i).cid (nth A i).gone)) id p := fun id p hp =>
    hp.keep (List.getElem?_set_ne (by have := row_ne (t := 70) hrow hp; omega))
  refine ⟨by simpa using hl, hn.diff, fun k hk => ?_⟩
  obtain ⟨n1, n2, n3⟩ := hn.node k hk
  rw [nth_set (by omega)]
  by_cases e : i = k
  · subst e
    rw [if_pos rfl]
    exact ⟨List.getElem?_set_self hlt, hset _ _ n2, hset _ _ n3⟩
  · rw [if_neg e]
    have hap := hn.diff.at hi hk e
    refine ⟨?_, hset _ _ n2, hset _ _ n3⟩
    rw [List.getElem?_set_ne hap.1]; exact n1

set_option maxHeartbeats 4000000 in
set_option maxRecDepth 8000 in
theorem tree_name (L : List Pl) (A : List An) (I : List Nat) (M : Nat) (used : Int → Bool) (u : Nat) (r : HV) (h0 : Hp) (hN : NodesAt h0 L A) (hI : ∀ i ∈ I, i < L.length) (ho : OwnAt h0 r 66 (eps (I.map (nth L)))) (hu : SetAt h0 u used) (hM : ∀ x, used x = true → x ≤ M) (hM2 : M ≤ 1000000) (hL : I.length ≤ 10000) :
    CallsH pg 39 [r, .mp u] h0 (fun _ h' => NodesAt h' L (nameTo used M A I I.length).1 ∧ h0.length = h'.length ∧ ∀ j o, h0[j]? = some o → (∀ x ∈ L, j ≠ x.id) → h'[j]? = some o) := by
  refine CallsH.of_wpN [] 32 fn39 rfl rfl ?_
  refine WP.abs (fun s => s 0 = r ∧ s 1 = .mp u) ⟨rfl, rfl⟩ ?_
  rintro s ⟨g0, g1⟩
  refine WP.scope ?_
  rcases ho with ⟨rfl, hnil⟩ | ⟨k, rfl, hrow⟩
  · have hL0 : I = [] := by cases I with
      | nil => rfl
      | cons x l => simp [eps] at hnil
    subst hL0
    repeat' (with_reducible first | refine WP.seq ?_ | refine WP.label ?_ | refine WP.block ?_ | refine seqK_normal ?_ | (apply WP.regionE; (with_unfolding_all (simp +decide (disch := first | decide | omega) only [go_sem, *]; rfl))))
    refine WP.loop (fun s h => s 8 = .int .i64 0 ∧ s 9 = .int .i64 0 ∧ h = h0) (fun _ _ => 0) ⟨by (rfl), by (rfl), rfl⟩ ?_
    clear g0 g1 s
    rintro s h ⟨g7, g8, rfl⟩
    repeat' (with_reducible first | refine WP.seq ?_ | refine WP.exit ?_ | refine seqK_normal ?_ | refine seqK_exit ?_ | refine loopK_exit ?_ | refine blockK_here ?_ | (apply WP.regionE; (with_unfolding_all (simp +decide (disch := first | decide | omega) only [go_sem, *]; rfl))) | (apply WP.condF; (focus (simp +decide (disch := first | decide | omega) only [go_sem, *]; done))))
    refine scopeK_normal ?_
    refine fnPost_normal (by simp +decide (disch := first | decide | omega) only [go_sem, *]; rfl) ?_
    exact ⟨hN, rfl, fun j o h _ => h⟩
  rw [eps_length, List.length_map] at g0
  have hAL := hN.len.symm
  repeat' (with_reducible first | refine WP.seq ?_ | refine WP.label ?_ | refine WP.block ?_ | refine seqK_normal ?_ | (apply WP.regionE; (with_unfolding_all (simp +decide (disch := first | decide | omega) only [go_sem, *]; rfl))))
  refine WP.loop (fun s h => s 1 = .mp u ∧ s 7 = .ow k 0 I.length ∧ s 8 = .int .i64 I.length ∧ ∃ i : Nat, s 9 = .int .i64 i ∧ i ≤ I.length ∧ s 4 = .int .i64 (nameTo used M A I i).2 ∧ NodesAt h L (nameTo used M A I i).1 ∧ h0.length = h.length ∧ ∀ j o, h0[j]? = some o → (∀ x ∈ L, j ≠ x.id) → h[j]? = some o) (fun s _ => I.length - (s 9).toInt.toNat)
    ⟨by ((simp +decide (disch := first | decide | omega) only [go_sem, *]; done)), by (rfl), by (rfl), 0, by simp +decide (disch := first | decide | omega) only [go_sem, *]; rfl, by omega, by (rfl), hN, rfl, fun j o h _ => h⟩ ?_
  clear g0 g1 s
  rintro s h ⟨g1, g7, g8, i, g9, hi, g4, hNi, hlen, hfr⟩
  have hrowk : h[k]? = some (.row 66 (eps (I.map (nth L)))) := hfr _ _ hrow fun x hx => by
    obtain ⟨j, hj, rfl⟩ := List.getElem_of_mem hx
    obtain ⟨q1, _, _⟩ := hN.node j hj
    rw [nth_eq hj] at q1
    exact fun e => by (rw [← e, hrow] at q1; simp only [nodeRow] at q1; injection q1 with q1; cases q1)
  by_cases hlt : i < I.length
  · have hil := hI _ (nth_mem hlt)
    have hm : nth (I.map (nth L)) i = nth L (nth I i) := by rw [nth_eq (by simpa using hlt), nth_eq hlt]; simp
    have heps : (eps (I.map (nth L)))[i]? = some [.ep (nth L (nth I i)).id 0 0] := by rw [eps_nth (by simpa using hlt), hm]
    have hn1 := (hNi.node _ hil).1
    unfold nodeRow at hn1
    have hus : SetAt h u used := hu.of fun o ho => hfr _ _ ho fun x hx => by
      obtain ⟨j, hj, rfl⟩ := List.getElem_of_mem hx
      obtain ⟨q1, _, _⟩ := hN.node j hj
      rw [nth_eq hj] at q1
      exact (row_ne (t := 70) q1 hu).symm
    have hnx := nameTo_next hM A I i (by omega)
    clear hm
    repeat' (with_reducible first | refine WP.seq ?_ | refine WP.skip ?_ | refine WP.block ?_ | refine WP.exit ?_ | refine seqK_normal ?_ | refine seqK_exit ?_ | refine loopK_exit ?_ | refine blockK_here ?_ | (apply WP.regionE; (with_unfolding_all (simp +decide (disch := first | decide | omega) only [go_sem, *]; rfl))) | (apply WP.condB; (simp +decide (disch := first | decide | omega) only [go_sem, *]; rfl); all_goals (intro hb; (first | rw [dlt_t] at hb | rw [dlt_f] at hb | rw [dle_t] at hb | rw [dle_f] at hb | rw [Bool.not_eq_true'] at hb | rw [Bool.not_eq_false'] at hb | skip))))
    · refine loopK_normal ⟨by ((simp +decide (disch := first | decide | omega) only [go_sem, *]; done)), by ((simp +decide (disch := first | decide | omega) only [go_sem, *]; done)), by ((simp +decide (disch := first | decide | omega) only [go_sem, *]; done)), i + 1, by simp +decide (disch := first | decide | omega) only [go_sem, *]; rfl, by omega, ?_, ?_, hlen, hfr⟩ (by simp +decide (disch := first | decide | omega) only [go_sem, *]; omega)
      · rw [nameTo_succ used M A I hlt, nameStep, if_pos hb]
        simp +decide (disch := first | decide | omega) only [go_sem, *]
      · rw [nameTo_succ used M A I hlt, nameStep, if_pos hb]
        exact hNi
    · refine WP.loop (fun s' h' => s' 1 = .mp u ∧ s' 6 = .ep (nth L (nth I i)).id 0 0 ∧ s' 7 = .ow k 0 I.length ∧ s' 8 = .int .i64 I.length ∧ s' 9 = .int .i64 i ∧ h' = h ∧ ∃ (m : Int) (f : Nat), s' 4 = .int .i64 m ∧ (nameTo used M A I i).2 ≤ m ∧ m ≤ M + 2 + i ∧ M < m + f ∧ free used f m = free used (M + 1) (nameTo used M A I i).2) (fun s' _ => (M + 3 + i - (s' 4).toInt).toNat)
        ⟨by ((simp +decide (disch := first | decide | omega) only [go_sem, *]; done)), by (rfl), by ((simp +decide (disch := first | decide | omega) only [go_sem, *]; done)), by ((simp +decide (disch := first | decide | omega) only [go_sem, *]; done)), by ((simp +decide (disch := first | decide | omega) only [go_sem, *]; done)), rfl, (nameTo used M A I i).2, M + 1, by ((simp +decide (disch := first | decide | omega) only [go_sem, *]; done)), by omega, by omega, by omega, rfl⟩ ?_
      clear g1 g7 g8 g4
      rintro s' h' ⟨g1, g6, g7, g8, g9', rfl, m, f, g4, hm1, hm2, hmf, hfree⟩
      have hlook := hus.look m
      repeat' (with_reducible first | refine WP.seq ?_ | refine WP.skip ?_ | refine WP.block ?_ | refine WP.exit ?_ | refine seqK_normal ?_ | refine seqK_exit ?_ | refine loopK_exit ?_ | refine blockK_normal ?_ | refine blockK_here ?_ | (apply WP.regionE; (with_unfolding_all (simp +decide (disch := first | decide | omega) only [go_sem, *]; rfl))) | (apply WP.condB; (simp +decide (disch := first | decide | omega) only [go_sem, *]; rfl); all_goals (intro hb; (first | rw [dlt_t] at hb | rw [dlt_f] at hb | rw [dle_t] at hb | rw [dle_f] at hb | rw [Bool.not_eq_true'] at hb | rw [Bool.not_eq_false'] at hb | skip))))
      · have := hM m hb
        obtain ⟨f, rfl⟩ : ∃ f', f = f' + 1 := ⟨f - 1, by omega⟩
        refine loopK_normal ⟨by ((simp +decide (disch := first | decide | omega) only [go_sem, *]; done)), by ((simp +decide (disch := first | decide | omega) only [go_sem, *]; done)), by ((simp +decide (disch := first | decide | omega) only [go_sem, *]; done)), by ((simp +decide (disch := first | decide | omega) only [go_sem, *]; done)), by ((simp +decide (disch := first | decide | omega) only [go_sem, *]; done)), rfl, m + 1, f, by (rfl), by omega, by omega, by omega, ?_⟩ (by simp +decide (disch := first | decide | omega) only [go_sem, *]; omega)
        rw [← hfree, free, hb]
        rfl
      · have hfm : free used (M + 1) (nameTo used M A I i).2 = m := by
          rw [← hfree]
          cases f with
          | zero => rfl
          | succ f => rw [free, hb]; rfl
        have hns : nameTo used M A I (i + 1) = ((nameTo used M A I i).1.set (nth I i) { nth (nameTo used M A I i).1 (nth I i) with name := m }, m + 1) := by
          rw [nameTo_succ used M A I hlt, nameStep, if_neg (by assumption), hfm]
        refine loopK_normal ⟨by ((simp +decide (disch := first | decide | omega) only [go_sem, *]; done)), by ((simp +decide (disch := first | decide | omega) only [go_sem, *]; done)), by ((simp +decide (disch := first | decide | omega) only [go_sem, *]; done)), i + 1, by simp +decide (disch := first | decide | omega) only [go_sem, *]; rfl, by omega, ?_, ?_, by simpa using hlen, ?_⟩ (by simp +decide (disch := first | decide | omega) only [go_sem, *]; omega)
        · rw [hns]
          (rfl)
        · rw [hns]
          have := hNi.name hil m
          unfold nodeRow at this
          exact this
        · intro j o hj hx
          rw [List.getElem?_set_ne (fun e => hx _ (nth_mem hil) e.symm)]
          exact hfr j o hj hx
    · omega
  · repeat' (with_reducible first | refine WP.seq ?_ | refine WP.skip ?_ | refine WP.block ?_ | refine WP.exit ?_ | refine seqK_normal ?_ | refine seqK_exit ?_ | refine loopK_exit ?_ | refine blockK_here ?_ | (apply WP.regionE; (with_unfolding_all (simp +decide (disch := first | decide | omega) only [go_sem, *]; rfl))) | (apply WP.condB; (simp +decide (disch := first | decide | omega) only [go_sem, *]; rfl); all_goals (intro hb; (first | rw [dlt_t] at hb | rw [dlt_f] at hb | rw [dle_t] at hb | rw [dle_f] at hb | rw [Bool.not_eq_true'] at hb | rw [Bool.not_eq_false'] at hb | skip))))
    · omega
    · have hit : i = I.length := by omega
      subst hit
      refine scopeK_normal ?_
      refine fnPost_normal (by simp +decide (disch := first | decide | omega) only [go_sem, *]; rfl) ?_
      exact ⟨hNi, hlen, hfr⟩

end Go.Proofs.Ytonhbeapffiibaa

