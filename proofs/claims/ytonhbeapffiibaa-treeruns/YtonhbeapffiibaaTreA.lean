/-
  Chapter 16: which automata are well-formed: the check of package buchi.
-/
import Derived.Test.YtonhbeapffiibaaRefG
namespace Go.Proofs.Ytonhbeapffiibaa
open Go.HL

/-- The index of the first that has a property, or -1. -/
def idxF {α : Type} (l : List α) (p : α → Bool) : Int := match l.findIdx? p with | some i => i | none => -1

theorem idxF_some {α : Type} [Inhabited α] {l : List α} {p : α → Bool} {i : Nat} (hi : i < l.length) (hp : p (nth l i) = true) (hpre : ∀ j, j < i → p (nth l j) = false) : idxF l p = i := by
  have : l.findIdx? p = some i := by
    rw [List.findIdx?_eq_some_iff_getElem]
    refine ⟨hi, by rwa [nth_eq hi] at hp, fun j hj => ?_⟩
    have := hpre j hj
    rw [nth_eq (by omega)] at this
    simp [this]
  simp [idxF, this]
theorem idxF_none {α : Type} [Inhabited α] {l : List α} {p : α → Bool} (hpre : ∀ j, j < l.length → p (nth l j) = false) : idxF l p = -1 := by
  have : l.findIdx? p = none := by
    rw [List.findIdx?_eq_none_iff]
    intro x hx
    obtain ⟨j, hj, rfl⟩ := List.getElem_of_mem hx
    have := hpre j hj
    rwa [nth_eq hj] at this
  simp [idxF, this]
theorem idxF_any {α : Type} {l : List α} {p : α → Bool} : decide ((0 : Int) ≤ idxF l p) = l.any p := by
  unfold idxF
  cases h : l.findIdx? p with
  | none =>
    rw [List.findIdx?_eq_none_iff] at h
    have : l.any p = false := by rw [List.any_eq_false]; intro x hx; simp [h x hx]
    rw [this]; rfl
  | some i =>
    rw [List.findIdx?_eq_some_iff_getElem] at h
    obtain ⟨hi, hp, _⟩ := h
    have : l.any p = true := List.any_eq_true.2 ⟨_, List.getElem_mem hi, hp⟩
    rw [this]; simp

theorem go_bad (q n : Int) : CallsP pg 63 [.int .i64 q, .ip [.int .i64 n]] (fun v => v = .bool (decide (q < 0) || decide (n ≤ q))) := by
  refine CallsP.of_wpN [] 11 fn63 rfl rfl ?_
  refine WP.abs (fun s => s 0 = .int .i64 q ∧ s 1 = .ip [.int .i64 n]) ⟨rfl, rfl⟩ ?_
  rintro s ⟨h0, h1⟩
  repeat' (with_reducible first | refine WP.seq ?_ | refine WP.ret ?_ | refine seqK_normal ?_ | (apply WP.regionE; (with_unfolding_all (simp +decide (disch := first | decide | omega) only [go_sem, *]; rfl))) | (apply fnPost_pure 0; (first | exact .inl rfl | exact .inr rfl); (simp +decide (disch := first | decide | omega) only [go_sem, *]; rfl); (simp +decide (disch := first | decide | omega) only [go_sem, *]; rfl)) | (apply WP.guardB 0; with_unfolding_all rfl; (with_unfolding_all (simp +decide (disch := first | decide | omega) only [go_sem, *]; rfl)); (simp +decide (disch := first | decide | omega) only [go_sem, *]; rfl); all_goals (intro hb; (fail_if_success (exact absurd hb (by decide))); (first | rw [dlt_t] at hb | rw [dlt_f] at hb | rw [dle_t] at hb | rw [dle_f] at hb | rw [Bool.not_eq_true'] at hb | rw [Bool.not_eq_false'] at hb | skip))))
  · simp [hb]
  · simp
    omega

set_option maxHeartbeats 4000000 in
theorem go_IndexI (l : List Int) (g : Nat) (cs : List HV) (p : Int → Bool) (hen : entersH pg.P g = true) (hfr : HV.freeL cs = true) (hp : ∀ x, CallsP pg g (.int .i64 x :: cs) (fun v => v = .bool (p x))) :
    CallsP pg 93 [.sl false (ints l), .fn (.func g) [] cs] (fun v => v = .int .i64 (idxF l p)) := by
  refine CallsP.of_wpN [] 19 fn93 rfl rfl ?_
  refine WP.abs (fun s => s 0 = .sl false (ints l) ∧ s 1 = .fn (.func g) [] cs) ⟨rfl, rfl⟩ ?_
  rintro s ⟨h0, h1⟩
  refine WP.slLen h0 fun hlen => ?_
  rw [ints_length, maxLen] at hlen
  repeat' (with_reducible first | refine WP.seq ?_ | refine WP.block ?_ | refine seqK_normal ?_ | (apply WP.regionE; (with_unfolding_all (simp +decide (disch := first | decide | omega) only [go_sem, *]; rfl))))
  refine WP.loop (fun s h => s 0 = .sl false (ints l) ∧ s 1 = .fn (.func g) [] cs ∧ s 7 = .int .i64 l.length ∧ (h = []) ∧ ∃ i : Nat, s 8 = .int .i64 i ∧ i ≤ l.length ∧ (∀ j, j < i → p (nth l j) = false)) (fun s _ => l.length - (s 8).toInt.toNat) ⟨by ((simp +decide (disch := first | decide | omega) only [go_sem, *]; done)), by ((simp +decide (disch := first | decide | omega) only [go_sem, *]; done)), by ((simp +decide (disch := first | decide | omega) only [go_sem, *]; done)), by ((simp +decide (disch := first | decide | omega) only [go_sem, *]; done)), 0, by ((simp +decide (disch := first | decide | omega) only [go_sem, *]; rfl)), by omega, ?_⟩ ?_
  · intro j hj; omega
  clear h0 h1 s
  rintro s h ⟨h0, h1, h7, rfl, i, h8, hlei, hpre⟩
  repeat' (with_reducible first | refine WP.seq ?_ | refine WP.skip ?_ | refine WP.block ?_ | refine WP.exit ?_ | refine WP.ret ?_ | refine seqK_normal ?_ | refine seqK_exit ?_ | refine seqK_ret ?_ | refine loopK_exit ?_ | refine loopK_ret ?_ | refine blockK_normal ?_ | refine blockK_here ?_ | refine blockK_ret ?_ | (apply WP.regionE; (with_unfolding_all (simp +decide (disch := first | decide | omega) only [go_sem, *]; rfl))) | (apply WP.regionX; with_unfolding_all rfl; (with_unfolding_all (simp +decide (disch := first | decide | omega) only [go_sem, *]; rfl))) | (apply opsT.call; (with_unfolding_all (simp +decide (disch := first | decide | omega) only [go_sem, *]; rfl)); (focus (simp +decide (disch := first | decide | omega) only [go_sem, *]; done)); (with_unfolding_all (simp +decide (disch := first | decide | omega) only [go_sem, *]; rfl))) | (apply opsT.fin; (with_unfolding_all (simp +decide (disch := first | decide | omega) only [go_sem, *]; rfl))) | (apply CallsP.eq (hp _); (focus (simp +decide (disch := first | decide | omega) only [go_sem, *]; done))) | (apply WP.condB; (simp +decide (disch := first | decide | omega) only [go_sem, *]; rfl); all_goals (intro hb; (first | rw [dlt_t] at hb | rw [dlt_f] at hb | rw [dle_t] at hb | rw [dle_f] at hb | rw [Bool.not_eq_true'] at hb | rw [Bool.not_eq_false'] at hb | skip))) | (apply fnPost_pure 0; (first | exact .inl rfl | exact .inr rfl); (simp +decide (disch := first | decide | omega) only [go_sem, *]; rfl); (simp +decide (disch := first | decide | omega) only [go_sem, *]; rfl)))
  · exact congrArg (HV.int .i64) (idxF_some (by omega) hb hpre).symm
  · refine loopK_normal ⟨by ((simp +decide (disch := first | decide | omega) only [go_sem, *]; done)), by ((simp +decide (disch := first | decide | omega) only [go_sem, *]; done)), by ((simp +decide (disch := first | decide | omega) only [go_sem, *]; done)), by ((simp +decide (disch := first | decide | omega) only [go_sem, *]; done)), i + 1, by ((simp +decide (disch := first | decide | omega) only [go_sem, *]; rfl)), by omega, ?_⟩ (by simp +decide (disch := first | decide | omega) only [go_sem, *]; omega)
    intro j hj
    by_cases hji : j = i
    · rw [hji]; exact hb
    · exact hpre j (by omega)
  · exact congrArg (HV.int .i64) (idxF_none fun j hj => hpre j (by omega)).symm

set_option maxRecDepth 8000 in
theorem go_ContI (l : List Int) (g : Nat) (cs : List HV) (p : Int → Bool) (hen : entersH pg.P g = true) (hfr : HV.freeL cs = true) (hp : ∀ x, CallsP pg g (.int .i64 x :: cs) (fun v => v = .bool (p x))) :
    CallsP pg 64 [.sl false (ints l), .fn (.func g) [] cs] (fun v => v = .bool (l.any p)) := by
  refine CallsP.of_wpN [] 9 fn64 rfl rfl ?_
  refine WP.abs (fun s => s 0 = .sl false (ints l) ∧ s 1 = .fn (.func g) [] cs) ⟨rfl, rfl⟩ ?_
  rintro s ⟨h0, h1⟩
  have hfr2 : (HV.fn (.func g) [] cs).free = true := by simp [HV.free, HV.freeL, hfr]
  repeat' (with_reducible first | refine WP.seq ?_ | refine WP.ret ?_ | refine seqK_normal ?_ | (apply WP.regionE; (with_unfolding_all (simp +decide (disch := first | decide | omega) only [go_sem, *]; rfl))) | (apply WP.regionX; with_unfolding_all rfl; (with_unfolding_all (simp +decide (disch := first | decide | omega) only [go_sem, *]; rfl))) | (apply opsT.call; (with_unfolding_all (simp +decide (disch := first | decide | omega) only [go_sem, *]; rfl)); (focus (simp +decide (disch := first | decide | omega) only [go_sem, *]; done)); (with_unfolding_all (simp +decide (disch := first | decide | omega) only [go_sem, *]; rfl))) | (apply opsT.fin; (with_unfolding_all (simp +decide (disch := first | decide | omega) only [go_sem, *]; rfl))) | (apply CallsP.eq (go_IndexI l g cs p hen hfr hp); (focus (simp +decide (disch := first | decide | omega) only [go_sem, *]; done))) | (apply fnPost_pure 0; (first | exact .inl rfl | exact .inr rfl); (simp +decide (disch := first | decide | omega) only [go_sem, *]; rfl); (simp +decide (disch := first | decide | omega) only [go_sem, *]; rfl)))
  rw [← idxF_any]

def risingI (ord : Int → Int → Int) (l : List Int) : Bool := upto l.length fun i => decide (0 < i → ord (nth l (i - 1)) (nth l i) < 0)
def risingM (ord : Mv → Mv → Int) (l : List Mv) : Bool := upto l.length fun i => decide (0 < i → ord (nth l (i - 1)) (nth l i) < 0)

theorem upto_one {p : Nat → Bool} (h : p 0 = true) (n : Nat) (hn : n ≤ 1) : upto n p = true := upto_iff.2 fun i hi => by
  obtain rfl : i = 0 := by omega
  exact h

set_option maxHeartbeats 4000000 in
theorem go_risingI (l : List Int) (g : Nat) (ord : Int → Int → Int) (hen : entersH pg.P g = true) (hp : ∀ x y, CallsP pg g [.int .i64 x, .int .i64 y] (fun v => v = .int .i64 (ord x y))) :
    CallsP pg 65 [.sl false (ints l), .fn (.func g) [] []] (fun v => v = .bool (risingI ord l)) := by
  refine CallsP.of_wpN [] 24 fn65 rfl rfl ?_
  refine WP.abs (fun s => s 0 = .sl false (ints l) ∧ s 1 = .fn (.func g) [] []) ⟨rfl, rfl⟩ ?_
  rintro s ⟨h0, h1⟩
  refine WP.slLen h0 fun hlen => ?_
  rw [ints_length, maxLen] at hlen
  repeat' (with_reducible first | refine WP.seq ?_ | refine WP.block ?_ | refine seqK_normal ?_ | (apply WP.regionE; (with_unfolding_all (simp +decide (disch := first | decide | omega) only [go_sem, *]; rfl))))
  refine WP.loop (fun s h => s 0 = .sl false (ints l) ∧ s 1 = .fn (.func g) [] [] ∧ h = [] ∧ ∃ i : Nat, s 5 = .int .i64 i ∧ 1 ≤ i ∧ (i ≤ l.length ∨ i = 1) ∧ upto i (fun i => decide (0 < i → ord (nth l (i - 1)) (nth l i) < 0)) = true) (fun s _ => l.length - (s 5).toInt.toNat) ⟨by simp +decide (disch := first | decide | omega) only [go_sem, *], by simp +decide (disch := first | decide | omega) only [go_sem, *], rfl, 1, by simp +decide (disch := first | decide | omega) only [go_sem, *]; rfl, by omega, .inr rfl, upto_one (by simp) 1 (by omega)⟩ ?_
  clear h0 h1 s
  rintro s h ⟨h0, h1, rfl, i, h5, hi1, hi2, hpre⟩
  repeat' (with_reducible first | refine WP.seq ?_ | refine WP.skip ?_ | refine WP.block ?_ | refine WP.exit ?_ | refine WP.ret ?_ | refine seqK_normal ?_ | refine seqK_exit ?_ | refine seqK_ret ?_ | refine loopK_exit ?_ | refine loopK_ret ?_ | refine blockK_normal ?_ | refine blockK_here ?_ | refine blockK_ret ?_ | (apply WP.regionE; (with_unfolding_all (simp +decide (disch := first | decide | omega) only [go_sem, *]; rfl))) | (apply WP.regionVX mixed; with_unfolding_all rfl; with_unfolding_all rfl; with_unfolding_all rfl; (with_unfolding_all (simp +decide (disch := first | decide | omega) only [go_sem, *]; rfl))) | (apply opsV.call; (with_unfolding_all (simp +decide (disch := first | decide | omega) only [go_sem, *]; rfl)); (focus (simp +decide (disch := first | decide | omega) only [go_sem, *]; done)); (with_unfolding_all (simp +decide (disch := first | decide | omega) only [go_sem, *]; rfl)); exact (hp _ _); (focus (simp +decide (disch := first | decide | omega) only [go_sem, *]; done))) | (apply opsV.fin; with_unfolding_all rfl; (with_unfolding_all (simp +decide (disch := first | decide | omega) only [go_sem, *]; rfl))) | (apply WP.condB; (simp +decide (disch := first | decide | omega) only [go_sem, *]; rfl); all_goals (intro hb; (first | rw [dlt_t] at hb | rw [dlt_f] at hb | rw [dle_t] at hb | rw [dle_f] at hb | rw [Bool.not_eq_true'] at hb | rw [Bool.not_eq_false'] at hb | skip))) | (apply fnPost_pure 0; (first | exact .inl rfl | exact .inr rfl); (simp +decide (disch := first | decide | omega) only [go_sem, *]; rfl); (simp +decide (disch := first | decide | omega) only [go_sem, *]; rfl)))
  · refine congrArg HV.bool (upto_no i (by omega) ?_).symm
    simp
    omega
  · refine loopK_normal ⟨by simp +decide (disch := first | decide | omega) only [go_sem, *], by simp +decide (disch := first | decide | omega) only [go_sem, *], rfl, i + 1, by simp +decide (disch := first | decide | omega) only [go_sem, *]; rfl, by omega, .inl (by omega), upto_succ hpre ?_⟩ (by simp +decide (disch := first | decide | omega) only [go_sem, *]; omega)
    simp
    omega
  · exact congrArg HV.bool (upto_le hpre (by omega)).symm

set_option maxHeartbeats 4000000 in
theorem go_risingM (l : List Mv) (g : Nat) (ord : Mv → Mv → Int) (hen : entersH pg.P g = true) (hp : ∀ x y, CallsP pg g [.agg (mvC x), .agg (mvC y)] (fun v => v = .int .i64 (ord x y))) :
    CallsP pg 67 [.sl false (mvs l), .fn (.func g) [] []] (fun v => v = .bool (risingM ord l)) := by
  refine CallsP.of_wpN [] 24 fn67 rfl rfl ?_
  refine WP.abs (fun s => s 0 = .sl false (mvs l) ∧ s 1 = .fn (.func g) [] []) ⟨rfl, rfl⟩ ?_
  rintro s ⟨h0, h1⟩
  refine WP.slLen h0 fun hlen => ?_
  rw [mvs_length, maxLen] at hlen
  repeat' (with_reducible first | refine WP.seq ?_ | refine WP.block ?_ | refine seqK_normal ?_ | (apply WP.regionE; (with_unfolding_all (simp +decide (disch := first | decide | omega) only [go_sem, *]; rfl))))
  refine WP.loop (fun s h => s 0 = .sl false (mvs l) ∧ s 1 = .fn (.func g) [] [] ∧ h = [] ∧ ∃ i : Nat, s 5 = .int .i64 i ∧ 1 ≤ i ∧ (i ≤ l.length ∨ i = 1) ∧ upto i (fun i => decide (0 < i → ord (nth l (i - 1)) (nth l i) < 0)) = true) (fun s _ => l.length - (s 5).toInt.toNat) ⟨by simp +decide (disch := first | decide | omega) only [go_sem, *], by simp +decide (disch := first | decide | omega) only [go_sem, *], rfl, 1, by simp +decide (disch := first | decide | omega) only [go_sem, *]; rfl, by omega, .inr rfl, upto_one (by simp) 1 (by omega)⟩ ?_
  clear h0 h1 s
  rintro s h ⟨h0, h1, rfl, i, h5, hi1, hi2, hpre⟩
  repeat' (with_reducible first | refine WP.seq ?_ | refine WP.skip ?_ | refine WP.block ?_ | refine WP.exit ?_ | refine WP.ret ?_ | refine seqK_normal ?_ | refine seqK_exit ?_ | refine seqK_ret ?_ | refine loopK_exit ?_ | refine loopK_ret ?_ | refine blockK_normal ?_ | refine blockK_here ?_ | refine blockK_ret ?_ | (apply WP.regionE; (with_unfolding_all (simp +decide (disch := first | decide | omega) only [go_sem, *]; rfl))) | (apply WP.regionVX mixed; with_unfolding_all rfl; with_unfolding_all rfl; with_unfolding_all rfl; (with_unfolding_all (simp +decide (disch := first | decide | omega) only [go_sem, *]; rfl))) | (apply opsV.call; (with_unfolding_all (simp +decide (disch := first | decide | omega) only [go_sem, *]; rfl)); (focus (simp +decide (disch := first | decide | omega) only [go_sem, *]; done)); (with_unfolding_all (simp +decide (disch := first | decide | omega) only [go_sem, *]; rfl)); exact (hp _ _); (focus (simp +decide (disch := first | decide | omega) only [go_sem, *]; done))) | (apply opsV.fin; with_unfolding_all rfl; (with_unfolding_all (simp +decide (disch := first | decide | omega) only [go_sem, *]; rfl))) | (apply WP.condB; (simp +decide (disch := first | decide | omega) only [go_sem, *]; rfl); all_goals (intro hb; (first | rw [dlt_t] at hb | rw [dlt_f] at hb | rw [dle_t] at hb | rw [dle_f] at hb | rw [Bool.not_eq_true'] at hb | rw [Bool.not_eq_false'] at hb | skip))) | (apply fnPost_pure 0; (first | exact .inl rfl | exact .inr rfl); (simp +decide (disch := first | decide | omega) only [go_sem, *]; rfl); (simp +decide (disch := first | decide | omega) only [go_sem, *]; rfl)))
  · refine congrArg HV.bool (upto_no i (by omega) ?_).symm
    simp
    omega
  · refine loopK_normal ⟨by simp +decide (disch := first | decide | omega) only [go_sem, *], by simp +decide (disch := first | decide | omega) only [go_sem, *], rfl, i + 1, by simp +decide (disch := first | decide | omega) only [go_sem, *]; rfl, by omega, .inl (by omega), upto_succ hpre ?_⟩ (by simp +decide (disch := first | decide | omega) only [go_sem, *]; omega)
    simp
    omega
  · exact congrArg HV.bool (upto_le hpre (by omega)).symm

theorem go_minus (x y : Int) : CallsP pg 66 [.int .i64 x, .int .i64 y] (fun v => v = .int .i64 (IntKind.i64.wrap (x - y))) := by
  refine CallsP.of_wpN [] 8 fn66 rfl rfl ?_
  refine WP.abs (fun s => s 0 = .int .i64 x ∧ s 1 = .int .i64 y) ⟨rfl, rfl⟩ ?_
  rintro s ⟨h0, h1⟩
  repeat' (with_reducible first | refine WP.seq ?_ | refine WP.ret ?_ | refine seqK_normal ?_ | (apply WP.regionE; (with_unfolding_all (simp +decide (disch := first | decide | omega) only [go_sem, *]; rfl))) | (apply fnPost_pure 0; (first | exact .inl rfl | exact .inr rfl); (simp +decide (disch := first | decide | omega) only [go_sem, *]; rfl); (simp +decide (disch := first | decide | omega) only [go_sem, *]; rfl)))
  all_goals rfl

def ordM (a b : Mv) : Int := if a.to = b.to then (if a.good = b.good then 0 else if b.good then -1 else 1) else IntKind.i64.wrap (a.to - b.to)

theorem eq_of_not {a b : Bool} (h : ¬ a = b) : a = !b := by cases a <;> cases b <;> simp_all

theorem go_order (a b : Mv) : CallsP pg 68 [.agg (mvC a), .agg (mvC b)] (fun v => v = .int .i64 (ordM a b)) := by
  refine CallsP.of_wpN [] 25 fn68 rfl rfl ?_
  refine WP.abs (fun s => s 0 = .agg (mvC a) ∧ s 1 = .agg (mvC b)) ⟨rfl, rfl⟩ ?_
  rintro s ⟨h0, h1⟩
  repeat' (with_reducible first | refine WP.seq ?_ | refine WP.skip ?_ | refine WP.block ?_ | refine WP.ret ?_ | refine seqK_normal ?_ | refine seqK_ret ?_ | refine blockK_normal ?_ | refine blockK_ret ?_ | (apply WP.regionE; (with_unfolding_all (simp +decide (disch := first | decide | omega) only [go_sem, *]; rfl))) | (apply WP.condB; (simp +decide (disch := first | decide | omega) only [go_sem, *]; rfl); all_goals (intro hb; (first | rw [dlt_t] at hb | rw [dlt_f] at hb | rw [dle_t] at hb | rw [dle_f] at hb | rw [Bool.not_eq_true'] at hb | rw [Bool.not_eq_false'] at hb | skip))) | (apply fnPost_pure 0; (first | exact .inl rfl | exact .inr rfl); (simp +decide (disch := first | decide | omega) only [go_sem, *]; rfl); (simp +decide (disch := first | decide | omega) only [go_sem, *]; rfl)))
  · have : ¬ a.to = b.to := by simpa using hb
    simp [ordM, this]
  · rename_i e1
    have h1 : a.to = b.to := by simpa using e1
    have h2 : a.good = b.good := by simpa using hb
    simp [ordM, h1, h2]
  · rename_i e1 e2
    have h1 : a.to = b.to := by simpa using e1
    have h2 : ¬ a.good = b.good := by simpa using e2
    rw [hb] at h2
    have h3 := eq_of_not h2
    simp [ordM, h1, h3, hb]
  · rename_i e1 e2
    have h1 : a.to = b.to := by simpa using e1
    have h2 : ¬ a.good = b.good := by simpa using e2
    rw [hb] at h2
    have h3 := eq_of_not h2
    simp [ordM, h1, h3, hb]

set_option maxHeartbeats 4000000 in
theorem go_IndexM (l : List Mv) (g : Nat) (cs : List HV) (p : Mv → Bool) (hen : entersH pg.P g = true) (hfr : HV.freeL cs = true) (hp : ∀ x, CallsP pg g (.agg (mvC x) :: cs) (fun v => v = .bool (p x))) :
    CallsP pg 94 [.sl false (mvs l), .fn (.func g) [] cs] (fun v => v = .int .i64 (idxF l p)) := by
  refine CallsP.of_wpN [] 19 fn94 rfl rfl ?_
  refine WP.abs (fun s => s 0 = .sl false (mvs l) ∧ s 1 = .fn (.func g) [] cs) ⟨rfl, rfl⟩ ?_
  rintro s ⟨h0, h1⟩
  refine WP.slLen h0 fun hlen => ?_
  rw [mvs_length, maxLen] at hlen
  repeat' (with_reducible first | refine WP.seq ?_ | refine WP.block ?_ | refine seqK_normal ?_ | (apply WP.regionE; (with_unfolding_all (simp +decide (disch := first | decide | omega) only [go_sem, *]; rfl))))
  refine WP.loop (fun s h => s 0 = .sl false (mvs l) ∧ s 1 = .fn (.func g) [] cs ∧ s 7 = .int .i64 l.length ∧ (h = []) ∧ ∃ i : Nat, s 8 = .int .i64 i ∧ i ≤ l.length ∧ (∀ j, j < i → p (nth l j) = false)) (fun s _ => l.length - (s 8).toInt.toNat) ⟨by ((simp +decide (disch := first | decide | omega) only [go_sem, *]; done)), by ((simp +decide (disch := first | decide | omega) only [go_sem, *]; done)), by ((simp +decide (disch := first | decide | omega) only [go_sem, *]; done)), by ((simp +decide (disch := first | decide | omega) only [go_sem, *]; done)), 0, by ((simp +decide (disch := first | decide | omega) only [go_sem, *]; rfl)), by omega, ?_⟩ ?_
  · intro j hj; omega
  clear h0 h1 s
  rintro s h ⟨h0, h1, h7, rfl, i, h8, hlei, hpre⟩
  repeat' (with_reducible first | refine WP.seq ?_ | refine WP.skip ?_ | refine WP.block ?_ | refine WP.exit ?_ | refine WP.ret ?_ | refine seqK_normal ?_ | refine seqK_exit ?_ | refine seqK_ret ?_ | refine loopK_exit ?_ | refine loopK_ret ?_ | refine blockK_normal ?_ | refine blockK_here ?_ | refine blockK_ret ?_ | (apply WP.regionE; (with_unfolding_all (simp +decide (disch := first | decide | omega) only [go_sem, *]; rfl))) | (apply WP.regionX; with_unfolding_all rfl; (with_unfolding_all (simp +decide (disch := first | decide | omega) only [go_sem, *]; rfl))) | (apply opsT.call; (with_unfolding_all (simp +decide (disch := first | decide | omega) only [go_sem, *]; rfl)); (focus (simp +decide (disch := first | decide | omega) only [go_sem, *]; done)); (with_unfolding_all (simp +decide (disch := first | decide | omega) only [go_sem, *]; rfl))) | (apply opsT.fin; (with_unfolding_all (simp +decide (disch := first | decide | omega) only [go_sem, *]; rfl))) | (apply CallsP.eq (hp _); (focus (simp +decide (disch := first | decide | omega) only [go_sem, *]; done))) | (apply WP.condB; (simp +decide (disch := first | decide | omega) only [go_sem, *]; rfl); all_goals (intro hb; (first | rw [dlt_t] at hb | rw [dlt_f] at hb | rw [dle_t] at hb | rw [dle_f] at hb | rw [Bool.not_eq_true'] at hb | rw [Bool.not_eq_false'] at hb | skip))) | (apply fnPost_pure 0; (first | exact .inl rfl | exact .inr rfl); (simp +decide (disch := first | decide | omega) only [go_sem, *]; rfl); (simp +decide (disch := first | decide | omega) only [go_sem, *]; rfl)))
  · exact congrArg (HV.int .i64) (idxF_some (by omega) hb hpre).symm
  · refine loopK_normal ⟨by ((simp +decide (disch := first | decide | omega) only [go_sem, *]; done)), by ((simp +decide (disch := first | decide | omega) only [go_sem, *]; done)), by ((simp +decide (disch := first | decide | omega) only [go_sem, *]; done)), by ((simp +decide (disch := first | decide | omega) only [go_sem, *]; done)), i + 1, by ((simp +decide (disch := first | decide | omega) only [go_sem, *]; rfl)), by omega, ?_⟩ (by simp +decide (disch := first | decide | omega) only [go_sem, *]; omega)
    intro j hj
    by_cases hji : j = i
    · rw [hji]; exact hb
    · exact hpre j (by omega)
  · exact congrArg (HV.int .i64) (idxF_none fun j hj => hpre j (by omega)).symm

set_option maxRecDepth 8000 in
theorem go_ContM (l : List Mv) (g : Nat) (cs : List HV) (p : Mv → Bool) (hen : entersH pg.P g = true) (hfr : HV.freeL cs = true) (hp : ∀ x, CallsP pg g (.agg (mvC x) :: cs) (fun v => v = .bool (p x))) :
    CallsP pg 69 [.sl false (mvs l), .fn (.func g) [] cs] (fun v => v = .bool (l.any p)) := by
  refine CallsP.of_wpN [] 9 fn69 rfl rfl ?_
  refine WP.abs (fun s => s 0 = .sl false (mvs l) ∧ s 1 = .fn (.func g) [] cs) ⟨rfl, rfl⟩ ?_
  rintro s ⟨h0, h1⟩
  have hfr2 : (HV.fn (.func g) [] cs).free = true := by simp [HV.free, HV.freeL, hfr]
  repeat' (with_reducible first | refine WP.seq ?_ | refine WP.ret ?_ | refine seqK_normal ?_ | (apply WP.regionE; (with_unfolding_all (simp +decide (disch := first | decide | omega) only [go_sem, *]; rfl))) | (apply WP.regionX; with_unfolding_all rfl; (with_unfolding_all (simp +decide (disch := first | decide | omega) only [go_sem, *]; rfl))) | (apply opsT.call; (with_unfolding_all (simp +decide (disch := first | decide | omega) only [go_sem, *]; rfl)); (focus (simp +decide (disch := first | decide | omega) only [go_sem, *]; done)); (with_unfolding_all (simp +decide (disch := first | decide | omega) only [go_sem, *]; rfl))) | (apply opsT.fin; (with_unfolding_all (simp +decide (disch := first | decide | omega) only [go_sem, *]; rfl))) | (apply CallsP.eq (go_IndexM l g cs p hen hfr hp); (focus (simp +decide (disch := first | decide | omega) only [go_sem, *]; done))) | (apply fnPost_pure 0; (first | exact .inl rfl | exact .inr rfl); (simp +decide (disch := first | decide | omega) only [go_sem, *]; rfl); (simp +decide (disch := first | decide | omega) only [go_sem, *]; rfl)))
  rw [← idxF_any]

def badS (n : Int) (q : Int) : Bool := decide (q < 0) || decide (n ≤ q)
def badM (n : Int) (m : Mv) : Bool := badS n m.to

set_option maxRecDepth 8000 in
theorem go_badM (m : Mv) (n : Int) : CallsP pg 70 [.agg (mvC m), .ip [.fn (.func 63) [] [.ip [.int .i64 n]]]] (fun v => v = .bool (badM n m)) := by
  refine CallsP.of_wpN [] 8 fn70 rfl rfl ?_
  refine WP.abs (fun s => s 0 = .agg (mvC m) ∧ s 1 = .ip [.fn (.func 63) [] [.ip [.int .i64 n]]]) ⟨rfl, rfl⟩ ?_
  rintro s ⟨h0, h1⟩
  repeat' (with_reducible first | refine WP.seq ?_ | refine WP.ret ?_ | refine seqK_normal ?_ | (apply WP.regionE; (with_unfolding_all (simp +decide (disch := first | decide | omega) only [go_sem, *]; rfl))) | (apply WP.regionX; with_unfolding_all rfl; (with_unfolding_all (simp +decide (disch := first | decide | omega) only [go_sem, *]; rfl))) | (apply opsT.call; (with_unfolding_all (simp +decide (disch := first | decide | omega) only [go_sem, *]; rfl)); (focus (simp +decide (disch := first | decide | omega) only [go_sem, *]; done)); (with_unfolding_all (simp +decide (disch := first | decide | omega) only [go_sem, *]; rfl))) | (apply opsT.fin; (with_unfolding_all (simp +decide (disch := first | decide | omega) only [go_sem, *]; rfl))) | (apply CallsP.eq (go_bad _ _); (focus (simp +decide (disch := first | decide | omega) only [go_sem, *]; done))) | (apply fnPost_pure 0; (first | exact .inl rfl | exact .inr rfl); (simp +decide (disch := first | decide | omega) only [go_sem, *]; rfl); (simp +decide (disch := first | decide | omega) only [go_sem, *]; rfl)))
  rfl

/-- What package buchi checks. -/
def validGo (b : Bu) : Bool := decide (1 ≤ b.letters ∧ b.letters ≤ 64 ∧ b.next.length ≤ 3000) && !b.start.any (badS b.next.length) && risingI (fun x y => IntKind.i64.wrap (x - y)) b.start &&
  upto b.next.length fun i => decide (((nth b.next i).length : Int) = b.letters) && upto (nth b.next i).length fun a => risingM ordM (nth (nth b.next i) a) && !(nth (nth b.next i) a).any (badM b.next.length)

theorem validGo_no {b : Bu} (i : Nat) (hi : i < b.next.length) (h : ¬ ((nth b.next i).length : Int) = b.letters) : validGo b = false := by
  have := upto_no (p := fun i => decide (((nth b.next i).length : Int) = b.letters) && upto (nth b.next i).length fun a => risingM ordM (nth (nth b.next i) a) && !(nth (nth b.next i) a).any (badM b.next.length)) i hi (by simp only [h, decide_false, Bool.false_and])
  simp only [validGo, this, Bool.and_false]
theorem validGo_no2 {b : Bu} (i a : Nat) (hi : i < b.next.length) (ha : a < (nth b.next i).length) (h : (risingM ordM (nth (nth b.next i) a) && !(nth (nth b.next i) a).any (badM b.next.length)) = false) : validGo b = false := by
  have := upto_no (p := fun i => decide (((nth b.next i).length : Int) = b.letters) && upto (nth b.next i).length fun a => risingM ordM (nth (nth b.next i) a) && !(nth (nth b.next i) a).any (badM b.next.length)) i hi (by rw [upto_no a ha h, Bool.and_false])
  simp only [validGo, this, Bool.and_false]

set_option maxHeartbeats 4000000 in
set_option maxRecDepth 8000 in
theorem go_Valid0 (b : Bu) : CallsP pg 47 [.agg (buC b)] (fun r => r = .bool (validGo b)) := by
  refine CallsP.of_wpN [] 65 fn47 rfl rfl ?_
  refine WP.abs (fun s => s 0 = .agg (buC b)) rfl ?_
  rintro s h0
  refine WP.bnd 0 h0 fun hbd => ?_
  have hsl3 := (bnd_bu hbd).2
  have hsl := (bnd_bu hbd).1
  clear hbd
  have cA := go_ContI b.start 63 [.ip [.int .i64 b.next.length]] (badS b.next.length) (by rfl) (by rfl) (fun x => go_bad x b.next.length)
  have cB := go_risingI b.start 66 _ (by rfl) go_minus
  repeat' (with_reducible first | refine WP.seq ?_ | refine WP.skip ?_ | refine WP.block ?_ | refine WP.ret ?_ | refine seqK_normal ?_ | refine seqK_ret ?_ | (apply WP.regionE; (with_unfolding_all (simp +decide (disch := first | decide | omega) only [go_sem, *]; rfl))) | (apply WP.regionX; with_unfolding_all rfl; (with_unfolding_all (simp +decide (disch := first | decide | omega) only [go_sem, *]; rfl))) | (apply opsT.skipG; (focus (simp +decide (disch := first | decide | omega) only [go_sem, *]; done))) | (apply opsT.callG; (focus (simp +decide (disch := first | decide | omega) only [go_sem, *]; done)); (with_unfolding_all (simp +decide (disch := first | decide | omega) only [go_sem, *]; rfl)); (focus (simp +decide (disch := first | decide | omega) only [go_sem, *]; done)); (with_unfolding_all (simp +decide (disch := first | decide | omega) only [go_sem, *]; rfl))) | (apply opsT.moreX; with_unfolding_all rfl; (with_unfolding_all (simp +decide (disch := first | decide | omega) only [go_sem, *]; rfl))) | (apply opsT.fin; (with_unfolding_all (simp +decide (disch := first | decide | omega) only [go_sem, *]; rfl))) | (apply CallsP.eq (cB); (focus (simp +decide (disch := first | decide | omega) only [go_sem, *]; done))) | (refine CallsP.lendE (cA) 6 ?_ ?_ ?_; (focus ((repeat (first | exact rdL_nil | apply rdL_cons | (apply rdV_free; first | (focus (simp +decide (disch := first | decide | omega) only [go_sem, *]; done)) | with_unfolding_all rfl) | (apply rdV_fn) | (apply rdV_ep0; (with_unfolding_all (simp +decide (disch := first | decide | omega) only [go_sem, *]; rfl))) | apply rdV_ip)); done)); with_unfolding_all rfl) | (apply WP.condT; (focus (simp +decide (disch := first | decide | omega) only [go_sem, *]; done))) | (apply WP.condB; (simp +decide (disch := first | decide | omega) only [go_sem, *]; rfl); all_goals (intro hb; (first | rw [dlt_t] at hb | rw [dlt_f] at hb | rw [dle_t] at hb | rw [dle_f] at hb | rw [Bool.not_eq_true'] at hb | rw [Bool.not_eq_false'] at hb | skip))) | (apply fnPost_pure 0; (first | exact .inl rfl | exact .inr rfl); (simp +decide (disch := first | decide | omega) only [go_sem, *]; rfl); (simp +decide (disch := first | decide | omega) only [go_sem, *]; rfl)) | (apply WP.guardB 0; with_unfolding_all rfl; (with_unfolding_all (simp +decide (disch := first | decide | omega) only [go_sem, *]; rfl)); (simp +decide (disch := first | decide | omega) only [go_sem, *]; rfl); all_goals (intro hb; (fail_if_success (exact absurd hb (by decide))); (first | rw [dlt_t] at hb | rw [dlt_f] at hb | rw [dle_t] at hb | rw [dle_f] at hb | rw [Bool.not_eq_true'] at hb | rw [Bool.not_eq_false'] at hb | skip))) | (apply WP.guardB 1; with_unfolding_all rfl; (with_unfolding_all (simp +decide (disch := first | decide | omega) only [go_sem, *]; rfl)); (simp +decide (disch := first | decide | omega) only [go_sem, *]; rfl); all_goals (intro hb; (fail_if_success (exact absurd hb (by decide))); (first | rw [dlt_t] at hb | rw [dlt_f] at hb | rw [dle_t] at hb | rw [dle_f] at hb | rw [Bool.not_eq_true'] at hb | rw [Bool.not_eq_false'] at hb | skip))) | (apply WP.guardB 2; with_unfolding_all rfl; (with_unfolding_all (simp +decide (disch := first | decide | omega) only [go_sem, *]; rfl)); (simp +decide (disch := first | decide | omega) only [go_sem, *]; rfl); all_goals (intro hb; (fail_if_success (exact absurd hb (by decide))); (first | rw [dlt_t] at hb | rw [dlt_f] at hb | rw [dle_t] at hb | rw [dle_f] at hb | rw [Bool.not_eq_true'] at hb | rw [Bool.not_eq_false'] at hb | skip))) | (apply opsT.guardB 0; with_unfolding_all rfl; (with_unfolding_all (simp +decide (disch := first | decide | omega) only [go_sem, *]; rfl)); (simp +decide (disch := first | decide | omega) only [go_sem, *]; rfl); all_goals (intro hb; (fail_if_success (exact absurd hb (by decide))); (first | rw [dlt_t] at hb | rw [dlt_f] at hb | rw [dle_t] at hb | rw [dle_f] at hb | rw [Bool.not_eq_true'] at hb | rw [Bool.not_eq_false'] at hb | skip))))
  any_goals first
    | (refine congrArg HV.bool (?_ : _ = validGo b); symm; have h : ¬ (1 ≤ b.letters ∧ b.letters ≤ 64 ∧ b.next.length ≤ 3000) := by omega
       simp only [validGo, h, decide_false, Bool.false_and]; done)
    | (refine congrArg HV.bool (?_ : _ = validGo b); symm; simp only [validGo, hb, Bool.not_true, Bool.and_false, Bool.false_and]; done)
  rename_i g1 g2 g3 g4
  have hpos : validGo b = upto b.next.length fun i => decide (((nth b.next i).length : Int) = b.letters) && upto (nth b.next i).length fun a => risingM ordM (nth (nth b.next i) a) && !(nth (nth b.next i) a).any (badM b.next.length) := by
    have h : 1 ≤ b.letters ∧ b.letters ≤ 64 ∧ b.next.length ≤ 3000 := by omega
    simp only [validGo, h, and_self, decide_true, g4, Bool.not_false, hb, Bool.true_and]
  clear hb g4 cA cB
  refine WP.loop (fun s h => s 1 = .ep 0 0 0 ∧ s 3 = .ep 1 0 0 ∧ s 4 = .ep 2 0 0 ∧ s 38 = .sl false (mats b.next) ∧ s 39 = .int .i64 b.next.length ∧ (h = [.row 25 [buC b], .row 3 [[.int .i64 b.next.length]], .row 102 [[.fn (.func 63) [] [.ep 1 0 0]]]]) ∧ ∃ i : Nat, s 40 = .int .i64 i ∧ i ≤ b.next.length ∧ (upto i (fun i => decide (((nth b.next i).length : Int) = b.letters) && upto (nth b.next i).length fun a => risingM ordM (nth (nth b.next i) a) && !(nth (nth b.next i) a).any (badM b.next.length)) = true)) (fun s _ => b.next.length - (s 40).toInt.toNat) ⟨by ((simp +decide (disch := first | decide | omega) only [go_sem, *]; done)), by ((simp +decide (disch := first | decide | omega) only [go_sem, *]; done)), by ((simp +decide (disch := first | decide | omega) only [go_sem, *]; done)), by ((simp +decide (disch := first | decide | omega) only [go_sem, *]; done)), by ((simp +decide (disch := first | decide | omega) only [go_sem, *]; done)), by ((simp +decide (disch := first | decide | omega) only [go_sem, *]; done)), 0, by ((simp +decide (disch := first | decide | omega) only [go_sem, *]; rfl)), by omega, ?_⟩ ?_
  · rfl
  clear h0 s
  rintro s h ⟨h1, h3, h4, h38, h39, rfl, i, h40, hlei, hpre⟩
  repeat' (with_reducible first | refine WP.seq ?_ | refine WP.skip ?_ | refine WP.block ?_ | refine WP.exit ?_ | refine WP.ret ?_ | refine seqK_normal ?_ | refine seqK_exit ?_ | refine seqK_ret ?_ | refine loopK_exit ?_ | refine loopK_ret ?_ | refine blockK_here ?_ | refine blockK_ret ?_ | (apply WP.regionE; (with_unfolding_all (simp +decide (disch := first | decide | omega) only [go_sem, *]; rfl))) | (apply WP.condB; (simp +decide (disch := first | decide | omega) only [go_sem, *]; rfl); all_goals (intro hb; (first | rw [dlt_t] at hb | rw [dlt_f] at hb | rw [dle_t] at hb | rw [dle_f] at hb | rw [Bool.not_eq_true'] at hb | rw [Bool.not_eq_false'] at hb | skip))) | (apply fnPost_pure 0; (first | exact .inl rfl | exact .inr rfl); (simp +decide (disch := first | decide | omega) only [go_sem, *]; rfl); (simp +decide (disch := first | decide | omega) only [go_sem, *]; rfl)))
  · exact congrArg HV.bool (validGo_no i (by omega) (by simpa using hb)).symm
  · have hll : ((nth b.next i).length : Int) = b.letters := by simpa using hb
    refine WP.loop (fun s' h => s' 1 = .ep 0 0 0 ∧ s' 3 = .ep 1 0 0 ∧ s' 4 = .ep 2 0 0 ∧ s' 38 = .sl false (mats b.next) ∧ s' 39 = .int .i64 b.next.length ∧ s' 40 = .int .i64 i ∧ s' 49 = .sl false (rows (nth b.next i)) ∧ s' 50 = .int .i64 (nth b.next i).length ∧ (h = [.row 25 [buC b], .row 3 [[.int .i64 b.next.length]], .row 102 [[.fn (.func 63) [] [.ep 1 0 0]]]]) ∧ ∃ a : Nat, s' 51 = .int .i64 a ∧ a ≤ (nth b.next i).length ∧ (upto a (fun a => risingM ordM (nth (nth b.next i) a) && !(nth (nth b.next i) a).any (badM b.next.length)) = true)) (fun s' _ => (nth b.next i).length - (s' 51).toInt.toNat) ⟨by ((simp +decide (disch := first | decide | omega) only [go_sem, *]; done)), by ((simp +decide (disch := first | decide | omega) only [go_sem, *]; done)), by ((simp +decide (disch := first | decide | omega) only [go_sem, *]; done)), by ((simp +decide (disch := first | decide | omega) only [go_sem, *]; done)), by ((simp +decide (disch := first | decide | omega) only [go_sem, *]; done)), by ((simp +decide (disch := first | decide | omega) only [go_sem, *]; done)), by ((simp +decide (disch := first | decide | omega) only [go_sem, *]; done)), by ((simp +decide (disch := first | decide | omega) only [go_sem, *]; done)), by ((simp +decide (disch := first | decide | omega) only [go_sem, *]; done)), 0, by ((simp +decide (disch := first | decide | omega) only [go_sem, *]; rfl)), by omega, ?_⟩ ?_
    · rfl
    clear h1 h3 h4 h38 h39
    rintro s' h ⟨h1, h3, h4, h38, h39, h40, h49, h50, rfl, a, h51, hlea, hpre2⟩
    have cA := go_ContM (nth (nth b.next i) a) 70 [.ip [.fn (.func 63) [] [.ip [.int .i64 b.next.length]]]] (badM b.next.length) (by rfl) (by rfl) (fun x => go_badM x b.next.length)
    have cB := go_risingM (nth (nth b.next i) a) 68 _ (by rfl) go_order
    repeat' (with_reducible first | refine WP.seq ?_ | refine WP.skip ?_ | refine WP.block ?_ | refine WP.exit ?_ | refine WP.ret ?_ | refine seqK_normal ?_ | refine seqK_exit ?_ | refine seqK_ret ?_ | refine loopK_exit ?_ | refine loopK_ret ?_ | refine blockK_normal ?_ | refine blockK_here ?_ | refine blockK_ret ?_ | (apply WP.regionE; (with_unfolding_all (simp +decide (disch := first | decide | omega) only [go_sem, *]; rfl))) | (apply WP.regionX; with_unfolding_all rfl; (with_unfolding_all (simp +decide (disch := first | decide | omega) only [go_sem, *]; rfl))) | (apply opsT.skipG; (focus (simp +decide (disch := first | decide | omega) only [go_sem, *]; done))) | (apply opsT.call; (with_unfolding_all (simp +decide (disch := first | decide | omega) only [go_sem, *]; rfl)); (focus (simp +decide (disch := first | decide | omega) only [go_sem, *]; done)); (with_unfolding_all (simp +decide (disch := first | decide | omega) only [go_sem, *]; rfl))) | (apply opsT.callG; (focus (simp +decide (disch := first | decide | omega) only [go_sem, *]; done)); (with_unfolding_all (simp +decide (disch := first | decide | omega) only [go_sem, *]; rfl)); (focus (simp +decide (disch := first | decide | omega) only [go_sem, *]; done)); (with_unfolding_all (simp +decide (disch := first | decide | omega) only [go_sem, *]; rfl))) | (apply opsT.moreX; with_unfolding_all rfl; (with_unfolding_all (simp +decide (disch := first | decide | omega) only [go_sem, *]; rfl))) | (apply opsT.fin; (with_unfolding_all (simp +decide (disch := first | decide | omega) only [go_sem, *]; rfl))) | (apply CallsP.eq (cB); (focus (simp +decide (disch := first | decide | omega) only [go_sem, *]; done))) | (refine CallsP.lendE (cA) 6 ?_ ?_ ?_; (focus ((repeat (first | exact rdL_nil | apply rdL_cons | (apply rdV_free; first | (focus (simp +decide (disch := first | decide | omega) only [go_sem, *]; done)) | with_unfolding_all rfl) | (apply rdV_fn) | (apply rdV_ep0; (with_unfolding_all (simp +decide (disch := first | decide | omega) only [go_sem, *]; rfl))) | apply rdV_ip)); done)); with_unfolding_all rfl) | (apply WP.condT; (focus (simp +decide (disch := first | decide | omega) only [go_sem, *]; done))) | (apply WP.condB; (simp +decide (disch := first | decide | omega) only [go_sem, *]; rfl); all_goals (intro hb; (first | rw [dlt_t] at hb | rw [dlt_f] at hb | rw [dle_t] at hb | rw [dle_f] at hb | rw [Bool.not_eq_true'] at hb | rw [Bool.not_eq_false'] at hb | skip))) | (apply fnPost_pure 0; (first | exact .inl rfl | exact .inr rfl); (simp +decide (disch := first | decide | omega) only [go_sem, *]; rfl); (simp +decide (disch := first | decide | omega) only [go_sem, *]; rfl)) | (apply opsT.guardB 0; with_unfolding_all rfl; (with_unfolding_all (simp +decide (disch := first | decide | omega) only [go_sem, *]; rfl)); (simp +decide (disch := first | decide | omega) only [go_sem, *]; rfl); all_goals (intro hb; (fail_if_success (exact absurd hb (by decide))); (first | rw [dlt_t] at hb | rw [dlt_f] at hb | rw [dle_t] at hb | rw [dle_f] at hb | rw [Bool.not_eq_true'] at hb | rw [Bool.not_eq_false'] at hb | skip))))
    · exact congrArg HV.bool (validGo_no2 i a (by omega) (by omega) (by rw [hb]; rfl)).symm
    · exact congrArg HV.bool (validGo_no2 i a (by omega) (by omega) (by rw [hb, Bool.not_true, Bool.and_false])).symm
    · refine loopK_normal ⟨by ((simp +decide (disch := first | decide | omega) only [go_sem, *]; done)), by ((simp +decide (disch := first | decide | omega) only [go_sem, *]; done)), by ((simp +decide (disch := first | decide | omega) only [go_sem, *]; done)), by ((simp +decide (disch := first | decide | omega) only [go_sem, *]; done)), by ((simp +decide (disch := first | decide | omega) only [go_sem, *]; done)), by ((simp +decide (disch := first | decide | omega) only [go_sem, *]; done)), by ((simp +decide (disch := first | decide | omega) only [go_sem, *]; done)), by ((simp +decide (disch := first | decide | omega) only [go_sem, *]; done)), by ((simp +decide (disch := first | decide | omega) only [go_sem, *]; done)), a + 1, by ((simp +decide (disch := first | decide | omega) only [go_sem, *]; rfl)), by omega, ?_⟩ (by simp +decide (disch := first | decide | omega) only [go_sem, *]; omega)
      rename_i e1
      exact upto_succ hpre2 (by rw [hb, e1]; rfl)
    · refine loopK_normal ⟨by ((simp +decide (disch := first | decide | omega) only [go_sem, *]; done)), by ((simp +decide (disch := first | decide | omega) only [go_sem, *]; done)), by ((simp +decide (disch := first | decide | omega) only [go_sem, *]; done)), by ((simp +decide (disch := first | decide | omega) only [go_sem, *]; done)), by ((simp +decide (disch := first | decide | omega) only [go_sem, *]; done)), by ((simp +decide (disch := first | decide | omega) only [go_sem, *]; done)), i + 1, by ((simp +decide (disch := first | decide | omega) only [go_sem, *]; rfl)), by omega, ?_⟩ (by simp +decide (disch := first | decide | omega) only [go_sem, *]; omega)
      refine upto_succ hpre ?_
      simp only [hll, decide_true, Bool.true_and]
      exact upto_le hpre2 (by omega)
  · rw [hpos, upto_le hpre (by omega)]

theorem wrap_in {x y n : Int} (hn : n ≤ 3000) (hx : 0 ≤ x ∧ x < n) (hy : 0 ≤ y ∧ y < n) : IntKind.i64.wrap (x - y) = x - y := in64 (by omega) (by omega)

theorem badS_no {n q : Int} : badS n q = false ↔ 0 ≤ q ∧ q < n := by simp [badS]

theorem ordM_bef {x y : Mv} {n : Int} (hn : n ≤ 3000) (hx : 0 ≤ x.to ∧ x.to < n) (hy : 0 ≤ y.to ∧ y.to < n) : ordM x y < 0 ↔ bef x y = true := by
  unfold ordM bef
  rw [wrap_in hn hx hy]
  by_cases h : x.to = y.to
  · rw [if_pos h]
    have : ¬ x.to < y.to := by omega
    cases x.good <;> cases y.good <;> simp [h]
  · rw [if_neg h]
    simp [h]
    omega

theorem any_no {α : Type} [Inhabited α] {l : List α} {p : α → Bool} : l.any p = false ↔ ∀ i, i < l.length → p (nth l i) = false := by
  rw [List.any_eq_false]
  refine ⟨fun h i hi => by have := h _ (nth_mem hi); simpa using this, fun h x hx => ?_⟩
  obtain ⟨i, hi, rfl⟩ := List.getElem_of_mem hx
  have := h i hi
  rw [nth_eq hi] at this
  simp [this]

theorem validGo_eq (b : Bu) : validGo b = validB b := by
  by_cases h0 : 1 ≤ b.letters ∧ b.letters ≤ 64 ∧ b.next.length ≤ 3000
  · have hn : (b.next.length : Int) ≤ 3000 := by omega
    simp only [validGo, validB, h0, and_self, decide_true, Bool.true_and]
    have h1 : (!b.start.any (badS b.next.length) && risingI (fun x y => IntKind.i64.wrap (x - y)) b.start) = upto b.start.length (okS b.start b.next.length) := by
      rw [Bool.eq_iff_iff]
      simp only [Bool.and_eq_true, Bool.not_eq_true', any_no, badS_no, risingI, upto_iff, okS, decide_eq_true_eq]
      constructor
      · rintro ⟨g1, g2⟩ i hi
        refine ⟨g1 i hi, fun h => ?_⟩
        have := g2 i hi h
        rw [wrap_in hn (g1 (i - 1) (by omega)) (g1 i hi)] at this
        omega
      · intro g
        refine ⟨fun i hi => (g i hi).1, fun i hi h => ?_⟩
        rw [wrap_in hn (g (i - 1) (by omega)).1 (g i hi).1]
        have := (g i hi).2 h
        omega
    have h2 : ∀ l : List Mv, (risingM ordM l && !l.any (badM b.next.length)) = upto l.length (okM l b.next.length) := by
      intro l
      rw [Bool.eq_iff_iff]
      simp only [Bool.and_eq_true, Bool.not_eq_true', any_no, badM, badS_no, risingM, upto_iff, okM, decide_eq_true_eq]
      constructor
      · rintro ⟨g2, g1⟩ i hi
        exact ⟨g1 i hi, fun h => (ordM_bef hn (g1 (i - 1) (by omega)) (g1 i hi)).1 (g2 i hi h)⟩
      · intro g
        exact ⟨fun i hi h => (ordM_bef hn (g (i - 1) (by omega)).1 (g i hi).1).2 ((g i hi).2 h), fun i hi => (g i hi).1⟩
    rw [h1]
    congr 1
    refine upto_congr fun i hi => ?_
    unfold okRow
    congr 1
    exact upto_congr fun a ha => h2 _
  · simp only [validGo, validB, h0, decide_false, Bool.false_and]

theorem go_BValid (b : Bu) : CallsP pg 47 [.agg (buC b)] (fun r => r = .bool (validB b)) := by
  have := go_Valid0 b
  rwa [validGo_eq] at this

end Go.Proofs.Ytonhbeapffiibaa

