/-
  Chapter 16: the data; what the reference's small functions compute. Of capacities nothing is said: contracts are told for values without them (HV.dim).
-/
import Derived.Test.YtonhbeapffiibaaFacts
namespace Go.Proofs.Ytonhbeapffiibaa
open Go.HL

structure Mv where
  to : Int
  good : Bool
deriving Inhabited

def mvC (m : Mv) : List HV := [.int .i64 m.to, .bool m.good]
def mvs (l : List Mv) : List (List HV) := l.map mvC
def rows (l : List (List Mv)) : List (List HV) := l.map fun r => [.sl false (mvs r)]
def mats (l : List (List (List Mv))) : List (List HV) := l.map fun m => [.sl false (rows m)]

/-- An automaton. -/
structure Bu where
  letters : Int
  start : List Int
  next : List (List (List Mv))

def buC (b : Bu) : List HV := [.int .i64 b.letters, .sl false (ints b.start), .sl false (mats b.next)]

/-- A node. -/
structure Nd where
  name : Int
  par : Int
  set : List Int
deriving DecidableEq, Inhabited

def ndC (x : Nd) : List HV := [.int .i64 x.name, .int .i64 x.par, .sl false (ints x.set)]
def nds (l : List Nd) : List (List HV) := l.map ndC

theorem nds_length (l : List Nd) : (nds l).length = l.length := by simp [nds]
theorem nds_get {l : List Nd} {i : Nat} (h : i < l.length) : (nds l)[i]? = some (ndC l[i]) := by simp [nds, h]
theorem nds_append (a b : List Nd) : nds a ++ nds b = nds (a ++ b) := by simp [nds]
theorem mvs_length (l : List Mv) : (mvs l).length = l.length := by simp [mvs]
theorem mvs_get {l : List Mv} {i : Nat} (h : i < l.length) : (mvs l)[i]? = some (mvC l[i]) := by simp [mvs, h]
theorem rows_length (l : List (List Mv)) : (rows l).length = l.length := by simp [rows]
theorem rows_get {l : List (List Mv)} {i : Nat} (h : i < l.length) : (rows l)[i]? = some [.sl false (mvs l[i])] := by simp [rows, h]
theorem mats_length (l : List (List (List Mv))) : (mats l).length = l.length := by simp [mats]
theorem mats_get {l : List (List (List Mv))} {i : Nat} (h : i < l.length) : (mats l)[i]? = some [.sl false (rows l[i])] := by simp [mats, h]
theorem ndC_length (x : Nd) : (ndC x).length = 3 := rfl
theorem ndC_0 (x : Nd) : (ndC x)[0]? = some (.int .i64 x.name) := rfl
theorem ndC_1 (x : Nd) : (ndC x)[1]? = some (.int .i64 x.par) := rfl
theorem ndC_2 (x : Nd) : (ndC x)[2]? = some (.sl false (ints x.set)) := rfl
theorem ndC_drop0 (x : Nd) : (ndC x).drop 0 = ndC x := rfl
theorem ndC_drop1 (x : Nd) : (ndC x).drop 1 = [.int .i64 x.par, .sl false (ints x.set)] := rfl
theorem ndC_drop2 (x : Nd) : (ndC x).drop 2 = [.sl false (ints x.set)] := rfl
theorem ndC_take (x : Nd) : (ndC x).take 3 = ndC x := rfl
theorem ndC_one (x : Nd) : (ndC x).all HV.one = true := rfl
theorem ndC_free (x : Nd) : HV.freeL (ndC x) = true := by simp [ndC, HV.freeL, HV.free, ints_free]
theorem nds_free (l : List Nd) : HV.freeLL (nds l) = true := by
  rw [freeLL_all, List.all_eq_true]
  intro cs h
  simp only [nds, List.mem_map] at h
  obtain ⟨x, _, rfl⟩ := h
  have := ndC_free x
  rw [freeL_all] at this
  simpa using this
theorem dim_ints (l : List Int) : HV.dimLL (ints l) = ints l := by
  rw [dimLL_map]
  simp [ints, HV.dim]
theorem dim_nds (l : List Nd) : HV.dimLL (nds l) = nds l := by
  rw [dimLL_map]
  simp [nds, ndC, HV.dim, dim_ints]
theorem nds_nth {l : List Nd} {k : Nat} (h : k < l.length) : (nds l)[k]? = some (ndC (nth l k)) := nth_map _ h
theorem mvs_nth {l : List Mv} {k : Nat} (h : k < l.length) : (mvs l)[k]? = some (mvC (nth l k)) := nth_map _ h
theorem rows_nth {l : List (List Mv)} {k : Nat} (h : k < l.length) : (rows l)[k]? = some [.sl false (mvs (nth l k))] := nth_map (fun r => [HV.sl false (mvs r)]) h
theorem mats_nth {l : List (List (List Mv))} {k : Nat} (h : k < l.length) : (mats l)[k]? = some [.sl false (rows (nth l k))] := nth_map (fun r => [HV.sl false (rows r)]) h
attribute [go_sem] nds_nth mvs_nth rows_nth mats_nth
attribute [go_sem] nds_length mvs_length rows_length mats_length ndC_length ndC_0 ndC_1 ndC_2 ndC_drop0 ndC_drop1 ndC_drop2 ndC_take ndC_one ndC_free nds_free

theorem ref_In (l : List Int) (n : Int) : CallsP pg 26 [.sl false (ints l), .int .i64 n] (fun r => r = .bool (l.contains n)) := by
  refine CallsP.of_wpN [] 18 fn26 rfl rfl ?_
  refine WP.abs (fun e => e 0 = .sl false (ints l) ∧ e 1 = .int .i64 n) ⟨rfl, rfl⟩ ?_
  rintro e ⟨h0, h1⟩
  refine WP.slLen h0 fun hlen => ?_
  rw [ints_length, maxLen] at hlen
  repeat' (with_reducible first | refine WP.seq ?_ | refine WP.block ?_ | refine seqK_normal ?_ | (apply WP.regionE; (with_unfolding_all (simp +decide (disch := first | decide | omega) only [go_sem, *]; rfl))))
  refine WP.loop (fun e h => e 0 = .sl false (ints l) ∧ e 1 = .int .i64 n ∧ h = [] ∧ ∃ i : Nat, e 5 = .int .i64 i ∧ i ≤ l.length ∧ ∀ j, j < i → l[j]? ≠ some n) (fun e _ => l.length - (e 5).toInt.toNat) ⟨?_, ?_, rfl, 0, ?_, ?_, ?_⟩ ?_
  · simp +decide (disch := first | decide | omega) only [go_sem, *]
  · simp +decide (disch := first | decide | omega) only [go_sem, *]
  · simp +decide (disch := first | decide | omega) only [go_sem, *]; rfl
  · omega
  · intro j hj; omega
  clear h0 h1 e
  rintro e h ⟨h0, h1, rfl, i, h5, hi, hpre⟩
  repeat' (with_reducible first | refine WP.seq ?_ | refine seqK_normal ?_ | (apply WP.regionE; (with_unfolding_all (simp +decide (disch := first | decide | omega) only [go_sem, *]; rfl))))
  refine WP.condB (by simp +decide (disch := first | decide | omega) only [go_sem, *]; rfl) (fun hb => ?_) (fun hb => ?_)
  · have hlt : i < l.length := by simpa using hb
    have hg := ints_get hlt
    repeat' (with_reducible first | refine WP.seq ?_ | refine WP.skip ?_ | refine WP.block ?_ | refine seqK_normal ?_ | (apply WP.regionE; (with_unfolding_all (simp +decide (disch := first | decide | omega) only [go_sem, *]; rfl))))
    refine WP.condB (by simp +decide (disch := first | decide | omega) only [go_sem, *]; rfl) (fun hb => ?_) (fun hb => ?_)
    · have e1 : l[i] = n := by simpa using hb
      repeat' (with_reducible first | refine WP.seq ?_ | refine WP.ret ?_ | refine seqK_normal ?_ | refine seqK_ret ?_ | refine loopK_ret ?_ | refine blockK_ret ?_ | (apply WP.regionE; (with_unfolding_all (simp +decide (disch := first | decide | omega) only [go_sem, *]; rfl))))
      refine fnPost_pure 0 (by first | exact .inl rfl | exact .inr rfl) (by simp +decide (disch := first | decide | omega) only [go_sem, *]; rfl) (by simp +decide (disch := first | decide | omega) only [go_sem, *]; rfl) ?_
      simp [← e1]
    · repeat' (with_reducible first | refine WP.skip ?_ | refine seqK_normal ?_ | refine blockK_normal ?_ | (apply WP.regionE; (with_unfolding_all (simp +decide (disch := first | decide | omega) only [go_sem, *]; rfl))))
      refine loopK_normal ⟨?_, ?_, rfl, i + 1, ?_, ?_, ?_⟩ ?_
      · simp +decide (disch := first | decide | omega) only [go_sem, *]
      · simp +decide (disch := first | decide | omega) only [go_sem, *]
      · simp +decide (disch := first | decide | omega) only [go_sem, *]; rfl
      · omega
      · intro j hj
        by_cases hji : j = i
        · subst hji; simpa [hlt] using hb
        · exact hpre j (by omega)
      · simp +decide (disch := first | decide | omega) only [go_sem, *]; omega
  · have hge : l.length ≤ i := by simpa using hb
    repeat' (with_reducible first | refine WP.seq ?_ | refine WP.exit ?_ | refine WP.ret ?_ | refine seqK_normal ?_ | refine seqK_exit ?_ | refine loopK_exit ?_ | refine blockK_here ?_ | (apply WP.regionE; (with_unfolding_all (simp +decide (disch := first | decide | omega) only [go_sem, *]; rfl))))
    refine fnPost_pure 0 (by first | exact .inl rfl | exact .inr rfl) (by simp +decide (disch := first | decide | omega) only [go_sem, *]; rfl) (by simp +decide (disch := first | decide | omega) only [go_sem, *]; rfl) ?_
    congr 1
    symm
    rw [List.contains_eq_mem, decide_eq_false_iff_not]
    intro hm
    obtain ⟨j, hj, e⟩ := List.getElem_of_mem hm
    exact hpre j (by omega) (by rw [List.getElem?_eq_getElem hj, e])

theorem ref_Ints (a b : List Int) : CallsP pg 23 [.sl false (ints a), .sl false (ints b)] (fun r => r = .bool (decide (a = b))) := by
  refine CallsP.of_wpN [] 26 fn23 rfl rfl ?_
  refine WP.abs (fun s => s 0 = .sl false (ints a) ∧ s 1 = .sl false (ints b)) ⟨rfl, rfl⟩ ?_
  rintro s ⟨h0, h1⟩
  refine WP.slLen h0 fun hlen => ?_
  rw [ints_length, maxLen] at hlen
  repeat' (with_reducible first | refine WP.seq ?_ | refine seqK_normal ?_ | (apply WP.regionE; (with_unfolding_all (simp +decide (disch := first | decide | omega) only [go_sem, *]; rfl))))
  refine WP.condB (by simp +decide (disch := first | decide | omega) only [go_sem, *]; rfl) (fun hb => ?_) (fun hb => ?_)
  · repeat' (with_reducible first | refine WP.seq ?_ | refine WP.ret ?_ | refine seqK_normal ?_ | refine seqK_ret ?_ | (apply WP.regionE; (with_unfolding_all (simp +decide (disch := first | decide | omega) only [go_sem, *]; rfl))))
    refine fnPost_pure 0 (by first | exact .inl rfl | exact .inr rfl) (by simp +decide (disch := first | decide | omega) only [go_sem, *]; rfl) (by simp +decide (disch := first | decide | omega) only [go_sem, *]; rfl) ?_
    have : a ≠ b := fun e => by subst e; simp at hb
    simp [this]
  have hab : a.length = b.length := by simp at hb; omega
  repeat' (with_reducible first | refine WP.seq ?_ | refine WP.skip ?_ | refine WP.block ?_ | refine seqK_normal ?_ | (apply WP.regionE; (with_unfolding_all (simp +decide (disch := first | decide | omega) only [go_sem, *]; rfl))))
  refine WP.loop (fun e h => e 0 = .sl false (ints a) ∧ e 1 = .sl false (ints b) ∧ h = [] ∧ ∃ i : Nat, e 5 = .int .i64 i ∧ i ≤ a.length ∧ ∀ j, j < i → a[j]? = b[j]?) (fun e _ => a.length - (e 5).toInt.toNat) ⟨?_, ?_, rfl, 0, ?_, ?_, ?_⟩ ?_
  · simp +decide (disch := first | decide | omega) only [go_sem, *]
  · simp +decide (disch := first | decide | omega) only [go_sem, *]
  · simp +decide (disch := first | decide | omega) only [go_sem, *]; rfl
  · omega
  · intro j hj; omega
  clear h0 h1 s hb
  rintro s h ⟨h0, h1, rfl, i, h5, hi, hpre⟩
  repeat' (with_reducible first | refine WP.seq ?_ | refine seqK_normal ?_ | (apply WP.regionE; (with_unfolding_all (simp +decide (disch := first | decide | omega) only [go_sem, *]; rfl))))
  refine WP.condB (by simp +decide (disch := first | decide | omega) only [go_sem, *]; rfl) (fun hb => ?_) (fun hb => ?_)
  · have hlt' : i < b.length := by simpa using hb
    have hlt : i < a.length := by omega
    have hga := ints_get hlt
    have hgb := ints_get hlt'
    repeat' (with_reducible first | refine WP.seq ?_ | refine WP.skip ?_ | refine WP.block ?_ | refine seqK_normal ?_ | (apply WP.regionV1 mixed; with_unfolding_all rfl; with_unfolding_all rfl; (with_unfolding_all (simp +decide (disch := first | decide | omega) only [go_sem, *]; rfl))))
    refine WP.condB (by simp +decide (disch := first | decide | omega) only [go_sem, *]; rfl) (fun hb => ?_) (fun hb => ?_)
    · repeat' (with_reducible first | refine WP.seq ?_ | refine WP.ret ?_ | refine seqK_normal ?_ | refine seqK_ret ?_ | refine loopK_ret ?_ | refine blockK_ret ?_ | (apply WP.regionE; (with_unfolding_all (simp +decide (disch := first | decide | omega) only [go_sem, *]; rfl))))
      refine fnPost_pure 0 (by first | exact .inl rfl | exact .inr rfl) (by simp +decide (disch := first | decide | omega) only [go_sem, *]; rfl) (by simp +decide (disch := first | decide | omega) only [go_sem, *]; rfl) ?_
      have : a ≠ b := fun e => by subst e; simp at hb
      simp [this]
    · have heq : a[i] = b[i] := by simpa using hb
      repeat' (with_reducible first | refine WP.skip ?_ | refine seqK_normal ?_ | refine blockK_normal ?_ | (apply WP.regionE; (with_unfolding_all (simp +decide (disch := first | decide | omega) only [go_sem, *]; rfl))))
      refine loopK_normal ⟨?_, ?_, rfl, i + 1, ?_, ?_, ?_⟩ ?_
      · simp +decide (disch := first | decide | omega) only [go_sem, *]
      · simp +decide (disch := first | decide | omega) only [go_sem, *]
      · simp +decide (disch := first | decide | omega) only [go_sem, *]; rfl
      · omega
      · intro j hj
        by_cases hji : j = i
        · subst hji; simp [hlt, hlt', heq]
        · exact hpre j (by omega)
      · simp +decide (disch := first | decide | omega) only [go_sem, *]; omega
  · have hge : b.length ≤ i := by simpa using hb
    repeat' (with_reducible first | refine WP.seq ?_ | refine WP.exit ?_ | refine WP.ret ?_ | refine seqK_normal ?_ | refine seqK_exit ?_ | refine loopK_exit ?_ | refine blockK_here ?_ | (apply WP.regionE; (with_unfolding_all (simp +decide (disch := first | decide | omega) only [go_sem, *]; rfl))))
    refine fnPost_pure 0 (by first | exact .inl rfl | exact .inr rfl) (by simp +decide (disch := first | decide | omega) only [go_sem, *]; rfl) (by simp +decide (disch := first | decide | omega) only [go_sem, *]; rfl) ?_
    have : a = b := by
      apply List.ext_getElem?
      intro j
      by_cases hj : j < i
      · exact hpre j hj
      · rw [List.getElem?_eq_none (by omega), List.getElem?_eq_none (by omega)]
    simp [this]

/-- At most 20 nodes of at most 20 states. -/
def small (l : List Nd) : Bool := decide (l.length ≤ 20) && l.all fun x => decide (x.set.length ≤ 20)

theorem ref_Small (l : List Nd) : CallsP pg 11 [.sl false (nds l)] (fun r => r = .bool (small l)) := by
  refine CallsP.of_wpN [] 20 fn11 rfl rfl ?_
  refine WP.abs (fun s => s 0 = .sl false (nds l)) rfl ?_
  rintro s h0
  refine WP.slLen h0 fun hlen => ?_
  rw [nds_length, maxLen] at hlen
  repeat' (with_reducible first | refine WP.seq ?_ | refine seqK_normal ?_ | (apply WP.regionE; (with_unfolding_all (simp +decide (disch := first | decide | omega) only [go_sem, *]; rfl))))
  refine WP.condB (by simp +decide (disch := first | decide | omega) only [go_sem, *]; rfl) (fun hb => ?_) (fun hb => ?_)
  · repeat' (with_reducible first | refine WP.seq ?_ | refine WP.ret ?_ | refine seqK_normal ?_ | refine seqK_ret ?_ | (apply WP.regionE; (with_unfolding_all (simp +decide (disch := first | decide | omega) only [go_sem, *]; rfl))))
    refine fnPost_pure 0 (by first | exact .inl rfl | exact .inr rfl) (by simp +decide (disch := first | decide | omega) only [go_sem, *]; rfl) (by simp +decide (disch := first | decide | omega) only [go_sem, *]; rfl) ?_
    have : ¬ l.length ≤ 20 := by simp at hb; omega
    simp [small, this]
  repeat' (with_reducible first | refine WP.seq ?_ | refine WP.skip ?_ | refine WP.block ?_ | refine seqK_normal ?_ | (apply WP.regionE; (with_unfolding_all (simp +decide (disch := first | decide | omega) only [go_sem, *]; rfl))))
  refine WP.loop (fun e h => e 0 = .sl false (nds l) ∧ h = [] ∧ ∃ i : Nat, e 3 = .int .i64 i ∧ i ≤ l.length ∧ (l.take i).all (fun x => decide (x.set.length ≤ 20)) = true) (fun e _ => l.length - (e 3).toInt.toNat) ⟨?_, rfl, 0, ?_, ?_, ?_⟩ ?_
  · simp +decide (disch := first | decide | omega) only [go_sem, *]
  · simp +decide (disch := first | decide | omega) only [go_sem, *]; rfl
  · omega
  · rfl
  have hl20 : l.length ≤ 20 := by simp at hb; omega
  clear h0 s hb
  rintro s h ⟨h0, rfl, i, h3, hi, hpre⟩
  repeat' (with_reducible first | refine WP.seq ?_ | refine seqK_normal ?_ | (apply WP.regionE; (with_unfolding_all (simp +decide (disch := first | decide | omega) only [go_sem, *]; rfl))))
  refine WP.condB (by simp +decide (disch := first | decide | omega) only [go_sem, *]; rfl) (fun hb => ?_) (fun hb => ?_)
  · have hlt : i < l.length := by simpa using hb
    have hg := nds_get hlt
    repeat' (with_reducible first | refine WP.seq ?_ | refine WP.skip ?_ | refine WP.block ?_ | refine seqK_normal ?_ | (apply WP.regionE; (with_unfolding_all (simp +decide (disch := first | decide | omega) only [go_sem, *]; rfl))))
    refine WP.condB (by simp +decide (disch := first | decide | omega) only [go_sem, *]; rfl) (fun hb => ?_) (fun hb => ?_)
    · have h2 : ¬ l[i].set.length ≤ 20 := by simp at hb; omega
      repeat' (with_reducible first | refine WP.seq ?_ | refine WP.ret ?_ | refine seqK_normal ?_ | refine seqK_ret ?_ | refine loopK_ret ?_ | refine blockK_ret ?_ | (apply WP.regionE; (with_unfolding_all (simp +decide (disch := first | decide | omega) only [go_sem, *]; rfl))))
      refine fnPost_pure 0 (by first | exact .inl rfl | exact .inr rfl) (by simp +decide (disch := first | decide | omega) only [go_sem, *]; rfl) (by simp +decide (disch := first | decide | omega) only [go_sem, *]; rfl) ?_
      have : (l.all fun x => decide (x.set.length ≤ 20)) = false := by
        rw [List.all_eq_false]
        exact ⟨l[i], List.getElem_mem hlt, by simpa using h2⟩
      simp [small, this]
    · have h2 : l[i].set.length ≤ 20 := by simp at hb; omega
      repeat' (with_reducible first | refine WP.skip ?_ | refine seqK_normal ?_ | refine blockK_normal ?_ | (apply WP.regionE; (with_unfolding_all (simp +decide (disch := first | decide | omega) only [go_sem, *]; rfl))))
      refine loopK_normal ⟨?_, rfl, i + 1, ?_, ?_, ?_⟩ ?_
      · simp +decide (disch := first | decide | omega) only [go_sem, *]
      · simp +decide (disch := first | decide | omega) only [go_sem, *]; rfl
      · omega
      · rw [List.take_succ_eq_append_getElem hlt, List.all_append, hpre]; simp [h2]
      · simp +decide (disch := first | decide | omega) only [go_sem, *]; omega
  · have hge : l.length ≤ i := by simpa using hb
    repeat' (with_reducible first | refine WP.seq ?_ | refine WP.exit ?_ | refine WP.ret ?_ | refine seqK_normal ?_ | refine seqK_exit ?_ | refine loopK_exit ?_ | refine blockK_here ?_ | (apply WP.regionE; (with_unfolding_all (simp +decide (disch := first | decide | omega) only [go_sem, *]; rfl))))
    refine fnPost_pure 0 (by first | exact .inl rfl | exact .inr rfl) (by simp +decide (disch := first | decide | omega) only [go_sem, *]; rfl) (by simp +decide (disch := first | decide | omega) only [go_sem, *]; rfl) ?_
    rw [List.take_of_length_le hge] at hpre
    simp [small, hpre, hl20]

def place (l : List Nd) (n : Int) : Int := match l.findIdx? (fun x => decide (x.name = n)) with | some i => i | none => -1

theorem ref_place (l : List Nd) (n : Int) : CallsP pg 25 [.sl false (nds l), .int .i64 n] (fun r => r = .int .i64 (place l n)) := by
  refine CallsP.of_wpN [] 20 fn25 rfl rfl ?_
  refine WP.abs (fun e => e 0 = .sl false (nds l) ∧ e 1 = .int .i64 n) ⟨rfl, rfl⟩ ?_
  rintro e ⟨h0, h1⟩
  refine WP.slLen h0 fun hlen => ?_
  rw [nds_length, maxLen] at hlen
  repeat' (with_reducible first | refine WP.seq ?_ | refine WP.block ?_ | refine seqK_normal ?_ | (apply WP.regionE; (with_unfolding_all (simp +decide (disch := first | decide | omega) only [go_sem, *]; rfl))))
  refine WP.loop (fun e h => e 0 = .sl false (nds l) ∧ e 1 = .int .i64 n ∧ h = [] ∧ ∃ i : Nat, e 5 = .int .i64 i ∧ i ≤ l.length ∧ ∀ j (hj : j < l.length), j < i → l[j].name ≠ n) (fun e _ => l.length - (e 5).toInt.toNat) ⟨?_, ?_, rfl, 0, ?_, ?_, ?_⟩ ?_
  · simp +decide (disch := first | decide | omega) only [go_sem, *]
  · simp +decide (disch := first | decide | omega) only [go_sem, *]
  · simp +decide (disch := first | decide | omega) only [go_sem, *]; rfl
  · omega
  · intro j _ hj; omega
  clear h0 h1 e
  rintro e h ⟨h0, h1, rfl, i, h5, hi, hpre⟩
  repeat' (with_reducible first | refine WP.seq ?_ | refine seqK_normal ?_ | (apply WP.regionE; (with_unfolding_all (simp +decide (disch := first | decide | omega) only [go_sem, *]; rfl))))
  refine WP.condB (by simp +decide (disch := first | decide | omega) only [go_sem, *]; rfl) (fun hb => ?_) (fun hb => ?_)
  · have hlt : i < l.length := by simpa using hb
    have hg := nds_get hlt
    repeat' (with_reducible first | refine WP.seq ?_ | refine WP.skip ?_ | refine WP.block ?_ | refine seqK_normal ?_ | (apply WP.regionE; (with_unfolding_all (simp +decide (disch := first | decide | omega) only [go_sem, *]; rfl))))
    refine WP.condB (by simp +decide (disch := first | decide | omega) only [go_sem, *]; rfl) (fun hb => ?_) (fun hb => ?_)
    · have e1 : l[i].name = n := by simpa using hb
      repeat' (with_reducible first | refine WP.seq ?_ | refine WP.ret ?_ | refine seqK_normal ?_ | refine seqK_ret ?_ | refine loopK_ret ?_ | refine blockK_ret ?_ | (apply WP.regionE; (with_unfolding_all (simp +decide (disch := first | decide | omega) only [go_sem, *]; rfl))))
      refine fnPost_pure 0 (by first | exact .inl rfl | exact .inr rfl) (by simp +decide (disch := first | decide | omega) only [go_sem, *]; rfl) (by simp +decide (disch := first | decide | omega) only [go_sem, *]; rfl) ?_
      have : l.findIdx? (fun x => decide (x.name = n)) = some i := by
        rw [List.findIdx?_eq_some_iff_getElem]
        exact ⟨hlt, by simpa using e1, fun j hj => by simpa using hpre j (by omega) hj⟩
      simp [place, this]
    · have e1 : ¬ l[i].name = n := by simpa using hb
      repeat' (with_reducible first | refine WP.skip ?_ | refine seqK_normal ?_ | refine blockK_normal ?_ | (apply WP.regionE; (with_unfolding_all (simp +decide (disch := first | decide | omega) only [go_sem, *]; rfl))))
      refine loopK_normal ⟨?_, ?_, rfl, i + 1, ?_, ?_, ?_⟩ ?_
      · simp +decide (disch := first | decide | omega) only [go_sem, *]
      · simp +decide (disch := first | decide | omega) only [go_sem, *]
      · simp +decide (disch := first | decide | omega) only [go_sem, *]; rfl
      · omega
      · intro j hj hj1
        by_cases hji : j = i
        · subst hji; exact e1
        · exact hpre j hj (by omega)
      · simp +decide (disch := first | decide | omega) only [go_sem, *]; omega
  · have hge : l.length ≤ i := by simpa using hb
    repeat' (with_reducible first | refine WP.seq ?_ | refine WP.exit ?_ | refine WP.ret ?_ | refine seqK_normal ?_ | refine seqK_exit ?_ | refine loopK_exit ?_ | refine blockK_here ?_ | (apply WP.regionE; (with_unfolding_all (simp +decide (disch := first | decide | omega) only [go_sem, *]; rfl))))
    refine fnPost_pure 0 (by first | exact .inl rfl | exact .inr rfl) (by simp +decide (disch := first | decide | omega) only [go_sem, *]; rfl) (by simp +decide (disch := first | decide | omega) only [go_sem, *]; rfl) ?_
    have : l.findIdx? (fun x => decide (x.name = n)) = none := by
      rw [List.findIdx?_eq_none_iff]
      intro x hx
      obtain ⟨j, hj, rfl⟩ := List.getElem_of_mem hx
      simpa using hpre j hj (by omega)
    simp [place, this]

end Go.Proofs.Ytonhbeapffiibaa

