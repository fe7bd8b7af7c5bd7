/-
  Chapter 16: sets of numbers as maps; package tree: of, within, reached, list.
-/
import Derived.Test.YtonhbeapffiibaaTreA
import Derived.Test.YtonhbeapffiibaaHlZj
namespace Go.Proofs.Ytonhbeapffiibaa
open Go.HL

def SetAt (h : Hp) (id : Nat) (p : Int → Bool) : Prop := MapAt h id (.int .i64) (setP p)

theorem ma68' : mapH pg.P 68 = some (3, 4, .int .i64) := by kernel_rfl

theorem SetAt.put {h : Hp} {id : Nat} {p : Int → Bool} (hs : SetAt h id p) (x : Int) : ∃ o, mapUpdateH pg.P h 68 (.mp id) (.int .i64 x) (.bool true) = some { x := .und, ws := [(id, o)] } ∧ ∀ h' : Hp, h'[id]? = some o → SetAt h' id fun t => p t || decide (t = x) := by
  obtain ⟨o, h1, h2⟩ := MapAt.put (v := .bool true) hs ma68' (k := .int .i64 x) rfl
  refine ⟨o, h1, fun h' hh' => (h2 h' hh').congr fun k hk => ?_⟩
  obtain ⟨n, rfl⟩ := keyInt hk
  simp only [sameH, setP, decide_eq_true_eq]
  by_cases e : x = n
  · subst e; simp
  · have e' : ¬ n = x := fun h => e h.symm
    simp [e, e']

theorem SetAt.del {h : Hp} {id : Nat} {p : Int → Bool} (hs : SetAt h id p) (x : Int) : ∃ o, deleteH pg.P h 68 (.mp id) (.int .i64 x) = some { x := .und, ws := [(id, o)] } ∧ ∀ h' : Hp, h'[id]? = some o → SetAt h' id fun t => p t && !decide (t = x) := by
  obtain ⟨o, h1, h2⟩ := MapAt.del hs ma68' (k := .int .i64 x) rfl
  refine ⟨o, h1, fun h' hh' => (h2 h' hh').congr fun k hk => ?_⟩
  obtain ⟨n, rfl⟩ := keyInt hk
  simp only [sameH, setP, decide_eq_true_eq]
  by_cases e : x = n
  · subst e; simp
  · have e' : ¬ n = x := fun h => e h.symm
    simp [e, e']

theorem SetAt.look {h : Hp} {id : Nat} {p : Int → Bool} (hs : SetAt h id p) (x : Int) : lookupH pg.P h 68 (.mp id) (.int .i64 x) false = some (.bool (p x)) := by
  rw [MapAt.look hs ma68' ze4 rfl]
  simp only [setP]
  cases p x <;> rfl

theorem SetAt.congr {h : Hp} {id : Nat} {p q : Int → Bool} (hs : SetAt h id p) (he : ∀ t, p t = q t) : SetAt h id q := by
  have : p = q := funext he
  rwa [this] at hs

theorem SetAt.keep {h h' : Hp} {id : Nat} {p : Int → Bool} (hs : SetAt h id p) (he : h'[id]? = h[id]?) : SetAt h' id p := MapAt.keep hs he
theorem SetAt.app {h : Hp} {id : Nat} {p : Int → Bool} (hs : SetAt h id p) (t : Hp) : SetAt (h ++ t) id p := hs.keep (List.getElem?_append_left hs.lt)

theorem SetAt.nil {h : Hp} : SetAt (h ++ [.map [] 0]) h.length fun _ => false := by
  refine MapAt.congr (m := fun _ => none) ⟨[], 0, by simp, .nil _ _⟩ fun k hk => ?_
  obtain ⟨n, rfl⟩ := keyInt hk
  simp [setP]

/-- How many elements a set has. -/
theorem SetAt.len {h : Hp} {id : Nat} {p : Int → Bool} (hs : SetAt h id p) {l : List Int} (hd : l.Nodup) (he : ∀ x, p x = true ↔ x ∈ l) : lenH pg.P h 68 (.mp id) = some (.int .i64 l.length) := by
  obtain ⟨kvs, clock, h1, h2⟩ := hs
  simp only [lenH, un68, h1]
  have hperm : (kvs.map (·.1)).length = (l.map (HV.int .i64)).length := by
    apply Nat.le_antisymm
    · refine nodup_le ?_ fun k hk => ?_
      · have := h2.diff
        rw [List.Nodup, List.pairwise_map]
        refine this.imp_of_mem fun {a b} ha hb hab e => ?_
        rw [e, (sameK_iff (h2.keys b hb) (h2.keys b hb)).2 rfl] at hab
        cases hab
      · obtain ⟨y, hy, rfl⟩ := List.mem_map.1 hk
        have hk := h2.keys y hy
        have hm := (h2.mem hk (v := y.2.1)).2 ⟨y.2.2, hy⟩
        obtain ⟨n, hn⟩ := keyInt hk
        rw [hn] at hm ⊢
        simp only [setP] at hm
        split at hm
        · rename_i hp
          exact List.mem_map.2 ⟨n, (he n).1 hp, rfl⟩
        · cases hm
    · refine nodup_le ?_ fun k hk => ?_
      · rw [List.Nodup, List.pairwise_map]
        exact hd.imp fun hab e => hab (by injection e)
      · obtain ⟨n, hn, rfl⟩ := List.mem_map.1 hk
        obtain ⟨s, hs⟩ := (h2.mem (k := .int .i64 n) rfl (v := .bool true)).1 (by simp [setP, (he n).2 hn])
        exact List.mem_map.2 ⟨_, hs, rfl⟩
  simp only [List.length_map] at hperm
  rw [hperm]

def memP (l : List Int) : Int → Bool := fun t => l.contains t

theorem tree_of (l : List Int) (h0 : Hp) : CallsH pg 49 [.sl false (ints l)] h0 (fun r h' => r = .mp h0.length ∧ ∃ o, h' = h0 ++ [o] ∧ SetAt h' h0.length (memP l)) := by
  refine CallsH.of_wpN [] 17 fn49 rfl rfl ?_
  refine WP.abs (fun s => s 0 = .sl false (ints l)) rfl ?_
  rintro s h0'
  refine WP.slLen h0' fun hlen => ?_
  rw [ints_length, maxLen] at hlen
  repeat' (with_reducible first | refine WP.seq ?_ | refine WP.block ?_ | refine seqK_normal ?_ | (apply WP.regionE; (with_unfolding_all (simp +decide (disch := first | decide | omega) only [go_sem, *]; rfl))))
  refine WP.loop (fun s h => s 3 = .mp h0.length ∧ s 7 = .sl false (ints l) ∧ s 8 = .int .i64 l.length ∧ (True) ∧ ∃ i : Nat, s 9 = .int .i64 i ∧ i ≤ l.length ∧ (∃ o, h = h0 ++ [o] ∧ SetAt h h0.length (memP (l.take i)))) (fun s _ => l.length - (s 9).toInt.toNat) ⟨by ((simp +decide (disch := first | decide | omega) only [go_sem, *]; done)), by ((simp +decide (disch := first | decide | omega) only [go_sem, *]; done)), by ((simp +decide (disch := first | decide | omega) only [go_sem, *]; done)), trivial, 0, by ((simp +decide (disch := first | decide | omega) only [go_sem, *]; rfl)), by omega, ?_⟩ ?_
  · refine ⟨_, by (rfl), ?_⟩
    exact SetAt.nil.congr fun t => by simp [memP]
  clear h0' s
  rintro s h ⟨h3, h7, h8, -, i, h9, hlei, hx⟩
  obtain ⟨o, rfl, hs⟩ := hx
  obtain ⟨o', hu, hs'⟩ := hs.put (nth l i)
  repeat' (with_reducible first | refine WP.seq ?_ | refine WP.skip ?_ | refine WP.block ?_ | refine WP.exit ?_ | refine WP.ret ?_ | refine seqK_normal ?_ | refine seqK_exit ?_ | refine loopK_exit ?_ | refine blockK_normal ?_ | refine blockK_here ?_ | (apply WP.regionE; (with_unfolding_all (simp +decide (disch := first | decide | omega) only [go_sem, *]; rfl))) | (apply WP.condB; (simp +decide (disch := first | decide | omega) only [go_sem, *]; rfl); all_goals (intro hb; (first | rw [dlt_t] at hb | rw [dlt_f] at hb | rw [dle_t] at hb | rw [dle_f] at hb | rw [Bool.not_eq_true'] at hb | rw [Bool.not_eq_false'] at hb | skip))) | (apply fnPost_ret; (simp +decide (disch := first | decide | omega) only [go_sem, *]; rfl)))
  · refine loopK_normal ⟨by ((simp +decide (disch := first | decide | omega) only [go_sem, *]; done)), by ((simp +decide (disch := first | decide | omega) only [go_sem, *]; done)), by ((simp +decide (disch := first | decide | omega) only [go_sem, *]; done)), trivial, i + 1, by ((simp +decide (disch := first | decide | omega) only [go_sem, *]; rfl)), by omega, ?_⟩ (by simp +decide (disch := first | decide | omega) only [go_sem, *]; omega)
    refine ⟨o', ?_, ?_⟩
    · first | (simp +decide (disch := first | decide | omega) only [go_sem, *]; done) | (simp +decide (disch := first | decide | omega) only [go_sem, *]; rw [set_concat])
    · refine (hs' _ ?_).congr fun t => ?_
      · simp
      · rw [take_nth (by omega)]
        simp [memP]
  · refine ⟨rfl, o, rfl, ?_⟩
    rwa [List.take_of_length_le (by omega)] at hs

theorem SetAt.range {h : Hp} {id : Nat} {p : Int → Bool} (hs : SetAt h id p) (nid : Nat) : ∃ kvs clock, h[id]? = some (.map kvs clock) ∧ rangeH pg.P h nid 68 (.mp id) = some { x := .it nid, ns := [.iter (some id) clock [] clock] } := by
  obtain ⟨kvs', clock', g1, g2⟩ := hs
  exact ⟨_, _, g1, by simp only [rangeH, un68, g1]⟩

/-- A range begins: the iterator lies behind all others. -/
theorem SetAt.rng {h : Hp} {id : Nat} {p : Int → Bool} (hs : SetAt h id p) : ∃ kvs clock, h[id]? = some (.map kvs clock) ∧ RngS (h ++ [.iter (some id) clock [] clock]) h.length id p fun _ => false := by
  obtain ⟨kvs, clock, h1, h2⟩ := hs.range h.length
  exact ⟨_, _, h1, RngS.start (by simp; rfl) (by rw [List.getElem?_append_left hs.lt]; exact h1) (hs.app _)⟩

theorem SetAt.rngD {h : Hp} {id : Nat} {p : Int → Bool} (hs : SetAt h id p) : ∃ kvs clock, h[id]? = some (.map kvs clock) ∧ RngSD (h ++ [.iter (some id) clock [] clock]) h.length id p p fun _ => false := by
  obtain ⟨kvs, clock, h1, h2⟩ := hs.range h.length
  exact ⟨_, _, h1, RngSD.start (by simp; rfl) (by rw [List.getElem?_append_left hs.lt]; exact h1) (hs.app _)⟩

theorem last_change {h0 h' : Hp} {o : HO} (hl : h'.length = (h0 ++ [o]).length) (hf : ∀ j, j ≠ h0.length → h'[j]? = (h0 ++ [o])[j]?) : ∃ o', h' = h0 ++ [o'] := by
  have hl' : h0.length < h'.length := by simp at hl; omega
  refine ⟨h'[h0.length], ?_⟩
  apply List.ext_getElem?
  intro j
  by_cases hj : j = h0.length
  · subst hj; simp [hl']
  · rw [hf j hj]
    by_cases hj2 : j < h0.length
    · rw [List.getElem?_append_left hj2, List.getElem?_append_left hj2]
    · rw [List.getElem?_eq_none (by simp; omega), List.getElem?_eq_none (by simp; omega)]

set_option maxRecDepth 8000 in
theorem tree_within (p q : Int → Bool) (l : List Int) (h0 : Hp) (a b : Nat) (ha : SetAt h0 a p) (hb0 : SetAt h0 b q) (hl : ∀ t, p t = true ↔ t ∈ l) : CallsH pg 51 [.mp a, .mp b] h0 (fun r h' => r = .bool (l.all q) ∧ ∃ o, h' = h0 ++ [o]) := by
  refine CallsH.of_wpN [] 16 fn51 rfl rfl ?_
  refine WP.abs (fun s => s 0 = .mp a ∧ s 1 = .mp b) ⟨rfl, rfl⟩ ?_
  rintro s ⟨g0, g1⟩
  obtain ⟨kvs, clock, hr, hR⟩ := ha.rng
  repeat' (with_reducible first | refine WP.seq ?_ | refine WP.block ?_ | refine seqK_normal ?_ | (apply WP.regionE; (with_unfolding_all (simp +decide (disch := first | decide | omega) only [go_sem, *]; rfl))))
  refine WP.loop (fun s h => s 1 = .mp b ∧ s 7 = .it h0.length ∧ ∃ o seen, h = h0 ++ [o] ∧ RngS h h0.length a p seen ∧ ∀ t, seen t = true → q t = true) (fun _ h => leftN h h0.length) ⟨by ((simp +decide (disch := first | decide | omega) only [go_sem, *]; done)), by (rfl), _, _, by (rfl), hR, fun t h => by cases h⟩ ?_
  clear hR hr g0 g1 s
  rintro s h ⟨g1, g7, o, seen, rfl, hR, hq⟩
  repeat' (with_reducible refine WP.seq ?_)
  refine WP.region ?_
  refine opsT.nextS (it := h0.length) (by simp +decide (disch := first | decide | omega) only [go_sem, *]) hR (by have := ha.lt; omega) (fun hall => ?_) (fun t h' ht hns hR' hent hlt hlen hfr => ?_)
  · repeat' (with_reducible first | refine WP.seq ?_ | refine WP.exit ?_ | refine WP.ret ?_ | refine seqK_normal ?_ | refine seqK_exit ?_ | refine loopK_exit ?_ | refine blockK_here ?_ | (apply WP.regionE; (with_unfolding_all (simp +decide (disch := first | decide | omega) only [go_sem, *]; rfl))) | (apply opsT.fin; (with_unfolding_all (simp +decide (disch := first | decide | omega) only [go_sem, *]; rfl))) | (apply WP.condF; (focus (simp +decide (disch := first | decide | omega) only [go_sem, *]; done))) | (apply fnPost_ret; (simp +decide (disch := first | decide | omega) only [go_sem, *]; rfl)))
    refine ⟨?_, o, rfl⟩
    congr 1
    symm
    rw [List.all_eq_true]
    exact fun t ht => hq t (hall t ((hl t).2 ht))
  · obtain ⟨o', rfl⟩ := last_change hlen hfr
    have hlook := (hb0.app [o']).look t
    clear hfr hR
    repeat' (with_reducible first | refine WP.seq ?_ | refine WP.skip ?_ | refine WP.block ?_ | refine WP.ret ?_ | refine seqK_normal ?_ | refine seqK_ret ?_ | refine loopK_ret ?_ | refine blockK_normal ?_ | refine blockK_ret ?_ | (apply WP.regionE; (with_unfolding_all (simp +decide (disch := first | decide | omega) only [go_sem, *]; rfl))) | (apply opsT.fin; (with_unfolding_all (simp +decide (disch := first | decide | omega) only [go_sem, *]; rfl))) | (apply WP.condT; (focus (simp +decide (disch := first | decide | omega) only [go_sem, *]; done))) | (apply WP.condB; (simp +decide (disch := first | decide | omega) only [go_sem, *]; rfl); all_goals (intro hb; (first | rw [dlt_t] at hb | rw [dlt_f] at hb | rw [dle_t] at hb | rw [dle_f] at hb | rw [Bool.not_eq_true'] at hb | rw [Bool.not_eq_false'] at hb | skip))) | (apply fnPost_ret; (simp +decide (disch := first | decide | omega) only [go_sem, *]; rfl)))
    · refine ⟨?_, o', rfl⟩
      congr 1
      symm
      rw [List.all_eq_false]
      exact ⟨t, (hl t).1 ht, by simp [hb]⟩
    · refine loopK_normal ⟨by simp +decide (disch := first | decide | omega) only [go_sem, *], by simp +decide (disch := first | decide | omega) only [go_sem, *], o', _, rfl, hR', fun u hu => ?_⟩ hlt
      simp only [Bool.or_eq_true, decide_eq_true_eq] at hu
      rcases hu with hu | rfl
      · exact hq u hu
      · exact hb

def Pre (h0 h : Hp) : Prop := ∃ t, h = h0 ++ t
theorem Pre.refl (h : Hp) : Pre h h := ⟨[], by simp⟩
theorem Pre.app {h0 h : Hp} (hp : Pre h0 h) (t : Hp) : Pre h0 (h ++ t) := by
  obtain ⟨u, rfl⟩ := hp; exact ⟨u ++ t, by simp⟩
theorem Pre.set {h0 h : Hp} (hp : Pre h0 h) {i : Nat} (hi : h0.length ≤ i) (o : HO) : Pre h0 (h.set i o) := by
  obtain ⟨u, rfl⟩ := hp
  exact ⟨u.set (i - h0.length) o, by rw [List.set_append_right _ _ hi]⟩
theorem Pre.at {h0 h : Hp} (hp : Pre h0 h) {i : Nat} (hi : i < h0.length) : h[i]? = h0[i]? := by
  obtain ⟨u, rfl⟩ := hp; exact List.getElem?_append_left hi
theorem Pre.len {h0 h : Hp} (hp : Pre h0 h) : h0.length ≤ h.length := by
  obtain ⟨u, rfl⟩ := hp; simp
theorem Pre.trans {h0 h1 h2 : Hp} (a : Pre h0 h1) (b : Pre h1 h2) : Pre h0 h2 := by
  obtain ⟨u, rfl⟩ := a; obtain ⟨v, rfl⟩ := b; exact ⟨u ++ v, by simp⟩

set_option maxHeartbeats 4000000 in
set_option maxRecDepth 8000 in
theorem tree_reached (b : Bu) (set : List Int) (a : Int) (h0 : Hp) (hv : validB b = true) (ha : 0 ≤ a ∧ a < b.letters) (hset : ∀ i, i < set.length → 0 ≤ nth set i ∧ nth set i < b.next.length) :
    CallsH pg 57 [.agg (buC b), .sl false (ints set), .int .i64 a] h0 (fun r h' => r = .tup [.mp (h0.length + 1), .mp (h0.length + 2)] ∧ Pre h0 h' ∧ SetAt h' (h0.length + 1) (hits b set a false) ∧ SetAt h' (h0.length + 2) (hits b set a true)) := by
  obtain ⟨v1, v2, v3⟩ := validB_iff.1 hv
  refine CallsH.of_wpN [] 45 fn57 rfl rfl ?_
  refine WP.abs (fun s => s 0 = .agg (buC b) ∧ s 1 = .sl false (ints set) ∧ s 2 = .int .i64 a) ⟨rfl, rfl, rfl⟩ ?_
  rintro s ⟨g0, g1, g2⟩
  refine WP.bnd 0 g0 fun hbd => ?_
  refine WP.slLen g1 fun hlen => ?_
  rw [ints_length, maxLen] at hlen
  have hl3 := (bnd_bu hbd).2
  clear hbd
  repeat' (with_reducible first | refine WP.seq ?_ | refine WP.block ?_ | refine seqK_normal ?_ | (apply WP.regionE; (with_unfolding_all (simp +decide (disch := first | decide | omega) only [go_sem, *]; rfl))))
  refine WP.loop (fun s h => s 2 = .int .i64 a ∧ s 3 = .ep h0.length 0 0 ∧ s 6 = .mp (h0.length + 1) ∧ s 7 = .mp (h0.length + 2) ∧ s 14 = .sl false (ints set) ∧ s 15 = .int .i64 set.length ∧ (True) ∧ ∃ i : Nat, s 16 = .int .i64 i ∧ i ≤ set.length ∧ (Pre h0 h ∧ h0.length + 3 ≤ h.length ∧ h[h0.length]? = some (.row 25 [buC b]) ∧ SetAt h (h0.length + 1) (hits b (set.take i) a false) ∧ SetAt h (h0.length + 2) (hits b (set.take i) a true))) (fun s _ => set.length - (s 16).toInt.toNat) ⟨by ((simp +decide (disch := first | decide | omega) only [go_sem, *]; done)), by ((simp +decide (disch := first | decide | omega) only [go_sem, *]; done)), by ((simp +decide (disch := first | decide | omega) only [go_sem, *]; simp; done)), by ((simp +decide (disch := first | decide | omega) only [go_sem, *]; simp; done)), by ((simp +decide (disch := first | decide | omega) only [go_sem, *]; done)), by ((simp +decide (disch := first | decide | omega) only [go_sem, *]; done)), trivial, 0, by ((simp +decide (disch := first | decide | omega) only [go_sem, *]; rfl)), by omega, ?_⟩ ?_
  · simp +decide (disch := first | decide | omega) only [go_sem, *]
    refine ⟨⟨_, by rw [List.append_assoc, List.append_assoc]⟩, by simp, by simp, ?_, ?_⟩
    · have := (SetAt.nil (h := h0 ++ [.row 25 [buC b]])).app [.map [] 0]
      simp only [List.length_append, List.length_cons, List.length_nil] at this
      exact this.congr fun t => by simp [hits]
    · have := (SetAt.nil (h := h0 ++ [.row 25 [buC b]] ++ [.map [] 0]))
      simp only [List.length_append, List.length_cons, List.length_nil] at this
      exact this.congr fun t => by simp [hits]
  clear g0 g1 g2 s
  rintro s h ⟨h2, h3, h6, h7, h14, h15, -, i, h16, hlei, hx⟩
  obtain ⟨hpre, hlen3, hrow, hs1, hs2⟩ := hx
  have hq := hset i
  have hq3 : i < set.length → ((nth b.next (nth set i).toNat).length : Int) = b.letters := fun h => (v3 _ (by have := hq h; omega)).1
  repeat' (with_reducible first | refine WP.seq ?_ | refine WP.skip ?_ | refine WP.block ?_ | refine WP.exit ?_ | refine WP.ret ?_ | refine seqK_normal ?_ | refine seqK_exit ?_ | refine loopK_exit ?_ | refine blockK_here ?_ | (apply WP.regionE; (with_unfolding_all (simp +decide (disch := first | decide | omega) only [go_sem, *]; rfl))) | (apply WP.condB; (simp +decide (disch := first | decide | omega) only [go_sem, *]; rfl); all_goals (intro hb; (first | rw [dlt_t] at hb | rw [dlt_f] at hb | rw [dle_t] at hb | rw [dle_f] at hb | rw [Bool.not_eq_true'] at hb | rw [Bool.not_eq_false'] at hb | skip))) | (apply fnPost_ret; (simp +decide (disch := first | decide | omega) only [go_sem, *]; rfl)))
  · have hq1 := hq (by omega)
    have hq2 := hq3 (by omega)
    have hl4 := hl3 (nth set i).toNat a.toNat (by omega) (by omega)
    refine WP.loop (fun s' h => s' 2 = .int .i64 a ∧ s' 3 = .ep h0.length 0 0 ∧ s' 6 = .mp (h0.length + 1) ∧ s' 7 = .mp (h0.length + 2) ∧ s' 14 = .sl false (ints set) ∧ s' 15 = .int .i64 set.length ∧ s' 16 = .int .i64 i ∧ s' 27 = .sl false (mvs (nth (nth b.next (nth set i).toNat) a.toNat)) ∧ s' 28 = .int .i64 (nth (nth b.next (nth set i).toNat) a.toNat).length ∧ (True) ∧ ∃ k : Nat, s' 29 = .int .i64 k ∧ k ≤ (nth (nth b.next (nth set i).toNat) a.toNat).length ∧ (Pre h0 h ∧ h0.length + 3 ≤ h.length ∧ h[h0.length]? = some (.row 25 [buC b]) ∧ SetAt h (h0.length + 1) (fun t => hits b (set.take i) a false t || ((rowOf b (nth set i) a).take k).any fun m => decide (m.to = t) && (m.good || !false)) ∧ SetAt h (h0.length + 2) (fun t => hits b (set.take i) a true t || ((rowOf b (nth set i) a).take k).any fun m => decide (m.to = t) && (m.good || !true)))) (fun s' _ => (nth (nth b.next (nth set i).toNat) a.toNat).length - (s' 29).toInt.toNat) ⟨by ((simp +decide (disch := first | decide | omega) only [go_sem, *]; done)), by ((simp +decide (disch := first | decide | omega) only [go_sem, *]; done)), by ((simp +decide (disch := first | decide | omega) only [go_sem, *]; done)), by ((simp +decide (disch := first | decide | omega) only [go_sem, *]; done)), by ((simp +decide (disch := first | decide | omega) only [go_sem, *]; done)), by ((simp +decide (disch := first | decide | omega) only [go_sem, *]; done)), by ((simp +decide (disch := first | decide | omega) only [go_sem, *]; done)), by ((simp +decide (disch := first | decide | omega) only [go_sem, *]; done)), by ((simp +decide (disch := first | decide | omega) only [go_sem, *]; done)), trivial, 0, by ((simp +decide (disch := first | decide | omega) only [go_sem, *]; rfl)), by omega, ?_⟩ ?_
    · exact ⟨hpre, hlen3, hrow, hs1.congr fun t => by simp, hs2.congr fun t => by simp⟩
    clear h2 h3 h6 h7 h14 h15 hq hq3 hs1 hs2 hpre hlen3 hrow
    rintro s' h ⟨h2, h3, h6, h7, h14, h15, h16, h27, h28, -, k, h29, hlek, hx⟩
    obtain ⟨hpre, hlen3, hrow, hs1, hs2⟩ := hx
    have ht : ∀ k, k < (nth (nth b.next (nth set i).toNat) a.toNat).length → (rowOf b (nth set i) a).take (k + 1) = (rowOf b (nth set i) a).take k ++ [nth (nth (nth b.next (nth set i).toNat) a.toNat) k] := fun k hk => take_nth hk
    obtain ⟨m, hm⟩ : ∃ m, m = nth (nth (nth b.next (nth set i).toNat) a.toNat) k := ⟨_, rfl⟩
    have ht := ht k
    rw [← hm] at ht
    have hmv := mvs_nth (l := nth (nth b.next (nth set i).toNat) a.toNat) (k := k)
    rw [← hm] at hmv
    obtain ⟨o1, hu1, hs1'⟩ := (hs1.app [.row 54 [mvC m]]).put m.to
    have hlt1 : h0.length + 1 < (h ++ [HO.row 54 [mvC m]]).length := by simp; omega
    obtain ⟨o2, hu2, hs2'⟩ := ((hs2.app [.row 54 [mvC m]]).keep (h' := (h ++ [HO.row 54 [mvC m]]).set (h0.length + 1) o1) (List.getElem?_set_ne (by omega))).put m.to
    have hl : ((h ++ [HO.row 54 [mvC m]]).set (h0.length + 1) o1)[h.length]? = some (.row 54 [mvC m]) := by
      rw [List.getElem?_set_ne (by omega)]; simp
    have hs1'' := hs1' ((h ++ [HO.row 54 [mvC m]]).set (h0.length + 1) o1) (List.getElem?_set_self hlt1)
    clear hm hs1'
    repeat' (with_reducible first | refine WP.seq ?_ | refine WP.skip ?_ | refine WP.block ?_ | refine WP.exit ?_ | refine seqK_normal ?_ | refine seqK_exit ?_ | refine loopK_exit ?_ | refine blockK_normal ?_ | refine blockK_here ?_ | (apply WP.regionE; (with_unfolding_all (simp +decide (disch := first | decide | omega) only [go_sem, *]; rfl))) | (apply WP.condB; (simp +decide (disch := first | decide | omega) only [go_sem, *]; rfl); all_goals (intro hb; (first | rw [dlt_t] at hb | rw [dlt_f] at hb | rw [dle_t] at hb | rw [dle_f] at hb | rw [Bool.not_eq_true'] at hb | rw [Bool.not_eq_false'] at hb | skip))))
    · refine loopK_normal ⟨by ((simp +decide (disch := first | decide | omega) only [go_sem, *]; done)), by ((simp +decide (disch := first | decide | omega) only [go_sem, *]; done)), by ((simp +decide (disch := first | decide | omega) only [go_sem, *]; done)), by ((simp +decide (disch := first | decide | omega) only [go_sem, *]; done)), by ((simp +decide (disch := first | decide | omega) only [go_sem, *]; done)), by ((simp +decide (disch := first | decide | omega) only [go_sem, *]; done)), by ((simp +decide (disch := first | decide | omega) only [go_sem, *]; done)), by ((simp +decide (disch := first | decide | omega) only [go_sem, *]; done)), by ((simp +decide (disch := first | decide | omega) only [go_sem, *]; done)), trivial, k + 1, by ((simp +decide (disch := first | decide | omega) only [go_sem, *]; rfl)), by omega, ?_⟩ (by simp +decide (disch := first | decide | omega) only [go_sem, *]; omega)
      refine ⟨((hpre.app _).set (by omega) _).set (by omega) _, by simp; omega, ?_, (hs1''.keep (List.getElem?_set_ne (by omega))).congr fun t => ?_, (hs2' _ (List.getElem?_set_self (by simp; omega))).congr fun t => ?_⟩
      · rw [List.getElem?_set_ne (by omega), List.getElem?_set_ne (by omega), List.getElem?_append_left (by omega)]; exact hrow
      · rw [ht (by omega)]
        simp [Bool.or_assoc]
        congr 2
        rw [decide_eq_decide]; exact eq_comm
      · rw [ht (by omega)]
        simp [Bool.or_assoc, hb]
        congr 2
        rw [decide_eq_decide]; exact eq_comm
    · refine loopK_normal ⟨by ((simp +decide (disch := first | decide | omega) only [go_sem, *]; done)), by ((simp +decide (disch := first | decide | omega) only [go_sem, *]; done)), by ((simp +decide (disch := first | decide | omega) only [go_sem, *]; done)), by ((simp +decide (disch := first | decide | omega) only [go_sem, *]; done)), by ((simp +decide (disch := first | decide | omega) only [go_sem, *]; done)), by ((simp +decide (disch := first | decide | omega) only [go_sem, *]; done)), by ((simp +decide (disch := first | decide | omega) only [go_sem, *]; done)), by ((simp +decide (disch := first | decide | omega) only [go_sem, *]; done)), by ((simp +decide (disch := first | decide | omega) only [go_sem, *]; done)), trivial, k + 1, by ((simp +decide (disch := first | decide | omega) only [go_sem, *]; rfl)), by omega, ?_⟩ (by simp +decide (disch := first | decide | omega) only [go_sem, *]; omega)
      refine ⟨(hpre.app _).set (by omega) _, by simp; omega, ?_, hs1''.congr fun t => ?_, ((hs2.app _).keep (List.getElem?_set_ne (by omega))).congr fun t => ?_⟩
      · rw [List.getElem?_set_ne (by omega), List.getElem?_append_left (by omega)]; exact hrow
      · rw [ht (by omega)]
        simp [Bool.or_assoc]
        congr 2
        rw [decide_eq_decide]; exact eq_comm
      · rw [ht (by omega)]
        simp [hb]
    · refine loopK_normal ⟨by ((simp +decide (disch := first | decide | omega) only [go_sem, *]; done)), by ((simp +decide (disch := first | decide | omega) only [go_sem, *]; done)), by ((simp +decide (disch := first | decide | omega) only [go_sem, *]; done)), by ((simp +decide (disch := first | decide | omega) only [go_sem, *]; done)), by ((simp +decide (disch := first | decide | omega) only [go_sem, *]; done)), by ((simp +decide (disch := first | decide | omega) only [go_sem, *]; done)), trivial, i + 1, by ((simp +decide (disch := first | decide | omega) only [go_sem, *]; rfl)), by omega, ?_⟩ (by simp +decide (disch := first | decide | omega) only [go_sem, *]; omega)
      have hk : (rowOf b (nth set i) a).take k = rowOf b (nth set i) a := List.take_of_length_le (by rw [rowOf]; omega)
      refine ⟨hpre, hlen3, hrow, hs1.congr fun t => ?_, hs2.congr fun t => ?_⟩
      · rw [hk, take_nth (by omega)]
        simp [hits]
      · rw [hk, take_nth (by omega)]
        simp [hits]
  · rw [List.take_of_length_le (by omega)] at hs1 hs2
    exact ⟨rfl, hpre, hs1, hs2⟩

/-- The elements of a set, in increasing order. -/
def elems (b : Bu) (p : Int → Bool) : List Int := (states b).filter p


end Go.Proofs.Ytonhbeapffiibaa

