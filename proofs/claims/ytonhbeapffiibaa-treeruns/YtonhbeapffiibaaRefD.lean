/-
  Chapter 16: the reference's functions on trees: the children's states; who is below whom.
-/
import Derived.Test.YtonhbeapffiibaaRefC
namespace Go.Proofs.Ytonhbeapffiibaa
open Go.HL

/-- The states of all children of a node. -/
def kids (t : List Nd) (i : Int) : List Int := (t.filter fun x => decide (x.par = i)).flatMap (·.set)

theorem kids_append (a b : List Nd) (i : Int) : kids (a ++ b) i = kids a i ++ kids b i := by simp [kids]
theorem kids_yes {t : List Nd} {x : Nd} {i : Int} (h : x.par = i) : kids (t ++ [x]) i = kids t i ++ x.set := by simp [kids, h]
theorem kids_no {t : List Nd} {x : Nd} {i : Int} (h : ¬ x.par = i) : kids (t ++ [x]) i = kids t i := by simp [kids, h]

theorem kids_take_le (t : List Nd) (i : Int) (k : Nat) : (kids (t.take k) i).length ≤ (kids t i).length := by
  have := congrArg List.length (kids_append (t.take k) (t.drop k) i)
  rw [List.take_append_drop, List.length_append] at this
  omega

theorem ref_union (t : List Nd) (n : Int) (hk : (kids t n).length ≤ 1000000) : CallsP pg 60 [.sl false (nds t), .int .i64 n] (fun v => v = .sl false (ints (kids t n))) := by
  refine CallsP.of_wpW [] 29 fn60 rfl rfl ?_
  refine WP.abs (fun s => s 0 = .sl false (nds t) ∧ s 1 = .int .i64 n) ⟨rfl, rfl⟩ ?_
  rintro s ⟨h0, h1⟩
  refine WP.slLen h0 fun hlen => ?_
  rw [nds_length, maxLen] at hlen
  repeat' (with_reducible first | refine WP.seq ?_ | refine WP.block ?_ | refine seqK_normal ?_ | (apply WP.regionE; (with_unfolding_all (simp +decide (disch := first | decide | omega) only [go_sem, *]; rfl))))
  refine WP.loop (fun s h => s 0 = .sl false (nds t) ∧ s 1 = .int .i64 n ∧ ∃ i : Nat, s 6 = .int .i64 i ∧ i ≤ t.length ∧ OwnsL h [(s 5, 3, ints (kids (t.take i) n))]) (fun s _ => t.length - (s 6).toInt.toNat) ⟨?_, ?_, 0, ?_, ?_, ?_⟩ ?_
  · simp +decide (disch := first | decide | omega) only [go_sem, *]
  · simp +decide (disch := first | decide | omega) only [go_sem, *]
  · simp +decide (disch := first | decide | omega) only [go_sem, *]; rfl
  · omega
  · simp +decide (disch := first | decide | omega) only [go_sem, *]
    exact ⟨by simp [ints, OwnAt, kids], by simp⟩
  clear h0 h1 s
  rintro s h ⟨h0, h1, i, h6, hi, hL⟩
  repeat' (with_reducible first | refine WP.seq ?_ | refine seqK_normal ?_ | (apply WP.regionE; (with_unfolding_all (simp +decide (disch := first | decide | omega) only [go_sem, *]; rfl))))
  refine WP.condB (by simp +decide (disch := first | decide | omega) only [go_sem, *]; rfl) (fun hb => ?_) (fun hb => ?_)
  · have hlt : i < t.length := by simpa using hb
    have hg := nds_get hlt
    by_cases c1 : t[i].par = n
    · have ht : kids (t.take (i + 1)) n = kids (t.take i) n ++ t[i].set := by rw [List.take_succ_eq_append_getElem hlt, kids_yes c1]
      have hle := kids_take_le t n (i + 1)
      rw [ht, List.length_append] at hle
      obtain ⟨q, hq, hL1⟩ := owns_int hL 0 rfl (y := .sl false (ints t[i].set)) (ys := t[i].set) rfl (by omega)
      clear hb hle
      repeat' (with_reducible first | refine WP.seq ?_ | refine WP.skip ?_ | refine WP.block ?_ | refine seqK_normal ?_ | (apply WP.regionE; (with_unfolding_all (simp +decide (disch := first | decide | omega) only [go_sem, *]; rfl))))
      refine WP.condB (by simp +decide (disch := first | decide | omega) only [go_sem, *]; rfl) (fun hb => ?_) (fun hb => ?_)
      · repeat' (with_reducible first | refine seqK_normal ?_ | refine blockK_normal ?_ | (apply WP.regionE; (with_unfolding_all (simp +decide (disch := first | decide | omega) only [go_sem, *]; rfl))))
        refine loopK_normal ⟨?_, ?_, i + 1, ?_, ?_, ?_⟩ ?_
        · simp +decide (disch := first | decide | omega) only [go_sem, *]
        · simp +decide (disch := first | decide | omega) only [go_sem, *]
        · simp +decide (disch := first | decide | omega) only [go_sem, *]; rfl
        · omega
        · rw [ht]
          simp +decide (disch := first | decide | omega) only [go_sem, *]
          exact hL1
        · simp +decide (disch := first | decide | omega) only [go_sem, *]; omega
      · simp at hb
    · have ht : kids (t.take (i + 1)) n = kids (t.take i) n := by rw [List.take_succ_eq_append_getElem hlt, kids_no c1]
      clear hb
      repeat' (with_reducible first | refine WP.seq ?_ | refine WP.skip ?_ | refine WP.block ?_ | refine seqK_normal ?_ | (apply WP.regionE; (with_unfolding_all (simp +decide (disch := first | decide | omega) only [go_sem, *]; rfl))))
      refine WP.condB (by simp +decide (disch := first | decide | omega) only [go_sem, *]; rfl) (fun hb => ?_) (fun hb => ?_)
      · simp at hb
      · repeat' (with_reducible first | refine WP.skip ?_ | refine seqK_normal ?_ | refine blockK_normal ?_ | (apply WP.regionE; (with_unfolding_all (simp +decide (disch := first | decide | omega) only [go_sem, *]; rfl))))
        refine loopK_normal ⟨?_, ?_, i + 1, ?_, ?_, ?_⟩ ?_
        · simp +decide (disch := first | decide | omega) only [go_sem, *]
        · simp +decide (disch := first | decide | omega) only [go_sem, *]
        · simp +decide (disch := first | decide | omega) only [go_sem, *]; rfl
        · omega
        · rw [ht]
          simp +decide (disch := first | decide | omega) only [go_sem, *]
        · simp +decide (disch := first | decide | omega) only [go_sem, *]; omega
  · have hge : t.length ≤ i := by simpa using hb
    rw [List.take_of_length_le hge] at hL
    obtain ⟨fl, hrd⟩ := hL.read 0 rfl (ints_free _)
    repeat' (with_reducible first | refine WP.seq ?_ | refine WP.exit ?_ | refine WP.ret ?_ | refine seqK_normal ?_ | refine seqK_exit ?_ | refine loopK_exit ?_ | refine blockK_here ?_ | (apply WP.regionE; (with_unfolding_all (simp +decide (disch := first | decide | omega) only [go_sem, *]; rfl))))
    refine fnPost_pure 1 (by first | exact .inl rfl | exact .inr rfl) (by simp +decide (disch := first | decide | omega) only [go_sem, *]; rfl) (by simp +decide (disch := first | decide | omega) only [go_sem, *]; rfl) ?_
    simp [wkV, wk1]

/-- Parents stand ahead of their children. -/
def ordered (t : List Nd) : Prop := ∀ i (h : i < t.length), -1 ≤ t[i].par ∧ t[i].par < i

/-- Whether a node, reached by its parent's number, or one above it is the one that is asked for. -/
def above (t : List Nd) (top : Int) : Nat → Int → Bool
  | 0, _ => false
  | k + 1, p => if p < 0 then false else if p = top then true else above t top k (((t[p.toNat]?).map (·.par)).getD (-1))

theorem ordered_get {t : List Nd} (ho : ordered t) {i : Nat} (h : i < t.length) : -1 ≤ t[i].par ∧ t[i].par < i := ho i h

/-- The way up from p has less than k steps, where p is less than k. -/
theorem ref_below (t : List Nd) (i : Nat) (top : Int) (hi : i < t.length) (ho : ordered t) : CallsP pg 61 [.sl false (nds t), .int .i64 i, .int .i64 top] (fun v => v = .bool (above t top t.length t[i].par)) := by
  refine CallsP.of_wpN [] 22 fn61 rfl rfl ?_
  refine WP.abs (fun s => s 0 = .sl false (nds t) ∧ s 1 = .int .i64 i ∧ s 2 = .int .i64 top) ⟨rfl, rfl, rfl⟩ ?_
  rintro s ⟨h0, h1, h2⟩
  refine WP.slLen h0 fun hlen => ?_
  rw [nds_length, maxLen] at hlen
  have hg := nds_get hi
  have hp := ordered_get ho hi
  repeat' (with_reducible first | refine WP.seq ?_ | refine WP.block ?_ | refine seqK_normal ?_ | (apply WP.regionE; (with_unfolding_all (simp +decide (disch := first | decide | omega) only [go_sem, *]; rfl))))
  refine WP.loop (fun s h => s 0 = .sl false (nds t) ∧ s 2 = .int .i64 top ∧ h = [] ∧ ∃ (p : Int) (k : Nat), s 1 = .int .i64 p ∧ -1 ≤ p ∧ p < t.length ∧ p < k ∧ above t top k p = above t top t.length t[i].par) (fun s _ => ((s 1).toInt + 1).toNat) ⟨?_, ?_, rfl, t[i].par, t.length, ?_, ?_, ?_, ?_, rfl⟩ ?_
  · simp +decide (disch := first | decide | omega) only [go_sem, *]
  · simp +decide (disch := first | decide | omega) only [go_sem, *]
  · simp +decide (disch := first | decide | omega) only [go_sem, *]
  · omega
  · omega
  · omega
  clear h0 h1 h2 s
  rintro s h ⟨h0, h2, rfl, p, k, h1, hp1, hp2, hpk, hab⟩
  by_cases c1 : 0 ≤ p
  · have hlt : p.toNat < t.length := by omega
    have hg2 := nds_get hlt
    have hp3 := ordered_get ho hlt
    obtain ⟨k, rfl⟩ : ∃ k', k = k' + 1 := ⟨k - 1, by omega⟩
    have hn : ¬ p < 0 := by omega
    simp only [above, hn, if_false, List.getElem?_eq_getElem hlt, Option.map_some, Option.getD_some] at hab
    by_cases c2 : p = top
    · subst c2
      rw [if_pos rfl] at hab
      have hfin := hab.symm
      clear hab hg hp
      repeat' (with_reducible first | refine WP.seq ?_ | refine seqK_normal ?_ | (apply WP.regionE; (with_unfolding_all (simp +decide (disch := first | decide | omega) only [go_sem, *]; rfl))))
      refine WP.condB (by simp +decide (disch := first | decide | omega) only [go_sem, *]; rfl) (fun hb => ?_) (fun hb => ?_)
      · repeat' (with_reducible first | refine WP.seq ?_ | refine WP.skip ?_ | refine WP.block ?_ | refine seqK_normal ?_ | (apply WP.regionE; (with_unfolding_all (simp +decide (disch := first | decide | omega) only [go_sem, *]; rfl))))
        refine WP.condB (by simp +decide (disch := first | decide | omega) only [go_sem, *]; rfl) (fun hb => ?_) (fun hb => ?_)
        · repeat' (with_reducible first | refine WP.seq ?_ | refine WP.ret ?_ | refine seqK_normal ?_ | refine seqK_ret ?_ | refine loopK_ret ?_ | refine blockK_ret ?_ | (apply WP.regionE; (with_unfolding_all (simp +decide (disch := first | decide | omega) only [go_sem, *]; rfl))))
          refine fnPost_pure 0 (by first | exact .inl rfl | exact .inr rfl) (by simp +decide (disch := first | decide | omega) only [go_sem, *]; rfl) (by simp +decide (disch := first | decide | omega) only [go_sem, *]; rfl) ?_
          rw [hfin]
        · simp at hb
      · simp at hb
    · rw [if_neg c2] at hab
      clear hg hp
      repeat' (with_reducible first | refine WP.seq ?_ | refine seqK_normal ?_ | (apply WP.regionE; (with_unfolding_all (simp +decide (disch := first | decide | omega) only [go_sem, *]; rfl))))
      refine WP.condB (by simp +decide (disch := first | decide | omega) only [go_sem, *]; rfl) (fun hb => ?_) (fun hb => ?_)
      · repeat' (with_reducible first | refine WP.seq ?_ | refine WP.skip ?_ | refine WP.block ?_ | refine seqK_normal ?_ | (apply WP.regionE; (with_unfolding_all (simp +decide (disch := first | decide | omega) only [go_sem, *]; rfl))))
        refine WP.condB (by simp +decide (disch := first | decide | omega) only [go_sem, *]; rfl) (fun hb => ?_) (fun hb => ?_)
        · simp at hb
        · repeat' (with_reducible first | refine WP.skip ?_ | refine seqK_normal ?_ | refine blockK_normal ?_ | (apply WP.regionE; (with_unfolding_all (simp +decide (disch := first | decide | omega) only [go_sem, *]; rfl))))
          refine loopK_normal ⟨?_, ?_, rfl, t[p.toNat].par, k, ?_, ?_, ?_, ?_, hab⟩ ?_
          · simp +decide (disch := first | decide | omega) only [go_sem, *]
          · simp +decide (disch := first | decide | omega) only [go_sem, *]
          · simp +decide (disch := first | decide | omega) only [go_sem, *]
          · omega
          · omega
          · omega
          · simp +decide (disch := first | decide | omega) only [go_sem, *]; omega
      · simp at hb
  · have hn : p < 0 := by omega
    have hfin : above t top t.length t[i].par = false := by
      rw [← hab]
      cases k with
      | zero => rfl
      | succ k => simp [above, hn]
    clear hab
    repeat' (with_reducible first | refine WP.seq ?_ | refine seqK_normal ?_ | (apply WP.regionE; (with_unfolding_all (simp +decide (disch := first | decide | omega) only [go_sem, *]; rfl))))
    refine WP.condB (by simp +decide (disch := first | decide | omega) only [go_sem, *]; rfl) (fun hb => ?_) (fun hb => ?_)
    · simp at hb
    · repeat' (with_reducible first | refine WP.seq ?_ | refine WP.exit ?_ | refine WP.ret ?_ | refine seqK_normal ?_ | refine seqK_exit ?_ | refine loopK_exit ?_ | refine blockK_here ?_ | (apply WP.regionE; (with_unfolding_all (simp +decide (disch := first | decide | omega) only [go_sem, *]; rfl))))
      refine fnPost_pure 0 (by first | exact .inl rfl | exact .inr rfl) (by simp +decide (disch := first | decide | omega) only [go_sem, *]; rfl) (by simp +decide (disch := first | decide | omega) only [go_sem, *]; rfl) ?_
      rw [hfin]

end Go.Proofs.Ytonhbeapffiibaa

