/-
  HL, part T: the rule of a region that draws its order.
-/
import Derived.Test.YtonhbeapffiibaaHlS
namespace Go.HL

theorem countP_le (p q : Nat → Bool) : ∀ (l : List Nat), (∀ j, q j = true → p j = true) → l.countP q ≤ l.countP p
  | [], _ => Nat.le_refl _
  | x :: rest, h => by
    have := countP_le p q rest h
    simp only [List.countP_cons]
    cases hq : q x with
    | true => rw [h x hq]; simp; omega
    | false => simp; omega

theorem countP_less (p q : Nat → Bool) (i : Nat) (hi : p i = true) (hq : q i = false) : ∀ (l : List Nat), (∀ j, q j = true → p j = true) → i ∈ l → l.countP q < l.countP p
  | [], _, hm => by simp at hm
  | x :: rest, h, hm => by
    simp only [List.countP_cons]
    by_cases hx : x = i
    · subst hx
      have := countP_le p q rest h
      rw [hi, hq]
      simp; omega
    · have := countP_less p q i hi hq rest h ((List.mem_cons.1 hm).resolve_left fun e => hx e.symm)
      cases hqx : q x with
      | true => rw [h x hqx]; simp; omega
      | false => simp; omega

section
variable {X : PG} {C : Cx} {ops : Array Oper} {A W : List (List Nat)}

theorem allT_append {h0 : Hp} {r : Nat → ER} : ∀ n, ∃ ns, allT h0 r n = h0 ++ ns
  | 0 => ⟨[], by simp [allT]⟩
  | n + 1 => by
    obtain ⟨ns, h⟩ := allT_append (h0 := h0) (r := r) n
    exact ⟨ns ++ (r n).ns, by simp [allT, h]⟩

theorem Ext.padR {K K' : KS} {h : Hp} (x : Ext K h K' h) (hh : RH X K' h) (ns : List HO) : Ext K h K' (h ++ ns) := by
  refine ⟨x.os, x.tape, x.output, x.size, x.block, fun i ⟨hA, ⟨o, ho, hl⟩, hc⟩ => ?_, x.L, x.keep, x.A⟩
  exact x.new i ⟨hA, ⟨o, by rwa [List.getElem?_append_left (hh.A i hA)] at ho, hl⟩, hc⟩

theorem ready_mem {listed : Array Bool} {i : Nat} : i ∈ Region.ready .any ops listed ↔ i < ops.size ∧ listed.getD i true = false ∧ ∀ p ∈ predsA ops i, listed.getD p false = true := by
  unfold Region.ready predsA
  simp only [List.mem_filter, List.mem_range, Bool.and_eq_true, Bool.not_eq_true']
  constructor
  · rintro ⟨h1, h2, h3⟩
    refine ⟨h1, h2, fun p hp => ?_⟩
    rw [Array.getElem?_eq_getElem h1] at h3 hp
    simp only [Option.map_some, Option.getD_some, Array.all_eq_true_iff_forall_mem, Bool.or_eq_true, Bool.not_eq_true'] at h3
    simp only [List.mem_map, List.mem_filter] at hp
    obtain ⟨e, ⟨he1, he2⟩, rfl⟩ := hp
    rcases h3 e (by simpa using he1) with h | h
    · rw [h] at he2; cases he2
    · exact h
  · rintro ⟨h1, h2, h3⟩
    refine ⟨h1, h2, ?_⟩
    rw [Array.getElem?_eq_getElem h1] at h3 ⊢
    simp only [Option.map_some, Option.getD_some, Array.all_eq_true_iff_forall_mem, Bool.or_eq_true, Bool.not_eq_true']
    intro e he
    by_cases hb : Region.binds .any e = true
    · exact .inr (h3 e.on (List.mem_map.2 ⟨e, List.mem_filter.2 ⟨by simpa using he, hb⟩, rfl⟩))
    · exact .inl (by simpa using hb)

theorem all_listed (hok : okD ops A = true) {listed : Array Bool} (hsz : listed.size = ops.size) (hr : Region.ready .any ops listed = []) : ∀ i, i < ops.size → listed.getD i false = true := by
  intro i
  induction i using Nat.strongRecOn with
  | _ i ih =>
    intro hi
    cases hl : listed.getD i false with
    | true => rfl
    | false =>
      exfalso
      have h1 : listed.getD i true = false := by
        rw [Array.getD_eq_getD_getElem?, Array.getElem?_eq_getElem (by omega)] at hl ⊢
        simpa using hl
      have : i ∈ Region.ready .any ops listed := ready_mem.2 ⟨hi, h1, fun p hp => by
        have := (okD_at hok hi).1 p hp
        exact ih p this (by omega)⟩
      rw [hr] at this
      cases this

/-- A region that draws its order. -/
theorem WP.regionD {id : Nat} {Q : Exit → Env → Hp → Prop} {e : Env} {h : Hp} (hm : X.P.follows .mixedOrders = true) (A W : List (List Nat)) (hok : okD ops A = true) (hs : opsD X C ops A W (fun e h => Q .normal e h) ops.toList 0 [] e h) : WP X C (.region id ops true) Q e h := by
  intro K0 B a he hh
  refine wpIn_region_any hm ?_
  obtain ⟨r, hv, hq⟩ := opsD_plan (e0 := e) (h0 := h) ops.toList 0 (fun _ => { x := .und }) rfl (Nat.zero_le _) (fun j hj => absurd hj (Nat.not_lt_zero _)) hs
  have wr : ∀ j, j < ops.size → ∀ id, wrote r j id → id < (allT h r j).length := fun j hj id hw => (live_at hv hj hw).2.1
  have key : ∀ (fuel : Nat) (listed : Array Bool) (a : Act) (w : World), listed.size = ops.size → JS X C ops e h r K0 B (fun j => listed.getD j false) a w → closed ops (fun j => listed.getD j false) →
      (List.range ops.size).countP (fun j => !listed.getD j false) ≤ fuel → wpAnyIn (F0 C.ro) 0 X.P .any ops (Post X K0 h B C.N Q) fuel listed a w := by
    intro fuel
    have done : ∀ (listed : Array Bool) (a : Act) (w : World), (∀ i, i < ops.size → listed.getD i false = true) → JS X C ops e h r K0 B (fun j => listed.getD j false) a w → Post X K0 h B C.N Q .normal a w := fun listed a w hall hJ => by
      obtain ⟨K, rfl, x, hre, hrh, hA⟩ := hJ
      have e1 : envF C.N ops e r (fun j => listed.getD j false) ops.size = envT C.N ops e r ops.size := by
        funext t; exact envF_congr _ fun j hj _ => hall j hj
      have e2 : hpF r (allT h r ops.size) (fun j => listed.getD j false) ops.size = hpT h r ops.size := by
        apply List.ext_getElem?
        intro id
        rw [hpF_congr (S' := fun _ => true) _ fun j hj _ => hall j hj]
        by_cases hid : id < (allT h r ops.size).length
        · exact (hpT_get wr _ (Nat.le_refl _) id hid).symm
        · rw [List.getElem?_eq_none (by rw [hpF_length]; omega), List.getElem?_eq_none (by rw [hpT_length]; omega)]
      rw [e1] at hre
      rw [e2] at x hrh
      refine ⟨K, _, _, rfl, ⟨x, ?_, fun i hi => ?_⟩, hre, hrh, hq⟩
      · rw [hpT_length]; exact (allT_mono (h0 := h) (r := r) ops.size (Nat.zero_le _)).1
      · rcases (hA i).1 hi with h1 | ⟨j, _, _, h2, _⟩
        · exact .inl h1
        · have := (allT_mono (h0 := h) (r := r) j (Nat.zero_le _)).1
          exact .inr (Nat.le_trans this h2)
    induction fuel with
    | zero =>
      intro listed a w hsz hJ hc hcount
      have hall : ∀ i, i < ops.size → listed.getD i false = true := fun i hi => by
        have h0 : (List.range ops.size).countP (fun j => !listed.getD j false) = 0 := by omega
        rw [List.countP_eq_zero] at h0
        have := h0 i (by simpa using hi)
        simpa using this
      refine ⟨?_, done listed a w hall hJ⟩
      rw [List.eq_nil_iff_forall_not_mem]
      intro i hi
      obtain ⟨h1, h2, _⟩ := ready_mem.1 hi
      have h3 := hall i h1
      rw [Array.getD_eq_getD_getElem?, Array.getElem?_eq_getElem (by omega)] at h2 h3
      simp at h2 h3
      rw [h2] at h3; cases h3
    | succ fuel ih =>
      intro listed a w hsz hJ hc hcount
      refine ⟨fun hr => done listed a w (all_listed hok hsz hr) hJ, fun i hi => ?_⟩
      obtain ⟨h1, h2, h3⟩ := ready_mem.1 hi
      have hS : listed.getD i false = false := by
        rw [Array.getD_eq_getD_getElem?, Array.getElem?_eq_getElem (by omega)] at h2 ⊢
        simpa using h2
      have hset : ∀ j, (listed.setIfInBounds i true).getD j false = (listed.getD j false || j == i) := fun j => by
        simp only [Array.getD_eq_getD_getElem?, Array.getElem?_setIfInBounds]
        by_cases hji : i = j
        · subst hji; simp [hsz, h1]
        · have : (j == i) = false := by simp; omega
          simp [hji, this]
      refine wpOpIn_mono (fun a' w' hJ' => ih _ a' w' (by simpa using hsz) ?_ ?_ ?_) (js_step hv hok hh hJ hc h1 hS h3)
      · rw [show (fun j => (listed.setIfInBounds i true).getD j false) = (fun j => listed.getD j false || j == i) from funext hset]
        exact hJ'
      · intro j hj hSj p hp
        simp only [hset] at hSj ⊢
        simp only [Bool.or_eq_true, beq_iff_eq] at hSj ⊢
        rcases hSj with hSj | rfl
        · exact .inl (hc j hj hSj p hp)
        · exact .inl (h3 p hp)
      · have := countP_less (fun j => !listed.getD j false) (fun j => !(listed.setIfInBounds i true).getD j false) i (by rw [hS]; rfl) (by rw [hset]; simp) (List.range ops.size) (fun j hj => by rw [hset] at hj; simp at hj ⊢; exact hj.1) (by simpa using h1)
        omega
  obtain ⟨d1, d2⟩ := hh.drew
  obtain ⟨ns, hns⟩ := allT_append (h0 := h) (r := r) ops.size
  have hnone : ∀ j, (Array.replicate ops.size false).getD j false = false := fun j => by
    rw [Array.getD_eq_getD_getElem?, Array.getElem?_replicate]
    split <;> rfl
  refine key ops.size (Array.replicate ops.size false) a _ (by simp) ⟨{ K0 with w := K0.w.drew }, rfl, ?_, ?_, ?_, fun id => ?_⟩ ?_ (Nat.le_trans List.countP_le_length (by simp))
  · have e2 : hpF r (allT h r ops.size) (fun j => (Array.replicate ops.size false).getD j false) ops.size = allT h r ops.size := by
      apply List.ext_getElem?
      intro id
      rw [hpF_later _ (Nat.zero_le _) (fun j _ _ _ => hnone j)]
      rfl
    rw [e2, hns]
    exact d1.padR d2 ns
  · have e1 : envF C.N ops e r (fun j => (Array.replicate ops.size false).getD j false) ops.size = e := by
      funext t
      rw [envF_later _ (Nat.zero_le _) (fun j _ _ _ => hnone j)]
      rfl
    rw [e1]
    exact he.ext d1 hh
  · have e2 : hpF r (allT h r ops.size) (fun j => (Array.replicate ops.size false).getD j false) ops.size = allT h r ops.size := by
      apply List.ext_getElem?
      intro id
      rw [hpF_later _ (Nat.zero_le _) (fun j _ _ _ => hnone j)]
      rfl
    rw [e2, hns]
    exact d2.pad ns
  · simp only [hnone]
    simp
  · intro j _ hS
    simp only [hnone] at hS
    cases hS

end
end Go.HL

