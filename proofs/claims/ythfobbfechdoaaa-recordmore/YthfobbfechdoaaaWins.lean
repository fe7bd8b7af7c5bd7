/-
  Chapter 17: the record after many events; what the least priority of a round says once the record repeats.
-/
import Derived.Test.YthfobbfechdoaaaLawB
namespace Go.Proofs.Ythfobbfechdoaaa
open Go.HL

def sp (e : Ev) (r : List Int) : List Int := front e r ++ back e r

def runL : List Int → List Ev → List Int
  | r, [] => r
  | r, e :: l => runL (sp e r) l

def prs : List Int → List Ev → List Int
  | _, [] => []
  | r, e :: l => prio e r :: prs (sp e r) l

theorem runL_append (r : List Int) (l m : List Ev) : runL r (l ++ m) = runL (runL r l) m := by
  induction l generalizing r with
  | nil => rfl
  | cons e l ih => exact ih _

theorem prs_append (r : List Int) (l m : List Ev) : prs r (l ++ m) = prs r l ++ prs (runL r l) m := by
  induction l generalizing r with
  | nil => rfl
  | cons e l ih => simp only [List.cons_append, prs, runL, ih]

theorem runL_perm (r : List Int) (l : List Ev) : (runL r l).Perm r := by
  induction l generalizing r with
  | nil => exact .refl _
  | cons e l ih => exact (ih _).trans (step_perm e r)

/-- At the last event that parts them, the first is not bad. -/
def Lt17 : List Ev → Int → Int → Prop
  | [], _, _ => False
  | e :: l, a, b => Lt17 l a b ∨ ((∀ e' ∈ l, (a ∈ e'.bad ↔ b ∈ e'.bad)) ∧ ¬ a ∈ e.bad ∧ b ∈ e.bad)

def Eq17 (l : List Ev) (a b : Int) : Prop := ∀ e ∈ l, (a ∈ e.bad ↔ b ∈ e.bad)

theorem Lt17_not_Eq17 {l : List Ev} {a b : Int} (h : Lt17 l a b) : ¬ Eq17 l a b := by
  induction l with
  | nil => exact h.elim
  | cons e l ih =>
    intro hq
    rcases h with h | ⟨_, h2, h3⟩
    · exact ih h fun e' he => hq e' (by simp [he])
    · exact h2 ((hq e (by simp)).2 h3)

theorem Lt17_asymm {l : List Ev} {a b : Int} (h : Lt17 l a b) : ¬ Lt17 l b a := by
  induction l with
  | nil => exact h.elim
  | cons e l ih =>
    intro h'
    rcases h with h | ⟨h1, h2, h3⟩
    · rcases h' with h' | ⟨h1', _, _⟩
      · exact ih h h'
      · exact Lt17_not_Eq17 h fun e' he => (h1' e' he).symm
    · rcases h' with h' | ⟨_, h2', h3'⟩
      · exact Lt17_not_Eq17 h' fun e' he => (h1 e' he).symm
      · exact h2 h3'

theorem sp_pairwise {e : Ev} {r : List Int} {Q : Int → Int → Prop} (h : r.Pairwise Q) : (sp e r).Pairwise fun a b => (¬ a ∈ e.bad ∧ b ∈ e.bad) ∨ ((a ∈ e.bad ↔ b ∈ e.bad) ∧ Q a b) := by
  refine List.pairwise_append.2 ⟨?_, ?_, fun a ha b hb => .inl ⟨(mem_front.1 ha).2, (mem_back.1 hb).2⟩⟩
  · have h1 : (front e r).Pairwise Q := h.sublist List.filter_sublist
    refine List.Pairwise.imp_of_mem (fun {a b} ha hb hq => .inr ⟨?_, hq⟩) h1
    have := (mem_front.1 ha).2; have := (mem_front.1 hb).2
    simp_all
  · have h1 : (back e r).Pairwise Q := h.sublist List.filter_sublist
    refine List.Pairwise.imp_of_mem (fun {a b} ha hb hq => .inr ⟨?_, hq⟩) h1
    have := (mem_back.1 ha).2; have := (mem_back.1 hb).2
    simp_all

theorem runL_pairwise {l : List Ev} : ∀ {r : List Int} {Q : Int → Int → Prop}, r.Pairwise Q → (runL r l).Pairwise fun a b => Lt17 l a b ∨ (Eq17 l a b ∧ Q a b) := by
  induction l with
  | nil => intro r Q h; exact h.imp fun hq => .inr ⟨fun _ h => by simp at h, hq⟩
  | cons e l ih =>
    intro r Q h
    refine (ih (sp_pairwise (e := e) h)).imp fun {a b} hq => ?_
    rcases hq with hq | ⟨h1, h2⟩
    · exact .inl (.inl hq)
    · rcases h2 with ⟨g1, g2⟩ | ⟨g1, g2⟩
      · exact .inl (.inr ⟨h1, g1, g2⟩)
      · refine .inr ⟨fun e' he => ?_, g2⟩
        rcases List.mem_cons.1 he with rfl | he
        · exact g1
        · exact h1 e' he

theorem idxOf_at {r : List Int} (hn : r.Nodup) {i : Nat} (hi : i < r.length) : r.idxOf r[i] = i := by
  have h1 : r.idxOf r[i] < r.length := List.idxOf_lt_length_iff.2 (List.getElem_mem hi)
  have h2 : r[r.idxOf r[i]] = r[i] := List.getElem_idxOf h1
  exact (List.getElem_inj hn).1 h2

theorem nodup_order {r : List Int} (hn : r.Nodup) : r.Pairwise fun a b => r.idxOf a < r.idxOf b := by
  rw [List.pairwise_iff_getElem]
  intro i j hi hj hij
  rw [idxOf_at hn, idxOf_at hn]
  exact hij

/-- After one round the record at the beginning of a round stays. -/
theorem runL_twice {r : List Int} (hn : r.Nodup) (l : List Ev) : runL (runL r l) l = runL r l := by
  have h1 := runL_pairwise (l := l) (nodup_order hn)
  have h2 := runL_pairwise (l := l) h1
  refine List.Perm.eq_of_pairwise (le := fun a b => Lt17 l a b ∨ (Eq17 l a b ∧ r.idxOf a < r.idxOf b)) (fun a b _ _ hab hba => ?_) (h2.imp fun {a b} h => ?_) h1 (runL_perm _ _)
  · exfalso
    rcases hab with hab | ⟨q1, q2⟩ <;> rcases hba with hba | ⟨q3, q4⟩
    · exact Lt17_asymm hab hba
    · exact Lt17_not_Eq17 hab fun e he => (q3 e he).symm
    · exact Lt17_not_Eq17 hba fun e he => (q1 e he).symm
    · omega
  · rcases h with h | ⟨h, h'⟩
    · exact .inl h
    · rcases h' with h' | h'
      · exact absurd h (Lt17_not_Eq17 h')
      · exact .inr h'

/-- A bad name bounds the priority. -/
theorem prio_bad_le {e : Ev} {a : Int} (ha : a ∈ e.bad) : ∀ {r : List Int}, a ∈ r → prio e r ≤ 2 * r.idxOf a + 1
  | x :: r, h => by
    rw [idxOf_cons']
    simp only [prio]
    by_cases hx : x = a
    · subst hx; simp [ha]
    · have hm : a ∈ r := by rcases List.mem_cons.1 h with h | h; exact absurd h.symm hx; exact h
      have := prio_bad_le ha hm
      rw [if_neg hx]
      by_cases h1 : x ∈ e.bad
      · rw [if_pos h1]; omega
      · rw [if_neg h1]
        by_cases h2 : x ∈ e.good
        · rw [if_pos h2]; omega
        · rw [if_neg h2]; omega

/-- An even priority is that of a good name. -/
theorem prio_even {e : Ev} : ∀ {r : List Int}, prio e r % 2 = 0 → ∃ b, b ∈ r ∧ b ∈ e.good ∧ ¬ b ∈ e.bad ∧ prio e r = 2 * r.idxOf b + 2
  | [], h => by simp [prio] at h
  | x :: r, h => by
    simp only [prio] at h ⊢
    by_cases h1 : x ∈ e.bad
    · rw [if_pos h1] at h; omega
    · by_cases h2 : x ∈ e.good
      · exact ⟨x, by simp, h2, h1, by rw [if_neg h1, if_pos h2, idxOf_cons']; simp⟩
      · rw [if_neg h1, if_neg h2] at h
        obtain ⟨b, g1, g2, g3, g4⟩ := prio_even (e := e) (r := r) (by omega)
        refine ⟨b, by simp [g1], g2, g3, ?_⟩
        have hx : x ≠ b := fun e => h2 (e ▸ g2)
        rw [if_neg h1, if_neg h2, idxOf_cons', if_neg hx]; omega

theorem sp_idx_le {e : Ev} {r : List Int} {a : Int} (ha : a ∈ r) (hb : ¬ a ∈ e.bad) : (sp e r).idxOf a ≤ r.idxOf a := by
  rw [sp, List.idxOf_append, if_pos (mem_front.2 ⟨ha, hb⟩)]
  exact idxOf_filter_le (by simp [hb]) r

theorem mem_sp {e : Ev} {r : List Int} {a : Int} : a ∈ sp e r ↔ a ∈ r := (step_perm e r).mem_iff
theorem mem_runL {l : List Ev} {r : List Int} {a : Int} : a ∈ runL r l ↔ a ∈ r := (runL_perm r l).mem_iff

theorem run_idx_le {a : Int} : ∀ {l : List Ev} {r : List Int}, a ∈ r → (∀ e ∈ l, ¬ a ∈ e.bad) → (runL r l).idxOf a ≤ r.idxOf a
  | [], _, _, _ => Nat.le_refl _
  | e :: l, r, ha, h => Nat.le_trans (run_idx_le (l := l) (r := sp e r) (a := a) (mem_sp.2 ha) fun e' he => h e' (by simp [he])) (sp_idx_le ha (h e (by simp)))

theorem run_bad {a : Int} : ∀ {l : List Ev} {r : List Int}, a ∈ r → (∃ e ∈ l, a ∈ e.bad) → ∃ p ∈ prs r l, p ≤ 2 * r.idxOf a + 1
  | [], _, _, h => by simp at h
  | e :: l, r, ha, h => by
    by_cases hb : a ∈ e.bad
    · exact ⟨_, List.mem_cons_self .., prio_bad_le hb ha⟩
    · obtain ⟨e', he, hb'⟩ := h
      have he' : e' ∈ l := by rcases List.mem_cons.1 he with h | h; exact absurd (h ▸ hb') hb; exact h
      obtain ⟨p, hp, hle⟩ := run_bad (r := sp e r) (mem_sp.2 ha) ⟨e', he', hb'⟩
      have := sp_idx_le ha hb
      exact ⟨p, by simp [prs, hp], by omega⟩

theorem prs_mem {p : Int} : ∀ {l : List Ev} {r : List Int}, p ∈ prs r l → ∃ l1 e l2, l = l1 ++ e :: l2 ∧ p = prio e (runL r l1)
  | [], _, h => by simp [prs] at h
  | e :: l, r, h => by
    rcases List.mem_cons.1 h with rfl | h
    · exact ⟨[], e, l, rfl, rfl⟩
    · obtain ⟨l1, e', l2, rfl, rfl⟩ := prs_mem h
      exact ⟨e :: l1, e', l2, rfl, rfl⟩

/-- If every name is bad at some time, the least priority of a round that changes nothing is odd. -/
theorem least_odd {r : List Int} {l : List Ev} (hfix : runL r l = r) (hall : ∀ a ∈ r, (∃ e ∈ l, a ∈ e.good) → ∃ e ∈ l, a ∈ e.bad) {m : Int} (hm : m ∈ prs r l) (hmin : ∀ p ∈ prs r l, m ≤ p) : m % 2 ≠ 0 := by
  intro he
  obtain ⟨l1, e, l2, rfl, rfl⟩ := prs_mem hm
  obtain ⟨b, h1, h2, h3, h4⟩ := prio_even he
  have hbr : b ∈ r := mem_runL.1 h1
  obtain ⟨e', he', hb'⟩ := hall b hbr ⟨e, by simp, h2⟩
  rw [h4] at hmin
  rw [prs_append] at hmin
  by_cases h5 : ∃ e ∈ l2, b ∈ e.bad
  · obtain ⟨p, hp, hle⟩ := run_bad (r := sp e (runL r l1)) (mem_sp.2 h1) h5
    have := hmin p (by simp [prs, hp])
    have := sp_idx_le h1 h3
    omega
  · have h6 : ∀ e ∈ l2, ¬ b ∈ e.bad := fun e he hb => h5 ⟨e, he, hb⟩
    have h7 : e' ∈ l1 := by
      rcases List.mem_append.1 he' with h | h
      · exact h
      · rcases List.mem_cons.1 h with h | h
        · exact absurd (h ▸ hb') h3
        · exact absurd hb' (h6 _ h)
    obtain ⟨p, hp, hle⟩ := run_bad hbr ⟨e', h7, hb'⟩
    have := hmin p (by simp [hp])
    have e1 : runL (sp e (runL r l1)) l2 = r := by
      rw [runL_append] at hfix
      exact hfix
    have := run_idx_le (l := l2) (mem_sp.2 h1 : b ∈ sp e (runL r l1)) h6
    rw [e1] at this
    have := sp_idx_le h1 h3
    omega

/-- The safe names stand ahead of all others. -/
theorem safe_split {r : List Int} (hn : r.Nodup) (l : List Ev) : ∃ s u, runL r l = s ++ u ∧ (∀ a ∈ s, ∀ e ∈ l, ¬ a ∈ e.bad) ∧ ∀ a ∈ u, ∃ e ∈ l, a ∈ e.bad := by
  have hp := runL_pairwise (l := l) (nodup_order hn)
  have gen : ∀ x : List Int, x.Pairwise (fun a b => Lt17 l a b ∨ (Eq17 l a b ∧ r.idxOf a < r.idxOf b)) → ∃ s u, x = s ++ u ∧ (∀ a ∈ s, ∀ e ∈ l, ¬ a ∈ e.bad) ∧ ∀ a ∈ u, ∃ e ∈ l, a ∈ e.bad := by
    intro x
    induction x with
    | nil => intro _; exact ⟨[], [], rfl, by simp, by simp⟩
    | cons c x ih =>
      intro h
      obtain ⟨h1, h2⟩ := List.pairwise_cons.1 h
      obtain ⟨s, u, rfl, g1, g2⟩ := ih h2
      by_cases hc : ∃ e ∈ l, c ∈ e.bad
      · refine ⟨[], c :: (s ++ u), rfl, by simp, fun a ha => ?_⟩
        rcases List.mem_cons.1 ha with rfl | ha
        · exact hc
        · rcases List.mem_append.1 ha with ha' | ha'
          · exfalso
            have hs := g1 a ha'
            have hlt : ∀ m : List Ev, (∀ e ∈ m, ¬ a ∈ e.bad) → ¬ Lt17 m c a := by
              intro m hm
              induction m with
              | nil => exact fun h => h
              | cons e m ihm =>
                rintro (h | ⟨_, _, h⟩)
                · exact ihm (fun e he => hm e (by simp [he])) h
                · exact hm e (by simp) h
            rcases h1 a ha with h | ⟨h, _⟩
            · exact hlt l hs h
            · obtain ⟨e, he, hb⟩ := hc
              exact hs e he ((h e he).1 hb)
          · exact g2 a ha'
      · exact ⟨c :: s, u, rfl, fun a ha e he hb => by
          rcases List.mem_cons.1 ha with rfl | ha
          · exact hc ⟨e, he, hb⟩
          · exact g1 a ha e he hb, g2⟩
  exact gen _ hp

theorem sp_safe {e : Ev} {s u : List Int} (h : ∀ a ∈ s, ¬ a ∈ e.bad) : sp e (s ++ u) = s ++ sp e u := by
  have h1 : front e s = s := List.filter_eq_self.2 fun a ha => by simp [h a ha]
  have h2 : back e s = [] := List.filter_eq_nil_iff.2 fun a ha => by simp [h a ha]
  simp only [sp, front, back, List.filter_append] at h1 h2 ⊢
  rw [h1, h2]
  simp

theorem run_safe {s : List Int} : ∀ {l : List Ev} {u : List Int}, (∀ a ∈ s, ∀ e ∈ l, ¬ a ∈ e.bad) → runL (s ++ u) l = s ++ runL u l
  | [], _, _ => rfl
  | e :: l, u, h => by
    simp only [runL]
    rw [sp_safe fun a ha => h a ha e (by simp)]
    exact run_safe fun a ha e' he => h a ha e' (by simp [he])

theorem prs_safe {s : List Int} : ∀ {l : List Ev} {u : List Int}, (∀ a ∈ s, ∀ e ∈ l, ¬ a ∈ e.bad) → (∀ a ∈ s, ∀ e ∈ l, ¬ a ∈ e.good) → prs (s ++ u) l = (prs u l).map fun (p : Int) => p + 2 * (s.length : Int)
  | [], _, _, _ => rfl
  | e :: l, u, h, hg => by
    have hh : s.any (hit e) = false := by
      rw [List.any_eq_false]
      intro a ha
      simp [hit, h a ha e (by simp), hg a ha e (by simp)]
    simp only [prs, List.map_cons]
    rw [sp_safe fun a ha => h a ha e (by simp), prs_safe (fun a ha e' he => h a ha e' (by simp [he])) (fun a ha e' he => hg a ha e' (by simp [he])), prio_append, hh]
    rfl

theorem prio_safe {e : Ev} : ∀ {s : List Int}, (∀ a ∈ s, ¬ a ∈ e.bad) → s.any (hit e) = true → prio e s % 2 = 0
  | [], _, h => by simp at h
  | x :: s, hb, h => by
    simp only [prio]
    rw [if_neg (hb x (by simp))]
    by_cases hg : x ∈ e.good
    · rw [if_pos hg]; rfl
    · rw [if_neg hg]
      have hx : hit e x = false := by simp [hit, hb x (by simp), hg]
      rw [List.any_cons, hx, Bool.false_or] at h
      have := prio_safe (fun a ha => hb a (by simp [ha])) h
      omega

/-- **What the least priority of a repeated round says.** -/
theorem least_even {r0 : List Int} (hn : r0.Nodup) (l : List Ev) {m : Int} (hm : m ∈ prs (runL r0 l) l) (hmin : ∀ p ∈ prs (runL r0 l) l, m ≤ p) : m % 2 = 0 ↔ ∃ a ∈ r0, winName l a = true := by
  obtain ⟨s, u, hx, hs, hu⟩ := safe_split hn l
  have hfix := runL_twice hn l
  have hwin : (∃ a ∈ r0, winName l a = true) ↔ ∃ a ∈ s, ∃ e ∈ l, a ∈ e.good := by
    constructor
    · rintro ⟨a, ha, hw⟩
      simp only [winName, gd, bd, Bool.and_eq_true, Bool.not_eq_true', List.any_eq_true, List.any_eq_false, List.contains_iff_mem] at hw
      have ham : a ∈ runL r0 l := mem_runL.2 ha
      rw [hx] at ham
      rcases List.mem_append.1 ham with h | h
      · obtain ⟨⟨e, he, hg⟩, _⟩ := hw
        exact ⟨a, h, e, he, by simpa using hg⟩
      · obtain ⟨e, he, hb⟩ := hu a h
        have := hw.2 e he
        simp [hb] at this
    · rintro ⟨a, ha, e, he, hg⟩
      refine ⟨a, mem_runL.1 (by rw [hx]; simp [ha] : a ∈ runL r0 l), ?_⟩
      simp only [winName, gd, bd, Bool.and_eq_true, Bool.not_eq_true', List.any_eq_true, List.any_eq_false, List.contains_iff_mem]
      exact ⟨⟨e, he, by simpa using hg⟩, fun e' he' => by simp [hs a ha e' he']⟩
  rw [hwin]
  rw [hx] at hm hmin hfix
  by_cases hg : ∃ a ∈ s, ∃ e ∈ l, a ∈ e.good
  · refine ⟨fun _ => hg, fun _ => ?_⟩
    obtain ⟨a, ha, e, he, hga⟩ := hg
    -- a round with a good safe name
    obtain ⟨l1, l2, rfl⟩ := List.append_of_mem he
    have hsl : ∀ (l1 : List Ev) (e : Ev) (l2 : List Ev), (∀ a ∈ s, ∀ e' ∈ l1 ++ e :: l2, ¬ a ∈ e'.bad) → prio e (runL (s ++ u) l1) = if s.any (hit e) then prio e s else prio e (runL u l1) + 2 * s.length := fun l1 e l2 h => by
      rw [run_safe fun a ha e' he => h a ha e' (by simp [he]), prio_append]
    have hhit : s.any (hit e) = true := List.any_eq_true.2 ⟨a, ha, by simp [hit, hga]⟩
    have h1 : m ≤ 2 * s.length := by
      have h2 := hmin (prio e (runL (s ++ u) l1)) (by rw [prs_append]; simp [prs])
      rw [hsl l1 e l2 hs, if_pos hhit] at h2
      have := prio_le e s hhit
      omega
    obtain ⟨m1, e', m2, hl, rfl⟩ := prs_mem hm
    have hs' : ∀ a ∈ s, ∀ e'' ∈ m1 ++ e' :: m2, ¬ a ∈ e''.bad := by rw [← hl]; exact hs
    rw [hsl m1 e' m2 hs'] at h1 ⊢
    by_cases hh : s.any (hit e') = true
    · rw [if_pos hh]
      exact prio_safe (fun a ha => hs' a ha e' (by simp)) hh
    · rw [if_neg hh] at h1
      have := prio_ge e' (runL u m1)
      omega
  · refine ⟨fun he => ?_, fun h => absurd h hg⟩
    exfalso
    have hng : ∀ a ∈ s, ∀ e ∈ l, ¬ a ∈ e.good := fun a ha e he h => hg ⟨a, ha, e, he, h⟩
    rw [prs_safe hs hng] at hm hmin
    rw [run_safe hs] at hfix
    obtain ⟨p, hp, rfl⟩ := List.mem_map.1 hm
    refine least_odd (r := u) (l := l) (List.append_cancel_left hfix) (fun a ha _ => hu a ha) hp (fun q hq => ?_) (by omega)
    have := hmin _ (List.mem_map.2 ⟨q, hq, rfl⟩)
    omega


def leastOf (ps : List Int) : Int := ps.foldl (fun m p => if m = 0 ∨ p < m then p else m) 0

theorem leastOf_snoc (ps : List Int) (p : Int) : leastOf (ps ++ [p]) = if leastOf ps = 0 ∨ p < leastOf ps then p else leastOf ps := by
  unfold leastOf
  rw [List.foldl_append]
  rfl

theorem fold_least : ∀ (ps : List Int) (m : Int), 1 ≤ m → (∀ p ∈ ps, 1 ≤ p) → ps.foldl (fun m p => if m = 0 ∨ p < m then p else m) m ∈ m :: ps ∧ ∀ p ∈ m :: ps, ps.foldl (fun m p => if m = 0 ∨ p < m then p else m) m ≤ p
  | [], m, _, _ => by simp
  | p :: ps, m, hm, hp => by
    have h1 : 1 ≤ p := hp p (by simp)
    have hps : ∀ q ∈ ps, 1 ≤ q := fun q hq => hp q (by simp [hq])
    rw [List.foldl_cons]
    by_cases hlt : p < m
    · rw [if_pos (.inr hlt)]
      obtain ⟨g1, g2⟩ := fold_least ps p h1 hps
      refine ⟨List.mem_cons_of_mem _ g1, fun q hq => ?_⟩
      rcases List.mem_cons.1 hq with rfl | hq
      · have := g2 p (by simp); omega
      · exact g2 q hq
    · rw [if_neg (by omega)]
      obtain ⟨g1, g2⟩ := fold_least ps m hm hps
      refine ⟨?_, fun q hq => ?_⟩
      · rcases List.mem_cons.1 g1 with h | h
        · rw [h]; simp
        · exact List.mem_cons_of_mem _ (List.mem_cons_of_mem _ h)
      · rcases List.mem_cons.1 hq with rfl | hq
        · exact g2 _ (by simp)
        · rcases List.mem_cons.1 hq with rfl | hq
          · have := g2 m (by simp); omega
          · exact g2 q (by simp [hq])

theorem leastOf_spec {ps : List Int} (hne : ps ≠ []) (hp : ∀ p ∈ ps, 1 ≤ p) : leastOf ps ∈ ps ∧ ∀ p ∈ ps, leastOf ps ≤ p := by
  match ps, hne with
  | p :: ps, _ =>
    have := fold_least ps p (hp p (by simp)) fun q hq => hp q (by simp [hq])
    simpa [leastOf] using this

theorem prs_ge {p : Int} {l : List Ev} {r : List Int} (h : p ∈ prs r l) : 1 ≤ p := by
  obtain ⟨l1, e, l2, _, rfl⟩ := prs_mem h
  exact prio_ge _ _

theorem leastOf_ge (l : List Ev) (r : List Int) : 0 ≤ leastOf (prs r l) := by
  cases l with
  | nil => exact Int.le_refl _
  | cons e l =>
    have := prs_ge (leastOf_spec (ps := prs r (e :: l)) (by simp [prs]) fun p hp => prs_ge hp).1
    omega

def rep (r : List Int) (l : List Ev) : Nat → List Int
  | 0 => r
  | n + 1 => runL (rep r l n) l

theorem rep_perm (r : List Int) (l : List Ev) : ∀ n, (rep r l n).Perm r
  | 0 => .refl _
  | n + 1 => (runL_perm _ _).trans (rep_perm r l n)

theorem valid_nodup {r : List Int} {n : Int} (h : valid r n = true) : r.Nodup := by
  simp only [valid, decide_eq_true_eq] at h
  exact h.2.2.2.2

theorem valid_mem {r : List Int} (h : valid r r.length = true) {x : Int} : x ∈ r ↔ 1 ≤ x ∧ x ≤ (r.length : Int) := by
  simp only [valid, decide_eq_true_eq] at h
  have hp : r.Perm (startL r.length) := perm_of h.2.2.2.2 (fun x hx => (startL_mem h.2.1).2 (h.2.2.2.1 x hx)) (by rw [startL_length h.2.1]; simp)
  exact hp.mem_iff.trans (startL_mem h.2.1)

theorem wins_iff {r : List Int} (h : valid r r.length = true) (l : List Ev) : wins r.length l = true ↔ ∃ a ∈ r, winName l a = true := by
  have hv := h
  simp only [valid, decide_eq_true_eq] at hv
  simp only [wins, Bool.and_eq_true, decide_eq_true_eq, List.any_eq_true, List.mem_range]
  constructor
  · rintro ⟨_, i, hi, hw⟩
    exact ⟨_, (valid_mem h).2 (by omega), hw⟩
  · rintro ⟨a, ha, hw⟩
    have := (valid_mem h).1 ha
    refine ⟨⟨hv.1, hv.2.1⟩, (a - 1).toNat, by omega, ?_⟩
    have : (((a - 1).toNat : Nat) : Int) + 1 = a := by omega
    rw [this]; exact hw

/-- **RecordWins, in plain words.** -/
theorem wins_plain {r : List Int} (h : valid r r.length = true) {l : List Ev} (hl : l ≠ []) (n : Nat) :
    runL (rep r l (n + 1)) l = rep r l (n + 1) ∧ ((leastOf (prs (rep r l (n + 1)) l)) % 2 = 0 ↔ wins r.length l = true) := by
  have hp := rep_perm r l n
  have hn : (rep r l n).Nodup := hp.nodup_iff.2 (valid_nodup h)
  refine ⟨runL_twice hn l, ?_⟩
  have hne : prs (rep r l (n + 1)) l ≠ [] := by
    cases l with
    | nil => exact absurd rfl hl
    | cons e l => simp [prs]
  obtain ⟨g1, g2⟩ := leastOf_spec hne fun p hp => prs_ge hp
  have h1 := least_even hn l g1 g2
  rw [wins_iff h]
  refine h1.trans ⟨fun ⟨a, ha, hw⟩ => ⟨a, hp.mem_iff.1 ha, hw⟩, fun ⟨a, ha, hw⟩ => ⟨a, hp.mem_iff.2 ha, hw⟩⟩

theorem runL_nil (r : List Int) : runL r [] = r := rfl

theorem stepF_valid {r : List Int} (h : valid r r.length = true) (e : Ev) : stepF r e = (sp e r, prio e r) := by simp [stepF, h, sp]

theorem valid_run {r x : List Int} (hp : x.Perm r) (h : valid r r.length = true) : valid x x.length = true := by
  rw [hp.length_eq]
  exact valid_perm hp h

theorem law_round (f g : Bool) (r : List Int) (l : List Ev) (hv : valid r r.length = true) : CallsP pg 23 [.sl f (ints r), .sl g (evs l)] (fun v => v = .tup [.sl (decide (l.length = 0) && f) (ints (runL r l)), .int .i64 (leastOf (prs r l))]) := by
  refine CallsP.of_wpN [] 36 fn23 rfl rfl ?_
  refine WP.abs (fun s => s 0 = .sl f (ints r) ∧ s 1 = .sl g (evs l)) ⟨rfl, rfl⟩ ?_
  rintro s ⟨h0, h1⟩
  refine WP.slLen h1 fun hlen => ?_
  rw [evs_length, maxLen] at hlen
  repeat' (with_reducible first | refine WP.seq ?_ | refine WP.skip ?_ | refine WP.label ?_ | refine WP.block ?_ | refine WP.exit ?_ | refine WP.ret ?_ | refine seqK_normal ?_ | refine seqK_exit ?_ | refine seqK_ret ?_ | refine loopK_exit ?_ | refine loopK_ret ?_ | refine blockK_normal ?_ | refine blockK_here ?_ | refine blockK_there (by decide) ?_ | refine blockK_ret ?_ | (apply WP.regionE; (with_unfolding_all (simp +decide (disch := first | decide | omega) only [go_sem, *]; rfl))) | (apply WP.regionV1 mixed; with_unfolding_all rfl; with_unfolding_all rfl; (with_unfolding_all (simp +decide (disch := first | decide | omega) only [go_sem, *]; rfl))))
  refine WP.loop (fun s h => s 1 = .sl g (evs l) ∧ h = [] ∧ ∃ i : Nat, s 7 = .int .i64 i ∧ i ≤ l.length ∧ s 0 = .sl (decide (i = 0) && f) (ints (runL r (l.take i))) ∧ s 6 = .int .i64 (leastOf (prs r (l.take i)))) (fun s _ => l.length - (s 7).toInt.toNat) ⟨?_, rfl, 0, ?_, ?_, ?_, ?_⟩ ?_
  · simp +decide (disch := first | decide | omega) only [go_sem, *]
  · simp +decide (disch := first | decide | omega) only [go_sem, *]; rfl
  · omega
  · simp +decide (disch := first | decide | omega) only [go_sem, *]; simp [runL]
  · simp +decide (disch := first | decide | omega) only [go_sem, *]; rfl
  clear h0 h1 s
  rintro s h ⟨h1, rfl, i, h7, hi, h0, h6⟩
  repeat' (with_reducible first | refine WP.seq ?_ | refine WP.skip ?_ | refine WP.label ?_ | refine WP.block ?_ | refine WP.exit ?_ | refine WP.ret ?_ | refine seqK_normal ?_ | refine seqK_exit ?_ | refine seqK_ret ?_ | refine loopK_exit ?_ | refine loopK_ret ?_ | refine blockK_normal ?_ | refine blockK_here ?_ | refine blockK_there (by decide) ?_ | refine blockK_ret ?_ | (apply WP.regionE; (with_unfolding_all (simp +decide (disch := first | decide | omega) only [go_sem, *]; rfl))) | (apply WP.regionV1 mixed; with_unfolding_all rfl; with_unfolding_all rfl; (with_unfolding_all (simp +decide (disch := first | decide | omega) only [go_sem, *]; rfl))))
  refine WP.condB (by simp +decide (disch := first | decide | omega) only [go_sem, *]; rfl) (fun hb => ?_) (fun hb => ?_)
  · have hlt : i < l.length := by simpa using hb
    have hg := evs_get hlt
    have hx := stepF_valid (valid_run (runL_perm r (l.take i)) hv) l[i]
    have e1 : runL r (l.take (i + 1)) = sp l[i] (runL r (l.take i)) := by rw [List.take_succ_eq_append_getElem hlt, runL_append]; rfl
    have e2 : prs r (l.take (i + 1)) = prs r (l.take i) ++ [prio l[i] (runL r (l.take i))] := by rw [List.take_succ_eq_append_getElem hlt, prs_append]; rfl
    have e3 := leastOf_snoc (prs r (l.take i)) (prio l[i] (runL r (l.take i)))
    rw [← e2] at e3
    clear e2
    generalize leastOf (prs r (l.take i)) = m at *
    generalize prio l[i] (runL r (l.take i)) = p at *
    have e0 : decide (i + 1 = 0) = false := by simp
    clear hb
    by_cases c1 : m = 0
    · rw [if_pos (.inl c1)] at e3
      subst c1
      repeat' (with_reducible first | refine WP.seq ?_ | refine WP.skip ?_ | refine WP.label ?_ | refine WP.block ?_ | refine WP.exit ?_ | refine WP.ret ?_ | refine seqK_normal ?_ | refine seqK_exit ?_ | refine seqK_ret ?_ | refine loopK_exit ?_ | refine loopK_ret ?_ | refine blockK_normal ?_ | refine blockK_here ?_ | refine blockK_there (by decide) ?_ | refine blockK_ret ?_ | (apply WP.regionE; (with_unfolding_all (simp +decide (disch := first | decide | omega) only [go_sem, *]; rfl))) | (apply WP.regionV1 mixed; with_unfolding_all rfl; with_unfolding_all rfl; (with_unfolding_all (simp +decide (disch := first | decide | omega) only [go_sem, *]; rfl))) | (apply WP.regionX; with_unfolding_all rfl; (with_unfolding_all (simp +decide (disch := first | decide | omega) only [go_sem, *]; rfl))) | (apply WP.regionVX mixed; with_unfolding_all rfl; with_unfolding_all rfl; with_unfolding_all rfl; (with_unfolding_all (simp +decide (disch := first | decide | omega) only [go_sem, *]; rfl))) | (apply opsT.skipG; (focus (simp +decide (disch := first | decide | omega) only [go_sem, *]; done))) | (apply opsT.call; (with_unfolding_all (simp +decide (disch := first | decide | omega) only [go_sem, *]; rfl)); (focus (simp +decide (disch := first | decide | omega) only [go_sem, *]; done)); (with_unfolding_all (simp +decide (disch := first | decide | omega) only [go_sem, *]; rfl))) | (apply opsT.callG; (focus (simp +decide (disch := first | decide | omega) only [go_sem, *]; done)); (with_unfolding_all (simp +decide (disch := first | decide | omega) only [go_sem, *]; rfl)); (focus (simp +decide (disch := first | decide | omega) only [go_sem, *]; done)); (with_unfolding_all (simp +decide (disch := first | decide | omega) only [go_sem, *]; rfl))) | (apply opsT.moreX; with_unfolding_all rfl; (with_unfolding_all (simp +decide (disch := first | decide | omega) only [go_sem, *]; rfl))) | (apply opsT.fin; (with_unfolding_all (simp +decide (disch := first | decide | omega) only [go_sem, *]; rfl))) | (apply opsV.skipG; (focus (simp +decide (disch := first | decide | omega) only [go_sem, *]; done))) | (apply opsV.call; (with_unfolding_all (simp +decide (disch := first | decide | omega) only [go_sem, *]; rfl)); (focus (simp +decide (disch := first | decide | omega) only [go_sem, *]; done)); (with_unfolding_all (simp +decide (disch := first | decide | omega) only [go_sem, *]; rfl)); exact (rec_Step ..); (focus (simp +decide (disch := first | decide | omega) only [go_sem, *]; done))) | (apply opsV.callG; (focus (simp +decide (disch := first | decide | omega) only [go_sem, *]; done)); (with_unfolding_all (simp +decide (disch := first | decide | omega) only [go_sem, *]; rfl)); (focus (simp +decide (disch := first | decide | omega) only [go_sem, *]; done)); (with_unfolding_all (simp +decide (disch := first | decide | omega) only [go_sem, *]; rfl)); exact (rec_Step ..); (focus (simp +decide (disch := first | decide | omega) only [go_sem, *]; done))) | (apply opsV.moreX; with_unfolding_all rfl; with_unfolding_all rfl; (with_unfolding_all (simp +decide (disch := first | decide | omega) only [go_sem, *]; rfl))) | (apply opsV.fin; with_unfolding_all rfl; (with_unfolding_all (simp +decide (disch := first | decide | omega) only [go_sem, *]; rfl))) | (apply CallsP.eq (rec_Step ..); (focus (simp +decide (disch := first | decide | omega) only [go_sem, *]; done))))
      refine WP.condB (by simp +decide (disch := first | decide | omega) only [go_sem, *]; rfl) (fun hb => ?_) (fun hb => ?_)
      · repeat' (with_reducible first | refine WP.seq ?_ | refine WP.skip ?_ | refine WP.label ?_ | refine WP.block ?_ | refine WP.exit ?_ | refine WP.ret ?_ | refine seqK_normal ?_ | refine seqK_exit ?_ | refine seqK_ret ?_ | refine loopK_exit ?_ | refine loopK_ret ?_ | refine blockK_normal ?_ | refine blockK_here ?_ | refine blockK_there (by decide) ?_ | refine blockK_ret ?_ | (apply WP.regionE; (with_unfolding_all (simp +decide (disch := first | decide | omega) only [go_sem, *]; rfl))) | (apply WP.regionV1 mixed; with_unfolding_all rfl; with_unfolding_all rfl; (with_unfolding_all (simp +decide (disch := first | decide | omega) only [go_sem, *]; rfl))))
        refine loopK_normal ⟨?_, rfl, i + 1, ?_, ?_, ?_, ?_⟩ ?_
        · simp +decide (disch := first | decide | omega) only [go_sem, *]
        · simp +decide (disch := first | decide | omega) only [go_sem, *]; rfl
        · omega
        · simp +decide (disch := first | decide | omega) only [go_sem, *]; simp
        · simp +decide (disch := first | decide | omega) only [go_sem, *]
        · simp +decide (disch := first | decide | omega) only [go_sem, *]; omega
      · simp at hb
    · by_cases c2 : p < m
      · rw [if_pos (.inr c2)] at e3
        repeat' (with_reducible first | refine WP.seq ?_ | refine WP.skip ?_ | refine WP.label ?_ | refine WP.block ?_ | refine WP.exit ?_ | refine WP.ret ?_ | refine seqK_normal ?_ | refine seqK_exit ?_ | refine seqK_ret ?_ | refine loopK_exit ?_ | refine loopK_ret ?_ | refine blockK_normal ?_ | refine blockK_here ?_ | refine blockK_there (by decide) ?_ | refine blockK_ret ?_ | (apply WP.regionE; (with_unfolding_all (simp +decide (disch := first | decide | omega) only [go_sem, *]; rfl))) | (apply WP.regionV1 mixed; with_unfolding_all rfl; with_unfolding_all rfl; (with_unfolding_all (simp +decide (disch := first | decide | omega) only [go_sem, *]; rfl))) | (apply WP.regionX; with_unfolding_all rfl; (with_unfolding_all (simp +decide (disch := first | decide | omega) only [go_sem, *]; rfl))) | (apply WP.regionVX mixed; with_unfolding_all rfl; with_unfolding_all rfl; with_unfolding_all rfl; (with_unfolding_all (simp +decide (disch := first | decide | omega) only [go_sem, *]; rfl))) | (apply opsT.skipG; (focus (simp +decide (disch := first | decide | omega) only [go_sem, *]; done))) | (apply opsT.call; (with_unfolding_all (simp +decide (disch := first | decide | omega) only [go_sem, *]; rfl)); (focus (simp +decide (disch := first | decide | omega) only [go_sem, *]; done)); (with_unfolding_all (simp +decide (disch := first | decide | omega) only [go_sem, *]; rfl))) | (apply opsT.callG; (focus (simp +decide (disch := first | decide | omega) only [go_sem, *]; done)); (with_unfolding_all (simp +decide (disch := first | decide | omega) only [go_sem, *]; rfl)); (focus (simp +decide (disch := first | decide | omega) only [go_sem, *]; done)); (with_unfolding_all (simp +decide (disch := first | decide | omega) only [go_sem, *]; rfl))) | (apply opsT.moreX; with_unfolding_all rfl; (with_unfolding_all (simp +decide (disch := first | decide | omega) only [go_sem, *]; rfl))) | (apply opsT.fin; (with_unfolding_all (simp +decide (disch := first | decide | omega) only [go_sem, *]; rfl))) | (apply opsV.skipG; (focus (simp +decide (disch := first | decide | omega) only [go_sem, *]; done))) | (apply opsV.call; (with_unfolding_all (simp +decide (disch := first | decide | omega) only [go_sem, *]; rfl)); (focus (simp +decide (disch := first | decide | omega) only [go_sem, *]; done)); (with_unfolding_all (simp +decide (disch := first | decide | omega) only [go_sem, *]; rfl)); exact (rec_Step ..); (focus (simp +decide (disch := first | decide | omega) only [go_sem, *]; done))) | (apply opsV.callG; (focus (simp +decide (disch := first | decide | omega) only [go_sem, *]; done)); (with_unfolding_all (simp +decide (disch := first | decide | omega) only [go_sem, *]; rfl)); (focus (simp +decide (disch := first | decide | omega) only [go_sem, *]; done)); (with_unfolding_all (simp +decide (disch := first | decide | omega) only [go_sem, *]; rfl)); exact (rec_Step ..); (focus (simp +decide (disch := first | decide | omega) only [go_sem, *]; done))) | (apply opsV.moreX; with_unfolding_all rfl; with_unfolding_all rfl; (with_unfolding_all (simp +decide (disch := first | decide | omega) only [go_sem, *]; rfl))) | (apply opsV.fin; with_unfolding_all rfl; (with_unfolding_all (simp +decide (disch := first | decide | omega) only [go_sem, *]; rfl))) | (apply CallsP.eq (rec_Step ..); (focus (simp +decide (disch := first | decide | omega) only [go_sem, *]; done))))
        refine WP.condB (by simp +decide (disch := first | decide | omega) only [go_sem, *]; rfl) (fun hb => ?_) (fun hb => ?_)
        · repeat' (with_reducible first | refine WP.seq ?_ | refine WP.skip ?_ | refine WP.label ?_ | refine WP.block ?_ | refine WP.exit ?_ | refine WP.ret ?_ | refine seqK_normal ?_ | refine seqK_exit ?_ | refine seqK_ret ?_ | refine loopK_exit ?_ | refine loopK_ret ?_ | refine blockK_normal ?_ | refine blockK_here ?_ | refine blockK_there (by decide) ?_ | refine blockK_ret ?_ | (apply WP.regionE; (with_unfolding_all (simp +decide (disch := first | decide | omega) only [go_sem, *]; rfl))) | (apply WP.regionV1 mixed; with_unfolding_all rfl; with_unfolding_all rfl; (with_unfolding_all (simp +decide (disch := first | decide | omega) only [go_sem, *]; rfl))))
          refine loopK_normal ⟨?_, rfl, i + 1, ?_, ?_, ?_, ?_⟩ ?_
          · simp +decide (disch := first | decide | omega) only [go_sem, *]
          · simp +decide (disch := first | decide | omega) only [go_sem, *]; rfl
          · omega
          · simp +decide (disch := first | decide | omega) only [go_sem, *]; simp
          · simp +decide (disch := first | decide | omega) only [go_sem, *]
          · simp +decide (disch := first | decide | omega) only [go_sem, *]; omega
        · simp at hb
      · rw [if_neg (by omega)] at e3
        repeat' (with_reducible first | refine WP.seq ?_ | refine WP.skip ?_ | refine WP.label ?_ | refine WP.block ?_ | refine WP.exit ?_ | refine WP.ret ?_ | refine seqK_normal ?_ | refine seqK_exit ?_ | refine seqK_ret ?_ | refine loopK_exit ?_ | refine loopK_ret ?_ | refine blockK_normal ?_ | refine blockK_here ?_ | refine blockK_there (by decide) ?_ | refine blockK_ret ?_ | (apply WP.regionE; (with_unfolding_all (simp +decide (disch := first | decide | omega) only [go_sem, *]; rfl))) | (apply WP.regionV1 mixed; with_unfolding_all rfl; with_unfolding_all rfl; (with_unfolding_all (simp +decide (disch := first | decide | omega) only [go_sem, *]; rfl))) | (apply WP.regionX; with_unfolding_all rfl; (with_unfolding_all (simp +decide (disch := first | decide | omega) only [go_sem, *]; rfl))) | (apply WP.regionVX mixed; with_unfolding_all rfl; with_unfolding_all rfl; with_unfolding_all rfl; (with_unfolding_all (simp +decide (disch := first | decide | omega) only [go_sem, *]; rfl))) | (apply opsT.skipG; (focus (simp +decide (disch := first | decide | omega) only [go_sem, *]; done))) | (apply opsT.call; (with_unfolding_all (simp +decide (disch := first | decide | omega) only [go_sem, *]; rfl)); (focus (simp +decide (disch := first | decide | omega) only [go_sem, *]; done)); (with_unfolding_all (simp +decide (disch := first | decide | omega) only [go_sem, *]; rfl))) | (apply opsT.callG; (focus (simp +decide (disch := first | decide | omega) only [go_sem, *]; done)); (with_unfolding_all (simp +decide (disch := first | decide | omega) only [go_sem, *]; rfl)); (focus (simp +decide (disch := first | decide | omega) only [go_sem, *]; done)); (with_unfolding_all (simp +decide (disch := first | decide | omega) only [go_sem, *]; rfl))) | (apply opsT.moreX; with_unfolding_all rfl; (with_unfolding_all (simp +decide (disch := first | decide | omega) only [go_sem, *]; rfl))) | (apply opsT.fin; (with_unfolding_all (simp +decide (disch := first | decide | omega) only [go_sem, *]; rfl))) | (apply opsV.skipG; (focus (simp +decide (disch := first | decide | omega) only [go_sem, *]; done))) | (apply opsV.call; (with_unfolding_all (simp +decide (disch := first | decide | omega) only [go_sem, *]; rfl)); (focus (simp +decide (disch := first | decide | omega) only [go_sem, *]; done)); (with_unfolding_all (simp +decide (disch := first | decide | omega) only [go_sem, *]; rfl)); exact (rec_Step ..); (focus (simp +decide (disch := first | decide | omega) only [go_sem, *]; done))) | (apply opsV.callG; (focus (simp +decide (disch := first | decide | omega) only [go_sem, *]; done)); (with_unfolding_all (simp +decide (disch := first | decide | omega) only [go_sem, *]; rfl)); (focus (simp +decide (disch := first | decide | omega) only [go_sem, *]; done)); (with_unfolding_all (simp +decide (disch := first | decide | omega) only [go_sem, *]; rfl)); exact (rec_Step ..); (focus (simp +decide (disch := first | decide | omega) only [go_sem, *]; done))) | (apply opsV.moreX; with_unfolding_all rfl; with_unfolding_all rfl; (with_unfolding_all (simp +decide (disch := first | decide | omega) only [go_sem, *]; rfl))) | (apply opsV.fin; with_unfolding_all rfl; (with_unfolding_all (simp +decide (disch := first | decide | omega) only [go_sem, *]; rfl))) | (apply CallsP.eq (rec_Step ..); (focus (simp +decide (disch := first | decide | omega) only [go_sem, *]; done))))
        refine WP.condB (by simp +decide (disch := first | decide | omega) only [go_sem, *]; rfl) (fun hb => ?_) (fun hb => ?_)
        · simp at hb
        · repeat' (with_reducible first | refine WP.seq ?_ | refine WP.skip ?_ | refine WP.label ?_ | refine WP.block ?_ | refine WP.exit ?_ | refine WP.ret ?_ | refine seqK_normal ?_ | refine seqK_exit ?_ | refine seqK_ret ?_ | refine loopK_exit ?_ | refine loopK_ret ?_ | refine blockK_normal ?_ | refine blockK_here ?_ | refine blockK_there (by decide) ?_ | refine blockK_ret ?_ | (apply WP.regionE; (with_unfolding_all (simp +decide (disch := first | decide | omega) only [go_sem, *]; rfl))) | (apply WP.regionV1 mixed; with_unfolding_all rfl; with_unfolding_all rfl; (with_unfolding_all (simp +decide (disch := first | decide | omega) only [go_sem, *]; rfl))))
          refine loopK_normal ⟨?_, rfl, i + 1, ?_, ?_, ?_, ?_⟩ ?_
          · simp +decide (disch := first | decide | omega) only [go_sem, *]
          · simp +decide (disch := first | decide | omega) only [go_sem, *]; rfl
          · omega
          · simp +decide (disch := first | decide | omega) only [go_sem, *]; simp
          · simp +decide (disch := first | decide | omega) only [go_sem, *]
          · simp +decide (disch := first | decide | omega) only [go_sem, *]; omega
  · have hge : l.length ≤ i := by simpa using hb
    have hi2 : i = l.length := by omega
    subst hi2
    rw [List.take_length] at h0 h6
    clear hb
    repeat' (with_reducible first | refine WP.seq ?_ | refine WP.skip ?_ | refine WP.label ?_ | refine WP.block ?_ | refine WP.exit ?_ | refine WP.ret ?_ | refine seqK_normal ?_ | refine seqK_exit ?_ | refine seqK_ret ?_ | refine loopK_exit ?_ | refine loopK_ret ?_ | refine blockK_normal ?_ | refine blockK_here ?_ | refine blockK_there (by decide) ?_ | refine blockK_ret ?_ | (apply WP.regionE; (with_unfolding_all (simp +decide (disch := first | decide | omega) only [go_sem, *]; rfl))) | (apply WP.regionV1 mixed; with_unfolding_all rfl; with_unfolding_all rfl; (with_unfolding_all (simp +decide (disch := first | decide | omega) only [go_sem, *]; rfl))))
    refine fnPost_pure 0 (by first | exact .inl rfl | exact .inr rfl) (by simp +decide (disch := first | decide | omega) only [go_sem, *]; rfl) (by simp +decide (disch := first | decide | omega) only [go_sem, *]; rfl) ?_
    rfl

end Go.Proofs.Ythfobbfechdoaaa
